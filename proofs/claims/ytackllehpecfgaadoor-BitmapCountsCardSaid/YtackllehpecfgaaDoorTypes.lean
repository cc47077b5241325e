/- Facts on this program's types and functions, each reckoned by the kernel. -/
import Derived.Test.YtackllehpecfgaaDoorMore
import Derived.Test.YtackllehpecfgaaDoorDrawA
import Derived.Test.YtackllehpecfgaaDoorDrawH
import Derived.Test.YtackllehpecfgaaDoorProg
namespace Go.Proofs.YtackllehpecfgaaDoor
open Go.RowKit

theorem to1 : TyOne Tryd.prog 1 := tyOne_of (by kernel_rfl)
theorem sz1 : ∃ i, Tryd.prog.info? 1 = some i ∧ i.size = 1 := size_of (by kernel_rfl)
theorem tz1 : TyZero Tryd.prog 1 (.nilFunc) := tyZero_of (by kernel_rfl)
theorem to2 : TyOne Tryd.prog 2 := tyOne_of (by kernel_rfl)
theorem sz2 : ∃ i, Tryd.prog.info? 2 = some i ∧ i.size = 1 := size_of (by kernel_rfl)
theorem tz2 : TyZero Tryd.prog 2 (.int .i64 (0)) := tyZero_of (by kernel_rfl)
theorem to3 : TyOne Tryd.prog 3 := tyOne_of (by kernel_rfl)
theorem sz3 : ∃ i, Tryd.prog.info? 3 = some i ∧ i.size = 1 := size_of (by kernel_rfl)
theorem tz3 : TyZero Tryd.prog 3 (.int .i64 (0)) := tyZero_of (by kernel_rfl)
theorem to4 : TyOne Tryd.prog 4 := tyOne_of (by kernel_rfl)
theorem sz4 : ∃ i, Tryd.prog.info? 4 = some i ∧ i.size = 1 := size_of (by kernel_rfl)
theorem tz4 : TyZero Tryd.prog 4 (.bool false) := tyZero_of (by kernel_rfl)
theorem to5 : TyOne Tryd.prog 5 := tyOne_of (by kernel_rfl)
theorem sz5 : ∃ i, Tryd.prog.info? 5 = some i ∧ i.size = 1 := size_of (by kernel_rfl)
theorem tz5 : TyZero Tryd.prog 5 (.int .u8 (0)) := tyZero_of (by kernel_rfl)
theorem ta7 : TyAgg Tryd.prog 7 4 := tyAgg_of (by kernel_rfl)
theorem sz7 : ∃ i, Tryd.prog.info? 7 = some i ∧ i.size = 4 := size_of (by kernel_rfl)
theorem tz7 : TyZero Tryd.prog 7 (.agg #[.int .i64 (0), .int .i64 (0), .bool false, .int .u8 (0)]) := tyZero_of (by kernel_rfl)
theorem fa7_0 : FieldAt Tryd.prog 7 0 0 := fieldAt_of (by kernel_rfl)
theorem fa7_1 : FieldAt Tryd.prog 7 1 1 := fieldAt_of (by kernel_rfl)
theorem fa7_2 : FieldAt Tryd.prog 7 2 2 := fieldAt_of (by kernel_rfl)
theorem fa7_3 : FieldAt Tryd.prog 7 3 3 := fieldAt_of (by kernel_rfl)
theorem bs7 : StructT Tryd.prog 7 [(0, 1), (1, 1), (2, 1), (3, 1)] [.int .i64 (0), .int .i64 (0), .bool false, .int .u8 (0)] := structT_of (by kernel_rfl) (by kernel_rfl)
theorem to9 : TyOne Tryd.prog 9 := tyOne_of (by kernel_rfl)
theorem sz9 : ∃ i, Tryd.prog.info? 9 = some i ∧ i.size = 1 := size_of (by kernel_rfl)
theorem tz9 : TyZero Tryd.prog 9 (.string ⟨#[]⟩) := tyZero_of (by kernel_rfl)
theorem to12 : TyOne Tryd.prog 12 := tyOne_of (by kernel_rfl)
theorem sz12 : ∃ i, Tryd.prog.info? 12 = some i ∧ i.size = 1 := size_of (by kernel_rfl)
theorem tz12 : TyZero Tryd.prog 12 (.int .u64 (0)) := tyZero_of (by kernel_rfl)
theorem ta13 : TyAgg Tryd.prog 13 2 := tyAgg_of (by kernel_rfl)
theorem sz13 : ∃ i, Tryd.prog.info? 13 = some i ∧ i.size = 2 := size_of (by kernel_rfl)
theorem tz13 : TyZero Tryd.prog 13 (.agg #[.string ⟨#[]⟩, .int .u64 (0)]) := tyZero_of (by kernel_rfl)
theorem fa13_0 : FieldAt Tryd.prog 13 0 0 := fieldAt_of (by kernel_rfl)
theorem fa13_1 : FieldAt Tryd.prog 13 1 1 := fieldAt_of (by kernel_rfl)
theorem bs13 : StructT Tryd.prog 13 [(0, 1), (1, 1)] [.string ⟨#[]⟩, .int .u64 (0)] := structT_of (by kernel_rfl) (by kernel_rfl)
theorem ta18 : TyAgg Tryd.prog 18 1 := tyAgg_of (by kernel_rfl)
theorem sz18 : ∃ i, Tryd.prog.info? 18 = some i ∧ i.size = 1 := size_of (by kernel_rfl)
theorem tz18 : TyZero Tryd.prog 18 (.agg #[.pointer none]) := tyZero_of (by kernel_rfl)
theorem fa18_0 : FieldAt Tryd.prog 18 0 0 := fieldAt_of (by kernel_rfl)
theorem bs18 : StructT Tryd.prog 18 [(0, 1)] [.pointer none] := structT_of (by kernel_rfl) (by kernel_rfl)
theorem to20 : TyOne Tryd.prog 20 := tyOne_of (by kernel_rfl)
theorem sz20 : ∃ i, Tryd.prog.info? 20 = some i ∧ i.size = 1 := size_of (by kernel_rfl)
theorem tz20 : TyZero Tryd.prog 20 (.nilIface) := tyZero_of (by kernel_rfl)
theorem to21 : TyOne Tryd.prog 21 := tyOne_of (by kernel_rfl)
theorem sz21 : ∃ i, Tryd.prog.info? 21 = some i ∧ i.size = 1 := size_of (by kernel_rfl)
theorem tz21 : TyZero Tryd.prog 21 (.int .i32 (0)) := tyZero_of (by kernel_rfl)
theorem to22 : TyOne Tryd.prog 22 := tyOne_of (by kernel_rfl)
theorem sz22 : ∃ i, Tryd.prog.info? 22 = some i ∧ i.size = 1 := size_of (by kernel_rfl)
theorem tz22 : TyZero Tryd.prog 22 (.slice none 0 0) := tyZero_of (by kernel_rfl)
theorem st22 : SliceT Tryd.prog 22 55 1 8 := sliceT_of (by kernel_rfl)
theorem ta23 : TyAgg Tryd.prog 23 2 := tyAgg_of (by kernel_rfl)
theorem sz23 : ∃ i, Tryd.prog.info? 23 = some i ∧ i.size = 2 := size_of (by kernel_rfl)
theorem tz23 : TyZero Tryd.prog 23 (.agg #[.int .i64 (0), .slice none 0 0]) := tyZero_of (by kernel_rfl)
theorem fa23_0 : FieldAt Tryd.prog 23 0 0 := fieldAt_of (by kernel_rfl)
theorem fa23_1 : FieldAt Tryd.prog 23 1 1 := fieldAt_of (by kernel_rfl)
theorem bs23 : StructT Tryd.prog 23 [(0, 1), (1, 1)] [.int .i64 (0), .slice none 0 0] := structT_of (by kernel_rfl) (by kernel_rfl)
theorem ta24 : TyAgg Tryd.prog 24 2 := tyAgg_of (by kernel_rfl)
theorem sz24 : ∃ i, Tryd.prog.info? 24 = some i ∧ i.size = 2 := size_of (by kernel_rfl)
theorem tz24 : TyZero Tryd.prog 24 (.agg #[.int .i64 (0), .slice none 0 0]) := tyZero_of (by kernel_rfl)
theorem fa24_0 : FieldAt Tryd.prog 24 0 0 := fieldAt_of (by kernel_rfl)
theorem fa24_1 : FieldAt Tryd.prog 24 1 1 := fieldAt_of (by kernel_rfl)
theorem bs24 : StructT Tryd.prog 24 [(0, 1), (1, 1)] [.int .i64 (0), .slice none 0 0] := structT_of (by kernel_rfl) (by kernel_rfl)
theorem ta25 : TyAgg Tryd.prog 25 2 := tyAgg_of (by kernel_rfl)
theorem sz25 : ∃ i, Tryd.prog.info? 25 = some i ∧ i.size = 2 := size_of (by kernel_rfl)
theorem tz25 : TyZero Tryd.prog 25 (.agg #[.int .i64 (0), .int .i64 (0)]) := tyZero_of (by kernel_rfl)
theorem fa25_0 : FieldAt Tryd.prog 25 0 0 := fieldAt_of (by kernel_rfl)
theorem fa25_1 : FieldAt Tryd.prog 25 1 1 := fieldAt_of (by kernel_rfl)
theorem bs25 : StructT Tryd.prog 25 [(0, 1), (1, 1)] [.int .i64 (0), .int .i64 (0)] := structT_of (by kernel_rfl) (by kernel_rfl)
theorem ta26 : TyAgg Tryd.prog 26 2 := tyAgg_of (by kernel_rfl)
theorem sz26 : ∃ i, Tryd.prog.info? 26 = some i ∧ i.size = 2 := size_of (by kernel_rfl)
theorem tz26 : TyZero Tryd.prog 26 (.agg #[.int .i64 (0), .int .i64 (0)]) := tyZero_of (by kernel_rfl)
theorem fa26_0 : FieldAt Tryd.prog 26 0 0 := fieldAt_of (by kernel_rfl)
theorem fa26_1 : FieldAt Tryd.prog 26 1 1 := fieldAt_of (by kernel_rfl)
theorem bs26 : StructT Tryd.prog 26 [(0, 1), (1, 1)] [.int .i64 (0), .int .i64 (0)] := structT_of (by kernel_rfl) (by kernel_rfl)
theorem to27 : TyOne Tryd.prog 27 := tyOne_of (by kernel_rfl)
theorem sz27 : ∃ i, Tryd.prog.info? 27 = some i ∧ i.size = 1 := size_of (by kernel_rfl)
theorem tz27 : TyZero Tryd.prog 27 (.nilFunc) := tyZero_of (by kernel_rfl)
theorem to28 : TyOne Tryd.prog 28 := tyOne_of (by kernel_rfl)
theorem sz28 : ∃ i, Tryd.prog.info? 28 = some i ∧ i.size = 1 := size_of (by kernel_rfl)
theorem tz28 : TyZero Tryd.prog 28 (.nilFunc) := tyZero_of (by kernel_rfl)
theorem to29 : TyOne Tryd.prog 29 := tyOne_of (by kernel_rfl)
theorem sz29 : ∃ i, Tryd.prog.info? 29 = some i ∧ i.size = 1 := size_of (by kernel_rfl)
theorem tz29 : TyZero Tryd.prog 29 (.int .i64 (0)) := tyZero_of (by kernel_rfl)
theorem to31 : TyOne Tryd.prog 31 := tyOne_of (by kernel_rfl)
theorem sz31 : ∃ i, Tryd.prog.info? 31 = some i ∧ i.size = 1 := size_of (by kernel_rfl)
theorem tz31 : TyZero Tryd.prog 31 (.nilFunc) := tyZero_of (by kernel_rfl)
theorem to33 : TyOne Tryd.prog 33 := tyOne_of (by kernel_rfl)
theorem sz33 : ∃ i, Tryd.prog.info? 33 = some i ∧ i.size = 1 := size_of (by kernel_rfl)
theorem tz33 : TyZero Tryd.prog 33 (.nilFunc) := tyZero_of (by kernel_rfl)
theorem to34 : TyOne Tryd.prog 34 := tyOne_of (by kernel_rfl)
theorem sz34 : ∃ i, Tryd.prog.info? 34 = some i ∧ i.size = 1 := size_of (by kernel_rfl)
theorem tz34 : TyZero Tryd.prog 34 (.nilFunc) := tyZero_of (by kernel_rfl)
theorem to35 : TyOne Tryd.prog 35 := tyOne_of (by kernel_rfl)
theorem sz35 : ∃ i, Tryd.prog.info? 35 = some i ∧ i.size = 1 := size_of (by kernel_rfl)
theorem tz35 : TyZero Tryd.prog 35 (.nilFunc) := tyZero_of (by kernel_rfl)
theorem to36 : TyOne Tryd.prog 36 := tyOne_of (by kernel_rfl)
theorem sz36 : ∃ i, Tryd.prog.info? 36 = some i ∧ i.size = 1 := size_of (by kernel_rfl)
theorem tz36 : TyZero Tryd.prog 36 (.nilFunc) := tyZero_of (by kernel_rfl)
theorem to37 : TyOne Tryd.prog 37 := tyOne_of (by kernel_rfl)
theorem sz37 : ∃ i, Tryd.prog.info? 37 = some i ∧ i.size = 1 := size_of (by kernel_rfl)
theorem tz37 : TyZero Tryd.prog 37 (.nilFunc) := tyZero_of (by kernel_rfl)
theorem to38 : TyOne Tryd.prog 38 := tyOne_of (by kernel_rfl)
theorem sz38 : ∃ i, Tryd.prog.info? 38 = some i ∧ i.size = 1 := size_of (by kernel_rfl)
theorem tz38 : TyZero Tryd.prog 38 (.nilFunc) := tyZero_of (by kernel_rfl)
theorem to39 : TyOne Tryd.prog 39 := tyOne_of (by kernel_rfl)
theorem sz39 : ∃ i, Tryd.prog.info? 39 = some i ∧ i.size = 1 := size_of (by kernel_rfl)
theorem tz39 : TyZero Tryd.prog 39 (.nilFunc) := tyZero_of (by kernel_rfl)
theorem to40 : TyOne Tryd.prog 40 := tyOne_of (by kernel_rfl)
theorem sz40 : ∃ i, Tryd.prog.info? 40 = some i ∧ i.size = 1 := size_of (by kernel_rfl)
theorem tz40 : TyZero Tryd.prog 40 (.nilFunc) := tyZero_of (by kernel_rfl)
theorem to41 : TyOne Tryd.prog 41 := tyOne_of (by kernel_rfl)
theorem sz41 : ∃ i, Tryd.prog.info? 41 = some i ∧ i.size = 1 := size_of (by kernel_rfl)
theorem tz41 : TyZero Tryd.prog 41 (.nilFunc) := tyZero_of (by kernel_rfl)
theorem to42 : TyOne Tryd.prog 42 := tyOne_of (by kernel_rfl)
theorem sz42 : ∃ i, Tryd.prog.info? 42 = some i ∧ i.size = 1 := size_of (by kernel_rfl)
theorem tz42 : TyZero Tryd.prog 42 (.nilFunc) := tyZero_of (by kernel_rfl)
theorem to43 : TyOne Tryd.prog 43 := tyOne_of (by kernel_rfl)
theorem sz43 : ∃ i, Tryd.prog.info? 43 = some i ∧ i.size = 1 := size_of (by kernel_rfl)
theorem tz43 : TyZero Tryd.prog 43 (.nilFunc) := tyZero_of (by kernel_rfl)
theorem to44 : TyOne Tryd.prog 44 := tyOne_of (by kernel_rfl)
theorem sz44 : ∃ i, Tryd.prog.info? 44 = some i ∧ i.size = 1 := size_of (by kernel_rfl)
theorem tz44 : TyZero Tryd.prog 44 (.slice none 0 0) := tyZero_of (by kernel_rfl)
theorem st44 : SliceT Tryd.prog 44 26 2 16 := sliceT_of (by kernel_rfl)
theorem to45 : TyOne Tryd.prog 45 := tyOne_of (by kernel_rfl)
theorem sz45 : ∃ i, Tryd.prog.info? 45 = some i ∧ i.size = 1 := size_of (by kernel_rfl)
theorem tz45 : TyZero Tryd.prog 45 (.nilFunc) := tyZero_of (by kernel_rfl)
theorem to46 : TyOne Tryd.prog 46 := tyOne_of (by kernel_rfl)
theorem sz46 : ∃ i, Tryd.prog.info? 46 = some i ∧ i.size = 1 := size_of (by kernel_rfl)
theorem tz46 : TyZero Tryd.prog 46 (.nilFunc) := tyZero_of (by kernel_rfl)
theorem to47 : TyOne Tryd.prog 47 := tyOne_of (by kernel_rfl)
theorem sz47 : ∃ i, Tryd.prog.info? 47 = some i ∧ i.size = 1 := size_of (by kernel_rfl)
theorem tz47 : TyZero Tryd.prog 47 (.nilFunc) := tyZero_of (by kernel_rfl)
theorem to48 : TyOne Tryd.prog 48 := tyOne_of (by kernel_rfl)
theorem sz48 : ∃ i, Tryd.prog.info? 48 = some i ∧ i.size = 1 := size_of (by kernel_rfl)
theorem tz48 : TyZero Tryd.prog 48 (.nilFunc) := tyZero_of (by kernel_rfl)
theorem to49 : TyOne Tryd.prog 49 := tyOne_of (by kernel_rfl)
theorem sz49 : ∃ i, Tryd.prog.info? 49 = some i ∧ i.size = 1 := size_of (by kernel_rfl)
theorem tz49 : TyZero Tryd.prog 49 (.nilFunc) := tyZero_of (by kernel_rfl)
theorem to50 : TyOne Tryd.prog 50 := tyOne_of (by kernel_rfl)
theorem sz50 : ∃ i, Tryd.prog.info? 50 = some i ∧ i.size = 1 := size_of (by kernel_rfl)
theorem tz50 : TyZero Tryd.prog 50 (.int .u16 (0)) := tyZero_of (by kernel_rfl)
theorem to51 : TyOne Tryd.prog 51 := tyOne_of (by kernel_rfl)
theorem sz51 : ∃ i, Tryd.prog.info? 51 = some i ∧ i.size = 1 := size_of (by kernel_rfl)
theorem tz51 : TyZero Tryd.prog 51 (.nilFunc) := tyZero_of (by kernel_rfl)
theorem to52 : TyOne Tryd.prog 52 := tyOne_of (by kernel_rfl)
theorem sz52 : ∃ i, Tryd.prog.info? 52 = some i ∧ i.size = 1 := size_of (by kernel_rfl)
theorem tz52 : TyZero Tryd.prog 52 (.nilFunc) := tyZero_of (by kernel_rfl)
theorem to53 : TyOne Tryd.prog 53 := tyOne_of (by kernel_rfl)
theorem sz53 : ∃ i, Tryd.prog.info? 53 = some i ∧ i.size = 1 := size_of (by kernel_rfl)
theorem tz53 : TyZero Tryd.prog 53 (.nilFunc) := tyZero_of (by kernel_rfl)
theorem to54 : TyOne Tryd.prog 54 := tyOne_of (by kernel_rfl)
theorem sz54 : ∃ i, Tryd.prog.info? 54 = some i ∧ i.size = 1 := size_of (by kernel_rfl)
theorem tz54 : TyZero Tryd.prog 54 (.slice none 0 0) := tyZero_of (by kernel_rfl)
theorem st54 : SliceT Tryd.prog 54 24 2 32 := sliceT_of (by kernel_rfl)
theorem to55 : TyOne Tryd.prog 55 := tyOne_of (by kernel_rfl)
theorem sz55 : ∃ i, Tryd.prog.info? 55 = some i ∧ i.size = 1 := size_of (by kernel_rfl)
theorem tz55 : TyZero Tryd.prog 55 (.int .u64 (0)) := tyZero_of (by kernel_rfl)
theorem to56 : TyOne Tryd.prog 56 := tyOne_of (by kernel_rfl)
theorem sz56 : ∃ i, Tryd.prog.info? 56 = some i ∧ i.size = 1 := size_of (by kernel_rfl)
theorem tz56 : TyZero Tryd.prog 56 (.nilFunc) := tyZero_of (by kernel_rfl)
theorem ta57 : TyAgg Tryd.prog 57 1 := tyAgg_of (by kernel_rfl)
theorem sz57 : ∃ i, Tryd.prog.info? 57 = some i ∧ i.size = 1 := size_of (by kernel_rfl)
theorem tz57 : TyZero Tryd.prog 57 (.agg #[.nilFunc]) := tyZero_of (by kernel_rfl)
theorem fa57_0 : FieldAt Tryd.prog 57 0 0 := fieldAt_of (by kernel_rfl)
theorem bs57 : StructT Tryd.prog 57 [(0, 1)] [.nilFunc] := structT_of (by kernel_rfl) (by kernel_rfl)
theorem ta58 : TyAgg Tryd.prog 58 1 := tyAgg_of (by kernel_rfl)
theorem sz58 : ∃ i, Tryd.prog.info? 58 = some i ∧ i.size = 1 := size_of (by kernel_rfl)
theorem tz58 : TyZero Tryd.prog 58 (.agg #[.nilFunc]) := tyZero_of (by kernel_rfl)
theorem fa58_0 : FieldAt Tryd.prog 58 0 0 := fieldAt_of (by kernel_rfl)
theorem bs58 : StructT Tryd.prog 58 [(0, 1)] [.nilFunc] := structT_of (by kernel_rfl) (by kernel_rfl)
theorem to59 : TyOne Tryd.prog 59 := tyOne_of (by kernel_rfl)
theorem sz59 : ∃ i, Tryd.prog.info? 59 = some i ∧ i.size = 1 := size_of (by kernel_rfl)
theorem tz59 : TyZero Tryd.prog 59 (.nilFunc) := tyZero_of (by kernel_rfl)
theorem to60 : TyOne Tryd.prog 60 := tyOne_of (by kernel_rfl)
theorem sz60 : ∃ i, Tryd.prog.info? 60 = some i ∧ i.size = 1 := size_of (by kernel_rfl)
theorem tz60 : TyZero Tryd.prog 60 (.nilFunc) := tyZero_of (by kernel_rfl)
theorem to61 : TyOne Tryd.prog 61 := tyOne_of (by kernel_rfl)
theorem sz61 : ∃ i, Tryd.prog.info? 61 = some i ∧ i.size = 1 := size_of (by kernel_rfl)
theorem tz61 : TyZero Tryd.prog 61 (.nilFunc) := tyZero_of (by kernel_rfl)
theorem to62 : TyOne Tryd.prog 62 := tyOne_of (by kernel_rfl)
theorem sz62 : ∃ i, Tryd.prog.info? 62 = some i ∧ i.size = 1 := size_of (by kernel_rfl)
theorem tz62 : TyZero Tryd.prog 62 (.nilFunc) := tyZero_of (by kernel_rfl)
theorem to63 : TyOne Tryd.prog 63 := tyOne_of (by kernel_rfl)
theorem sz63 : ∃ i, Tryd.prog.info? 63 = some i ∧ i.size = 1 := size_of (by kernel_rfl)
theorem tz63 : TyZero Tryd.prog 63 (.nilFunc) := tyZero_of (by kernel_rfl)
theorem to64 : TyOne Tryd.prog 64 := tyOne_of (by kernel_rfl)
theorem sz64 : ∃ i, Tryd.prog.info? 64 = some i ∧ i.size = 1 := size_of (by kernel_rfl)
theorem tz64 : TyZero Tryd.prog 64 (.nilFunc) := tyZero_of (by kernel_rfl)
theorem to65 : TyOne Tryd.prog 65 := tyOne_of (by kernel_rfl)
theorem sz65 : ∃ i, Tryd.prog.info? 65 = some i ∧ i.size = 1 := size_of (by kernel_rfl)
theorem tz65 : TyZero Tryd.prog 65 (.nilFunc) := tyZero_of (by kernel_rfl)
theorem to66 : TyOne Tryd.prog 66 := tyOne_of (by kernel_rfl)
theorem sz66 : ∃ i, Tryd.prog.info? 66 = some i ∧ i.size = 1 := size_of (by kernel_rfl)
theorem tz66 : TyZero Tryd.prog 66 (.nilFunc) := tyZero_of (by kernel_rfl)
theorem to67 : TyOne Tryd.prog 67 := tyOne_of (by kernel_rfl)
theorem sz67 : ∃ i, Tryd.prog.info? 67 = some i ∧ i.size = 1 := size_of (by kernel_rfl)
theorem tz67 : TyZero Tryd.prog 67 (.nilFunc) := tyZero_of (by kernel_rfl)
theorem to68 : TyOne Tryd.prog 68 := tyOne_of (by kernel_rfl)
theorem sz68 : ∃ i, Tryd.prog.info? 68 = some i ∧ i.size = 1 := size_of (by kernel_rfl)
theorem tz68 : TyZero Tryd.prog 68 (.nilFunc) := tyZero_of (by kernel_rfl)
theorem to69 : TyOne Tryd.prog 69 := tyOne_of (by kernel_rfl)
theorem sz69 : ∃ i, Tryd.prog.info? 69 = some i ∧ i.size = 1 := size_of (by kernel_rfl)
theorem tz69 : TyZero Tryd.prog 69 (.nilFunc) := tyZero_of (by kernel_rfl)
theorem to70 : TyOne Tryd.prog 70 := tyOne_of (by kernel_rfl)
theorem sz70 : ∃ i, Tryd.prog.info? 70 = some i ∧ i.size = 1 := size_of (by kernel_rfl)
theorem tz70 : TyZero Tryd.prog 70 (.int .u64 (0)) := tyZero_of (by kernel_rfl)
theorem to71 : TyOne Tryd.prog 71 := tyOne_of (by kernel_rfl)
theorem sz71 : ∃ i, Tryd.prog.info? 71 = some i ∧ i.size = 1 := size_of (by kernel_rfl)
theorem tz71 : TyZero Tryd.prog 71 (.nilFunc) := tyZero_of (by kernel_rfl)
theorem ta72 : TyAgg Tryd.prog 72 64 := tyAgg_of (by kernel_rfl)
theorem sz72 : ∃ i, Tryd.prog.info? 72 = some i ∧ i.size = 64 := size_of (by kernel_rfl)
theorem to73 : TyOne Tryd.prog 73 := tyOne_of (by kernel_rfl)
theorem sz73 : ∃ i, Tryd.prog.info? 73 = some i ∧ i.size = 1 := size_of (by kernel_rfl)
theorem tz73 : TyZero Tryd.prog 73 (.nilFunc) := tyZero_of (by kernel_rfl)
theorem ta74 : TyAgg Tryd.prog 74 4 := tyAgg_of (by kernel_rfl)
theorem sz74 : ∃ i, Tryd.prog.info? 74 = some i ∧ i.size = 4 := size_of (by kernel_rfl)
theorem tz74 : TyZero Tryd.prog 74 (.agg #[.pointer none, .pointer none, .pointer none, .string ⟨#[]⟩]) := tyZero_of (by kernel_rfl)
theorem fa74_0 : FieldAt Tryd.prog 74 0 0 := fieldAt_of (by kernel_rfl)
theorem fa74_1 : FieldAt Tryd.prog 74 1 1 := fieldAt_of (by kernel_rfl)
theorem fa74_2 : FieldAt Tryd.prog 74 2 2 := fieldAt_of (by kernel_rfl)
theorem fa74_3 : FieldAt Tryd.prog 74 3 3 := fieldAt_of (by kernel_rfl)
theorem bs74 : StructT Tryd.prog 74 [(0, 1), (1, 1), (2, 1), (3, 1)] [.pointer none, .pointer none, .pointer none, .string ⟨#[]⟩] := structT_of (by kernel_rfl) (by kernel_rfl)
theorem to79 : TyOne Tryd.prog 79 := tyOne_of (by kernel_rfl)
theorem sz79 : ∃ i, Tryd.prog.info? 79 = some i ∧ i.size = 1 := size_of (by kernel_rfl)
theorem tz79 : TyZero Tryd.prog 79 (.nilFunc) := tyZero_of (by kernel_rfl)
theorem to80 : TyOne Tryd.prog 80 := tyOne_of (by kernel_rfl)
theorem sz80 : ∃ i, Tryd.prog.info? 80 = some i ∧ i.size = 1 := size_of (by kernel_rfl)
theorem tz80 : TyZero Tryd.prog 80 (.int .u32 (0)) := tyZero_of (by kernel_rfl)
theorem to83 : TyOne Tryd.prog 83 := tyOne_of (by kernel_rfl)
theorem sz83 : ∃ i, Tryd.prog.info? 83 = some i ∧ i.size = 1 := size_of (by kernel_rfl)
theorem tz83 : TyZero Tryd.prog 83 (.nilFunc) := tyZero_of (by kernel_rfl)
theorem to84 : TyOne Tryd.prog 84 := tyOne_of (by kernel_rfl)
theorem sz84 : ∃ i, Tryd.prog.info? 84 = some i ∧ i.size = 1 := size_of (by kernel_rfl)
theorem tz84 : TyZero Tryd.prog 84 (.pointer none) := tyZero_of (by kernel_rfl)
theorem ta87 : TyAgg Tryd.prog 87 11 := tyAgg_of (by kernel_rfl)
theorem sz87 : ∃ i, Tryd.prog.info? 87 = some i ∧ i.size = 11 := size_of (by kernel_rfl)
theorem tz87 : TyZero Tryd.prog 87 (.agg #[.int .u64 (0), .int .u64 (0), .int .u32 (0), .int .u8 (0), .int .u8 (0), .int .u8 (0), .int .u8 (0), .nilFunc, .pointer none, .int .i32 (0), .int .i32 (0)]) := tyZero_of (by kernel_rfl)
theorem fa87_0 : FieldAt Tryd.prog 87 0 0 := fieldAt_of (by kernel_rfl)
theorem fa87_1 : FieldAt Tryd.prog 87 1 1 := fieldAt_of (by kernel_rfl)
theorem fa87_2 : FieldAt Tryd.prog 87 2 2 := fieldAt_of (by kernel_rfl)
theorem fa87_3 : FieldAt Tryd.prog 87 3 3 := fieldAt_of (by kernel_rfl)
theorem fa87_4 : FieldAt Tryd.prog 87 4 4 := fieldAt_of (by kernel_rfl)
theorem fa87_5 : FieldAt Tryd.prog 87 5 5 := fieldAt_of (by kernel_rfl)
theorem fa87_6 : FieldAt Tryd.prog 87 6 6 := fieldAt_of (by kernel_rfl)
theorem fa87_7 : FieldAt Tryd.prog 87 7 7 := fieldAt_of (by kernel_rfl)
theorem fa87_8 : FieldAt Tryd.prog 87 8 8 := fieldAt_of (by kernel_rfl)
theorem fa87_9 : FieldAt Tryd.prog 87 9 9 := fieldAt_of (by kernel_rfl)
theorem fa87_10 : FieldAt Tryd.prog 87 10 10 := fieldAt_of (by kernel_rfl)
theorem bs87 : StructT Tryd.prog 87 [(0, 1), (1, 1), (2, 1), (3, 1), (4, 1), (5, 1), (6, 1), (7, 1), (8, 1), (9, 1), (10, 1)] [.int .u64 (0), .int .u64 (0), .int .u32 (0), .int .u8 (0), .int .u8 (0), .int .u8 (0), .int .u8 (0), .nilFunc, .pointer none, .int .i32 (0), .int .i32 (0)] := structT_of (by kernel_rfl) (by kernel_rfl)
theorem to89 : TyOne Tryd.prog 89 := tyOne_of (by kernel_rfl)
theorem sz89 : ∃ i, Tryd.prog.info? 89 = some i ∧ i.size = 1 := size_of (by kernel_rfl)
theorem tz89 : TyZero Tryd.prog 89 (.pointer none) := tyZero_of (by kernel_rfl)
theorem en2 : Enters Tryd.prog 2 := enters_of Tryd.func2 (by kernel_rfl) rfl
theorem en3 : Enters Tryd.prog 3 := enters_of Tryd.func3 (by kernel_rfl) rfl
theorem en4 : Enters Tryd.prog 4 := enters_of Tryd.func4 (by kernel_rfl) rfl
theorem en5 : Enters Tryd.prog 5 := enters_of Tryd.func5 (by kernel_rfl) rfl
theorem en6 : Enters Tryd.prog 6 := enters_of Tryd.func6 (by kernel_rfl) rfl
theorem en7 : Enters Tryd.prog 7 := enters_of Tryd.func7 (by kernel_rfl) rfl
theorem en8 : Enters Tryd.prog 8 := enters_of Tryd.func8 (by kernel_rfl) rfl
theorem en9 : Enters Tryd.prog 9 := enters_of Tryd.func9 (by kernel_rfl) rfl
theorem en10 : Enters Tryd.prog 10 := enters_of Tryd.func10 (by kernel_rfl) rfl
theorem en11 : Enters Tryd.prog 11 := enters_of Tryd.func11 (by kernel_rfl) rfl
theorem en12 : Enters Tryd.prog 12 := enters_of Tryd.func12 (by kernel_rfl) rfl
theorem en13 : Enters Tryd.prog 13 := enters_of Tryd.func13 (by kernel_rfl) rfl
theorem en14 : Enters Tryd.prog 14 := enters_of Tryd.func14 (by kernel_rfl) rfl
theorem en15 : Enters Tryd.prog 15 := enters_of Tryd.func15 (by kernel_rfl) rfl
theorem en16 : Enters Tryd.prog 16 := enters_of Tryd.func16 (by kernel_rfl) rfl
theorem en17 : Enters Tryd.prog 17 := enters_of Tryd.func17 (by kernel_rfl) rfl
theorem en18 : Enters Tryd.prog 18 := enters_of Tryd.func18 (by kernel_rfl) rfl
theorem en19 : Enters Tryd.prog 19 := enters_of Tryd.func19 (by kernel_rfl) rfl
theorem en20 : Enters Tryd.prog 20 := enters_of Tryd.func20 (by kernel_rfl) rfl
theorem en21 : Enters Tryd.prog 21 := enters_of Tryd.func21 (by kernel_rfl) rfl
theorem en22 : Enters Tryd.prog 22 := enters_of Tryd.func22 (by kernel_rfl) rfl
theorem en23 : Enters Tryd.prog 23 := enters_of Tryd.func23 (by kernel_rfl) rfl
theorem en24 : Enters Tryd.prog 24 := enters_of Tryd.func24 (by kernel_rfl) rfl
theorem en25 : Enters Tryd.prog 25 := enters_of Tryd.func25 (by kernel_rfl) rfl
theorem en26 : Enters Tryd.prog 26 := enters_of Tryd.func26 (by kernel_rfl) rfl
theorem en27 : Enters Tryd.prog 27 := enters_of Tryd.func27 (by kernel_rfl) rfl
theorem en28 : Enters Tryd.prog 28 := enters_of Tryd.func28 (by kernel_rfl) rfl
theorem en29 : Enters Tryd.prog 29 := enters_of Tryd.func29 (by kernel_rfl) rfl
theorem en30 : Enters Tryd.prog 30 := enters_of Tryd.func30 (by kernel_rfl) rfl
theorem en31 : Enters Tryd.prog 31 := enters_of Tryd.func31 (by kernel_rfl) rfl
theorem en32 : Enters Tryd.prog 32 := enters_of Tryd.func32 (by kernel_rfl) rfl
theorem en33 : Enters Tryd.prog 33 := enters_of Tryd.func33 (by kernel_rfl) rfl
theorem en34 : Enters Tryd.prog 34 := enters_of Tryd.func34 (by kernel_rfl) rfl
theorem en35 : Enters Tryd.prog 35 := enters_of Tryd.func35 (by kernel_rfl) rfl
theorem en36 : Enters Tryd.prog 36 := enters_of Tryd.func36 (by kernel_rfl) rfl
theorem en37 : Enters Tryd.prog 37 := enters_of Tryd.func37 (by kernel_rfl) rfl
theorem en38 : Enters Tryd.prog 38 := enters_of Tryd.func38 (by kernel_rfl) rfl
theorem en39 : Enters Tryd.prog 39 := enters_of Tryd.func39 (by kernel_rfl) rfl
theorem en40 : Enters Tryd.prog 40 := enters_of Tryd.func40 (by kernel_rfl) rfl
theorem en41 : Enters Tryd.prog 41 := enters_of Tryd.func41 (by kernel_rfl) rfl
theorem en42 : Enters Tryd.prog 42 := enters_of Tryd.func42 (by kernel_rfl) rfl
theorem en43 : Enters Tryd.prog 43 := enters_of Tryd.func43 (by kernel_rfl) rfl
theorem en44 : Enters Tryd.prog 44 := enters_of Tryd.func44 (by kernel_rfl) rfl
theorem en45 : Enters Tryd.prog 45 := enters_of Tryd.func45 (by kernel_rfl) rfl
theorem en46 : Enters Tryd.prog 46 := enters_of Tryd.func46 (by kernel_rfl) rfl
theorem en47 : Enters Tryd.prog 47 := enters_of Tryd.func47 (by kernel_rfl) rfl
theorem en48 : Enters Tryd.prog 48 := enters_of Tryd.func48 (by kernel_rfl) rfl
theorem en49 : Enters Tryd.prog 49 := enters_of Tryd.func49 (by kernel_rfl) rfl
theorem en50 : Enters Tryd.prog 50 := enters_of Tryd.func50 (by kernel_rfl) rfl
theorem en51 : Enters Tryd.prog 51 := enters_of Tryd.func51 (by kernel_rfl) rfl
theorem en52 : Enters Tryd.prog 52 := enters_of Tryd.func52 (by kernel_rfl) rfl
theorem en53 : Enters Tryd.prog 53 := enters_of Tryd.func53 (by kernel_rfl) rfl
theorem en54 : Enters Tryd.prog 54 := enters_of Tryd.func54 (by kernel_rfl) rfl
theorem en55 : Enters Tryd.prog 55 := enters_of Tryd.func55 (by kernel_rfl) rfl
theorem en56 : Enters Tryd.prog 56 := enters_of Tryd.func56 (by kernel_rfl) rfl
theorem en57 : Enters Tryd.prog 57 := enters_of Tryd.func57 (by kernel_rfl) rfl
theorem en58 : Enters Tryd.prog 58 := enters_of Tryd.func58 (by kernel_rfl) rfl
theorem en78 : Enters Tryd.prog 78 := enters_of Tryd.func78 (by kernel_rfl) rfl

end Go.Proofs.YtackllehpecfgaaDoor
