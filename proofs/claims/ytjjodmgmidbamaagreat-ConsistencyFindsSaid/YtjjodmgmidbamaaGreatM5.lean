/- Part 5 of the proof of the statement ConsistencyFindsSaid: lemmas. No condition of its own. -/
import Derived.Lib.TrailingZeros
import Derived.Test.YtjjodmgmidbamaaGreatProg
import Derived.Test.YtjjodmgmidbamaaGreatM4
namespace Go.Proofs.YtjjodmgmidbamaaGreat
open Go.RowKit
theorem mo : Tryz.prog.follows .mixedOrders = true := by kernel_rfl
def ghT : Hp → Prop := fun _ => True
def gh : Hp → Prop := fun _ => True
theorem ghUp : GUp gh := fun _ _ _ _ => trivial
def ct11 : Ct DD := ⟨11, [26], [4], [[false]], true, fun x Φ => ref15_Few_W x.1 fun y => Φ (y, ())⟩
def pl11 : List PE := [⟨[4, 1, 0, 1, 1], [], [0], ⟨[.int], [(1, .kp 2), (3, .v .int)], [], [], []⟩⟩, ⟨[4, 1, 0, 1, 1, 1], [], [0], ⟨[.int], [(1, .kp 2), (4, .v .int)], [], [], []⟩⟩]
theorem ok11 : ct11.Ok Tryz.prog tab gh := Ct.lift (E := ⟨Tryz.prog, tab, [], pl11, [], gh⟩) ⟨tabOk, trivial, mo, trivial, ghUp⟩ 9 ct11 fun x Φ => by
  have h : ct11.W x Φ = topF ⟨Tryz.prog, tab, [], pl11, [], gh⟩ 9 ct11.f ct11.ps ct11.rs ct11.own x Φ := by kernel_rfl
  rw [h]; exact id
def ct12 : Ct DD := ⟨12, [28], [4], [[false]], true, fun x Φ => ref07_Few_W x.1 fun y => Φ (y, ())⟩
def pl12 : List PE := [⟨[4, 1, 0, 1, 1], [], [], ⟨[.int], [(0, .kp 0), (3, .v .int)], [], [], []⟩⟩]
theorem ok12 : ct12.Ok Tryz.prog tab gh := Ct.lift (E := ⟨Tryz.prog, tab, [], pl12, [], gh⟩) ⟨tabOk, trivial, mo, trivial, ghUp⟩ 9 ct12 fun x Φ => by
  have h : ct12.W x Φ = topF ⟨Tryz.prog, tab, [], pl12, [], gh⟩ 9 ct12.f ct12.ps ct12.rs ct12.own x Φ := by kernel_rfl
  rw [h]; exact id
def ct4 : Ct DD := ⟨4, [26, 28], [4], [[false]], true, fun x Φ => law18_few_W x.1 x.2.1 fun y => Φ (y, ())⟩
def pl4 : List PE := []
theorem ok4 : ct4.Ok Tryz.prog tab gh := Ct.lift (E := ⟨Tryz.prog, tab, [ct11, ct12], pl4, [], gh⟩) ⟨tabOk, ⟨ok11, ok12, trivial⟩, mo, trivial, ghUp⟩ 9 ct4 fun x Φ => by
  have h : ct4.W x Φ = topF ⟨Tryz.prog, tab, [ct11, ct12], pl4, [], gh⟩ 9 ct4.f ct4.ps ct4.rs ct4.own x Φ := by kernel_rfl
  rw [h]; exact id
def ct28 : Ct DD := ⟨28, [66], [43], [[true]], false, fun x Φ => law18_example_1_W x.1 fun y => Φ (y, ())⟩
def pl28 : List PE := [⟨[4, 1, 0, 1, 1], [], [], ⟨[.int, .lst 49], [(3, .own 0), (6, .kp 3), (7, .kp 4), (8, .v .int)], [], [49], []⟩⟩]
theorem ok28 : ct28.Ok Tryz.prog tab gh := Ct.lift (E := ⟨Tryz.prog, tab, [], pl28, [], gh⟩) ⟨tabOk, trivial, mo, trivial, ghUp⟩ 9 ct28 fun x Φ => by
  have h : ct28.W x Φ = topF ⟨Tryz.prog, tab, [], pl28, [], gh⟩ 9 ct28.f ct28.ps ct28.rs ct28.own x Φ := by kernel_rfl
  rw [h]; exact id
def ct29 : Ct DD := ⟨29, [3, 3], [69], [[false, false]], true, fun x Φ => law18_example_2_W x.1 x.2.1 fun y => Φ (y, ())⟩
def pl29 : List PE := []
theorem ok29 : ct29.Ok Tryz.prog tab gh := Ct.lift (E := ⟨Tryz.prog, tab, [], pl29, [], gh⟩) ⟨tabOk, trivial, mo, trivial, ghUp⟩ 9 ct29 fun x Φ => by
  have h : ct29.W x Φ = topF ⟨Tryz.prog, tab, [], pl29, [], gh⟩ 9 ct29.f ct29.ps ct29.rs ct29.own x Φ := by kernel_rfl
  rw [h]; exact id
def ct13 : Ct DD := ⟨13, [], [26], [[true, true, true]], false, fun _ Φ => law18_example_W fun y => Φ (y, ())⟩
def pl13 : List PE := []
theorem ok13 : ct13.Ok Tryz.prog tab gh := Ct.lift (E := ⟨Tryz.prog, tab, [ct28, ct29], pl13, [], gh⟩) ⟨tabOk, ⟨ok28, ok29, trivial⟩, mo, trivial, ghUp⟩ 9 ct13 fun x Φ => by
  have h : ct13.W x Φ = topF ⟨Tryz.prog, tab, [ct28, ct29], pl13, [], gh⟩ 9 ct13.f ct13.ps ct13.rs ct13.own x Φ := by kernel_rfl
  rw [h]; exact id
def ct14 : Ct DD := ⟨14, [5, 5, 5], [28], [[true]], false, fun x Φ => law18_of_W x.1 x.2.1 x.2.2.1 fun y => Φ (y, ())⟩
def pl14 : List PE := []
theorem ok14 : ct14.Ok Tryz.prog tab gh := Ct.lift (E := ⟨Tryz.prog, tab, [], pl14, [], gh⟩) ⟨tabOk, trivial, mo, trivial, ghUp⟩ 9 ct14 fun x Φ => by
  have h : ct14.W x Φ = topF ⟨Tryz.prog, tab, [], pl14, [], gh⟩ 9 ct14.f ct14.ps ct14.rs ct14.own x Φ := by kernel_rfl
  rw [h]; exact id
def ct85 : Ct DD := ⟨85, [3], [4], [[false]], true, fun x Φ => image_checkSizes_1_W x.1 fun y => Φ (y, ())⟩
def pl85 : List PE := []
theorem ok85 : ct85.Ok Tryz.prog tab gh := Ct.lift (E := ⟨Tryz.prog, tab, [], pl85, [], gh⟩) ⟨tabOk, trivial, mo, trivial, ghUp⟩ 9 ct85 fun x Φ => by
  have h : ct85.W x Φ = topF ⟨Tryz.prog, tab, [], pl85, [], gh⟩ 9 ct85.f ct85.ps ct85.rs ct85.own x Φ := by kernel_rfl
  rw [h]; exact id
theorem okT85 : ct85.Ok Tryz.prog tab ghT := Ct.lift (E := ⟨Tryz.prog, tab, [], pl85, [], ghT⟩) ⟨tabOk, trivial, mo, trivial, fun _ _ _ _ => trivial⟩ 9 ct85 fun x Φ => by
  have h : ct85.W x Φ = topF ⟨Tryz.prog, tab, [], pl85, [], ghT⟩ 9 ct85.f ct85.ps ct85.rs ct85.own x Φ := by kernel_rfl
  rw [h]; exact id
def ct62 : Ct DD := ⟨62, [22], [31], [[false]], true, fun x Φ => image_checkSizes_W x.1 fun y => Φ (y, ())⟩
def pl62 : List PE := [⟨[4, 1, 0, 1, 12, 0, 1, 11, 0, 0, 1, 1], [], [], ⟨[.int], [(0, .kp 0), (1, .kp 1), (7, .kp 4), (8, .v .int)], [], [], []⟩⟩]
theorem ok62 : ct62.Ok Tryz.prog tab gh := Ct.lift (E := ⟨Tryz.prog, tab, [ct85], pl62, [], gh⟩) ⟨tabOk, ⟨ok85, trivial⟩, mo, trivial, ghUp⟩ 9 ct62 fun x Φ => by
  have h : ct62.W x Φ = topF ⟨Tryz.prog, tab, [ct85], pl62, [], gh⟩ 9 ct62.f ct62.ps ct62.rs ct62.own x Φ := by kernel_rfl
  rw [h]; exact id
theorem okT62 : ct62.Ok Tryz.prog tab ghT := Ct.lift (E := ⟨Tryz.prog, tab, [ct85], pl62, [], ghT⟩) ⟨tabOk, ⟨okT85, trivial⟩, mo, trivial, fun _ _ _ _ => trivial⟩ 9 ct62 fun x Φ => by
  have h : ct62.W x Φ = topF ⟨Tryz.prog, tab, [ct85], pl62, [], ghT⟩ 9 ct62.f ct62.ps ct62.rs ct62.own x Φ := by kernel_rfl
  rw [h]; exact id
def ct89 : Ct DD := ⟨89, [3], [43], [[true]], false, fun x Φ => image_New_1_W x.1 fun y => Φ (y, ())⟩
def pl89 : List PE := []
theorem ok89 : ct89.Ok Tryz.prog tab gh := Ct.lift (E := ⟨Tryz.prog, tab, [], pl89, [], gh⟩) ⟨tabOk, trivial, mo, trivial, ghUp⟩ 9 ct89 fun x Φ => by
  have h : ct89.W x Φ = topF ⟨Tryz.prog, tab, [], pl89, [], gh⟩ 9 ct89.f ct89.ps ct89.rs ct89.own x Φ := by kernel_rfl
  rw [h]; exact id
def ct65 : Ct DD := ⟨65, [22], [28, 31], [[true], [false]], false, fun x Φ => image_New_W x.1 fun y => Φ (y.1, y.2, ())⟩
def pl65 : List PE := [⟨[4, 1, 0, 1, 1, 11, 0, 1, 1], [], [], ⟨[.int, .lst 43], [(1, .kp 2), (5, .own 0), (11, .kp 8), (12, .kp 9), (13, .v .int)], [], [43], []⟩⟩]
theorem ok65 : ct65.Ok Tryz.prog tab gh := Ct.lift (E := ⟨Tryz.prog, tab, [ct62, ct89], pl65, [], gh⟩) ⟨tabOk, ⟨ok62, ok89, trivial⟩, mo, trivial, ghUp⟩ 9 ct65 fun x Φ => by
  have h : ct65.W x Φ = topF ⟨Tryz.prog, tab, [ct62, ct89], pl65, [], gh⟩ 9 ct65.f ct65.ps ct65.rs ct65.own x Φ := by kernel_rfl
  rw [h]; exact id
def ct87 : Ct DD := ⟨87, [43], [3], [[false]], true, fun x Φ => image_sizes_1_W x.1 fun y => Φ (y, ())⟩
def pl87 : List PE := []
theorem ok87 : ct87.Ok Tryz.prog tab gh := Ct.lift (E := ⟨Tryz.prog, tab, [], pl87, [], gh⟩) ⟨tabOk, trivial, mo, trivial, ghUp⟩ 9 ct87 fun x Φ => by
  have h : ct87.W x Φ = topF ⟨Tryz.prog, tab, [], pl87, [], gh⟩ 9 ct87.f ct87.ps ct87.rs ct87.own x Φ := by kernel_rfl
  rw [h]; exact id
theorem okT87 : ct87.Ok Tryz.prog tab ghT := Ct.lift (E := ⟨Tryz.prog, tab, [], pl87, [], ghT⟩) ⟨tabOk, trivial, mo, trivial, fun _ _ _ _ => trivial⟩ 9 ct87 fun x Φ => by
  have h : ct87.W x Φ = topF ⟨Tryz.prog, tab, [], pl87, [], ghT⟩ 9 ct87.f ct87.ps ct87.rs ct87.own x Φ := by kernel_rfl
  rw [h]; exact id
def ct63 : Ct DD := ⟨63, [28], [22], [[true]], false, fun x Φ => image_sizes_W x.1 fun y => Φ (y, ())⟩
def pl63 : List PE := [⟨[4, 1, 0, 1, 1, 11, 0, 1], [], [], ⟨[.int, .lst 3], [(1, .kp 2), (5, .own 0), (11, .kp 8), (12, .kp 9), (13, .v .int)], [], [3], []⟩⟩]
theorem ok63 : ct63.Ok Tryz.prog tab gh := Ct.lift (E := ⟨Tryz.prog, tab, [ct87], pl63, [], gh⟩) ⟨tabOk, ⟨ok87, trivial⟩, mo, trivial, ghUp⟩ 9 ct63 fun x Φ => by
  have h : ct63.W x Φ = topF ⟨Tryz.prog, tab, [ct87], pl63, [], gh⟩ 9 ct63.f ct63.ps ct63.rs ct63.own x Φ := by kernel_rfl
  rw [h]; exact id
theorem okT63 : ct63.Ok Tryz.prog tab ghT := Ct.lift (E := ⟨Tryz.prog, tab, [ct87], pl63, [], ghT⟩) ⟨tabOk, ⟨okT87, trivial⟩, mo, trivial, fun _ _ _ _ => trivial⟩ 9 ct63 fun x Φ => by
  have h : ct63.W x Φ = topF ⟨Tryz.prog, tab, [ct87], pl63, [], ghT⟩ 9 ct63.f ct63.ps ct63.rs ct63.own x Φ := by kernel_rfl
  rw [h]; exact id
def ct33 : Ct DD := ⟨33, [28], [31], [[false]], true, fun x Φ => image_Check_W x.1 fun y => Φ (y, ())⟩
def pl33 : List PE := []
theorem ok33 : ct33.Ok Tryz.prog tab gh := Ct.lift (E := ⟨Tryz.prog, tab, [ct62, ct63], pl33, [], gh⟩) ⟨tabOk, ⟨ok62, ok63, trivial⟩, mo, trivial, ghUp⟩ 9 ct33 fun x Φ => by
  have h : ct33.W x Φ = topF ⟨Tryz.prog, tab, [ct62, ct63], pl33, [], gh⟩ 9 ct33.f ct33.ps ct33.rs ct33.own x Φ := by kernel_rfl
  rw [h]; exact id
theorem okT33 : ct33.Ok Tryz.prog tab ghT := Ct.lift (E := ⟨Tryz.prog, tab, [ct62, ct63], pl33, [], ghT⟩) ⟨tabOk, ⟨okT62, okT63, trivial⟩, mo, trivial, fun _ _ _ _ => trivial⟩ 9 ct33 fun x Φ => by
  have h : ct33.W x Φ = topF ⟨Tryz.prog, tab, [ct62, ct63], pl33, [], ghT⟩ 9 ct33.f ct33.ps ct33.rs ct33.own x Φ := by kernel_rfl
  rw [h]; exact id
def ct92 : Ct DD := ⟨92, [28, 45], [31], [[false]], true, fun x Φ => image_fits_W x.1 x.2.1 fun y => Φ (y, ())⟩
def pl92 : List PE := [⟨[4, 0, 1], [], [0], ⟨[.bool], [(0, .kp 1), (3, .kp 3), (5, .v .bool)], [], [], []⟩⟩]
theorem ok92 : ct92.Ok Tryz.prog tab gh := Ct.lift (E := ⟨Tryz.prog, tab, [], pl92, [], gh⟩) ⟨tabOk, trivial, mo, trivial, ghUp⟩ 9 ct92 fun x Φ => by
  have h : ct92.W x Φ = topF ⟨Tryz.prog, tab, [], pl92, [], gh⟩ 9 ct92.f ct92.ps ct92.rs ct92.own x Φ := by kernel_rfl
  rw [h]; exact id
theorem okT92 : ct92.Ok Tryz.prog tab ghT := Ct.lift (E := ⟨Tryz.prog, tab, [], pl92, [], ghT⟩) ⟨tabOk, trivial, mo, trivial, fun _ _ _ _ => trivial⟩ 9 ct92 fun x Φ => by
  have h : ct92.W x Φ = topF ⟨Tryz.prog, tab, [], pl92, [], ghT⟩ 9 ct92.f ct92.ps ct92.rs ct92.own x Φ := by kernel_rfl
  rw [h]; exact id
def ct82 : Ct DD := ⟨82, [28, 45], [31], [[false]], true, fun x Φ => image_Fits_W x.1 x.2.1 fun y => Φ (y, ())⟩
def pl82 : List PE := []
theorem ok82 : ct82.Ok Tryz.prog tab gh := Ct.lift (E := ⟨Tryz.prog, tab, [ct33, ct92], pl82, [], gh⟩) ⟨tabOk, ⟨ok33, ok92, trivial⟩, mo, trivial, ghUp⟩ 9 ct82 fun x Φ => by
  have h : ct82.W x Φ = topF ⟨Tryz.prog, tab, [ct33, ct92], pl82, [], gh⟩ 9 ct82.f ct82.ps ct82.rs ct82.own x Φ := by kernel_rfl
  rw [h]; exact id
def ct60 : Ct DD := ⟨60, [26], [123, 31], [[false, false, false, true, true], [false]], false, fun x Φ => history_check_W x.1 fun y => Φ (y.1, y.2, ())⟩
def pl60 : List PE := [⟨[4, 1, 0, 1, 1, 1, 1, 1], [3], [3, 2, 0], ⟨[.int], [(1, .kp 5), (2, .kp 6), (4, .kp 10), (5, .kp 17), (31, .kp 26), (32, .kp 27), (33, .v .int)], [(1, 123, [.kp 34,.kp 35,.kp 36,.kp 37,.kp 38])], [], []⟩⟩, ⟨[4, 1, 0, 1, 1, 1, 1, 1, 1], [], [3, 0], ⟨[.int, .lst 3, .lst 3], [(1, .kp 5), (2, .kp 6), (4, .kp 10), (46, .kp 41), (47, .kp 45), (48, .v .int)], [(1, 123, [.kp 34,.kp 35,.kp 36,.kp 37,.kp 38]), (2, 123, [.kp 29,.kp 30,.kp 31,.own 0,.own 1])], [3, 3], []⟩⟩, ⟨[1, 4, 0, 1, 1, 5, 4, 1, 0, 1, 1, 1, 1, 1, 1], [], [49, 1], ⟨[.int, .lst 3, .lst 3], [(1, .kp 5), (2, .kp 6), (4, .kp 10), (12, .v .int), (46, .kp 41), (47, .kp 45), (48, .kp 50)], [(2, 123, [.kp 29,.kp 30,.kp 31,.own 0,.own 1])], [3, 3], []⟩⟩]
theorem ok60 : ct60.Ok Tryz.prog tab gh := Ct.lift (E := ⟨Tryz.prog, tab, [ct65, ct82], pl60, [], gh⟩) ⟨tabOk, ⟨ok65, ok82, trivial⟩, mo, trivial, ghUp⟩ 9 ct60 fun x Φ => by
  have h : ct60.W x Φ = topF ⟨Tryz.prog, tab, [ct65, ct82], pl60, [], gh⟩ 9 ct60.f ct60.ps ct60.rs ct60.own x Φ := by kernel_rfl
  rw [h]; exact id
def ct30 : Ct DD := ⟨30, [26], [31], [[false]], true, fun x Φ => history_Check_W x.1 fun y => Φ (y, ())⟩
def pl30 : List PE := []
theorem ok30 : ct30.Ok Tryz.prog tab gh := Ct.lift (E := ⟨Tryz.prog, tab, [ct60], pl30, [], gh⟩) ⟨tabOk, ⟨ok60, trivial⟩, mo, trivial, ghUp⟩ 9 ct30 fun x Φ => by
  have h : ct30.W x Φ = topF ⟨Tryz.prog, tab, [ct60], pl30, [], gh⟩ 9 ct30.f ct30.ps ct30.rs ct30.own x Φ := by kernel_rfl
  rw [h]; exact id
def ct35 : Ct DD := ⟨35, [43, 3], [4], [[false]], true, fun x Φ => consistency_newJudge_1_W x.1 x.2.1 fun y => Φ (y, ())⟩
def pl35 : List PE := []
theorem ok35 : ct35.Ok Tryz.prog tab gh := Ct.lift (E := ⟨Tryz.prog, tab, [], pl35, [], gh⟩) ⟨tabOk, trivial, mo, trivial, ghUp⟩ 9 ct35 fun x Φ => by
  have h : ct35.W x Φ = topF ⟨Tryz.prog, tab, [], pl35, [], gh⟩ 9 ct35.f ct35.ps ct35.rs ct35.own x Φ := by kernel_rfl
  rw [h]; exact id
def ct38 : Ct DD := ⟨38, [85, 49], [45], [[false, false, true]], false, fun x Φ => consistency_single_W x.1 x.2.1 fun y => Φ (y, ())⟩
def pl38 : List PE := []
theorem ok38 : ct38.Ok Tryz.prog tab gh := Ct.lift (E := ⟨Tryz.prog, tab, [], pl38, [], gh⟩) ⟨tabOk, trivial, mo, trivial, ghUp⟩ 9 ct38 fun x Φ => by
  have h : ct38.W x Φ = topF ⟨Tryz.prog, tab, [], pl38, [], gh⟩ 9 ct38.f ct38.ps ct38.rs ct38.own x Φ := by kernel_rfl
  rw [h]; exact id
def ct103 : Ct DD := ⟨103, [171, 171], [171, 171], [[false], [false]], true, fun x Φ => math_bits_Mul64_W x.1 x.2.1 fun y => Φ (y.1, y.2, ())⟩
def pl103 : List PE := []
theorem ok103 : ct103.Ok Tryz.prog tab gh := Ct.lift (E := ⟨Tryz.prog, tab, [], pl103, [], gh⟩) ⟨tabOk, trivial, mo, trivial, ghUp⟩ 9 ct103 fun x Φ => by
  have h : ct103.W x Φ = topF ⟨Tryz.prog, tab, [], pl103, [], gh⟩ 9 ct103.f ct103.ps ct103.rs ct103.own x Φ := by kernel_rfl
  rw [h]; exact id
def ct101 : Ct DD := ⟨101, [165, 165], [165, 165], [[false], [false]], true, fun x Φ => math_bits_Mul_W x.1 x.2.1 fun y => Φ (y.1, y.2, ())⟩
def pl101 : List PE := []
theorem ok101 : ct101.Ok Tryz.prog tab gh := Ct.lift (E := ⟨Tryz.prog, tab, [ct103], pl101, [], gh⟩) ⟨tabOk, ⟨ok103, trivial⟩, mo, trivial, ghUp⟩ 9 ct101 fun x Φ => by
  have h : ct101.W x Φ = topF ⟨Tryz.prog, tab, [ct103], pl101, [], gh⟩ 9 ct101.f ct101.ps ct101.rs ct101.own x Φ := by kernel_rfl
  rw [h]; exact id
def ct95 : Ct DD := ⟨95, [22, 3], [22], [[true]], false, fun x Φ => slices_Repeat_int_int_W x.1 x.2.1 fun y => Φ (y, ())⟩
def pl95 : List PE := [⟨[4, 0, 1, 1, 1, 1, 1, 1], [], [], ⟨[.int, .lst 3], [(7, .own 0), (8, .v .int)], [], [3], []⟩⟩, ⟨[0, 1, 1, 1], [], [], ⟨[.bool], [(0, .kp 0), (6, .kp 15), (26, .v .bool)], [], [], []⟩⟩]
theorem ok95 : ct95.Ok Tryz.prog tab gh := Ct.lift (E := ⟨Tryz.prog, tab, [ct101], pl95, [], gh⟩) ⟨tabOk, ⟨ok101, trivial⟩, mo, trivial, ghUp⟩ 9 ct95 fun x Φ => by
  have h : ct95.W x Φ = topF ⟨Tryz.prog, tab, [ct101], pl95, [], gh⟩ 9 ct95.f ct95.ps ct95.rs ct95.own x Φ := by kernel_rfl
  rw [h]; exact id
def ct76 : Ct DD := ⟨76, [101, 22], [105, 4], [[true], [false]], false, fun x Φ => cut_relation_mark_W x.1 x.2.1 fun y => Φ (y.1, y.2, ())⟩
def pl76 : List PE := [⟨[4, 1, 0, 1, 1], [], [], ⟨[.int, .lst 4], [(0, .kp 1), (1, .kp 2), (6, .own 0), (14, .kp 11), (15, .kp 12), (16, .v .int)], [], [4], []⟩⟩, ⟨[0, 1, 4, 0, 1, 1, 5, 4, 1, 0, 1, 1], [], [14], ⟨[.bool], [(0, .kp 1), (1, .kp 2), (6, .kp 15), (8, .kp 22), (14, .kp 11), (15, .kp 12), (16, .kp 16), (43, .v .bool)], [], [], []⟩⟩]
theorem ok76 : ct76.Ok Tryz.prog tab gh := Ct.lift (E := ⟨Tryz.prog, tab, [], pl76, [], gh⟩) ⟨tabOk, trivial, mo, trivial, ghUp⟩ 9 ct76 fun x Φ => by
  have h : ct76.W x Φ = topF ⟨Tryz.prog, tab, [], pl76, [], gh⟩ 9 ct76.f ct76.ps ct76.rs ct76.own x Φ := by kernel_rfl
  rw [h]; exact id
def ct52 : Ct DD := ⟨52, [105], [105], [[true]], false, fun x Φ => slices_Clone_cut_marks_bool_W x.1 fun y => Φ (y, ())⟩
def pl52 : List PE := []
theorem ok52 : ct52.Ok Tryz.prog tab gh := Ct.lift (E := ⟨Tryz.prog, tab, [], pl52, [], gh⟩) ⟨tabOk, trivial, mo, trivial, ghUp⟩ 9 ct52 fun x Φ => by
  have h : ct52.W x Φ = topF ⟨Tryz.prog, tab, [], pl52, [], gh⟩ 9 ct52.f ct52.ps ct52.rs ct52.own x Φ := by kernel_rfl
  rw [h]; exact id
def it80 : It DD := ⟨80, [105], [3], fun x l => cut_marks_members_1_I x.1 l⟩
def pl80 : List PE := [⟨[4, 1], [], [], ⟨[.int], [(0, .kp 0), (5, .kp 3), (6, .kp 4), (7, .v .int)], [], [], []⟩⟩]
theorem itok80 : it80.Ok Tryz.prog gh := It.lift (E := ⟨Tryz.prog, tab, [], pl80, [], gh⟩) ⟨tabOk, trivial, mo, trivial, ghUp⟩ it80 fun x l => by
  have h : it80.W x l = iterF ⟨Tryz.prog, tab, [], pl80, [], gh⟩ it80.f it80.cs it80.ts x l := by kernel_rfl
  rw [h]; exact id
def ct54 : Ct DD := ⟨54, [101, 3, 3], [4], [[false]], true, fun x Φ => cut_relation_before_W x.1 x.2.1 x.2.2.1 fun y => Φ (y, ())⟩
def pl54 : List PE := []
theorem ok54 : ct54.Ok Tryz.prog tab gh := Ct.lift (E := ⟨Tryz.prog, tab, [], pl54, [], gh⟩) ⟨tabOk, trivial, mo, trivial, ghUp⟩ 9 ct54 fun x Φ => by
  have h : ct54.W x Φ = topF ⟨Tryz.prog, tab, [], pl54, [], gh⟩ 9 ct54.f ct54.ps ct54.rs ct54.own x Φ := by kernel_rfl
  rw [h]; exact id
def ct55 : Ct DD := ⟨55, [105], [22], [[true]], false, fun x Φ => cut_marks_list_W x.1 fun y => Φ (y, ())⟩
def pl55 : List PE := [⟨[4, 1, 0, 1, 11, 0, 1, 12, 0, 1], [0], [0], ⟨[.lst 3], [], [(1, 22, [.own 0])], [3], []⟩⟩]
theorem ok55 : ct55.Ok Tryz.prog tab gh := Ct.lift (E := ⟨Tryz.prog, tab, [], pl55, [it80], gh⟩) ⟨tabOk, trivial, mo, ⟨itok80, trivial⟩, ghUp⟩ 9 ct55 fun x Φ => by
  have h : ct55.W x Φ = topF ⟨Tryz.prog, tab, [], pl55, [it80], gh⟩ 9 ct55.f ct55.ps ct55.rs ct55.own x Φ := by kernel_rfl
  rw [h]; exact id
def ct39 : Ct DD := ⟨39, [26, 22], [22, 31], [[true], [false]], false, fun x Φ => cut_Least_W x.1 x.2.1 fun y => Φ (y.1, y.2, ())⟩
def pl39 : List PE := [⟨[4, 1, 0, 1, 1, 1, 1, 13, 0, 1], [], [4, 3, 2, 1, 0], ⟨[], [(1, .kp 6), (9, .kp 17), (11, .kp 21), (24, .kp 22), (25, .kp 23), (26, .kp 24)], [], [], []⟩⟩, ⟨[4, 1, 0, 1, 1, 1, 1, 1, 11, 0, 1, 13, 0, 1], [], [7, 5, 3, 2, 1, 0], ⟨[.int, .lst 3, .lst 3], [(5, .kp 26), (48, .kp 54), (49, .kp 55), (50, .v .int)], [(4, 111, [.kp 57,.kp 58,.own 0,.own 1])], [3, 3], []⟩⟩, ⟨[4, 1, 0, 1, 1, 1, 1, 13, 0, 1], [4, 70, 71], [72, 4, 70, 71, 7, 5, 3, 2, 1, 0], ⟨[.int, .lst 105], [(1, .kp 74), (9, .kp 84), (11, .own 0), (24, .kp 89), (25, .kp 90), (26, .v .int)], [], [105], []⟩⟩, ⟨[4, 1, 0, 1, 1, 1, 1], [97], [97, 94, 93, 72, 4, 70, 71, 7, 5, 3, 2, 1, 0], ⟨[.lst 4], [], [(96, 105, [.own 0])], [4], []⟩⟩, ⟨[4, 1, 4, 7, 4, 1, 0, 1, 1, 1, 1], [], [], ⟨[.int, .lst 4], [(6, .kp 110), (9, .kp 119), (10, .kp 128), (35, .kp 57), (36, .v .int)], [(96, 105, [.own 0])], [4], []⟩⟩]
theorem ok39 : ct39.Ok Tryz.prog tab gh := Ct.lift (E := ⟨Tryz.prog, tab, [ct30, ct52, ct54, ct55, ct76, ct95], pl39, [it80], gh⟩) ⟨tabOk, ⟨ok30, ok52, ok54, ok55, ok76, ok95, trivial⟩, mo, ⟨itok80, trivial⟩, ghUp⟩ 9 ct39 fun x Φ => by
  have h : ct39.W x Φ = topF ⟨Tryz.prog, tab, [ct30, ct52, ct54, ct55, ct76, ct95], pl39, [it80], gh⟩ 9 ct39.f ct39.ps ct39.rs ct39.own x Φ := by kernel_rfl
  rw [h]; exact id
def ct64 : Ct DD := ⟨64, [123, 22], [4], [[false]], true, fun x Φ => history_checked_isSet_W x.1 x.2.1 fun y => Φ (y, ())⟩
def pl64 : List PE := [⟨[4, 1, 0, 1], [], [0], ⟨[.int], [(1, .kp 2), (2, .kp 3), (7, .kp 5), (8, .kp 6), (9, .v .int)], [], [], []⟩⟩]
theorem ok64 : ct64.Ok Tryz.prog tab gh := Ct.lift (E := ⟨Tryz.prog, tab, [], pl64, [], gh⟩) ⟨tabOk, trivial, mo, trivial, ghUp⟩ 9 ct64 fun x Φ => by
  have h : ct64.W x Φ = topF ⟨Tryz.prog, tab, [], pl64, [], gh⟩ 9 ct64.f ct64.ps ct64.rs ct64.own x Φ := by kernel_rfl
  rw [h]; exact id
def it90 : It DD := ⟨90, [22, 123], [3, 45], fun x l => history_checked_members_1_I x.1 x.2.1 l⟩
def pl90 : List PE := [⟨[4, 1], [], [], ⟨[.int], [(0, .kp 0), (2, .kp 4), (6, .kp 5), (7, .kp 6), (8, .v .int)], [], [], []⟩⟩]
theorem itok90 : it90.Ok Tryz.prog gh := It.lift (E := ⟨Tryz.prog, tab, [], pl90, [], gh⟩) ⟨tabOk, trivial, mo, trivial, ghUp⟩ it90 fun x l => by
  have h : it90.W x l = iterF ⟨Tryz.prog, tab, [], pl90, [], gh⟩ it90.f it90.cs it90.ts x l := by kernel_rfl
  rw [h]; exact id
def ct100 : Ct DD := ⟨100, [43], [43], [[true]], false, fun x Φ => slices_Clone_api_Sector_api_Sector_W x.1 fun y => Φ (y, ())⟩
def pl100 : List PE := []
theorem okT100 : ct100.Ok Tryz.prog tab ghT := Ct.lift (E := ⟨Tryz.prog, tab, [], pl100, [], ghT⟩) ⟨tabOk, trivial, mo, trivial, fun _ _ _ _ => trivial⟩ 9 ct100 fun x Φ => by
  have h : ct100.W x Φ = topF ⟨Tryz.prog, tab, [], pl100, [], ghT⟩ 9 ct100.f ct100.ps ct100.rs ct100.own x Φ := by kernel_rfl
  rw [h]; exact id
theorem pk28 (v : Value) (cs : List Value) : PkR Tryz.prog 28 v cs = (cs = [v]) := by kernel_rfl
theorem image_Check_lift {H : Hp} (x0 : List (List Sec)) {A1 : Option Addr} {n1 c1 : Nat} {s1 : List Value} (hF1 : Fz (α := List Sec) H A1 n1 c1 x0 s1) {Φ : Int → Prop} (hm : image_Check_W x0 Φ) : RetP Tryz.prog 33 #[.slice A1 n1 c1] H (fun _ v L => ∃ y, Φ y ∧ v = .int .i64 (y) ∧ L = []) := by
  refine RetP.mono (okT33 (x0, ()) (fun y => Φ y.1) hm H [.slice A1 n1 c1] trivial ⟨_, [.slice A1 n1 c1], _, rfl, by rw [pk28], (show Dt.rd (α := List (List Sec)) H _ _ from ⟨A1, n1, c1, s1, rfl, hF1⟩), rfl⟩) fun H' v L _ ⟨y, hy, hr⟩ => ?_
  obtain ⟨ρ, _, _, _, _, h1, h2⟩ := hr 0 (fun _ => none) (fun _ _ => rfl) _ _ _ (show resE Tryz.prog tab _ _ y 0 = some (.i .i64 y.1, [], 0) by kernel_rfl)
  exact ⟨y.1, hy, h1, h2⟩
theorem pk43 (v : Value) (cs : List Value) : PkR Tryz.prog 43 v cs = (cs = [v]) := by kernel_rfl
theorem slices_Clone_api_Sector_api_Sector_lift {H : Hp} (x0 : List Sec) {A1 : Option Addr} {n1 c1 : Nat} {s1 : List Value} (hF1 : Fz (α := Sec) H A1 n1 c1 x0 s1) {Φ : List Sec → Prop} (hm : slices_Clone_api_Sector_api_Sector_W x0 Φ) : RetP Tryz.prog 100 #[.slice A1 n1 c1] H (fun H' v L => ∃ y, Φ y ∧ ∃ A12, ∃ n12, ∃ c12, ∃ s12, v = .slice A12 n12 c12 ∧ DtL (α := Sec) H' s12 y ∧ n12 = y.length ∧ L = [.row (.slice A12 n12 c12) 49 8 n12 s12]) := by
  refine RetP.mono (okT100 (x0, ()) (fun y => Φ y.1) hm H [.slice A1 n1 c1] trivial ⟨_, [.slice A1 n1 c1], _, rfl, by rw [pk43], (show Dt.rd (α := List Sec) H _ _ from ⟨A1, n1, c1, s1, rfl, hF1⟩), rfl⟩) fun H' v L _ ⟨y, hy, hr⟩ => ?_
  obtain ⟨ρ, _, _, _, _, h1, h2⟩ := hr 0 (fun _ => none) (fun _ _ => rfl) _ _ _ (show resE Tryz.prog tab _ _ y 0 = some (.own 0, [(0, .row 49 y.1)], 1) by kernel_rfl)
  obtain ⟨A, n, c, e1, rfl⟩ := h1
  obtain ⟨S, L', rfl, ⟨A', n', c', s, e2, rfl, e3, e4⟩, e5⟩ := h2
  obtain rfl : L' = [] := e5
  rw [e1] at e2; cases e2
  exact ⟨y.1, hy, A, n, c, s, rfl, e3, e4, rfl⟩
theorem image_mappedE_lift {H : Hp} (x0 : List (List Sec)) {A1 : Option Addr} {n1 c1 : Nat} {s1 : List Value} (hF1 : Fz (α := List Sec) H A1 n1 c1 x0 s1) {Φ : List (List Sec) → Prop} (hm : image_mappedE_W x0 Φ) : RetP Tryz.prog 99 #[.slice A1 n1 c1, .func (.func 100) #[] #[]] H (fun H' v L => ∃ y, Φ y ∧ ∃ A45, ∃ n45, ∃ c45, ∃ s45, ∃ rs46, v = .slice A45 n45 c45 ∧ DeepL (α := List Sec) [49] H' s45 y rs46 ∧ n45 = y.length ∧ L = .row (.slice A45 n45 c45) 43 1 n45 s45 :: rs46) := by
 refine RetP.of_code Tryz.func99 rfl (nb rfl) fun w0 hM => ?_
 refine CW.sr <| RW.st (Ex.assign (.slice none 0 0) rfl) rfl <| RW.nil <| CW.sr <| RW.st (Ex.move (.slice A1 n1 c1) rfl) rfl <| RW.st (Ex.lenN st27.1 rfl hF1.hn) rfl ?_
 obtain ⟨hg8, hm⟩ := hm
 obtain ⟨hg9, hm⟩ := hm
 refine RW.makeE (α := List Sec) hM st27 tz43 rfl rfl hg8 hg9 rfl rfl ?_; intro b2 n3 c4 s5 w hd6 hn7 hM
 refine RW.st (Ex.assign (.slice (some ⟨b2, 0, none⟩) n3 c4) rfl) rfl <| RW.nil <| CW.seq <| CW.sr <| RW.st (Ex.move (.slice A1 n1 c1) rfl) rfl <| RW.st (Ex.lenN st27.1 rfl hF1.hn) rfl <| RW.st (Ex.move (.int .i64 0) rfl) rfl <| RW.nil <| CW.block ?_
 obtain ⟨m44, hm⟩ := hm
 skip
 refine CW.loop (β := Nat) (fun n σ w => ∃ (v12 : List (List Sec)), ∃ (A13 : Option Addr), ∃ (n14 : Nat), ∃ (c15 : Nat), ∃ (s16 : List Value), ∃ (rs17 : List Ent), ∃ (v20 : Int), ∃ Hk10, H.le Hk10 ∧ (∃ τ, σ = sl [(1, .func (.func 100) #[] #[]), (5, .slice A13 n14 c15), (11, .slice A1 n1 c1), (12, .int .i64 ((x0.length : Int))), (13, .int .i64 v20)] τ) ∧ Mem w0 H w Hk10 (.row (.slice A13 n14 c15) 43 1 n14 s16 :: rs17) ∧ (DeepL (α := List Sec) [49] Hk10 s16 v12 rs17) ∧ (n14 = v12.length) ∧ LoopN (image_mappedE_L1 x0 Φ) n (v12, v20)) (fun n => n) m44 ⟨([] : List (List Sec)), (some ⟨b2, 0, none⟩), n3, c4, s5, [], 0, H, (Hp.le.refl _), sl_canon ⟨rfl, rfl, rfl, rfl, rfl, trivial⟩, hM, (DeepL.ofNil (Ts := [49]) hd6), hn7, hm⟩ ?_
 rintro k21 _ w ⟨v12, A13, n14, c15, s16, rs17, v20, Hk10, hle11, ⟨τ, rfl⟩, hM, hd18, hn19, hm⟩
 obtain _ | k21 := k21
 · exact hm.elim
 replace hm : (image_mappedE_L1 x0 Φ) (v12, v20) (LoopN (image_mappedE_L1 x0 Φ) k21) := hm
 generalize hrec22 : LoopN (image_mappedE_L1 x0 Φ) k21 = rec1 at hm
 refine CW.sr <| RW.st (Ex.lss rfl rfl) rfl <| RW.nil <| CW.seq ?_
 refine CW.cond_dec (p := v20 < (x0.length : Int)) rfl (fun hc23 => ?_) (fun hc23 => ?_)
 ·
  replace hm := And.left hm hc23
  refine CW.skip <| CW.seq <| CW.block <| CW.sr ?_
  obtain ⟨hg24, hm⟩ := hm
  refine RW.st (Ex.index st27 rfl rfl v20.toNat (hF1.ne hg24) hg24.nat (hF1.lt hg24)) rfl ?_
  obtain ⟨_, ⟨A25, n25, c25, s25, rfl, hF25⟩, hx26⟩ := DtL.getI (α := List Sec) (hF1.mono hle11).dat hg24
  refine RW.st (Ex.loadE hM hle11 hF1.rdc to43 rfl (hx26 0 _ rfl)) rfl <| RW.st (Ex.assign (.slice A25 n25 c25) rfl) rfl <| RW.nil <| CW.region <| RW.st (Ex.move (.slice A13 n14 c15) rfl) rfl <| RW.st (Ex.move (.func (.func 100) #[] #[]) rfl) rfl <| RW.st (Ex.move (.slice A25 n25 c25) rfl) rfl ?_
  refine RW.callP hM (slices_Clone_api_Sector_api_Sector_lift (ix x0 v20) hF25 hm) en100 rfl rfl rfl rfl ?_; rintro _ w H28 _ hle29 ⟨v27, hm, A30, n30, c30, s30, rfl, hd31, hn32, rfl⟩ hM
  refine RW.buildSlice hM st27 tz43 [(0, .slice A30 n30 c30)] [.slice A30 n30 c30] (by decide) rfl rfl rfl (by decide) rfl rfl ?_; intro b33 w hM
  obtain ⟨hg39, hm⟩ := hm
  refine RW.appendH (α := List Sec) (xs := v12) (x0 := v27) hM 2 st27 rfl rfl hn19 rfl (fun j u hj => hM.rowCell (k := 0) rfl rfl hj) rfl (oneAll ⟨rfl, trivial⟩) hg39 rfl rfl ?_; intro A35 n36 c37 w hn38 hM
  obtain ⟨s40, rs41, hd42, hM⟩ := Mem.adopt (α := List Sec) (Ts := [49]) (x := v27) [.row (.slice (some ⟨b33, 0, none⟩) 1 1) 43 1 1 [.slice A30 n30 c30], .row (.slice A35 n36 c37) 43 1 n36 (s16 ++ [.slice A30 n30 c30])] (Mem.pickT (L1 := [.row (.slice (some ⟨b33, 0, none⟩) 1 1) 43 1 1 [.slice A30 n30 c30], .row (.slice A30 n30 c30) 49 8 n30 s30, .row (.slice A35 n36 c37) 43 1 n36 (s16 ++ [.slice A30 n30 c30])]) (T := rs17) hM [1, 0, 2] rfl rfl) 1 rfl (hd18.mono hle29) ⟨A30, n30, c30, s30, rfl, rfl, hd31, hn32⟩
  replace hM : Mem w0 H w H28 (.row (.slice A35 n36 c37) 43 1 n36 s40 :: rs41) := Mem.pickT (L1 := [.row (.slice (some ⟨b33, 0, none⟩) 1 1) 43 1 1 [.slice A30 n30 c30], .row (.slice A35 n36 c37) 43 1 n36 s40]) (T := rs41) hM [1] rfl rfl
  refine RW.st (Ex.assign (.slice A35 n36 c37) rfl) rfl <| RW.nil <| CW.region ?_
  obtain ⟨hg43, hm⟩ := hm
  refine RW.st (Ex.add rfl rfl hg43.1 hg43.2) rfl <| RW.st (Ex.move (.int .i64 (v20 + 1)) rfl) rfl <| RW.nil ?_
  exact And.intro rfl ⟨k21, ⟨(v12 ++ [v27]), A35, n36, c37, s40, rs41, v20 + 1, H28, hle11.trans hle29, sl_canon ⟨rfl, rfl, rfl, rfl, rfl, trivial⟩, hM, hd42, hn38, (by rw [hrec22]; exact hm)⟩, Nat.lt_succ_self _⟩
 ·
  replace hm := And.right hm hc23
  refine CW.exit ?_
  refine CW.sr <| RW.st (Ex.move (.slice A13 n14 c15) rfl) rfl <| RW.st (Ex.assign (.slice A13 n14 c15) rfl) rfl <| RW.nil <| CW.ret ?_
  refine end_tmp (.inl rfl) rfl (.slice A13 n14 c15) rfl ?_
  exact ⟨_, _, hM, v12, hm, A13, n14, c15, s16, rs17, rfl, hd18, hn19, rfl⟩
theorem image_copiedE_lift {H : Hp} (x0 : List (List Sec)) {A1 : Option Addr} {n1 c1 : Nat} {s1 : List Value} (hF1 : Fz (α := List Sec) H A1 n1 c1 x0 s1) {Φ : List (List Sec) → Prop} (hm : image_copiedE_W x0 Φ) : RetP Tryz.prog 91 #[.slice A1 n1 c1] H (fun H' v L => ∃ y, Φ y ∧ ∃ A9, ∃ n9, ∃ c9, ∃ s9, ∃ rs10, v = .slice A9 n9 c9 ∧ DeepL (α := List Sec) [49] H' s9 y rs10 ∧ n9 = y.length ∧ L = .row (.slice A9 n9 c9) 43 1 n9 s9 :: rs10) := by
 refine RetP.of_code Tryz.func91 rfl (nb rfl) fun w0 hM => ?_
 refine CW.sr <| RW.st (Ex.assign (.slice none 0 0) rfl) rfl <| RW.nil <| CW.sr <| RW.st (Ex.move (.slice A1 n1 c1) rfl) rfl ?_
 refine RW.callP hM (image_mappedE_lift x0 hF1 hm) en99 rfl rfl rfl rfl ?_; rintro _ w H3 _ hle4 ⟨v2, hm, A5, n5, c5, s5, rs6, rfl, hd7, hn8, rfl⟩ hM
 replace hM := Mem.toTail (a := [.row (.slice A5 n5 c5) 43 1 n5 s5]) (b := rs6) (c := []) hM
 refine RW.st (Ex.assign (.slice A5 n5 c5) rfl) rfl <| RW.nil <| CW.ret ?_
 refine end_tmp (.inl rfl) rfl (.slice A5 n5 c5) rfl ?_
 exact ⟨_, _, hM, v2, hm, A5, n5, c5, s5, rs6, rfl, hd7, hn8, rfl⟩
theorem pk45 (v : Value) (cs : List Value) : PkR Tryz.prog 45 v cs = (v = .agg cs.toArray) := by kernel_rfl
theorem image_fits_lift {H : Hp} (x0 : List (List Sec)) (x1 : api_Write) {A1 : Option Addr} {n1 c1 : Nat} {s1 : List Value} (hF1 : Fz (α := List Sec) H A1 n1 c1 x0 s1) {A2 : Option Addr} {n2 c2 : Nat} {s2 : List Value} (hF2 : Fz (α := Sec) H A2 n2 c2 x1.Data s2) {Φ : Int → Prop} (hm : image_fits_W x0 x1 Φ) : RetP Tryz.prog 92 #[.slice A1 n1 c1, .agg #[.int .i64 (x1.Volume), .int .i64 (x1.Start), .slice A2 n2 c2]] H (fun _ v L => ∃ y, Φ y ∧ v = .int .i64 (y) ∧ L = []) := by
  refine RetP.mono (okT92 (x0, x1, ()) (fun y => Φ y.1) hm H [.slice A1 n1 c1, .agg #[.int .i64 (x1.Volume), .int .i64 (x1.Start), .slice A2 n2 c2]] trivial ⟨_, [.slice A1 n1 c1], _, rfl, by rw [pk28], (show Dt.rd (α := List (List Sec)) H _ _ from ⟨A1, n1, c1, s1, rfl, hF1⟩), ⟨_, [.int .i64 (x1.Volume), .int .i64 (x1.Start), .slice A2 n2 c2], _, rfl, by rw [pk45], (show Dt.rd (α := api_Write) H _ _ from ⟨A2, n2, c2, s2, rfl, hF2⟩), rfl⟩⟩) fun H' v L _ ⟨y, hy, hr⟩ => ?_
  obtain ⟨ρ, _, _, _, _, h1, h2⟩ := hr 0 (fun _ => none) (fun _ _ => rfl) _ _ _ (show resE Tryz.prog tab _ _ y 0 = some (.i .i64 y.1, [], 0) by kernel_rfl)
  exact ⟨y.1, hy, h1, h2⟩
theorem image_Apply_lift {H : Hp} (x0 : List (List Sec)) (x1 : List api_Write) {A1 : Option Addr} {n1 c1 : Nat} {s1 : List Value} (hF1 : Fz (α := List Sec) H A1 n1 c1 x0 s1) {A2 : Option Addr} {n2 c2 : Nat} {s2 : List Value} (hF2 : Fz (α := api_Write) H A2 n2 c2 x1 s2) {Φ : List (List Sec) × Int × Int → Prop} (hm : image_Apply_W x0 x1 Φ) : RetP Tryz.prog 67 #[.slice A1 n1 c1, .slice A2 n2 c2] H (fun H' v L => ∃ y, Φ y ∧ ∃ A89, ∃ n89, ∃ c89, ∃ s89, ∃ rs90, v = .tuple #[.slice A89 n89 c89, .int .i64 (y.2.1), .int .i64 (y.2.2)] ∧ DeepL (α := List Sec) [49] H' s89 y.1 rs90 ∧ n89 = y.1.length ∧ L = .row (.slice A89 n89 c89) 43 1 n89 s89 :: rs90) := by
 refine RetP.of_code Tryz.func67 rfl (nb rfl) fun w0 hM => ?_
 refine CW.sr <| RW.st (Ex.assign (.slice none 0 0) rfl) rfl <| RW.st (Ex.assign (.int .i64 0) rfl) rfl <| RW.st (Ex.assign (.int .i64 0) rfl) rfl <| RW.nil <| CW.seq <| CW.sr <| RW.st (Ex.move (.slice A1 n1 c1) rfl) rfl ?_
 refine RW.callP hM (image_Check_lift x0 hF1 hm) en33 rfl rfl rfl rfl ?_; rintro _ w H4 _ hle5 ⟨v3, hm, rfl, rfl⟩ hM
 refine RW.st (Ex.assign (.int .i64 v3) rfl) rfl <| RW.nil <| CW.sr <| RW.st (Ex.move (.int .i64 v3) rfl) rfl <| RW.st (Ex.neq rfl rfl) rfl <| RW.nil ?_
 refine CW.cond_dec (p := v3 ≠ 0) rfl (fun hc6 => ?_) (fun hc6 => ?_)
 ·
  replace hm := And.left hm hc6
  refine CW.sr <| RW.st (Ex.move (.int .i64 v3) rfl) rfl <| RW.st (Ex.assign (.slice none 0 0) rfl) rfl <| RW.st (Ex.assign (.int .i64 0) rfl) rfl <| RW.st (Ex.assign (.int .i64 v3) rfl) rfl <| RW.nil <| CW.ret ?_
  refine thenQ_ret ?_
  refine end_tmp3 (.inl rfl) rfl (.slice none 0 0) (.int .i64 0) (.int .i64 v3) rfl rfl rfl ?_
  replace hM := hM.nilRow 43 1
  exact ⟨_, _, hM, (([] : List (List Sec)), 0, v3), hm, none, 0, 0, [], [], rfl, (DeepL.nil : DeepL (α := List Sec) [49] H4 [] [] []), rfl, rfl⟩
 ·
  replace hm := And.right hm hc6
  refine CW.skip <| CW.sr <| RW.st (Ex.move (.slice A1 n1 c1) rfl) rfl ?_
  refine RW.callP hM (image_copiedE_lift x0 (hF1.mono hle5) hm) en91 rfl rfl rfl rfl ?_; rintro _ w H8 _ hle9 ⟨v7, hm, A10, n10, c10, s10, rs11, rfl, hd12, hn13, rfl⟩ hM
  replace hM := Mem.toTail (a := [.row (.slice A10 n10 c10) 43 1 n10 s10]) (b := rs11) (c := []) hM
  refine RW.st (Ex.assign (.slice A10 n10 c10) rfl) rfl <| RW.nil <| CW.seq <| CW.sr <| RW.st (Ex.move (.slice A2 n2 c2) rfl) rfl <| RW.st (Ex.lenN st23.1 rfl hF2.hn) rfl <| RW.st (Ex.move (.int .i64 0) rfl) rfl <| RW.nil <| CW.block ?_
  obtain ⟨m88, hm⟩ := hm
  skip
  refine CW.loop (β := Nat) (fun n σ w => ∃ (v16 : List (List Sec)), ∃ (A17 : Option Addr), ∃ (n18 : Nat), ∃ (c19 : Nat), ∃ (s20 : List Value), ∃ (rs21 : List Ent), ∃ (v24 : Int), ∃ Hk14, H8.le Hk14 ∧ (∃ τ, σ = sl [(8, .slice A17 n18 c19), (19, .slice A2 n2 c2), (20, .int .i64 ((x1.length : Int))), (21, .int .i64 v24)] τ) ∧ Mem w0 H w Hk14 (.row (.slice A17 n18 c19) 43 1 n18 s20 :: rs21) ∧ (DeepL (α := List Sec) [49] Hk14 s20 v16 rs21) ∧ (n18 = v16.length) ∧ LoopN (image_Apply_L1 x1 Φ) n (v16, v24)) (fun n => n) m88 ⟨v7, A10, n10, c10, s10, rs11, 0, H8, (Hp.le.refl _), sl_canon ⟨rfl, rfl, rfl, rfl, trivial⟩, hM, hd12, hn13, hm⟩ ?_
  rintro k25 _ w ⟨v16, A17, n18, c19, s20, rs21, v24, Hk14, hle15, ⟨τ, rfl⟩, hM, hd22, hn23, hm⟩
  obtain _ | k25 := k25
  · exact hm.elim
  replace hm : (image_Apply_L1 x1 Φ) (v16, v24) (LoopN (image_Apply_L1 x1 Φ) k25) := hm
  generalize hrec26 : LoopN (image_Apply_L1 x1 Φ) k25 = rec1 at hm
  refine CW.sr <| RW.st (Ex.lss rfl rfl) rfl <| RW.nil <| CW.seq ?_
  refine CW.cond_dec (p := v24 < (x1.length : Int)) rfl (fun hc27 => ?_) (fun hc27 => ?_)
  ·
   replace hm := And.left hm hc27
   refine CW.skip <| CW.seq <| CW.block <| CW.sr <| RW.st (Ex.move (.int .i64 v24) rfl) rfl ?_
   obtain ⟨hg28, hm⟩ := hm
   refine RW.st (Ex.index st23 rfl rfl v24.toNat (hF2.ne hg28) hg28.nat (hF2.lt hg28)) rfl ?_
   obtain ⟨_, ⟨A29, n29, c29, s29, rfl, hF29⟩, hx30⟩ := DtL.getI (α := api_Write) (hF2.mono ((hle5.trans hle9).trans hle15)).dat hg28
   refine RW.st (Ex.loadEA hM ((hle5.trans hle9).trans hle15) hF2.rdc [.int .i64 ((ix x1 v24).Volume), .int .i64 ((ix x1 v24).Start), .slice A29 n29 c29] ta45 rfl (hF2.ne hg28) rfl (chunk_sub (off := 0) (n := 3) hx30 rfl)) rfl ?_
   refine RW.alloc hM tz45 [.int .i64 0, .int .i64 0, .slice none 0 0] rfl rfl rfl ?_; intro b31 w hM
   refine RW.st (Ex.assign (.int .i64 v24) rfl) rfl ?_
   refine RW.store hM 0 (.agg #[.int .i64 ((ix x1 v24).Volume), .int .i64 ((ix x1 v24).Start), .slice A29 n29 c29]) [.int .i64 ((ix x1 v24).Volume), .int .i64 ((ix x1 v24).Start), .slice A29 n29 c29] [.int .i64 ((ix x1 v24).Volume), .int .i64 ((ix x1 v24).Start), .slice A29 n29 c29] sz45 rfl rfl rfl (oneAll ⟨rfl, rfl, rfl, trivial⟩) rfl (nb rfl) rfl (.box b31 45 [.int .i64 ((ix x1 v24).Volume), .int .i64 ((ix x1 v24).Start), .slice A29 n29 c29] :: .row (.slice A17 n18 c19) 43 1 n18 s20 :: rs21) rfl rfl rfl ?_; intro w hM
   refine RW.nil <| CW.seq <| CW.sr <| RW.st (Ex.move (.slice A17 n18 c19) rfl) rfl <| RW.st (Ex.loadA hM 0 [.int .i64 ((ix x1 v24).Volume), .int .i64 ((ix x1 v24).Start), .slice A29 n29 c29] ta45 rfl rfl rfl rfl) rfl ?_
   have hM1 := hM
   obtain ⟨H32, hM, hle33, hd34⟩ := DeepL.flat (es := [.box b31 45 [.int .i64 ((ix x1 v24).Volume), .int .i64 ((ix x1 v24).Start), .slice A29 n29 c29], .row (.slice A17 n18 c19) 43 1 n18 s20]) hM hd22
   obtain ⟨H35, hM, hle36, hF37⟩ := hM.giveF (α := List Sec) 1 rfl hd34 hn23
   refine RW.callB hM1 hM (image_fits_lift v16 (ix x1 v24) hF37 (hF29.mono (hle33.trans hle36)) hm) en92 rfl rfl rfl rfl ?_; clear hM hM1; intro v38 w hm hM
   refine RW.st (Ex.assign (.int .i64 v38) rfl) rfl <| RW.nil <| CW.sr <| RW.st (Ex.move (.int .i64 v38) rfl) rfl <| RW.st (Ex.neq rfl rfl) rfl <| RW.nil ?_
   refine CW.cond_dec (p := v38 ≠ 0) rfl (fun hc41 => ?_) (fun hc41 => ?_)
   ·
    replace hm := And.left hm hc41
    refine CW.sr <| RW.st (Ex.move (.int .i64 v24) rfl) rfl <| RW.st (Ex.move (.int .i64 v38) rfl) rfl <| RW.st (Ex.assign (.slice none 0 0) rfl) rfl <| RW.st (Ex.assign (.int .i64 v24) rfl) rfl <| RW.st (Ex.assign (.int .i64 v38) rfl) rfl <| RW.nil <| CW.ret ?_
    refine thenQ_ret (blockQ_ret (thenQ_ret (thenQ_ret (blockQ_ret (thenQ_ret ?_)))))
    refine end_tmp3 (.inl rfl) rfl (.slice none 0 0) (.int .i64 v24) (.int .i64 v38) rfl rfl rfl ?_
    replace hM := hM.nilRow 43 1
    exact ⟨_, _, ((Mem.dropT (L1 := [.row (.slice none 0 0) 43 1 0 [], .box b31 45 [.int .i64 ((ix x1 v24).Volume), .int .i64 ((ix x1 v24).Start), .slice A29 n29 c29], .row (.slice A17 n18 c19) 43 1 n18 s20]) (T := rs21) hM).pick [0] rfl rfl), (([] : List (List Sec)), v24, v38), hm, none, 0, 0, [], [], rfl, (DeepL.nil : DeepL (α := List Sec) [49] Hk14 [] [] []), rfl, rfl⟩
   ·
    replace hm := And.right hm hc41
    refine CW.skip ?_
    obtain ⟨hg42, hm⟩ := hm
    obtain ⟨c44, _, c45, _, rs46, rfl, ⟨A43, n43, c43, s43, rfl, rfl, hF43, hn48⟩, hh47, hM⟩ := Mem.focus [.box b31 45 [.int .i64 ((ix x1 v24).Volume), .int .i64 ((ix x1 v24).Start), .slice A29 n29 c29], .row (.slice A17 n18 c19) 43 1 n18 s20] hM hd22 hg42
    have hx49 := Hole.get (ch := [.slice A43 n43 c43]) hh47
    obtain ⟨hg55, hm⟩ := hm
    refine CW.drawL 10 [] [(fun Hq us E => us = [.slice A17 n18 c19] ∧ E = [] ∧ True), (fun Hq us E => us = [.pointer (some ⟨b31, 0, none⟩)] ∧ E = [] ∧ True), (fun Hq us E => us = [.int .i64 ((ix x1 v24).Volume)] ∧ E = [] ∧ True), (fun Hq us E => us = [elp A17 ((((ix x1 v24).Volume).toNat) * 1 + 0)] ∧ E = [] ∧ True), (fun Hq us E => us = [.slice A43 n43 c43] ∧ E = [] ∧ True), (fun Hq us E => us = [.pointer (some ⟨b31, 1, none⟩)] ∧ E = [] ∧ True), (fun Hq us E => us = [.int .i64 ((ix x1 v24).Start)] ∧ E = [] ∧ True), (fun Hq us E => ∃ (A56 : Option Addr), ∃ (n57 : Nat), ∃ (c58 : Nat), us = [.slice A56 n57 c58] ∧ E = [] ∧ View A43 n43 c43 8 ((ix x1 v24).Start) A56 n57 c58 ∧ True), (fun Hq us E => us = [.pointer (some ⟨b31, 2, none⟩)] ∧ E = [] ∧ True), (fun Hq us E => us = [.slice A29 n29 c29] ∧ E = [] ∧ True)]
     (fun k => [[0], [1], [2], [3], [4], [5], [6], [7], [8], [9]].getD k []) (fun _ => none) (by kernel_rfl) hM (by kernel_rfl) (by kernel_rfl) (by kernel_rfl) rfl (by simp only [List.forall_mem_cons]; exact ⟨fun _ _ _ _ hle ⟨e1, e2, _⟩ => ⟨e1, e2, trivial⟩, fun _ _ _ _ hle ⟨e1, e2, _⟩ => ⟨e1, e2, trivial⟩, fun _ _ _ _ hle ⟨e1, e2, _⟩ => ⟨e1, e2, trivial⟩, fun _ _ _ _ hle ⟨e1, e2, _⟩ => ⟨e1, e2, trivial⟩, fun _ _ _ _ hle ⟨e1, e2, _⟩ => ⟨e1, e2, trivial⟩, fun _ _ _ _ hle ⟨e1, e2, _⟩ => ⟨e1, e2, trivial⟩, fun _ _ _ _ hle ⟨e1, e2, _⟩ => ⟨e1, e2, trivial⟩, fun _ _ _ _ hle ⟨A56, n57, c58, e1, e2, hV59, _⟩ => ⟨A56, n57, c58, e1, e2, hV59, trivial⟩, fun _ _ _ _ hle ⟨e1, e2, _⟩ => ⟨e1, e2, trivial⟩, fun _ _ _ _ hle ⟨e1, e2, _⟩ => ⟨e1, e2, trivial⟩, by simp⟩) ⟨?_, ?_, ?_, ?_, ?_, ?_, ?_, ?_, ?_, ?_, trivial⟩ ?_
    ·
     intro H' σ' w R E hle hMR hE0 hE hp hf
     obtain rfl := hE0 rfl
     obtain ⟨τ, rfl⟩ := sl_canon (σ := σ') (l := [(8, .slice A17 n18 c19)]) ⟨(hf 8 (by kernel_rfl)).trans rfl, trivial⟩
     have hM := Mem.subR (R := R) hMR
     exact RW.step (Ex.move (.slice A17 n18 c19) rfl) rfl rfl rfl (RW.nil ⟨rfl, rfl, _, rfl, H', [], Hp.le.refl _, hMR, rfl, rfl, trivial⟩)
    ·
     intro H' σ' w R E hle hMR hE0 hE hp hf
     obtain rfl := hE0 rfl
     obtain ⟨τ, rfl⟩ := sl_canon (σ := σ') (l := [(10, .pointer (some ⟨b31, 0, none⟩))]) ⟨(hf 10 (by kernel_rfl)).trans rfl, trivial⟩
     have hM := Mem.subR (R := R) hMR
     exact RW.step (Ex.fieldAddr fa45_0 rfl) rfl rfl rfl (RW.nil ⟨rfl, rfl, _, rfl, H', [], Hp.le.refl _, hMR, rfl, rfl, trivial⟩)
    ·
     intro H' σ' w R E hle hMR hE0 hE hp hf
     obtain rfl := hE0 rfl
     obtain ⟨_, hg⟩ := hp 1 (by decide) (by kernel_rfl)
     obtain ⟨e60, _, _⟩ := hg.get rfl
     have e61 : σ' 34 = .pointer (some ⟨b31, 0, none⟩) := (List.cons.inj e60).1
     obtain ⟨τ, rfl⟩ := sl_canon (σ := σ') (l := [(34, .pointer (some ⟨b31, 0, none⟩))]) ⟨e61, trivial⟩
     have hM := Mem.subR (R := R) hMR
     exact RW.step (Ex.load1 hM 1 to3 rfl rfl rfl) rfl rfl rfl (RW.nil ⟨rfl, rfl, _, rfl, H', [], Hp.le.refl _, hMR, rfl, rfl, trivial⟩)
    ·
     intro H' σ' w R E hle hMR hE0 hE hp hf
     obtain rfl := hE0 rfl
     obtain ⟨_, hg⟩ := hp 0 (by decide) (by kernel_rfl)
     obtain ⟨e62, _, _⟩ := hg.get rfl
     have e63 : σ' 33 = .slice A17 n18 c19 := (List.cons.inj e62).1
     obtain ⟨_, hg⟩ := hp 2 (by decide) (by kernel_rfl)
     obtain ⟨e64, _, _⟩ := hg.get rfl
     have e65 : σ' 35 = .int .i64 ((ix x1 v24).Volume) := (List.cons.inj e64).1
     obtain ⟨τ, rfl⟩ := sl_canon (σ := σ') (l := [(33, .slice A17 n18 c19), (35, .int .i64 ((ix x1 v24).Volume))]) ⟨e63, e65, trivial⟩
     have hM := Mem.subR (R := R) hMR
     exact RW.step (Ex.index st28 rfl rfl (((ix x1 v24).Volume).toNat) (hM.rowNeD (α := List Sec) (p := 2) rfl hn23 hg42) hg42.nat (Nat.lt_of_lt_of_eq hg42.lt (hn23).symm)) rfl rfl rfl (RW.nil ⟨rfl, rfl, _, rfl, H', [], Hp.le.refl _, hMR, rfl, rfl, trivial⟩)
    ·
     intro H' σ' w R E hle hMR hE0 hE hp hf
     obtain rfl := hE0 rfl
     obtain ⟨_, hg⟩ := hp 3 (by decide) (by kernel_rfl)
     obtain ⟨e66, _, _⟩ := hg.get rfl
     have e67 : σ' 36 = elp A17 ((((ix x1 v24).Volume).toNat) * 1 + 0) := (List.cons.inj e66).1
     obtain ⟨τ, rfl⟩ := sl_canon (σ := σ') (l := [(36, elp A17 ((((ix x1 v24).Volume).toNat) * 1 + 0))]) ⟨e67, trivial⟩
     have hM := Mem.subR (R := R) hMR
     exact RW.step (Ex.loadR hM 2 rfl to43 (hM.rowNeD (α := List Sec) (p := 2) rfl hn23 hg42) rfl (hx49 0 _ rfl)) rfl rfl rfl (RW.nil ⟨rfl, rfl, _, rfl, H', [], Hp.le.refl _, hMR, rfl, rfl, trivial⟩)
    ·
     intro H' σ' w R E hle hMR hE0 hE hp hf
     obtain rfl := hE0 rfl
     obtain ⟨τ, rfl⟩ := sl_canon (σ := σ') (l := [(10, .pointer (some ⟨b31, 0, none⟩))]) ⟨(hf 10 (by kernel_rfl)).trans rfl, trivial⟩
     have hM := Mem.subR (R := R) hMR
     exact RW.step (Ex.fieldAddr fa45_1 rfl) rfl rfl rfl (RW.nil ⟨rfl, rfl, _, rfl, H', [], Hp.le.refl _, hMR, rfl, rfl, trivial⟩)
    ·
     intro H' σ' w R E hle hMR hE0 hE hp hf
     obtain rfl := hE0 rfl
     obtain ⟨_, hg⟩ := hp 5 (by decide) (by kernel_rfl)
     obtain ⟨e68, _, _⟩ := hg.get rfl
     have e69 : σ' 38 = .pointer (some ⟨b31, 1, none⟩) := (List.cons.inj e68).1
     obtain ⟨τ, rfl⟩ := sl_canon (σ := σ') (l := [(38, .pointer (some ⟨b31, 1, none⟩))]) ⟨e69, trivial⟩
     have hM := Mem.subR (R := R) hMR
     exact RW.step (Ex.load1 hM 1 to3 rfl rfl rfl) rfl rfl rfl (RW.nil ⟨rfl, rfl, _, rfl, H', [], Hp.le.refl _, hMR, rfl, rfl, trivial⟩)
    ·
     intro H' σ' w R E hle hMR hE0 hE hp hf
     obtain rfl := hE0 rfl
     obtain ⟨_, hg⟩ := hp 4 (by decide) (by kernel_rfl)
     obtain ⟨e70, _, _⟩ := hg.get rfl
     have e71 : σ' 37 = .slice A43 n43 c43 := (List.cons.inj e70).1
     obtain ⟨_, hg⟩ := hp 6 (by decide) (by kernel_rfl)
     obtain ⟨e72, _, _⟩ := hg.get rfl
     have e73 : σ' 39 = .int .i64 ((ix x1 v24).Start) := (List.cons.inj e72).1
     obtain ⟨τ, rfl⟩ := sl_canon (σ := σ') (l := [(37, .slice A43 n43 c43), (39, .int .i64 ((ix x1 v24).Start))]) ⟨e71, e73, trivial⟩
     have hM := Mem.subR (R := R) hMR
     refine RW.sliceLo st43 rfl rfl hn48 hg55 rfl rfl ?_; intro A56 n57 c58 hV59
     exact RW.nil ⟨rfl, rfl, _, rfl, H', [], Hp.le.refl _, hMR, A56, n57, c58, rfl, rfl, hV59, trivial⟩
    ·
     intro H' σ' w R E hle hMR hE0 hE hp hf
     obtain rfl := hE0 rfl
     obtain ⟨τ, rfl⟩ := sl_canon (σ := σ') (l := [(10, .pointer (some ⟨b31, 0, none⟩))]) ⟨(hf 10 (by kernel_rfl)).trans rfl, trivial⟩
     have hM := Mem.subR (R := R) hMR
     exact RW.step (Ex.fieldAddr fa45_2 rfl) rfl rfl rfl (RW.nil ⟨rfl, rfl, _, rfl, H', [], Hp.le.refl _, hMR, rfl, rfl, trivial⟩)
    ·
     intro H' σ' w R E hle hMR hE0 hE hp hf
     obtain rfl := hE0 rfl
     obtain ⟨_, hg⟩ := hp 8 (by decide) (by kernel_rfl)
     obtain ⟨e74, _, _⟩ := hg.get rfl
     have e75 : σ' 41 = .pointer (some ⟨b31, 2, none⟩) := (List.cons.inj e74).1
     obtain ⟨τ, rfl⟩ := sl_canon (σ := σ') (l := [(41, .pointer (some ⟨b31, 2, none⟩))]) ⟨e75, trivial⟩
     have hM := Mem.subR (R := R) hMR
     exact RW.step (Ex.load1 hM 1 to43 rfl rfl rfl) rfl rfl rfl (RW.nil ⟨rfl, rfl, _, rfl, H', [], Hp.le.refl _, hMR, rfl, rfl, trivial⟩)
    ·
     intro HR8 σ' w X miss hms hleR hM hX hX0 hf
     simp [subs] at hms
     rcases hms with rfl
     ·
      obtain ⟨H76, hH8⟩ : ∃ x, x = HR8 := ⟨_, rfl⟩
      subst hH8
      have hle77 := hleR
      obtain ⟨_, g0, y0⟩ := hX 0 (by decide) (by kernel_rfl)
      obtain ⟨_, rfl, _⟩ := g0.get rfl
      replace y0 : X 0 = [] := y0
      obtain ⟨_, g0, y1⟩ := hX 1 (by decide) (by kernel_rfl)
      obtain ⟨_, rfl, _⟩ := g0.get rfl
      replace y1 : X 1 = [] := y1
      obtain ⟨_, g0, y2⟩ := hX 2 (by decide) (by kernel_rfl)
      obtain ⟨_, rfl, _⟩ := g0.get rfl
      replace y2 : X 2 = [] := y2
      obtain ⟨_, g0, y3⟩ := hX 3 (by decide) (by kernel_rfl)
      obtain ⟨_, rfl, _⟩ := g0.get rfl
      replace y3 : X 3 = [] := y3
      obtain ⟨_, g0, y4⟩ := hX 4 (by decide) (by kernel_rfl)
      obtain ⟨_, rfl, _⟩ := g0.get rfl
      replace y4 : X 4 = [] := y4
      obtain ⟨_, g0, y5⟩ := hX 5 (by decide) (by kernel_rfl)
      obtain ⟨_, rfl, _⟩ := g0.get rfl
      replace y5 : X 5 = [] := y5
      obtain ⟨_, g0, y6⟩ := hX 6 (by decide) (by kernel_rfl)
      obtain ⟨_, rfl, _⟩ := g0.get rfl
      replace y6 : X 6 = [] := y6
      obtain ⟨_, g0, y7⟩ := hX 7 (by decide) (by kernel_rfl)
      obtain ⟨A56, n57, c58, e78, rfl, hV59, _⟩ := g0.get rfl
      have e79 : σ' 40 = .slice A56 n57 c58 := (List.cons.inj e78).1
      replace y7 : X 7 = [] := y7
      obtain ⟨_, g0, y8⟩ := hX 8 (by decide) (by kernel_rfl)
      obtain ⟨_, rfl, _⟩ := g0.get rfl
      replace y8 : X 8 = [] := y8
      obtain ⟨_, g0, y9⟩ := hX 9 (by decide) (by kernel_rfl)
      obtain ⟨e80, rfl, _⟩ := g0.get rfl
      have e81 : σ' 42 = .slice A29 n29 c29 := (List.cons.inj e80).1
      replace y9 : X 9 = [] := y9
      have hfl : flatX X 10 = [] := by
       show X 0 ++ (X 1 ++ (X 2 ++ (X 3 ++ (X 4 ++ (X 5 ++ (X 6 ++ (X 7 ++ (X 8 ++ (X 9 ++ []))))))))) = _
       rw [y0, y1, y2, y3, y4, y5, y6, y7, y8, y9]; rfl
      rw [hfl] at hM
      obtain ⟨τ, rfl⟩ := sl_canon (σ := σ') (l := [(8, .slice A17 n18 c19), (19, .slice A2 n2 c2), (20, .int .i64 ((x1.length : Int))), (21, .int .i64 v24), (40, .slice A56 n57 c58), (42, .slice A29 n29 c29)]) ⟨(hf 8 (by kernel_rfl)).trans rfl, (hf 19 (by kernel_rfl)).trans rfl, (hf 20 (by kernel_rfl)).trans rfl, (hf 21 (by kernel_rfl)).trans rfl, e79, e81, trivial⟩
      change RA _ _ _ _ _ _ _ (sl [(8, .slice A17 n18 c19), (19, .slice A2 n2 c2), (20, .int .i64 ((x1.length : Int))), (21, .int .i64 v24), (40, .slice A56 n57 c58), (42, .slice A29 n29 c29)] τ) _ 11 _
      refine RA.step [10] (by kernel_rfl) rfl ⟨⟨_, rfl, ?_⟩, trivial⟩
      refine RW.copyV (α := Sec) (xs := (ix v16 ((ix x1 v24).Volume))) (ys := (ix x1 v24).Data) hM 0 st43 rfl hV59 rfl (hF43.mono hle77) hn48 hg55 rfl hle77 hF29 rfl rfl ?_; intro s82 w hd83 hM
      refine RW.nil ?_
      refine And.intro rfl ?_
      refine RA.done (by kernel_rfl) ?_
      refine CW.region ?_
      obtain ⟨hg84, hm⟩ := hm
      refine RW.st (Ex.add rfl rfl hg84.1 hg84.2) rfl <| RW.st (Ex.move (.int .i64 (v24 + 1)) rfl) rfl <| RW.nil ?_
      obtain ⟨s85, rs86, hd87, hM⟩ := Mem.unfocus (α := List Sec) (Ts := [49]) (x := (paste (ix v16 ((ix x1 v24).Volume)) ((ix x1 v24).Start) ((ix x1 v24).Data))) [.box b31 45 [.int .i64 ((ix x1 v24).Volume), .int .i64 ((ix x1 v24).Start), .slice A29 n29 c29], .row (.slice A17 n18 c19) 43 1 n18 (c44 ++ ([.slice A43 n43 c43] ++ c45))] hM 1 rfl (hh47.mono hle77) ⟨A43, n43, c43, s82, rfl, rfl, hd83, (hn48).trans (paste_len hg55).symm⟩
      exact And.intro rfl ⟨k25, ⟨(put v16 ((ix x1 v24).Volume) (paste (ix v16 ((ix x1 v24).Volume)) ((ix x1 v24).Start) ((ix x1 v24).Data))), A17, n18, c19, s85, rs86, v24 + 1, H76, hle15.trans hle77, sl_canon ⟨rfl, rfl, rfl, rfl, trivial⟩, (Mem.pickT (L1 := [.box b31 45 [.int .i64 ((ix x1 v24).Volume), .int .i64 ((ix x1 v24).Start), .slice A29 n29 c29], .row (.slice A17 n18 c19) 43 1 n18 s85]) (T := rs86) hM [1] rfl rfl), hd87, (hn23).trans (put_len _ _ _).symm, (by rw [hrec26]; exact hm)⟩, Nat.lt_succ_self _⟩
  ·
   replace hm := And.right hm hc27
   refine CW.exit ?_
   refine CW.sr <| RW.st (Ex.move (.slice A17 n18 c19) rfl) rfl <| RW.st (Ex.assign (.slice A17 n18 c19) rfl) rfl <| RW.st (Ex.assign (.int .i64 0) rfl) rfl <| RW.st (Ex.assign (.int .i64 0) rfl) rfl <| RW.nil <| CW.ret ?_
   refine end_tmp3 (.inl rfl) rfl (.slice A17 n18 c19) (.int .i64 0) (.int .i64 0) rfl rfl rfl ?_
   exact ⟨_, _, hM, (v16, 0, 0), hm, A17, n18, c19, s20, rs21, rfl, hd22, hn23, rfl⟩
theorem pk23 (v : Value) (cs : List Value) : PkR Tryz.prog 23 v cs = (cs = [v]) := by kernel_rfl
def ct67 : Ct DD := ⟨67, [28, 23], [28, 3, 31], [[true], [false], [false]], false, fun x Φ => image_Apply_W x.1 x.2.1 fun y => Φ (y.1, y.2.1, y.2.2, ())⟩
set_option maxRecDepth 100000 in
theorem ok67 : ct67.Ok Tryz.prog tab gh := by
  intro x Φ hW H vs _ hA
  obtain ⟨v0, k0, q0, rfl, p0, r0, v1, k1, q1, rfl, p1, r1, hq⟩ := hA
  obtain rfl : q1 = [] := hq
  rw [pk28] at p0
  subst p0
  obtain ⟨A0, n0, c0, s0, e0, hF0⟩ := (show Dt.rd (α := List (List Sec)) H _ _ from r0)
  obtain rfl := (List.cons.inj e0).1
  rw [pk23] at p1
  subst p1
  obtain ⟨A1, n1, c1, s1, e1, hF1⟩ := (show Dt.rd (α := List api_Write) H _ _ from r1)
  obtain rfl := (List.cons.inj e1).1
  have hW : image_Apply_W x.1 x.2.1 (fun y => Φ (y.1, y.2.1, y.2.2, ())) := hW
  intro w hw
  refine (image_Apply_lift x.1 x.2.1 hF0 hF1 hW w hw).mono fun e w' ⟨v, H', L', h1, hM, y, hy, A, n, c, s, rs, hv, hd, hn, hL⟩ => ?_
  subst hL
  obtain ⟨H2, g1, g2, g3⟩ := DeepL.flat (es := [_]) hM hd
  refine ⟨v, H2, _, h1, g1, _, hy, fun nx ρ0 hn0 s' b m hre => ?_⟩
  rw [show resE Tryz.prog tab ct67.rs ct67.own (y.1, y.2.1, y.2.2, ()) nx = some (.tup [.own nx, .i .i64 y.2.1, .i .i64 y.2.2], [(nx, .row 43 y.1)], nx + 1) by kernel_rfl] at hre
  cases hre
  obtain ⟨f1, f2⟩ := fresh_put hn0 (.r A n c)
  exact ⟨ρ0.put nx (.r A n c), f1, Nat.le_succ _, f2, fun id hid => RM.put_ne _ _ (Nat.ne_of_lt hid), ⟨_, hv, _, _, rfl, ⟨A, n, c, RM.put_same _ _ _, rfl⟩, _, _, rfl, rfl, _, _, rfl, rfl, rfl⟩, _, _, rfl, ⟨A, n, c, s, RM.put_same _ _ _, rfl, g3, hn⟩, rfl⟩
def ct40 : Ct DD := ⟨40, [26, 22], [28, 31], [[true], [false]], false, fun x Φ => history_Image_W x.1 x.2.1 fun y => Φ (y.1, y.2, ())⟩
def pl40 : List PE := [⟨[4, 1, 0, 1, 1, 1, 1, 1, 1], [7, 6, 1, 2], [7, 6, 4, 3, 1, 2, 0], ⟨[.lst 45], [], [(5, 23, [.own 0])], [45], []⟩⟩]
theorem ok40 : ct40.Ok Tryz.prog tab gh := Ct.lift (E := ⟨Tryz.prog, tab, [ct60, ct64, ct65, ct67], pl40, [it90], gh⟩) ⟨tabOk, ⟨ok60, ok64, ok65, ok67, trivial⟩, mo, ⟨itok90, trivial⟩, ghUp⟩ 9 ct40 fun x Φ => by
  have h : ct40.W x Φ = topF ⟨Tryz.prog, tab, [ct60, ct64, ct65, ct67], pl40, [it90], gh⟩ 9 ct40.f ct40.ps ct40.rs ct40.own x Φ := by kernel_rfl
  rw [h]; exact id
def ct6 : Ct DD := ⟨6, [26, 28], [22, 4, 31], [[false], [false], [false]], false, fun x Φ => consistency_Find_W x.1 x.2.1 fun y => Φ (y.1, y.2.1, y.2.2, ())⟩
def pl6 : List PE := [⟨[4, 1, 0, 1, 1, 11, 0, 1, 1, 1, 1, 12, 0, 1], [], [25, 23, 1, 0], ⟨[.int, .mp 88 3], [(4, .kp 31), (10, .kp 33), (11, .kp 34), (12, .v .int)], [], [], [(24, .map 88 3 true false)]⟩⟩, ⟨[1, 4, 0, 1, 1, 5, 4, 1, 0, 1, 1, 11, 0, 1, 1, 1, 1, 12, 0, 1], [], [41, 40], ⟨[.bool, .mp 88 3], [(4, .kp 31), (7, .v .bool), (10, .kp 33), (11, .kp 34), (12, .kp 42)], [], [], [(24, .map 88 3 true false)]⟩⟩, ⟨[4, 1, 0, 1, 12, 0, 1, 4, 0, 1, 1, 5, 4, 1, 0, 1, 1, 11, 0, 1, 1, 1, 1, 12, 0, 1], [], [53], ⟨[.int, .mp 88 3], [(1, .kp 55), (2, .kp 56), (8, .kp 59), (9, .kp 60), (10, .v .int)], [], [], [(24, .map 88 3 true false)]⟩⟩, ⟨[0, 1, 1, 1, 1], [], [40, 24, 25, 23, 1, 0], ⟨[.bool], [(8, .kp 62), (9, .kp 63), (32, .v .bool)], [], [], []⟩⟩, ⟨[1, 1, 1], [], [40, 24, 25, 23, 1, 0], ⟨[.int, .lst 3, .bool], [(8, .v .int), (9, .v (.lst 3)), (11, .v .bool)], [], [], []⟩⟩, ⟨[4, 1, 0, 1, 1, 1, 1, 1, 1, 1, 11, 0, 1, 1, 1], [], [65, 64, 66, 86, 67, 63, 62], ⟨[.int, .lst 3], [(1, .kp 68), (3, .kp 70), (6, .kp 73), (7, .kp 74), (8, .kp 76), (9, .own 0), (28, .kp 92), (29, .v .int)], [], [3], []⟩⟩, ⟨[1, 1, 1, 1, 1, 1, 1, 1, 1, 1, 1, 1, 11, 0, 1, 1, 1], [], [100, 99, 98, 66, 67, 63, 62], ⟨[.bool, .int, .int, .lst 49], [(3, .kp 70), (6, .kp 73), (7, .kp 74), (11, .kp 112)], [(65, 4, [.v .bool]), (64, 45, [.v .int,.v .int,.own 0])], [49], []⟩⟩, ⟨[4, 1, 12, 0, 1, 1, 1, 1, 1, 1, 1, 1, 1, 1, 1, 1, 11, 0, 1, 1, 1], [], [86], ⟨[.int], [(1, .kp 127), (8, .kp 124), (9, .kp 128), (10, .v .int)], [(65, 4, [.kp 94]), (64, 45, [.kp 95,.kp 96,.kp 97])], [], []⟩⟩, ⟨[4, 1, 1, 4, 0, 1, 1, 5, 4, 1, 12, 0, 1, 1, 1, 1, 1, 1, 1, 1, 1, 1, 1, 1, 11, 0, 1, 1, 1], [], [], ⟨[.int], [(1, .kp 127), (4, .kp 135), (8, .kp 124), (9, .kp 128), (10, .kp 130), (15, .kp 137), (16, .kp 138), (17, .v .int)], [(65, 4, [.kp 94]), (64, 45, [.kp 95,.kp 96,.kp 97])], [], []⟩⟩, ⟨[1, 1, 1, 1, 11, 0, 1, 1, 1], [], [67, 63, 62], ⟨[.bool, .int, .int, .mp 3 4, .lst 49], [(1, .kp 68), (3, .kp 70), (6, .kp 73), (7, .kp 74), (8, .kp 76)], [(65, 4, [.v .bool]), (64, 45, [.v .int,.v .int,.own 0])], [49], [(66, .map 3 4 false false)]⟩⟩, ⟨[4, 1, 15, 0, 1, 1, 1, 1, 11, 0, 1, 1, 1], [], [], ⟨[.int, .mp 3 4], [(1, .kp 86), (8, .kp 60), (9, .kp 87), (10, .v .int)], [(65, 4, [.kp 78]), (64, 45, [.kp 79,.kp 80,.kp 81])], [], [(66, .map 3 4 false false)]⟩⟩, ⟨[4, 1, 1, 4, 0, 1, 1, 5, 4, 1, 15, 0, 1, 1, 1, 1, 11, 0, 1, 1, 1], [], [], ⟨[.int, .mp 3 4], [(1, .kp 86), (4, .kp 94), (8, .kp 60), (9, .kp 87), (10, .kp 89), (15, .kp 96), (16, .kp 97), (17, .v .int)], [(65, 4, [.kp 78]), (64, 45, [.kp 79,.kp 80,.kp 81])], [], [(66, .map 3 4 false false)]⟩⟩, ⟨[0, 1, 1, 1, 12, 0, 1], [], [1, 0], ⟨[.bool], [(1, .kp 3), (2, .kp 4), (24, .v .bool)], [], [], []⟩⟩, ⟨[4, 1, 0, 1, 1, 13, 0, 0, 1, 1, 1, 12, 0, 1], [], [], ⟨[.int], [(1, .kp 17), (2, .kp 23), (15, .kp 3), (16, .kp 28), (17, .v .int)], [], [], []⟩⟩]
theorem ok6 : ct6.Ok Tryz.prog tab gh := Ct.lift (E := ⟨Tryz.prog, tab, [ct30, ct33, ct35, ct38, ct39, ct40], pl6, [], gh⟩) ⟨tabOk, ⟨ok30, ok33, ok35, ok38, ok39, ok40, trivial⟩, mo, trivial, ghUp⟩ 9 ct6 fun x Φ => by
  have h : ct6.W x Φ = topF ⟨Tryz.prog, tab, [ct30, ct33, ct35, ct38, ct39, ct40], pl6, [], gh⟩ 9 ct6.f ct6.ps ct6.rs ct6.own x Φ := by kernel_rfl
  rw [h]; exact id
def ct25 : Ct DD := ⟨25, [26, 22], [22, 31], [[true], [false]], false, fun x Φ => cut_Greatest_W x.1 x.2.1 fun y => Φ (y.1, y.2, ())⟩
def pl25 : List PE := [⟨[4, 1, 0, 1, 1, 1, 1, 13, 0, 1], [], [4, 3, 2, 1, 0], ⟨[], [(1, .kp 6), (9, .kp 17), (11, .kp 21), (24, .kp 22), (25, .kp 23), (26, .kp 24)], [], [], []⟩⟩, ⟨[4, 1, 0, 1, 1, 1, 1, 1, 11, 0, 1, 13, 0, 1], [], [7, 5, 3, 2, 1, 0], ⟨[.int, .lst 3, .lst 3], [(5, .kp 26), (48, .kp 54), (49, .kp 55), (50, .v .int)], [(4, 111, [.kp 57,.kp 58,.own 0,.own 1])], [3, 3], []⟩⟩, ⟨[4, 1, 0, 1, 1, 1, 1, 13, 0, 1], [4, 70, 71], [72, 4, 70, 71, 7, 5, 3, 2, 1, 0], ⟨[.int, .lst 105], [(1, .kp 74), (9, .kp 84), (11, .own 0), (24, .kp 89), (25, .kp 90), (26, .v .int)], [], [105], []⟩⟩, ⟨[4, 1, 0, 1, 1, 1, 1], [98], [98, 95, 94, 93, 72, 4, 70, 71, 7, 5, 3, 2, 1, 0], ⟨[.lst 4], [], [(97, 105, [.own 0])], [4], []⟩⟩, ⟨[4, 1, 4, 7, 4, 1, 0, 1, 1, 1, 1], [], [], ⟨[.int, .lst 4], [(6, .kp 111), (7, .kp 112), (9, .kp 120), (10, .kp 130), (35, .kp 57), (36, .v .int)], [(97, 105, [.own 0])], [4], []⟩⟩]
theorem ok25 : ct25.Ok Tryz.prog tab gh := Ct.lift (E := ⟨Tryz.prog, tab, [ct30, ct52, ct54, ct55, ct76, ct95], pl25, [it80], gh⟩) ⟨tabOk, ⟨ok30, ok52, ok54, ok55, ok76, ok95, trivial⟩, mo, ⟨itok80, trivial⟩, ghUp⟩ 9 ct25 fun x Φ => by
  have h : ct25.W x Φ = topF ⟨Tryz.prog, tab, [ct30, ct52, ct54, ct55, ct76, ct95], pl25, [it80], gh⟩ 9 ct25.f ct25.ps ct25.rs ct25.own x Φ := by kernel_rfl
  rw [h]; exact id
def ct8 : Ct DD := ⟨8, [26, 28], [22, 4, 31], [[true], [false], [false]], false, fun x Φ => consistency_Newest_W x.1 x.2.1 fun y => Φ (y.1, y.2.1, y.2.2, ())⟩
def pl8 : List PE := [⟨[4, 1, 0, 1, 1, 11, 0, 1, 1, 1, 1, 12, 0, 1], [], [25, 23, 1, 0], ⟨[.int, .mp 88 3], [(4, .kp 31), (10, .kp 33), (11, .kp 34), (12, .v .int)], [], [], [(24, .map 88 3 true false)]⟩⟩, ⟨[1, 4, 0, 1, 1, 5, 4, 1, 0, 1, 1, 11, 0, 1, 1, 1, 1, 12, 0, 1], [], [41, 40], ⟨[.bool, .mp 88 3], [(4, .kp 31), (7, .v .bool), (10, .kp 33), (11, .kp 34), (12, .kp 42)], [], [], [(24, .map 88 3 true false)]⟩⟩, ⟨[4, 1, 0, 1, 12, 0, 1, 4, 0, 1, 1, 5, 4, 1, 0, 1, 1, 11, 0, 1, 1, 1, 1, 12, 0, 1], [], [53], ⟨[.int, .mp 88 3], [(1, .kp 55), (2, .kp 56), (8, .kp 59), (9, .kp 60), (10, .v .int)], [], [], [(24, .map 88 3 true false)]⟩⟩, ⟨[4, 1, 0, 1, 1, 1, 1, 1], [], [40, 24, 25, 23, 1, 0], ⟨[.int, .lst 3], [(2, .kp 43), (7, .kp 53), (13, .own 0), (40, .kp 67), (41, .v .int)], [], [3], []⟩⟩, ⟨[1, 4, 0, 1, 1, 5, 4, 1, 0, 1, 1, 1, 1, 1], [], [69], ⟨[.bool], [(2, .kp 43), (7, .kp 53), (13, .kp 70), (14, .kp 74), (40, .kp 67), (41, .kp 71), (46, .v .bool)], [], [], []⟩⟩, ⟨[0, 1, 12, 0, 1, 4, 0, 1, 1, 5, 4, 1, 0, 1, 1, 1, 1, 1], [], [], ⟨[], [], [], [9], []⟩⟩, ⟨[4, 1, 0, 1, 19, 0, 1, 12, 0, 1, 4, 0, 1, 1, 5, 4, 1, 0, 1, 1, 1, 1, 1], [], [82, 76, 75], ⟨[.int], [(1, .kp 84), (2, .kp 85), (8, .kp 88), (9, .kp 89), (10, .v .int)], [], [], []⟩⟩, ⟨[1, 0, 1, 1, 1], [], [40, 24, 25, 23, 1, 0], ⟨[.bool], [(2, .kp 43), (7, .kp 53), (12, .kp 63), (36, .v .bool)], [], [], []⟩⟩, ⟨[0, 1, 1, 1], [], [40, 24, 25, 23, 1, 0], ⟨[.bool, .int], [(2, .kp 43), (7, .kp 53), (11, .v .bool), (12, .v .int)], [], [], []⟩⟩, ⟨[4, 1, 0, 1, 1, 1, 1, 1, 1, 1, 11, 0, 0, 1, 1, 1], [], [65, 64, 66, 86, 67, 63, 62], ⟨[.int, .lst 3], [(1, .kp 68), (3, .kp 70), (6, .kp 73), (7, .kp 74), (8, .kp 76), (9, .own 0), (28, .kp 92), (29, .v .int)], [], [3], []⟩⟩, ⟨[1, 1, 1, 1, 1, 1, 1, 1, 1, 1, 1, 1, 11, 0, 0, 1, 1, 1], [], [100, 99, 98, 66, 67, 63, 62], ⟨[.bool, .int, .int, .lst 49], [(3, .kp 70), (6, .kp 73), (7, .kp 74), (11, .kp 112)], [(65, 4, [.v .bool]), (64, 45, [.v .int,.v .int,.own 0])], [49], []⟩⟩, ⟨[4, 1, 12, 0, 1, 1, 1, 1, 1, 1, 1, 1, 1, 1, 1, 1, 11, 0, 0, 1, 1, 1], [], [86], ⟨[.int], [(1, .kp 127), (8, .kp 124), (9, .kp 128), (10, .v .int)], [(65, 4, [.kp 94]), (64, 45, [.kp 95,.kp 96,.kp 97])], [], []⟩⟩, ⟨[4, 1, 1, 4, 0, 1, 1, 5, 4, 1, 12, 0, 1, 1, 1, 1, 1, 1, 1, 1, 1, 1, 1, 1, 11, 0, 0, 1, 1, 1], [], [], ⟨[.int], [(1, .kp 127), (4, .kp 135), (8, .kp 124), (9, .kp 128), (10, .kp 130), (15, .kp 137), (16, .kp 138), (17, .v .int)], [(65, 4, [.kp 94]), (64, 45, [.kp 95,.kp 96,.kp 97])], [], []⟩⟩, ⟨[1, 1, 1, 1, 11, 0, 0, 1, 1, 1], [], [67, 63, 62], ⟨[.bool, .int, .int, .mp 3 4, .lst 49], [(1, .kp 68), (3, .kp 70), (6, .kp 73), (7, .kp 74), (8, .kp 76)], [(65, 4, [.v .bool]), (64, 45, [.v .int,.v .int,.own 0])], [49], [(66, .map 3 4 false false)]⟩⟩, ⟨[4, 1, 15, 0, 1, 1, 1, 1, 11, 0, 0, 1, 1, 1], [], [], ⟨[.int, .mp 3 4], [(1, .kp 86), (8, .kp 60), (9, .kp 87), (10, .v .int)], [(65, 4, [.kp 78]), (64, 45, [.kp 79,.kp 80,.kp 81])], [], [(66, .map 3 4 false false)]⟩⟩, ⟨[4, 1, 1, 4, 0, 1, 1, 5, 4, 1, 15, 0, 1, 1, 1, 1, 11, 0, 0, 1, 1, 1], [], [], ⟨[.int, .mp 3 4], [(1, .kp 86), (4, .kp 94), (8, .kp 60), (9, .kp 87), (10, .kp 89), (15, .kp 96), (16, .kp 97), (17, .v .int)], [(65, 4, [.kp 78]), (64, 45, [.kp 79,.kp 80,.kp 81])], [], [(66, .map 3 4 false false)]⟩⟩, ⟨[0, 1, 1, 1, 12, 0, 1], [], [1, 0], ⟨[.bool], [(1, .kp 3), (2, .kp 4), (24, .v .bool)], [], [], []⟩⟩, ⟨[4, 1, 0, 1, 1, 13, 0, 0, 1, 1, 1, 12, 0, 1], [], [], ⟨[.int], [(1, .kp 17), (2, .kp 23), (15, .kp 3), (16, .kp 28), (17, .v .int)], [], [], []⟩⟩]
theorem ok8 : ct8.Ok Tryz.prog tab gh := Ct.lift (E := ⟨Tryz.prog, tab, [ct25, ct30, ct33, ct35, ct38, ct39, ct40], pl8, [], gh⟩) ⟨tabOk, ⟨ok25, ok30, ok33, ok35, ok38, ok39, ok40, trivial⟩, mo, trivial, ghUp⟩ 9 ct8 fun x Φ => by
  have h : ct8.W x Φ = topF ⟨Tryz.prog, tab, [ct25, ct30, ct33, ct35, ct38, ct39, ct40], pl8, [], gh⟩ 9 ct8.f ct8.ps ct8.rs ct8.own x Φ := by kernel_rfl
  rw [h]; exact id
def ct15 : Ct DD := ⟨15, [3], [22], [[true]], false, fun x Φ => ref15_First_W x.1 fun y => Φ (y, ())⟩
def pl15 : List PE := [⟨[4, 1, 0, 1, 1], [], [], ⟨[.int, .lst 3], [(0, .kp 0), (3, .own 0), (4, .v .int)], [], [3], []⟩⟩]
theorem ok15 : ct15.Ok Tryz.prog tab gh := Ct.lift (E := ⟨Tryz.prog, tab, [], pl15, [], gh⟩) ⟨tabOk, trivial, mo, trivial, ghUp⟩ 9 ct15 fun x Φ => by
  have h : ct15.W x Φ = topF ⟨Tryz.prog, tab, [], pl15, [], gh⟩ 9 ct15.f ct15.ps ct15.rs ct15.own x Φ := by kernel_rfl
  rw [h]; exact id
def ct10 : Ct DD := ⟨10, [22, 22], [4], [[false]], true, fun x Φ => slices_Equal_int_int_W x.1 x.2.1 fun y => Φ (y, ())⟩
def pl10 : List PE := [⟨[4, 1, 0, 1, 1], [], [], ⟨[.int], [(0, .kp 0), (1, .kp 1), (12, .kp 9), (13, .v .int)], [], [], []⟩⟩]
theorem ok10 : ct10.Ok Tryz.prog tab gh := Ct.lift (E := ⟨Tryz.prog, tab, [], pl10, [], gh⟩) ⟨tabOk, trivial, mo, trivial, ghUp⟩ 9 ct10 fun x Φ => by
  have h : ct10.W x Φ = topF ⟨Tryz.prog, tab, [], pl10, [], gh⟩ 9 ct10.f ct10.ps ct10.rs ct10.own x Φ := by kernel_rfl
  rw [h]; exact id
def ct16 : Ct DD := ⟨16, [26, 28], [45, 4, 31], [[false, false, true], [false], [false]], false, fun x Φ => consistency_Conflict_W x.1 x.2.1 fun y => Φ (y.1, y.2.1, y.2.2, ())⟩
def pl16 : List PE := [⟨[4, 1, 0, 1, 1, 11, 0, 1, 1, 1, 1, 12, 0, 1], [], [29, 27, 2, 1, 0], ⟨[.int, .mp 88 3], [(4, .kp 35), (10, .kp 37), (11, .kp 38), (12, .v .int)], [], [], [(28, .map 88 3 true false)]⟩⟩, ⟨[1, 4, 0, 1, 1, 5, 4, 1, 0, 1, 1, 11, 0, 1, 1, 1, 1, 12, 0, 1], [], [45, 44], ⟨[.bool, .mp 88 3], [(4, .kp 35), (7, .v .bool), (10, .kp 37), (11, .kp 38), (12, .kp 46)], [], [], [(28, .map 88 3 true false)]⟩⟩, ⟨[4, 1, 0, 1, 12, 0, 1, 4, 0, 1, 1, 5, 4, 1, 0, 1, 1, 11, 0, 1, 1, 1, 1, 12, 0, 1], [], [57], ⟨[.int, .mp 88 3], [(1, .kp 59), (2, .kp 60), (8, .kp 63), (9, .kp 64), (10, .v .int)], [], [], [(28, .map 88 3 true false)]⟩⟩, ⟨[4, 1, 0, 1, 1, 1, 1, 1, 1, 1, 11, 0, 1, 1, 1], [], [48, 47, 49, 75, 50, 46, 45, 44, 28, 29, 27, 2, 1, 0], ⟨[.int, .lst 3], [(1, .kp 52), (3, .kp 54), (6, .kp 57), (7, .kp 58), (8, .kp 60), (9, .own 0), (28, .kp 81), (29, .v .int)], [], [3], []⟩⟩, ⟨[1, 1, 1, 1, 1, 1, 1, 1, 1, 1, 1, 1, 11, 0, 1, 1, 1], [], [89, 88, 87, 49, 50, 46, 45, 44, 28, 29, 27, 2, 1, 0], ⟨[.bool, .int, .int, .lst 49], [(3, .kp 54), (6, .kp 57), (7, .kp 58), (11, .kp 101)], [(48, 4, [.v .bool]), (47, 45, [.v .int,.v .int,.own 0])], [49], []⟩⟩, ⟨[4, 1, 12, 0, 1, 1, 1, 1, 1, 1, 1, 1, 1, 1, 1, 1, 11, 0, 1, 1, 1], [], [75], ⟨[.int], [(1, .kp 116), (8, .kp 113), (9, .kp 117), (10, .v .int)], [(48, 4, [.kp 83]), (47, 45, [.kp 84,.kp 85,.kp 86])], [], []⟩⟩, ⟨[4, 1, 1, 4, 0, 1, 1, 5, 4, 1, 12, 0, 1, 1, 1, 1, 1, 1, 1, 1, 1, 1, 1, 1, 11, 0, 1, 1, 1], [], [], ⟨[.int], [(1, .kp 116), (4, .kp 124), (8, .kp 113), (9, .kp 117), (10, .kp 119), (15, .kp 126), (16, .kp 127), (17, .v .int)], [(48, 4, [.kp 83]), (47, 45, [.kp 84,.kp 85,.kp 86])], [], []⟩⟩, ⟨[1, 1, 1, 1, 11, 0, 1, 1, 1], [], [50, 46, 45, 44, 28, 29, 27, 2, 1, 0], ⟨[.bool, .int, .int, .mp 3 4, .lst 49], [(1, .kp 52), (3, .kp 54), (6, .kp 57), (7, .kp 58), (8, .kp 60)], [(48, 4, [.v .bool]), (47, 45, [.v .int,.v .int,.own 0])], [49], [(49, .map 3 4 false false)]⟩⟩, ⟨[4, 1, 15, 0, 1, 1, 1, 1, 11, 0, 1, 1, 1], [], [], ⟨[.int, .mp 3 4], [(1, .kp 75), (8, .kp 73), (9, .kp 76), (10, .v .int)], [(48, 4, [.kp 62]), (47, 45, [.kp 63,.kp 64,.kp 65])], [], [(49, .map 3 4 false false)]⟩⟩, ⟨[4, 1, 1, 4, 0, 1, 1, 5, 4, 1, 15, 0, 1, 1, 1, 1, 11, 0, 1, 1, 1], [], [], ⟨[.int, .mp 3 4], [(1, .kp 75), (4, .kp 83), (8, .kp 73), (9, .kp 76), (10, .kp 78), (15, .kp 85), (16, .kp 86), (17, .v .int)], [(48, 4, [.kp 62]), (47, 45, [.kp 63,.kp 64,.kp 65])], [], [(49, .map 3 4 false false)]⟩⟩, ⟨[0, 1, 1, 1, 12, 0, 1], [], [2, 1, 0], ⟨[.bool], [(1, .kp 4), (2, .kp 5), (24, .v .bool)], [], [], []⟩⟩, ⟨[4, 1, 0, 1, 1, 13, 0, 0, 1, 1, 1, 12, 0, 1], [], [], ⟨[.int], [(1, .kp 18), (2, .kp 27), (15, .kp 4), (16, .kp 32), (17, .v .int)], [], [], []⟩⟩]
theorem ok16 : ct16.Ok Tryz.prog tab gh := Ct.lift (E := ⟨Tryz.prog, tab, [ct30, ct33, ct35, ct38, ct39, ct40], pl16, [], gh⟩) ⟨tabOk, ⟨ok30, ok33, ok35, ok38, ok39, ok40, trivial⟩, mo, trivial, ghUp⟩ 9 ct16 fun x Φ => by
  have h : ct16.W x Φ = topF ⟨Tryz.prog, tab, [ct30, ct33, ct35, ct38, ct39, ct40], pl16, [], gh⟩ 9 ct16.f ct16.ps ct16.rs ct16.own x Φ := by kernel_rfl
  rw [h]; exact id
def ct18 : Ct DD := ⟨18, [26], [4], [[false]], true, fun x Φ => consistency_Distinct_W x.1 fun y => Φ (y, ())⟩
def pl18 : List PE := [⟨[4, 1, 0, 1, 1, 11, 0, 1, 1], [], [3, 1, 0], ⟨[.int, .mp 88 3], [(4, .kp 9), (10, .kp 11), (11, .kp 12), (12, .v .int)], [], [], [(2, .map 88 3 true false)]⟩⟩, ⟨[1, 4, 0, 1, 1, 5, 4, 1, 0, 1, 1, 11, 0, 1, 1], [], [22, 21], ⟨[.bool, .mp 88 3], [(4, .kp 9), (7, .v .bool), (10, .kp 11), (11, .kp 12), (12, .kp 23)], [], [], [(2, .map 88 3 true false)]⟩⟩, ⟨[4, 1, 0, 1, 12, 0, 1, 4, 0, 1, 1, 5, 4, 1, 0, 1, 1, 11, 0, 1, 1], [], [34], ⟨[.int, .mp 88 3], [(1, .kp 36), (2, .kp 37), (8, .kp 40), (9, .kp 41), (10, .v .int)], [], [], [(2, .map 88 3 true false)]⟩⟩]
theorem ok18 : ct18.Ok Tryz.prog tab gh := Ct.lift (E := ⟨Tryz.prog, tab, [ct30], pl18, [], gh⟩) ⟨tabOk, ⟨ok30, trivial⟩, mo, trivial, ghUp⟩ 9 ct18 fun x Φ => by
  have h : ct18.W x Φ = topF ⟨Tryz.prog, tab, [ct30], pl18, [], gh⟩ 9 ct18.f ct18.ps ct18.rs ct18.own x Φ := by kernel_rfl
  rw [h]; exact id
def ct17 : Ct DD := ⟨17, [3, 5], [23], [[true]], false, fun x Φ => law18_awake_1_W x.1 x.2.1 fun y => Φ (y, ())⟩
def pl17 : List PE := []
theorem ok17 : ct17.Ok Tryz.prog tab gh := Ct.lift (E := ⟨Tryz.prog, tab, [], pl17, [], gh⟩) ⟨tabOk, trivial, mo, trivial, ghUp⟩ 9 ct17 fun x Φ => by
  have h : ct17.W x Φ = topF ⟨Tryz.prog, tab, [], pl17, [], gh⟩ 9 ct17.f ct17.ps ct17.rs ct17.own x Φ := by kernel_rfl
  rw [h]; exact id
def ct32 : Ct DD := ⟨32, [43, 43], [4], [[false]], true, fun x Φ => ref03_SameSectors_W x.1 x.2.1 fun y => Φ (y, ())⟩
def pl32 : List PE := [⟨[4, 1, 0, 1, 1], [], [], ⟨[.int], [(0, .kp 0), (1, .kp 1), (5, .v .int)], [], [], []⟩⟩]
theorem ok32 : ct32.Ok Tryz.prog tab gh := Ct.lift (E := ⟨Tryz.prog, tab, [], pl32, [], gh⟩) ⟨tabOk, trivial, mo, trivial, ghUp⟩ 9 ct32 fun x Φ => by
  have h : ct32.W x Φ = topF ⟨Tryz.prog, tab, [], pl32, [], gh⟩ 9 ct32.f ct32.ps ct32.rs ct32.own x Φ := by kernel_rfl
  rw [h]; exact id
def ct19 : Ct DD := ⟨19, [23, 23], [4], [[false]], true, fun x Φ => ref03_SameWrites_W x.1 x.2.1 fun y => Φ (y, ())⟩
def pl19 : List PE := [⟨[4, 1, 0, 1, 1], [], [], ⟨[.int], [(0, .kp 0), (1, .kp 1), (5, .v .int)], [], [], []⟩⟩]
theorem ok19 : ct19.Ok Tryz.prog tab gh := Ct.lift (E := ⟨Tryz.prog, tab, [ct32], pl19, [], gh⟩) ⟨tabOk, ⟨ok32, trivial⟩, mo, trivial, ghUp⟩ 9 ct19 fun x Φ => by
  have h : ct19.W x Φ = topF ⟨Tryz.prog, tab, [ct32], pl19, [], gh⟩ 9 ct19.f ct19.ps ct19.rs ct19.own x Φ := by kernel_rfl
  rw [h]; exact id
def ct5 : Ct DD := ⟨5, [], [4], [[false]], true, fun _ Φ => law18_awake_W fun y => Φ (y, ())⟩
def pl5 : List PE := [⟨[1, 1], [0, 1, 2], [3, 0, 1, 2], ⟨[], [(1, .kp 6)], [], [], []⟩⟩, ⟨[4, 1, 0, 1, 1], [], [14, 13, 12, 11, 10], ⟨[.int], [(1, .kp 6), (28, .kp 19), (29, .kp 20), (30, .v .int)], [], [], []⟩⟩, ⟨[1, 5, 4, 1, 0, 1, 1], [], [], ⟨[], [(1, .kp 6), (28, .kp 19), (29, .kp 20), (30, .kp 22)], [], [], []⟩⟩]
theorem ok5 : ct5.Ok Tryz.prog tab gh := Ct.lift (E := ⟨Tryz.prog, tab, [ct6, ct8, ct10, ct13, ct14, ct15, ct16, ct17, ct18, ct19], pl5, [], gh⟩) ⟨tabOk, ⟨ok6, ok8, ok10, ok13, ok14, ok15, ok16, ok17, ok18, ok19, trivial⟩, mo, trivial, ghUp⟩ 9 ct5 fun x Φ => by
  have h : ct5.W x Φ = topF ⟨Tryz.prog, tab, [ct6, ct8, ct10, ct13, ct14, ct15, ct16, ct17, ct18, ct19], pl5, [], gh⟩ 9 ct5.f ct5.ps ct5.rs ct5.own x Φ := by kernel_rfl
  rw [h]; exact id
def ct68 : Ct DD := ⟨68, [22], [3], [[false]], true, fun x Φ => ref07_Sizes_W x.1 fun y => Φ (y, ())⟩
def pl68 : List PE := [⟨[4, 1, 0, 1, 1], [], [], ⟨[.int], [(0, .kp 0), (3, .v .int)], [], [], []⟩⟩]
theorem ok68 : ct68.Ok Tryz.prog tab gh := Ct.lift (E := ⟨Tryz.prog, tab, [], pl68, [], gh⟩) ⟨tabOk, trivial, mo, trivial, ghUp⟩ 9 ct68 fun x Φ => by
  have h : ct68.W x Φ = topF ⟨Tryz.prog, tab, [], pl68, [], gh⟩ 9 ct68.f ct68.ps ct68.rs ct68.own x Φ := by kernel_rfl
  rw [h]; exact id
theorem okT68 : ct68.Ok Tryz.prog tab ghT := Ct.lift (E := ⟨Tryz.prog, tab, [], pl68, [], ghT⟩) ⟨tabOk, trivial, mo, trivial, fun _ _ _ _ => trivial⟩ 9 ct68 fun x Φ => by
  have h : ct68.W x Φ = topF ⟨Tryz.prog, tab, [], pl68, [], ghT⟩ 9 ct68.f ct68.ps ct68.rs ct68.own x Φ := by kernel_rfl
  rw [h]; exact id
def ct69 : Ct DD := ⟨69, [22, 45], [3], [[false]], true, fun x Φ => ref07_FitsSizes_W x.1 x.2.1 fun y => Φ (y, ())⟩
def pl69 : List PE := []
theorem ok69 : ct69.Ok Tryz.prog tab gh := Ct.lift (E := ⟨Tryz.prog, tab, [], pl69, [], gh⟩) ⟨tabOk, trivial, mo, trivial, ghUp⟩ 9 ct69 fun x Φ => by
  have h : ct69.W x Φ = topF ⟨Tryz.prog, tab, [], pl69, [], gh⟩ 9 ct69.f ct69.ps ct69.rs ct69.own x Φ := by kernel_rfl
  rw [h]; exact id
theorem okT69 : ct69.Ok Tryz.prog tab ghT := Ct.lift (E := ⟨Tryz.prog, tab, [], pl69, [], ghT⟩) ⟨tabOk, trivial, mo, trivial, fun _ _ _ _ => trivial⟩ 9 ct69 fun x Φ => by
  have h : ct69.W x Φ = topF ⟨Tryz.prog, tab, [], pl69, [], ghT⟩ 9 ct69.f ct69.ps ct69.rs ct69.own x Φ := by kernel_rfl
  rw [h]; exact id
def ct71 : Ct DD := ⟨71, [3], [69], [[false, false]], true, fun x Φ => ref15_issue_W x.1 fun y => Φ (y, ())⟩
def pl71 : List PE := []
theorem ok71 : ct71.Ok Tryz.prog tab gh := Ct.lift (E := ⟨Tryz.prog, tab, [], pl71, [], gh⟩) ⟨tabOk, trivial, mo, trivial, ghUp⟩ 9 ct71 fun x Φ => by
  have h : ct71.W x Φ = topF ⟨Tryz.prog, tab, [], pl71, [], gh⟩ 9 ct71.f ct71.ps ct71.rs ct71.own x Φ := by kernel_rfl
  rw [h]; exact id
def ct70 : Ct DD := ⟨70, [24, 69], [3], [[false]], true, fun x Φ => ref15_At_W x.1 x.2.1 fun y => Φ (y, ())⟩
def pl70 : List PE := [⟨[4, 1, 0, 1], [], [0], ⟨[.int], [(0, .kp 1), (3, .kp 3), (5, .v .int)], [], [], []⟩⟩]
theorem ok70 : ct70.Ok Tryz.prog tab gh := Ct.lift (E := ⟨Tryz.prog, tab, [], pl70, [], gh⟩) ⟨tabOk, trivial, mo, trivial, ghUp⟩ 9 ct70 fun x Φ => by
  have h : ct70.W x Φ = topF ⟨Tryz.prog, tab, [], pl70, [], gh⟩ 9 ct70.f ct70.ps ct70.rs ct70.own x Φ := by kernel_rfl
  rw [h]; exact id
def ct42 : Ct DD := ⟨42, [26], [3], [[false]], true, fun x Φ => ref15_Check_W x.1 fun y => Φ (y, ())⟩
def pl42 : List PE := [⟨[4, 1, 0, 1, 1, 1], [], [0], ⟨[.int], [(1, .kp 2), (4, .v .int)], [], [], []⟩⟩, ⟨[4, 1, 0, 1, 1, 1, 1, 1], [], [0], ⟨[.int, .int], [(1, .kp 2), (6, .v .int), (7, .v .int)], [], [], []⟩⟩]
theorem ok42 : ct42.Ok Tryz.prog tab gh := Ct.lift (E := ⟨Tryz.prog, tab, [ct68, ct69, ct70, ct71], pl42, [], gh⟩) ⟨tabOk, ⟨ok68, ok69, ok70, ok71, trivial⟩, mo, trivial, ghUp⟩ 9 ct42 fun x Φ => by
  have h : ct42.W x Φ = topF ⟨Tryz.prog, tab, [ct68, ct69, ct70, ct71], pl42, [], gh⟩ 9 ct42.f ct42.ps ct42.rs ct42.own x Φ := by kernel_rfl
  rw [h]; exact id
def ct45 : Ct DD := ⟨45, [28], [22], [[true]], false, fun x Φ => ref07_SizesOf_W x.1 fun y => Φ (y, ())⟩
def pl45 : List PE := [⟨[4, 1, 0, 1, 1], [], [], ⟨[.int, .lst 3], [(0, .kp 0), (3, .own 0), (4, .v .int)], [], [3], []⟩⟩]
theorem ok45 : ct45.Ok Tryz.prog tab gh := Ct.lift (E := ⟨Tryz.prog, tab, [], pl45, [], gh⟩) ⟨tabOk, trivial, mo, trivial, ghUp⟩ 9 ct45 fun x Φ => by
  have h : ct45.W x Φ = topF ⟨Tryz.prog, tab, [], pl45, [], gh⟩ 9 ct45.f ct45.ps ct45.rs ct45.own x Φ := by kernel_rfl
  rw [h]; exact id
theorem okT45 : ct45.Ok Tryz.prog tab ghT := Ct.lift (E := ⟨Tryz.prog, tab, [], pl45, [], ghT⟩) ⟨tabOk, trivial, mo, trivial, fun _ _ _ _ => trivial⟩ 9 ct45 fun x Φ => by
  have h : ct45.W x Φ = topF ⟨Tryz.prog, tab, [], pl45, [], ghT⟩ 9 ct45.f ct45.ps ct45.rs ct45.own x Φ := by kernel_rfl
  rw [h]; exact id
def ct43 : Ct DD := ⟨43, [28], [3], [[false]], true, fun x Φ => ref07_Check_W x.1 fun y => Φ (y, ())⟩
def pl43 : List PE := []
theorem ok43 : ct43.Ok Tryz.prog tab gh := Ct.lift (E := ⟨Tryz.prog, tab, [ct45, ct68], pl43, [], gh⟩) ⟨tabOk, ⟨ok45, ok68, trivial⟩, mo, trivial, ghUp⟩ 9 ct43 fun x Φ => by
  have h : ct43.W x Φ = topF ⟨Tryz.prog, tab, [ct45, ct68], pl43, [], gh⟩ 9 ct43.f ct43.ps ct43.rs ct43.own x Φ := by kernel_rfl
  rw [h]; exact id
theorem okT43 : ct43.Ok Tryz.prog tab ghT := Ct.lift (E := ⟨Tryz.prog, tab, [ct45, ct68], pl43, [], ghT⟩) ⟨tabOk, ⟨okT45, okT68, trivial⟩, mo, trivial, fun _ _ _ _ => trivial⟩ 9 ct43 fun x Φ => by
  have h : ct43.W x Φ = topF ⟨Tryz.prog, tab, [ct45, ct68], pl43, [], ghT⟩ 9 ct43.f ct43.ps ct43.rs ct43.own x Φ := by kernel_rfl
  rw [h]; exact id
def ct44 : Ct DD := ⟨44, [22, 22], [4], [[false]], true, fun x Φ => ref15_SameInts_W x.1 x.2.1 fun y => Φ (y, ())⟩
def pl44 : List PE := [⟨[4, 1, 0, 1, 1], [], [], ⟨[.int], [(0, .kp 0), (1, .kp 1), (5, .v .int)], [], [], []⟩⟩]
theorem ok44 : ct44.Ok Tryz.prog tab gh := Ct.lift (E := ⟨Tryz.prog, tab, [], pl44, [], gh⟩) ⟨tabOk, trivial, mo, trivial, ghUp⟩ 9 ct44 fun x Φ => by
  have h : ct44.W x Φ = topF ⟨Tryz.prog, tab, [], pl44, [], gh⟩ 9 ct44.f ct44.ps ct44.rs ct44.own x Φ := by kernel_rfl
  rw [h]; exact id
def ct56 : Ct DD := ⟨56, [45, 3, 3], [49, 4], [[false, false, false, false, false, false, false, false], [false]], true, fun x Φ => ref18_Content_W x.1 x.2.1 x.2.2.1 fun y => Φ (y.1, y.2, ())⟩
def pl56 : List PE := [⟨[0, 1], [], [1, 0], ⟨[.bool], [(2, .kp 4), (3, .kp 5), (6, .kp 6), (27, .v .bool)], [], [], []⟩⟩]
theorem ok56 : ct56.Ok Tryz.prog tab gh := Ct.lift (E := ⟨Tryz.prog, tab, [], pl56, [], gh⟩) ⟨tabOk, trivial, mo, trivial, ghUp⟩ 9 ct56 fun x Φ => by
  have h : ct56.W x Φ = topF ⟨Tryz.prog, tab, [], pl56, [], gh⟩ 9 ct56.f ct56.ps ct56.rs ct56.own x Φ := by kernel_rfl
  rw [h]; exact id
def ct46 : Ct DD := ⟨46, [26], [4], [[false]], true, fun x Φ => ref18_Distinct_W x.1 fun y => Φ (y, ())⟩
def pl46 : List PE := [⟨[4, 1, 0, 1, 1], [], [0], ⟨[.int], [(1, .kp 2), (3, .v .int)], [], [], []⟩⟩, ⟨[4, 1, 1, 4, 0, 1, 5, 4, 1, 0, 1, 1], [], [11], ⟨[.int], [(1, .kp 2), (3, .kp 12), (4, .kp 21), (5, .v .int)], [], [], []⟩⟩, ⟨[4, 1, 1, 4, 0, 1, 5, 4, 1, 1, 4, 0, 1, 5, 4, 1, 0, 1, 1], [], [], ⟨[.int], [(1, .kp 2), (3, .kp 12), (4, .kp 21), (5, .kp 26), (6, .v .int)], [], [], []⟩⟩]
theorem ok46 : ct46.Ok Tryz.prog tab gh := Ct.lift (E := ⟨Tryz.prog, tab, [ct42, ct56], pl46, [], gh⟩) ⟨tabOk, ⟨ok42, ok56, trivial⟩, mo, trivial, ghUp⟩ 9 ct46 fun x Φ => by
  have h : ct46.W x Φ = topF ⟨Tryz.prog, tab, [ct42, ct56], pl46, [], gh⟩ 9 ct46.f ct46.ps ct46.rs ct46.own x Φ := by kernel_rfl
  rw [h]; exact id
def ct22 : Ct DD := ⟨22, [26, 28], [3], [[false]], true, fun x Φ => ref18_right_W x.1 x.2.1 fun y => Φ (y, ())⟩
def pl22 : List PE := []
theorem ok22 : ct22.Ok Tryz.prog tab gh := Ct.lift (E := ⟨Tryz.prog, tab, [ct42, ct43, ct44, ct45, ct46], pl22, [], gh⟩) ⟨tabOk, ⟨ok42, ok43, ok44, ok45, ok46, trivial⟩, mo, trivial, ghUp⟩ 9 ct22 fun x Φ => by
  have h : ct22.W x Φ = topF ⟨Tryz.prog, tab, [ct42, ct43, ct44, ct45, ct46], pl22, [], gh⟩ 9 ct22.f ct22.ps ct22.rs ct22.own x Φ := by kernel_rfl
  rw [h]; exact id
def ct26 : Ct DD := ⟨26, [26, 3, 3, 49], [3], [[false]], true, fun x Φ => ref18_author_W x.1 x.2.1 x.2.2.1 x.2.2.2.1 fun y => Φ (y, ())⟩
def pl26 : List PE := [⟨[4, 1, 0, 1], [], [1, 0], ⟨[.int], [(1, .kp 3), (2, .kp 4), (4, .kp 6), (7, .kp 7), (9, .v .int)], [], [], []⟩⟩, ⟨[1, 4, 0, 1, 5, 4, 1, 0, 1], [], [21], ⟨[.bool], [(1, .kp 3), (2, .kp 4), (4, .kp 6), (7, .kp 7), (9, .kp 22), (35, .v .bool)], [], [], []⟩⟩]
theorem ok26 : ct26.Ok Tryz.prog tab gh := Ct.lift (E := ⟨Tryz.prog, tab, [ct56], pl26, [], gh⟩) ⟨tabOk, ⟨ok56, trivial⟩, mo, trivial, ghUp⟩ 9 ct26 fun x Φ => by
  have h : ct26.W x Φ = topF ⟨Tryz.prog, tab, [ct56], pl26, [], gh⟩ 9 ct26.f ct26.ps ct26.rs ct26.own x Φ := by kernel_rfl
  rw [h]; exact id
def ct72 : Ct DD := ⟨72, [22, 3], [4], [[false]], true, fun x Φ => ref15_Set_W x.1 x.2.1 fun y => Φ (y, ())⟩
def pl72 : List PE := [⟨[4, 1, 0, 1], [], [], ⟨[.int], [(0, .kp 0), (1, .kp 1), (5, .v .int)], [], [], []⟩⟩]
theorem ok72 : ct72.Ok Tryz.prog tab gh := Ct.lift (E := ⟨Tryz.prog, tab, [], pl72, [], gh⟩) ⟨tabOk, trivial, mo, trivial, ghUp⟩ 9 ct72 fun x Φ => by
  have h : ct72.W x Φ = topF ⟨Tryz.prog, tab, [], pl72, [], gh⟩ 9 ct72.f ct72.ps ct72.rs ct72.own x Φ := by kernel_rfl
  rw [h]; exact id
def ct57 : Ct DD := ⟨57, [26, 22], [3], [[false]], true, fun x Φ => ref16_right_W x.1 x.2.1 fun y => Φ (y, ())⟩
def pl57 : List PE := []
theorem ok57 : ct57.Ok Tryz.prog tab gh := Ct.lift (E := ⟨Tryz.prog, tab, [ct42, ct72], pl57, [], gh⟩) ⟨tabOk, ⟨ok42, ok72, trivial⟩, mo, trivial, ghUp⟩ 9 ct57 fun x Φ => by
  have h : ct57.W x Φ = topF ⟨Tryz.prog, tab, [ct42, ct72], pl57, [], gh⟩ 9 ct57.f ct57.ps ct57.rs ct57.own x Φ := by kernel_rfl
  rw [h]; exact id
def ct58 : Ct DD := ⟨58, [26], [117], [[true]], false, fun x Φ => ref16_Table_W x.1 fun y => Φ (y, ())⟩
def pl58 : List PE := [⟨[4, 1, 0, 1, 1, 1], [], [2, 0], ⟨[.int, .lst 3], [(1, .kp 4), (3, .kp 9), (4, .own 0), (5, .kp 15), (6, .v .int)], [], [3], []⟩⟩, ⟨[4, 1, 0, 1, 1, 1, 1], [], [0], ⟨[.int, .lst 3, .lst 3], [(1, .kp 4), (3, .kp 9), (4, .own 0), (5, .own 1), (7, .v .int)], [], [3, 3], []⟩⟩, ⟨[4, 1, 0, 1, 1, 1, 1, 1, 1], [], [26, 27, 0], ⟨[.int, .lst 96], [(3, .kp 9), (4, .kp 28), (5, .kp 29), (8, .own 0), (9, .v .int)], [], [96], []⟩⟩, ⟨[4, 1, 0, 1, 4, 0, 1, 5, 4, 1, 0, 1, 1, 1, 1, 1, 1], [], [37], ⟨[.int, .lst 4], [(3, .kp 9), (4, .kp 28), (5, .kp 29), (8, .kp 39), (9, .kp 40), (10, .own 0), (11, .v .int)], [], [4], []⟩⟩]
theorem ok58 : ct58.Ok Tryz.prog tab gh := Ct.lift (E := ⟨Tryz.prog, tab, [], pl58, [], gh⟩) ⟨tabOk, trivial, mo, trivial, ghUp⟩ 9 ct58 fun x Φ => by
  have h : ct58.W x Φ = topF ⟨Tryz.prog, tab, [], pl58, [], gh⟩ 9 ct58.f ct58.ps ct58.rs ct58.own x Φ := by kernel_rfl
  rw [h]; exact id
def ct59 : Ct DD := ⟨59, [22, 3], [4], [[false]], true, fun x Φ => ref15_Has_W x.1 x.2.1 fun y => Φ (y, ())⟩
def pl59 : List PE := [⟨[4, 1, 0, 1], [], [], ⟨[.int], [(0, .kp 0), (1, .kp 1), (5, .v .int)], [], [], []⟩⟩]
theorem ok59 : ct59.Ok Tryz.prog tab gh := Ct.lift (E := ⟨Tryz.prog, tab, [], pl59, [], gh⟩) ⟨tabOk, trivial, mo, trivial, ghUp⟩ 9 ct59 fun x Φ => by
  have h : ct59.W x Φ = topF ⟨Tryz.prog, tab, [], pl59, [], gh⟩ 9 ct59.f ct59.ps ct59.rs ct59.own x Φ := by kernel_rfl
  rw [h]; exact id
def ct47 : Ct DD := ⟨47, [26, 22], [22, 3], [[true], [false]], false, fun x Φ => ref16_Least_W x.1 x.2.1 fun y => Φ (y.1, y.2, ())⟩
def pl47 : List PE := [⟨[4, 1, 0, 1, 1, 1, 1], [], [1, 0], ⟨[.int, .lst 3], [(1, .kp 3), (2, .kp 4), (7, .kp 15), (8, .own 0), (9, .v .int)], [], [3], []⟩⟩, ⟨[4, 1, 0, 1, 4, 0, 1, 5, 4, 1, 0, 1, 1, 1, 1], [], [21], ⟨[.bool, .int], [(1, .kp 3), (2, .kp 4), (7, .kp 15), (8, .kp 22), (9, .kp 23), (10, .v .bool), (11, .v .int)], [], [], []⟩⟩]
theorem ok47 : ct47.Ok Tryz.prog tab gh := Ct.lift (E := ⟨Tryz.prog, tab, [ct57, ct58, ct59], pl47, [], gh⟩) ⟨tabOk, ⟨ok57, ok58, ok59, trivial⟩, mo, trivial, ghUp⟩ 9 ct47 fun x Φ => by
  have h : ct47.W x Φ = topF ⟨Tryz.prog, tab, [ct57, ct58, ct59], pl47, [], gh⟩ 9 ct47.f ct47.ps ct47.rs ct47.own x Φ := by kernel_rfl
  rw [h]; exact id
def ct73 : Ct DD := ⟨73, [22], [28, 3], [[true], [false]], false, fun x Φ => ref07_New_W x.1 fun y => Φ (y.1, y.2, ())⟩
def pl73 : List PE := [⟨[4, 1, 0, 1, 1, 1], [], [], ⟨[.int, .lst 43], [(0, .kp 0), (5, .own 0), (6, .v .int)], [], [43], []⟩⟩]
theorem ok73 : ct73.Ok Tryz.prog tab gh := Ct.lift (E := ⟨Tryz.prog, tab, [ct68], pl73, [], gh⟩) ⟨tabOk, ⟨ok68, trivial⟩, mo, trivial, ghUp⟩ 9 ct73 fun x Φ => by
  have h : ct73.W x Φ = topF ⟨Tryz.prog, tab, [ct68], pl73, [], gh⟩ 9 ct73.f ct73.ps ct73.rs ct73.own x Φ := by kernel_rfl
  rw [h]; exact id
def ct94 : Ct DD := ⟨94, [28, 45], [3], [[false]], true, fun x Φ => ref07_Fits_W x.1 x.2.1 fun y => Φ (y, ())⟩
def pl94 : List PE := []
theorem okT94 : ct94.Ok Tryz.prog tab ghT := Ct.lift (E := ⟨Tryz.prog, tab, [ct43, ct45, ct69], pl94, [], ghT⟩) ⟨tabOk, ⟨okT43, okT45, okT69, trivial⟩, mo, trivial, fun _ _ _ _ => trivial⟩ 9 ct94 fun x Φ => by
  have h : ct94.W x Φ = topF ⟨Tryz.prog, tab, [ct43, ct45, ct69], pl94, [], ghT⟩ 9 ct94.f ct94.ps ct94.rs ct94.own x Φ := by kernel_rfl
  rw [h]; exact id
theorem ref07_Check_lift {H : Hp} (x0 : List (List Sec)) {A1 : Option Addr} {n1 c1 : Nat} {s1 : List Value} (hF1 : Fz (α := List Sec) H A1 n1 c1 x0 s1) {Φ : Int → Prop} (hm : ref07_Check_W x0 Φ) : RetP Tryz.prog 43 #[.slice A1 n1 c1] H (fun _ v L => ∃ y, Φ y ∧ v = .int .i64 (y) ∧ L = []) := by
  refine RetP.mono (okT43 (x0, ()) (fun y => Φ y.1) hm H [.slice A1 n1 c1] trivial ⟨_, [.slice A1 n1 c1], _, rfl, by rw [pk28], (show Dt.rd (α := List (List Sec)) H _ _ from ⟨A1, n1, c1, s1, rfl, hF1⟩), rfl⟩) fun H' v L _ ⟨y, hy, hr⟩ => ?_
  obtain ⟨ρ, _, _, _, _, h1, h2⟩ := hr 0 (fun _ => none) (fun _ _ => rfl) _ _ _ (show resE Tryz.prog tab _ _ y 0 = some (.i .i64 y.1, [], 0) by kernel_rfl)
  exact ⟨y.1, hy, h1, h2⟩
theorem ref07_CopyE_lift {H : Hp} (x0 : List (List Sec)) {A1 : Option Addr} {n1 c1 : Nat} {s1 : List Value} (hF1 : Fz (α := List Sec) H A1 n1 c1 x0 s1) {Φ : List (List Sec) → Prop} (hm : ref07_CopyE_W x0 Φ) : RetP Tryz.prog 93 #[.slice A1 n1 c1] H (fun H' v L => ∃ y, Φ y ∧ ∃ A38, ∃ n38, ∃ c38, ∃ s38, ∃ rs39, v = .slice A38 n38 c38 ∧ DeepL (α := List Sec) [49] H' s38 y rs39 ∧ n38 = y.length ∧ L = .row (.slice A38 n38 c38) 43 1 n38 s38 :: rs39) := by
 refine RetP.of_code Tryz.func93 rfl (nb rfl) fun w0 hM => ?_
 refine CW.sr <| RW.st (Ex.assign (.slice none 0 0) rfl) rfl <| RW.nil <| CW.sr <| RW.st (Ex.assign (.slice none 0 0) rfl) rfl <| RW.nil <| CW.seq <| CW.sr <| RW.st (Ex.assign (.int .i64 0) rfl) rfl <| RW.nil <| CW.block ?_
 obtain ⟨m37, hm⟩ := hm
 skip
 replace hM := hM.nilRow 43 1
 refine CW.loop (β := Nat) (fun n σ w => ∃ (v4 : List (List Sec)), ∃ (A5 : Option Addr), ∃ (n6 : Nat), ∃ (c7 : Nat), ∃ (s8 : List Value), ∃ (rs9 : List Ent), ∃ (v12 : Int), ∃ Hk2, H.le Hk2 ∧ (∃ τ, σ = sl [(0, .slice A1 n1 c1), (3, .slice A5 n6 c7), (4, .int .i64 v12)] τ) ∧ Mem w0 H w Hk2 (.row (.slice A5 n6 c7) 43 1 n6 s8 :: rs9) ∧ (DeepL (α := List Sec) [49] Hk2 s8 v4 rs9) ∧ (n6 = v4.length) ∧ LoopN (ref07_CopyE_L1 x0 Φ) n (v4, v12)) (fun n => n) m37 ⟨([] : List (List Sec)), none, 0, 0, [], [], 0, H, (Hp.le.refl _), sl_canon ⟨rfl, rfl, rfl, trivial⟩, hM, (DeepL.nil : DeepL (α := List Sec) [49] H [] [] []), rfl, hm⟩ ?_
 rintro k13 _ w ⟨v4, A5, n6, c7, s8, rs9, v12, Hk2, hle3, ⟨τ, rfl⟩, hM, hd10, hn11, hm⟩
 obtain _ | k13 := k13
 · exact hm.elim
 replace hm : (ref07_CopyE_L1 x0 Φ) (v4, v12) (LoopN (ref07_CopyE_L1 x0 Φ) k13) := hm
 generalize hrec14 : LoopN (ref07_CopyE_L1 x0 Φ) k13 = rec1 at hm
 refine CW.seq <| CW.sr <| RW.st (Ex.move (.int .i64 v12) rfl) rfl <| RW.st (Ex.move (.slice A1 n1 c1) rfl) rfl <| RW.st (Ex.lenN st28.1 rfl hF1.hn) rfl <| RW.st (Ex.lss rfl rfl) rfl <| RW.nil ?_
 refine CW.cond_dec (p := v12 < (x0.length : Int)) rfl (fun hc15 => ?_) (fun hc15 => ?_)
 ·
  replace hm := And.left hm hc15
  refine CW.skip <| CW.seq <| CW.block <| CW.sr <| RW.st (Ex.assign (.slice none 0 0) rfl) rfl <| RW.nil <| CW.region <| RW.st (Ex.move (.slice A5 n6 c7) rfl) rfl <| RW.st (Ex.move (.slice none 0 0) rfl) rfl <| RW.st (Ex.move (.slice A1 n1 c1) rfl) rfl <| RW.st (Ex.move (.int .i64 v12) rfl) rfl ?_
  obtain ⟨hg16, hm⟩ := hm
  refine RW.st (Ex.index st28 rfl rfl v12.toNat (hF1.ne hg16) hg16.nat (hF1.lt hg16)) rfl ?_
  obtain ⟨_, ⟨A17, n17, c17, s17, rfl, hF17⟩, hx18⟩ := DtL.getI (α := List Sec) (hF1.mono hle3).dat hg16
  refine RW.st (Ex.loadE hM hle3 hF1.rdc to43 rfl (hx18 0 _ rfl)) rfl ?_
  replace hM := hM.nilRow 49 8
  obtain ⟨hg25, hm⟩ := hm
  refine RW.appendF (α := Sec) (xs := ([] : List Sec)) (ys := (ix x0 v12)) hM 0 st43 rfl rfl (DtL.nil : DtL _ [] ([] : List Sec)) rfl rfl (Hp.le.refl _) hF17 hg25 rfl rfl ?_; intro A19 n20 c21 s22 w hd23 hn24 hM
  refine RW.buildSlice hM st28 tz43 [(0, .slice A19 n20 c21)] [.slice A19 n20 c21] (by decide) rfl rfl rfl (by decide) rfl rfl ?_; intro b26 w hM
  obtain ⟨hg32, hm⟩ := hm
  refine RW.appendH (α := List Sec) (xs := v4) (x0 := (([] : List Sec) ++ (ix x0 v12))) hM 2 st28 rfl rfl hn11 rfl (fun j u hj => hM.rowCell (k := 0) rfl rfl hj) rfl (oneAll ⟨rfl, trivial⟩) hg32 rfl rfl ?_; intro A28 n29 c30 w hn31 hM
  obtain ⟨s33, rs34, hd35, hM⟩ := Mem.adopt (α := List Sec) (Ts := [49]) (x := (([] : List Sec) ++ (ix x0 v12))) [.row (.slice (some ⟨b26, 0, none⟩) 1 1) 43 1 1 [.slice A19 n20 c21], .row (.slice A28 n29 c30) 43 1 n29 (s8 ++ [.slice A19 n20 c21])] (Mem.pickT (L1 := [.row (.slice (some ⟨b26, 0, none⟩) 1 1) 43 1 1 [.slice A19 n20 c21], .row (.slice A19 n20 c21) 49 8 n20 s22, .row (.slice A28 n29 c30) 43 1 n29 (s8 ++ [.slice A19 n20 c21])]) (T := rs9) hM [1, 0, 2] rfl rfl) 1 rfl hd10 ⟨A19, n20, c21, s22, rfl, rfl, hd23, hn24⟩
  replace hM : Mem w0 H w Hk2 (.row (.slice A28 n29 c30) 43 1 n29 s33 :: rs34) := Mem.pickT (L1 := [.row (.slice (some ⟨b26, 0, none⟩) 1 1) 43 1 1 [.slice A19 n20 c21], .row (.slice A28 n29 c30) 43 1 n29 s33]) (T := rs34) hM [1] rfl rfl
  refine RW.st (Ex.assign (.slice A28 n29 c30) rfl) rfl <| RW.nil <| CW.region <| RW.st (Ex.move (.int .i64 v12) rfl) rfl ?_
  obtain ⟨hg36, hm⟩ := hm
  refine RW.st (Ex.add rfl rfl hg36.1 hg36.2) rfl <| RW.st (Ex.assign (.int .i64 (v12 + 1)) rfl) rfl <| RW.nil ?_
  exact And.intro rfl ⟨k13, ⟨(v4 ++ [(([] : List Sec) ++ (ix x0 v12))]), A28, n29, c30, s33, rs34, v12 + 1, Hk2, hle3.trans (Hp.le.refl _), sl_canon ⟨rfl, rfl, rfl, trivial⟩, hM, hd35, hn31, (by rw [hrec14]; exact hm)⟩, Nat.lt_succ_self _⟩
 ·
  replace hm := And.right hm hc15
  refine CW.exit ?_
  refine CW.sr <| RW.st (Ex.move (.slice A5 n6 c7) rfl) rfl <| RW.st (Ex.assign (.slice A5 n6 c7) rfl) rfl <| RW.nil <| CW.ret ?_
  refine end_tmp (.inl rfl) rfl (.slice A5 n6 c7) rfl ?_
  exact ⟨_, _, hM, v4, hm, A5, n6, c7, s8, rs9, rfl, hd10, hn11, rfl⟩
theorem ref07_Fits_lift {H : Hp} (x0 : List (List Sec)) (x1 : api_Write) {A1 : Option Addr} {n1 c1 : Nat} {s1 : List Value} (hF1 : Fz (α := List Sec) H A1 n1 c1 x0 s1) {A2 : Option Addr} {n2 c2 : Nat} {s2 : List Value} (hF2 : Fz (α := Sec) H A2 n2 c2 x1.Data s2) {Φ : Int → Prop} (hm : ref07_Fits_W x0 x1 Φ) : RetP Tryz.prog 94 #[.slice A1 n1 c1, .agg #[.int .i64 (x1.Volume), .int .i64 (x1.Start), .slice A2 n2 c2]] H (fun _ v L => ∃ y, Φ y ∧ v = .int .i64 (y) ∧ L = []) := by
  refine RetP.mono (okT94 (x0, x1, ()) (fun y => Φ y.1) hm H [.slice A1 n1 c1, .agg #[.int .i64 (x1.Volume), .int .i64 (x1.Start), .slice A2 n2 c2]] trivial ⟨_, [.slice A1 n1 c1], _, rfl, by rw [pk28], (show Dt.rd (α := List (List Sec)) H _ _ from ⟨A1, n1, c1, s1, rfl, hF1⟩), ⟨_, [.int .i64 (x1.Volume), .int .i64 (x1.Start), .slice A2 n2 c2], _, rfl, by rw [pk45], (show Dt.rd (α := api_Write) H _ _ from ⟨A2, n2, c2, s2, rfl, hF2⟩), rfl⟩⟩) fun H' v L _ ⟨y, hy, hr⟩ => ?_
  obtain ⟨ρ, _, _, _, _, h1, h2⟩ := hr 0 (fun _ => none) (fun _ _ => rfl) _ _ _ (show resE Tryz.prog tab _ _ y 0 = some (.i .i64 y.1, [], 0) by kernel_rfl)
  exact ⟨y.1, hy, h1, h2⟩
theorem ref07_Apply_lift {H : Hp} (x0 : List (List Sec)) (x1 : List api_Write) {A1 : Option Addr} {n1 c1 : Nat} {s1 : List Value} (hF1 : Fz (α := List Sec) H A1 n1 c1 x0 s1) {A2 : Option Addr} {n2 c2 : Nat} {s2 : List Value} (hF2 : Fz (α := api_Write) H A2 n2 c2 x1 s2) {Φ : List (List Sec) × Int × Int → Prop} (hm : ref07_Apply_W x0 x1 Φ) : RetP Tryz.prog 74 #[.slice A1 n1 c1, .slice A2 n2 c2] H (fun H' v L => ∃ y, Φ y ∧ ∃ A70, ∃ n70, ∃ c70, ∃ s70, ∃ rs71, v = .tuple #[.slice A70 n70 c70, .int .i64 (y.2.1), .int .i64 (y.2.2)] ∧ DeepL (α := List Sec) [49] H' s70 y.1 rs71 ∧ n70 = y.1.length ∧ L = .row (.slice A70 n70 c70) 43 1 n70 s70 :: rs71) := by
 refine RetP.of_code Tryz.func74 rfl (nb rfl) fun w0 hM => ?_
 refine CW.sr <| RW.st (Ex.assign (.slice none 0 0) rfl) rfl <| RW.st (Ex.assign (.int .i64 0) rfl) rfl <| RW.st (Ex.assign (.int .i64 0) rfl) rfl <| RW.nil <| CW.seq <| CW.sr <| RW.st (Ex.move (.slice A1 n1 c1) rfl) rfl ?_
 refine RW.callP hM (ref07_Check_lift x0 hF1 hm) en43 rfl rfl rfl rfl ?_; rintro _ w H4 _ hle5 ⟨v3, hm, rfl, rfl⟩ hM
 refine RW.st (Ex.assign (.int .i64 v3) rfl) rfl <| RW.nil <| CW.sr <| RW.st (Ex.move (.int .i64 v3) rfl) rfl <| RW.st (Ex.neq rfl rfl) rfl <| RW.nil ?_
 refine CW.cond_dec (p := v3 ≠ 0) rfl (fun hc6 => ?_) (fun hc6 => ?_)
 ·
  replace hm := And.left hm hc6
  refine CW.sr <| RW.st (Ex.move (.int .i64 v3) rfl) rfl <| RW.st (Ex.assign (.slice none 0 0) rfl) rfl <| RW.st (Ex.assign (.int .i64 0) rfl) rfl <| RW.st (Ex.assign (.int .i64 v3) rfl) rfl <| RW.nil <| CW.ret ?_
  refine thenQ_ret ?_
  refine end_tmp3 (.inl rfl) rfl (.slice none 0 0) (.int .i64 0) (.int .i64 v3) rfl rfl rfl ?_
  replace hM := hM.nilRow 43 1
  exact ⟨_, _, hM, (([] : List (List Sec)), 0, v3), hm, none, 0, 0, [], [], rfl, (DeepL.nil : DeepL (α := List Sec) [49] H4 [] [] []), rfl, rfl⟩
 ·
  replace hm := And.right hm hc6
  refine CW.skip <| CW.sr <| RW.st (Ex.move (.slice A1 n1 c1) rfl) rfl ?_
  refine RW.callP hM (ref07_CopyE_lift x0 (hF1.mono hle5) hm) en93 rfl rfl rfl rfl ?_; rintro _ w H8 _ hle9 ⟨v7, hm, A10, n10, c10, s10, rs11, rfl, hd12, hn13, rfl⟩ hM
  replace hM := Mem.toTail (a := [.row (.slice A10 n10 c10) 43 1 n10 s10]) (b := rs11) (c := []) hM
  refine RW.st (Ex.assign (.slice A10 n10 c10) rfl) rfl <| RW.nil <| CW.seq <| CW.sr <| RW.st (Ex.assign (.int .i64 0) rfl) rfl <| RW.nil <| CW.block ?_
  obtain ⟨m69, hm⟩ := hm
  skip
  refine CW.loop (β := Nat) (fun n σ w => ∃ (v16 : List (List Sec)), ∃ (A17 : Option Addr), ∃ (n18 : Nat), ∃ (c19 : Nat), ∃ (s20 : List Value), ∃ (rs21 : List Ent), ∃ (v24 : Int), ∃ Hk14, H8.le Hk14 ∧ (∃ τ, σ = sl [(0, .slice A1 n1 c1), (1, .slice A2 n2 c2), (8, .slice A17 n18 c19), (9, .int .i64 v24)] τ) ∧ Mem w0 H w Hk14 (.row (.slice A17 n18 c19) 43 1 n18 s20 :: rs21) ∧ (DeepL (α := List Sec) [49] Hk14 s20 v16 rs21) ∧ (n18 = v16.length) ∧ LoopN (ref07_Apply_L1 x0 x1 Φ) n (v16, v24)) (fun n => n) m69 ⟨v7, A10, n10, c10, s10, rs11, 0, H8, (Hp.le.refl _), sl_canon ⟨rfl, rfl, rfl, rfl, trivial⟩, hM, hd12, hn13, hm⟩ ?_
  rintro k25 _ w ⟨v16, A17, n18, c19, s20, rs21, v24, Hk14, hle15, ⟨τ, rfl⟩, hM, hd22, hn23, hm⟩
  obtain _ | k25 := k25
  · exact hm.elim
  replace hm : (ref07_Apply_L1 x0 x1 Φ) (v16, v24) (LoopN (ref07_Apply_L1 x0 x1 Φ) k25) := hm
  generalize hrec26 : LoopN (ref07_Apply_L1 x0 x1 Φ) k25 = rec1 at hm
  refine CW.seq <| CW.sr <| RW.st (Ex.move (.int .i64 v24) rfl) rfl <| RW.st (Ex.move (.slice A2 n2 c2) rfl) rfl <| RW.st (Ex.lenN st23.1 rfl hF2.hn) rfl <| RW.st (Ex.lss rfl rfl) rfl <| RW.nil ?_
  refine CW.cond_dec (p := v24 < (x1.length : Int)) rfl (fun hc27 => ?_) (fun hc27 => ?_)
  ·
   replace hm := And.left hm hc27
   refine CW.skip <| CW.seq <| CW.block <| CW.seq <| CW.sr <| RW.st (Ex.move (.slice A1 n1 c1) rfl) rfl <| RW.st (Ex.move (.slice A2 n2 c2) rfl) rfl <| RW.st (Ex.move (.int .i64 v24) rfl) rfl ?_
   obtain ⟨hg28, hm⟩ := hm
   refine RW.st (Ex.index st23 rfl rfl v24.toNat (hF2.ne hg28) hg28.nat (hF2.lt hg28)) rfl ?_
   obtain ⟨_, ⟨A29, n29, c29, s29, rfl, hF29⟩, hx30⟩ := DtL.getI (α := api_Write) (hF2.mono ((hle5.trans hle9).trans hle15)).dat hg28
   refine RW.st (Ex.loadEA hM ((hle5.trans hle9).trans hle15) hF2.rdc [.int .i64 ((ix x1 v24).Volume), .int .i64 ((ix x1 v24).Start), .slice A29 n29 c29] ta45 rfl (hF2.ne hg28) rfl (chunk_sub (off := 0) (n := 3) hx30 rfl)) rfl ?_
   refine RW.callP hM (ref07_Fits_lift x0 (ix x1 v24) (hF1.mono ((hle5.trans hle9).trans hle15)) hF29 hm) en94 rfl rfl rfl rfl ?_; rintro _ w H32 _ hle33 ⟨v31, hm, rfl, rfl⟩ hM
   refine RW.st (Ex.assign (.int .i64 v31) rfl) rfl <| RW.nil <| CW.sr <| RW.st (Ex.move (.int .i64 v31) rfl) rfl <| RW.st (Ex.neq rfl rfl) rfl <| RW.nil ?_
   refine CW.cond_dec (p := v31 ≠ 0) rfl (fun hc34 => ?_) (fun hc34 => ?_)
   ·
    replace hm := And.left hm hc34
    refine CW.sr <| RW.st (Ex.move (.int .i64 v24) rfl) rfl <| RW.st (Ex.move (.int .i64 v31) rfl) rfl <| RW.st (Ex.assign (.slice none 0 0) rfl) rfl <| RW.st (Ex.assign (.int .i64 v24) rfl) rfl <| RW.st (Ex.assign (.int .i64 v31) rfl) rfl <| RW.nil <| CW.ret ?_
    refine thenQ_ret (blockQ_ret (thenQ_ret (thenQ_ret (blockQ_ret (thenQ_ret ?_)))))
    refine end_tmp3 (.inl rfl) rfl (.slice none 0 0) (.int .i64 v24) (.int .i64 v31) rfl rfl rfl ?_
    replace hM := hM.nilRow 43 1
    exact ⟨_, _, ((Mem.dropT (L1 := [.row (.slice none 0 0) 43 1 0 [], .row (.slice A17 n18 c19) 43 1 n18 s20]) (T := rs21) hM).pick [0] rfl rfl), (([] : List (List Sec)), v24, v31), hm, none, 0, 0, [], [], rfl, (DeepL.nil : DeepL (α := List Sec) [49] H32 [] [] []), rfl, rfl⟩
   ·
    replace hm := And.right hm hc34
    refine CW.skip <| CW.sr <| RW.st (Ex.assign (.int .i64 0) rfl) rfl <| RW.nil <| CW.block ?_
    obtain ⟨m68, hm⟩ := hm
    skip
    refine CW.loop (β := Nat) (fun n σ w => ∃ (v37 : List (List Sec)), ∃ (A38 : Option Addr), ∃ (n39 : Nat), ∃ (c40 : Nat), ∃ (s41 : List Value), ∃ (rs42 : List Ent), ∃ (v45 : Int), ∃ Hk35, H32.le Hk35 ∧ (∃ τ, σ = sl [(0, .slice A1 n1 c1), (1, .slice A2 n2 c2), (8, .slice A38 n39 c40), (9, .int .i64 v24), (11, .int .i64 v45)] τ) ∧ Mem w0 H w Hk35 (.row (.slice A38 n39 c40) 43 1 n39 s41 :: rs42) ∧ (DeepL (α := List Sec) [49] Hk35 s41 v37 rs42) ∧ (n39 = v37.length) ∧ LoopN (ref07_Apply_L2 x1 v24 rec1 Φ) n (v37, v45)) (fun n => n) m68 ⟨v16, A17, n18, c19, s20, rs21, 0, H32, (Hp.le.refl _), sl_canon ⟨rfl, rfl, rfl, rfl, rfl, trivial⟩, hM, (hd22.mono hle33), hn23, hm⟩ ?_
    rintro k46 _ w ⟨v37, A38, n39, c40, s41, rs42, v45, Hk35, hle36, ⟨τ, rfl⟩, hM, hd43, hn44, hm⟩
    obtain _ | k46 := k46
    · exact hm.elim
    replace hm : (ref07_Apply_L2 x1 v24 rec1 Φ) (v37, v45) (LoopN (ref07_Apply_L2 x1 v24 rec1 Φ) k46) := hm
    generalize hrec47 : LoopN (ref07_Apply_L2 x1 v24 rec1 Φ) k46 = rec2 at hm
    refine CW.seq <| CW.sr <| RW.st (Ex.move (.int .i64 v45) rfl) rfl <| RW.st (Ex.move (.slice A2 n2 c2) rfl) rfl <| RW.st (Ex.move (.int .i64 v24) rfl) rfl <| RW.st (Ex.index st23 rfl rfl v24.toNat (hF2.ne hg28) hg28.nat (hF2.lt hg28)) rfl <| RW.st (Ex.fieldE fa45_2 (hF2.ne hg28) rfl) rfl <| RW.st (Ex.loadE hM ((((hle5.trans hle9).trans hle15).trans hle33).trans hle36) hF2.rdc to43 rfl (hx30 2 _ rfl)) rfl <| RW.st (Ex.lenN st43.1 rfl hF29.hn) rfl <| RW.st (Ex.lss rfl rfl) rfl <| RW.nil ?_
    refine CW.cond_dec (p := v45 < (((ix x1 v24).Data).length : Int)) rfl (fun hc48 => ?_) (fun hc48 => ?_)
    ·
     replace hm := And.left hm hc48
     refine CW.skip <| CW.seq <| CW.block ?_
     obtain ⟨hg49, hm⟩ := hm
     obtain ⟨c51, _, c52, _, rs53, rfl, ⟨A50, n50, c50, s50, rfl, rfl, hF50, hn55⟩, hh54, hM⟩ := Mem.focus [.row (.slice A38 n39 c40) 43 1 n39 s41] hM hd43 hg49
     have hx56 := Hole.get (ch := [.slice A50 n50 c50]) hh54
     obtain ⟨hg57, hm⟩ := hm
     obtain ⟨hg58, hm⟩ := hm
     obtain ⟨_, rfl, hx59⟩ := DtL.getI (α := Sec) (hF29.mono (hle33.trans hle36)).dat hg58
     refine CW.drawE 23 [.slice A38 n39 c40, .slice A2 n2 c2, .int .i64 v24, elp A2 (v24.toNat * 3 + 0), elp A2 (v24.toNat * 3 + 0), .int .i64 ((ix x1 v24).Volume), elp A38 ((((ix x1 v24).Volume).toNat) * 1 + 0), .slice A50 n50 c50, .slice A2 n2 c2, .int .i64 v24, elp A2 (v24.toNat * 3 + 0), elp A2 (v24.toNat * 3 + 1), .int .i64 ((ix x1 v24).Start), .int .i64 v45, .int .i64 (((ix x1 v24).Start) + v45), .slice A2 n2 c2, .int .i64 v24, elp A2 (v24.toNat * 3 + 0), elp A2 (v24.toNat * 3 + 2), .slice A29 n29 c29, .int .i64 v45, elp A29 (v45.toNat * 8 + 0), .agg #[u8 (ix ((ix x1 v24).Data) v45).b0, u8 (ix ((ix x1 v24).Data) v45).b1, u8 (ix ((ix x1 v24).Data) v45).b2, u8 (ix ((ix x1 v24).Data) v45).b3, u8 (ix ((ix x1 v24).Data) v45).b4, u8 (ix ((ix x1 v24).Data) v45).b5, u8 (ix ((ix x1 v24).Data) v45).b6, u8 (ix ((ix x1 v24).Data) v45).b7]]
      [[(8, none)], [(1, none)], [(9, none)], [(46, some 1), (47, some 2)], [(48, some 3)], [(49, some 4)], [(45, some 0), (50, some 5)], [(51, some 6)], [(1, none)], [(9, none)], [(53, some 8), (54, some 9)], [(55, some 10)], [(56, some 11)], [(11, none)], [(57, some 12), (58, some 13)], [(1, none)], [(9, none)], [(60, some 15), (61, some 16)], [(62, some 17)], [(63, some 18)], [(11, none)], [(64, some 19), (65, some 20)], [(66, some 21)]] [(0, none), (1, none), (8, none), (9, none), (11, none), (52, some 7), (59, some 14), (67, some 22)] (by kernel_rfl) hM (by kernel_rfl) ⟨?_, ?_, ?_, ?_, ?_, ?_, ?_, ?_, ?_, ?_, ?_, ?_, ?_, ?_, ?_, ?_, ?_, ?_, ?_, ?_, ?_, ?_, ?_, trivial⟩ ?_
     · exact One.ex (fun H' τ w hled hM => Ex.move (.slice A38 n39 c40) rfl) rfl (fun _ => rfl) rfl
     · exact One.ex (fun H' τ w hled hM => Ex.move (.slice A2 n2 c2) rfl) rfl (fun _ => rfl) rfl
     · exact One.ex (fun H' τ w hled hM => Ex.move (.int .i64 v24) rfl) rfl (fun _ => rfl) rfl
     · exact One.ex (fun H' τ w hled hM => Ex.index st23 rfl rfl v24.toNat (hF2.ne hg28) hg28.nat (hF2.lt hg28)) rfl (fun _ => rfl) rfl
     · exact One.ex (fun H' τ w hled hM => Ex.fieldE fa45_0 (hF2.ne hg28) rfl) rfl (fun _ => rfl) rfl
     · exact One.ex (fun H' τ w hled hM => Ex.loadE hM (((((hle5.trans hle9).trans hle15).trans hle33).trans hle36).trans hled) hF2.rdc to3 rfl (hx30 0 _ rfl)) rfl (fun _ => rfl) rfl
     · exact One.ex (fun H' τ w hled hM => Ex.index st28 rfl rfl (((ix x1 v24).Volume).toNat) (hM.rowNeD (α := List Sec) (p := 1) rfl hn44 hg49) hg49.nat (Nat.lt_of_lt_of_eq hg49.lt (hn44).symm)) rfl (fun _ => rfl) rfl
     · exact One.ex (fun H' τ w hled hM => Ex.loadR hM 1 rfl to43 (hM.rowNeD (α := List Sec) (p := 1) rfl hn44 hg49) rfl (hx56 0 _ rfl)) rfl (fun _ => rfl) rfl
     · exact One.ex (fun H' τ w hled hM => Ex.move (.slice A2 n2 c2) rfl) rfl (fun _ => rfl) rfl
     · exact One.ex (fun H' τ w hled hM => Ex.move (.int .i64 v24) rfl) rfl (fun _ => rfl) rfl
     · exact One.ex (fun H' τ w hled hM => Ex.index st23 rfl rfl v24.toNat (hF2.ne hg28) hg28.nat (hF2.lt hg28)) rfl (fun _ => rfl) rfl
     · exact One.ex (fun H' τ w hled hM => Ex.fieldE fa45_1 (hF2.ne hg28) rfl) rfl (fun _ => rfl) rfl
     · exact One.ex (fun H' τ w hled hM => Ex.loadE hM (((((hle5.trans hle9).trans hle15).trans hle33).trans hle36).trans hled) hF2.rdc to3 rfl (hx30 1 _ rfl)) rfl (fun _ => rfl) rfl
     · exact One.ex (fun H' τ w hled hM => Ex.move (.int .i64 v45) rfl) rfl (fun _ => rfl) rfl
     · exact One.ex (fun H' τ w hled hM => Ex.add rfl rfl hg57.1 hg57.2) rfl (fun _ => rfl) rfl
     · exact One.ex (fun H' τ w hled hM => Ex.move (.slice A2 n2 c2) rfl) rfl (fun _ => rfl) rfl
     · exact One.ex (fun H' τ w hled hM => Ex.move (.int .i64 v24) rfl) rfl (fun _ => rfl) rfl
     · exact One.ex (fun H' τ w hled hM => Ex.index st23 rfl rfl v24.toNat (hF2.ne hg28) hg28.nat (hF2.lt hg28)) rfl (fun _ => rfl) rfl
     · exact One.ex (fun H' τ w hled hM => Ex.fieldE fa45_2 (hF2.ne hg28) rfl) rfl (fun _ => rfl) rfl
     · exact One.ex (fun H' τ w hled hM => Ex.loadE hM (((((hle5.trans hle9).trans hle15).trans hle33).trans hle36).trans hled) hF2.rdc to43 rfl (hx30 2 _ rfl)) rfl (fun _ => rfl) rfl
     · exact One.ex (fun H' τ w hled hM => Ex.move (.int .i64 v45) rfl) rfl (fun _ => rfl) rfl
     · exact One.ex (fun H' τ w hled hM => Ex.index st43 rfl rfl v45.toNat (hF29.ne hg58) hg58.nat (hF29.lt hg58)) rfl (fun _ => rfl) rfl
     · exact One.ex (fun H' τ w hled hM => Ex.loadEA hM ((hle33.trans hle36).trans hled) hF29.rdc [u8 (ix ((ix x1 v24).Data) v45).b0, u8 (ix ((ix x1 v24).Data) v45).b1, u8 (ix ((ix x1 v24).Data) v45).b2, u8 (ix ((ix x1 v24).Data) v45).b3, u8 (ix ((ix x1 v24).Data) v45).b4, u8 (ix ((ix x1 v24).Data) v45).b5, u8 (ix ((ix x1 v24).Data) v45).b6, u8 (ix ((ix x1 v24).Data) v45).b7] ta49 rfl (hF29.ne hg58) rfl (chunk_sub (off := 0) (n := 8) hx59 rfl)) rfl (fun _ => rfl) rfl
     intro τ w hM
     change RW _ _ _ _ _ _ _ _ (sl [(0, .slice A1 n1 c1), (1, .slice A2 n2 c2), (8, .slice A38 n39 c40), (9, .int .i64 v24), (11, .int .i64 v45), (52, .slice A50 n50 c50), (59, .int .i64 (((ix x1 v24).Start) + v45)), (67, .agg #[u8 (ix ((ix x1 v24).Data) v45).b0, u8 (ix ((ix x1 v24).Data) v45).b1, u8 (ix ((ix x1 v24).Data) v45).b2, u8 (ix ((ix x1 v24).Data) v45).b3, u8 (ix ((ix x1 v24).Data) v45).b4, u8 (ix ((ix x1 v24).Data) v45).b5, u8 (ix ((ix x1 v24).Data) v45).b6, u8 (ix ((ix x1 v24).Data) v45).b7])] τ) _
     obtain ⟨hg60, hm⟩ := hm
     refine RW.st (Ex.index st43 rfl rfl ((((ix x1 v24).Start) + v45).toNat) (hM.rowNeD (α := Sec) (p := 0) rfl hn55 hg60) hg60.nat (Nat.lt_of_lt_of_eq hg60.lt (hn55).symm)) rfl ?_
     refine RW.storeD (α := Sec) (off := 0) (x' := (ix ((ix x1 v24).Data) v45)) hM 0 hF50 (.agg #[u8 (ix ((ix x1 v24).Data) v45).b0, u8 (ix ((ix x1 v24).Data) v45).b1, u8 (ix ((ix x1 v24).Data) v45).b2, u8 (ix ((ix x1 v24).Data) v45).b3, u8 (ix ((ix x1 v24).Data) v45).b4, u8 (ix ((ix x1 v24).Data) v45).b5, u8 (ix ((ix x1 v24).Data) v45).b6, u8 (ix ((ix x1 v24).Data) v45).b7]) [u8 (ix ((ix x1 v24).Data) v45).b0, u8 (ix ((ix x1 v24).Data) v45).b1, u8 (ix ((ix x1 v24).Data) v45).b2, u8 (ix ((ix x1 v24).Data) v45).b3, u8 (ix ((ix x1 v24).Data) v45).b4, u8 (ix ((ix x1 v24).Data) v45).b5, u8 (ix ((ix x1 v24).Data) v45).b6, u8 (ix ((ix x1 v24).Data) v45).b7] sz49 rfl hn55 hg60 (nb rfl) rfl rfl (oneAll ⟨rfl, rfl, rfl, rfl, rfl, rfl, rfl, rfl, trivial⟩) rfl (fun ch h => rdWhole h (show Dt.rd (α := Sec) _ [u8 (ix ((ix x1 v24).Data) v45).b0, u8 (ix ((ix x1 v24).Data) v45).b1, u8 (ix ((ix x1 v24).Data) v45).b2, u8 (ix ((ix x1 v24).Data) v45).b3, u8 (ix ((ix x1 v24).Data) v45).b4, u8 (ix ((ix x1 v24).Data) v45).b5, u8 (ix ((ix x1 v24).Data) v45).b6, u8 (ix ((ix x1 v24).Data) v45).b7] (ix ((ix x1 v24).Data) v45) from rfl)) rfl rfl ?_
     intro s61 w hd62 hM
     refine RW.nil <| CW.region <| RW.st (Ex.move (.int .i64 v45) rfl) rfl ?_
     obtain ⟨hg63, hm⟩ := hm
     refine RW.st (Ex.add rfl rfl hg63.1 hg63.2) rfl <| RW.st (Ex.assign (.int .i64 (v45 + 1)) rfl) rfl <| RW.nil ?_
     obtain ⟨s64, rs65, hd66, hM⟩ := Mem.unfocus (α := List Sec) (Ts := [49]) (x := (put (ix v37 ((ix x1 v24).Volume)) (((ix x1 v24).Start) + v45) (ix ((ix x1 v24).Data) v45))) [.row (.slice A38 n39 c40) 43 1 n39 (c51 ++ ([.slice A50 n50 c50] ++ c52))] hM 0 rfl hh54 ⟨A50, n50, c50, s61, rfl, rfl, hd62, (hn55).trans (put_len _ _ _).symm⟩
     exact And.intro rfl ⟨k46, ⟨(put v37 ((ix x1 v24).Volume) (put (ix v37 ((ix x1 v24).Volume)) (((ix x1 v24).Start) + v45) (ix ((ix x1 v24).Data) v45))), A38, n39, c40, s64, rs65, v45 + 1, Hk35, hle36.trans (Hp.le.refl _), sl_canon ⟨rfl, rfl, rfl, rfl, rfl, trivial⟩, hM, hd66, (hn44).trans (put_len _ _ _).symm, (by rw [hrec47]; exact hm)⟩, Nat.lt_succ_self _⟩
    ·
     replace hm := And.right hm hc48
     refine CW.exit ?_
     refine CW.region <| RW.st (Ex.move (.int .i64 v24) rfl) rfl ?_
     obtain ⟨hg67, hm⟩ := hm
     refine RW.st (Ex.add rfl rfl hg67.1 hg67.2) rfl <| RW.st (Ex.assign (.int .i64 (v24 + 1)) rfl) rfl <| RW.nil ?_
     exact And.intro rfl ⟨k25, ⟨v37, A38, n39, c40, s41, rs42, v24 + 1, Hk35, hle15.trans (hle33.trans hle36), sl_canon ⟨rfl, rfl, rfl, rfl, trivial⟩, hM, hd43, hn44, (by rw [hrec26]; exact hm)⟩, Nat.lt_succ_self _⟩
  ·
   replace hm := And.right hm hc27
   refine CW.exit ?_
   refine CW.sr <| RW.st (Ex.move (.slice A17 n18 c19) rfl) rfl <| RW.st (Ex.assign (.slice A17 n18 c19) rfl) rfl <| RW.st (Ex.assign (.int .i64 0) rfl) rfl <| RW.st (Ex.assign (.int .i64 0) rfl) rfl <| RW.nil <| CW.ret ?_
   refine end_tmp3 (.inl rfl) rfl (.slice A17 n18 c19) (.int .i64 0) (.int .i64 0) rfl rfl rfl ?_
   exact ⟨_, _, hM, (v16, 0, 0), hm, A17, n18, c19, s20, rs21, rfl, hd22, hn23, rfl⟩
def ct74 : Ct DD := ⟨74, [28, 23], [28, 3, 3], [[true], [false], [false]], false, fun x Φ => ref07_Apply_W x.1 x.2.1 fun y => Φ (y.1, y.2.1, y.2.2, ())⟩
set_option maxRecDepth 100000 in
theorem ok74 : ct74.Ok Tryz.prog tab gh := by
  intro x Φ hW H vs _ hA
  obtain ⟨v0, k0, q0, rfl, p0, r0, v1, k1, q1, rfl, p1, r1, hq⟩ := hA
  obtain rfl : q1 = [] := hq
  rw [pk28] at p0
  subst p0
  obtain ⟨A0, n0, c0, s0, e0, hF0⟩ := (show Dt.rd (α := List (List Sec)) H _ _ from r0)
  obtain rfl := (List.cons.inj e0).1
  rw [pk23] at p1
  subst p1
  obtain ⟨A1, n1, c1, s1, e1, hF1⟩ := (show Dt.rd (α := List api_Write) H _ _ from r1)
  obtain rfl := (List.cons.inj e1).1
  have hW : ref07_Apply_W x.1 x.2.1 (fun y => Φ (y.1, y.2.1, y.2.2, ())) := hW
  intro w hw
  refine (ref07_Apply_lift x.1 x.2.1 hF0 hF1 hW w hw).mono fun e w' ⟨v, H', L', h1, hM, y, hy, A, n, c, s, rs, hv, hd, hn, hL⟩ => ?_
  subst hL
  obtain ⟨H2, g1, g2, g3⟩ := DeepL.flat (es := [_]) hM hd
  refine ⟨v, H2, _, h1, g1, _, hy, fun nx ρ0 hn0 s' b m hre => ?_⟩
  rw [show resE Tryz.prog tab ct74.rs ct74.own (y.1, y.2.1, y.2.2, ()) nx = some (.tup [.own nx, .i .i64 y.2.1, .i .i64 y.2.2], [(nx, .row 43 y.1)], nx + 1) by kernel_rfl] at hre
  cases hre
  obtain ⟨f1, f2⟩ := fresh_put hn0 (.r A n c)
  exact ⟨ρ0.put nx (.r A n c), f1, Nat.le_succ _, f2, fun id hid => RM.put_ne _ _ (Nat.ne_of_lt hid), ⟨_, hv, _, _, rfl, ⟨A, n, c, RM.put_same _ _ _, rfl⟩, _, _, rfl, rfl, _, _, rfl, rfl, rfl⟩, _, _, rfl, ⟨A, n, c, s, RM.put_same _ _ _, rfl, g3, hn⟩, rfl⟩
def ct48 : Ct DD := ⟨48, [26, 22], [28, 3], [[true], [false]], false, fun x Φ => ref15_Image_W x.1 x.2.1 fun y => Φ (y.1, y.2, ())⟩
def pl48 : List PE := [⟨[4, 1, 0, 1, 1, 1, 1, 1], [], [1, 0], ⟨[.int, .lst 45], [(1, .kp 3), (2, .kp 4), (7, .kp 24), (9, .own 0), (10, .v .int)], [], [45], []⟩⟩]
theorem ok48 : ct48.Ok Tryz.prog tab gh := Ct.lift (E := ⟨Tryz.prog, tab, [ct42, ct72, ct73, ct74], pl48, [], gh⟩) ⟨tabOk, ⟨ok42, ok72, ok73, ok74, trivial⟩, mo, trivial, ghUp⟩ 9 ct48 fun x Φ => by
  have h : ct48.W x Φ = topF ⟨Tryz.prog, tab, [ct42, ct72, ct73, ct74], pl48, [], gh⟩ 9 ct48.f ct48.ps ct48.rs ct48.own x Φ := by kernel_rfl
  rw [h]; exact id
def ct23 : Ct DD := ⟨23, [26, 28], [22, 45, 4], [[false], [false, false, true], [false]], false, fun x Φ => ref18_candidate_W x.1 x.2.1 fun y => Φ (y.1, y.2.1, y.2.2, ())⟩
def pl23 : List PE := [⟨[4, 1, 0, 1, 1], [], [0], ⟨[.int, .lst 4], [(1, .kp 4), (2, .kp 5), (5, .kp 7), (7, .own 0), (8, .v .int)], [(1, 45, [.kp 15,.kp 16,.kp 17])], [4], []⟩⟩, ⟨[4, 1, 4, 0, 1, 5, 4, 1, 0, 1, 1], [], [], ⟨[.int, .lst 4], [(1, .kp 4), (2, .kp 5), (5, .kp 7), (7, .own 0), (8, .kp 23), (9, .v .int)], [(1, 45, [.kp 15,.kp 16,.kp 17])], [4], []⟩⟩, ⟨[4, 1, 0, 1, 1, 1, 1], [], [1, 21, 0], ⟨[.int, .lst 3], [(1, .kp 4), (2, .kp 5), (5, .kp 7), (7, .kp 22), (11, .own 0), (12, .v .int)], [], [3], []⟩⟩, ⟨[4, 1, 0, 1, 1, 1, 1, 1, 1, 1], [], [31, 30, 29, 21, 0], ⟨[.int], [(1, .kp 4), (5, .kp 7), (13, .kp 43), (15, .kp 51), (17, .v .int)], [(1, 45, [.kp 15,.kp 16,.kp 17])], [], []⟩⟩, ⟨[4, 1, 4, 0, 1, 5, 4, 1, 0, 1, 1, 1, 1, 1, 1, 1], [], [], ⟨[.int], [(1, .kp 4), (5, .kp 7), (13, .kp 43), (15, .kp 51), (17, .kp 54), (18, .v .int)], [(1, 45, [.kp 15,.kp 16,.kp 17])], [], []⟩⟩]
theorem ok23 : ct23.Ok Tryz.prog tab gh := Ct.lift (E := ⟨Tryz.prog, tab, [ct26, ct47, ct48], pl23, [], gh⟩) ⟨tabOk, ⟨ok26, ok47, ok48, trivial⟩, mo, trivial, ghUp⟩ 9 ct23 fun x Φ => by
  have h : ct23.W x Φ = topF ⟨Tryz.prog, tab, [ct26, ct47, ct48], pl23, [], gh⟩ 9 ct23.f ct23.ps ct23.rs ct23.own x Φ := by kernel_rfl
  rw [h]; exact id
def ct7 : Ct DD := ⟨7, [26, 28], [22, 4, 3], [[false], [false], [false]], false, fun x Φ => ref18_Find_W x.1 x.2.1 fun y => Φ (y.1, y.2.1, y.2.2, ())⟩
def pl7 : List PE := [⟨[0, 1, 1, 1], [], [2, 1, 0], ⟨[.bool], [(8, .kp 23), (31, .v .bool)], [], [], []⟩⟩]
theorem ok7 : ct7.Ok Tryz.prog tab gh := Ct.lift (E := ⟨Tryz.prog, tab, [ct22, ct23], pl7, [], gh⟩) ⟨tabOk, ⟨ok22, ok23, trivial⟩, mo, trivial, ghUp⟩ 9 ct7 fun x Φ => by
  have h : ct7.W x Φ = topF ⟨Tryz.prog, tab, [ct22, ct23], pl7, [], gh⟩ 9 ct7.f ct7.ps ct7.rs ct7.own x Φ := by kernel_rfl
  rw [h]; exact id
def ct27 : Ct DD := ⟨27, [26, 22], [22, 3], [[true], [false]], false, fun x Φ => ref16_Greatest_W x.1 x.2.1 fun y => Φ (y.1, y.2, ())⟩
def pl27 : List PE := [⟨[4, 1, 0, 1, 1, 1, 1], [], [1, 0], ⟨[.int, .lst 3], [(1, .kp 3), (2, .kp 4), (7, .kp 15), (8, .own 0), (9, .v .int)], [], [3], []⟩⟩, ⟨[4, 1, 0, 1, 4, 0, 1, 5, 4, 1, 0, 1, 1, 1, 1], [], [21], ⟨[.bool, .int], [(1, .kp 3), (2, .kp 4), (7, .kp 15), (8, .kp 22), (9, .kp 23), (10, .v .bool), (11, .v .int)], [], [], []⟩⟩]
theorem ok27 : ct27.Ok Tryz.prog tab gh := Ct.lift (E := ⟨Tryz.prog, tab, [ct57, ct58, ct59], pl27, [], gh⟩) ⟨tabOk, ⟨ok57, ok58, ok59, trivial⟩, mo, trivial, ghUp⟩ 9 ct27 fun x Φ => by
  have h : ct27.W x Φ = topF ⟨Tryz.prog, tab, [ct57, ct58, ct59], pl27, [], gh⟩ 9 ct27.f ct27.ps ct27.rs ct27.own x Φ := by kernel_rfl
  rw [h]; exact id
def ct9 : Ct DD := ⟨9, [26, 28], [22, 4, 3], [[true], [false], [false]], false, fun x Φ => ref18_Newest_W x.1 x.2.1 fun y => Φ (y.1, y.2.1, y.2.2, ())⟩
def pl9 : List PE := [⟨[4, 1, 0, 1, 1, 1], [], [0], ⟨[.int, .lst 3], [(1, .kp 2), (2, .kp 3), (10, .own 0), (11, .v .int)], [], [3], []⟩⟩, ⟨[4, 1, 0, 1, 1, 4, 0, 1, 5, 4, 1, 0, 1, 1, 1], [], [24, 23], ⟨[.bool, .int], [(1, .kp 2), (2, .kp 3), (10, .kp 25), (11, .kp 26), (12, .kp 35), (13, .v .bool), (14, .v .int)], [], [], []⟩⟩, ⟨[1, 0, 1], [], [0], ⟨[.bool], [(1, .kp 2), (2, .kp 3), (9, .kp 16), (30, .v .bool)], [], [], []⟩⟩]
theorem ok9 : ct9.Ok Tryz.prog tab gh := Ct.lift (E := ⟨Tryz.prog, tab, [ct7, ct26, ct27], pl9, [], gh⟩) ⟨tabOk, ⟨ok7, ok26, ok27, trivial⟩, mo, trivial, ghUp⟩ 9 ct9 fun x Φ => by
  have h : ct9.W x Φ = topF ⟨Tryz.prog, tab, [ct7, ct26, ct27], pl9, [], gh⟩ 9 ct9.f ct9.ps ct9.rs ct9.own x Φ := by kernel_rfl
  rw [h]; exact id
def ct3 : Ct DD := ⟨3, [26, 28], [4], [[false]], true, fun x Φ => law18_ConsistencyFinds_W x.1 x.2.1 fun y => Φ (y, ())⟩
def pl3 : List PE := []
theorem ok3 : ct3.Ok Tryz.prog tab gh := Ct.lift (E := ⟨Tryz.prog, tab, [ct4, ct5, ct6, ct7, ct8, ct9, ct10], pl3, [], gh⟩) ⟨tabOk, ⟨ok4, ok5, ok6, ok7, ok8, ok9, ok10, trivial⟩, mo, trivial, ghUp⟩ 9 ct3 fun x Φ => by
  have h : ct3.W x Φ = topF ⟨Tryz.prog, tab, [ct4, ct5, ct6, ct7, ct8, ct9, ct10], pl3, [], gh⟩ 9 ct3.f ct3.ps ct3.rs ct3.own x Φ := by kernel_rfl
  rw [h]; exact id
section
theorem iI {x : Int} (h1 : -9223372036854775808 ≤ x) (h2 : x ≤ 9223372036854775807) : inI x := ⟨h1, h2⟩
theorem iX {i : Int} {n : Nat} (h1 : 0 ≤ i) (h2 : i < (n : Int)) : inX i n := ⟨h1, h2⟩
theorem iS {a b : Int} {n : Nat} (h1 : 0 ≤ a) (h2 : a ≤ b) (h3 : b ≤ (n : Int)) : inS a b n := ⟨h1, h2, h3⟩
theorem iL {n b : Nat} (h : n ≤ 1000000) (hb : b ≤ 1000000) : lenOk n b := by
  have := Nat.mul_le_mul h hb
  refine ⟨by omega, ?_⟩
  simp only [maxLen]
  omega
section
variable {α : Type} [Dt α]
theorem ix_get {xs : List α} {k : Nat} (h : k < xs.length) : ix xs (k : Int) = xs[k] := by
  show xs.getD k default = _
  rw [List.getD_eq_getElem?_getD, List.getElem?_eq_getElem h]; rfl
theorem take_ix {xs : List α} {k : Nat} (h : k < xs.length) : xs.take (k + 1) = xs.take k ++ [ix xs (k : Int)] := by
  rw [ix_get h]; exact (List.take_append_getElem h).symm
theorem ix_mem {xs : List α} {i : Int} (h : inX i xs.length) : ix xs i ∈ xs := by
  have e := h.nat
  have hl := h.lt
  rw [e, ix_get hl]
  exact List.getElem_mem hl
theorem drop_ix {xs : List α} {k : Nat} (h : k < xs.length) : xs.drop k = ix xs (k : Int) :: xs.drop (k + 1) := by
  rw [ix_get h]; exact List.drop_eq_getElem_cons h
theorem ext_ix {xs ys : List α} (hl : xs.length = ys.length) (h : ∀ k : Nat, k < xs.length → ix xs (k : Int) = ix ys (k : Int)) : xs = ys := by
  apply List.ext_getElem hl
  intro k h1 h2
  have := h k h1
  rwa [ix_get h1, ix_get h2] at this
end
section
variable {A : Type}
theorem LoopW.up {step : Int → (Int → Prop) → Prop} (n : Nat) (Inv : Nat → Prop) (h : ∀ (k : Nat) rec, k ≤ n → Inv k → (k < n → Inv (k + 1) → rec ((k : Int) + 1)) → step (k : Int) rec) {k0 : Nat} {i0 : Int} (hi : i0 = (k0 : Int)) (hk : k0 ≤ n) (h0 : Inv k0) : LoopW step i0 := by
  subst hi
  refine LoopW.of_inv (fun i => ∃ k : Nat, i = (k : Int) ∧ k ≤ n ∧ Inv k) (fun i => n - i.toNat) ?_ ⟨k0, rfl, hk, h0⟩
  rintro _ rec ⟨k, rfl, hk, hI⟩ hrec
  refine h k rec hk hI fun hlt hI' => hrec _ ⟨k + 1, rfl, hlt, hI'⟩ ?_
  simp only [Int.toNat_natCast]
  omega
theorem LoopW.upS {S : Type} {step : S → (S → Prop) → Prop} (n : Nat) (idx : S → Int) (Inv : Nat → S → Prop) (h : ∀ (k : Nat) s rec, k ≤ n → idx s = (k : Int) → Inv k s → (∀ s', k < n → idx s' = (k : Int) + 1 → Inv (k + 1) s' → rec s') → step s rec) {s0 : S} (k0 : Nat) (hi : idx s0 = (k0 : Int)) (hk : k0 ≤ n) (h0 : Inv k0 s0) : LoopW step s0 := by
  refine LoopW.of_inv (fun s => ∃ k : Nat, idx s = (k : Int) ∧ k ≤ n ∧ Inv k s) (fun s => n - (idx s).toNat) ?_ ⟨k0, hi, hk, h0⟩
  rintro s rec ⟨k, he, hk, hI⟩ hrec
  refine h k s rec hk he hI fun s' hlt he' hI' => hrec s' ⟨k + 1, by rw [he']; rfl, hlt, hI'⟩ ?_
  show n - (idx s').toNat < n - (idx s).toNat
  rw [he, he']
  omega
def firstN (f : Nat → Int) : Nat → Int
  | 0 => 0
  | n + 1 => if firstN f n ≠ 0 then firstN f n else f n
theorem firstN_hit {f : Nat → Int} : ∀ {n k : Nat}, k < n → (∀ j, j < k → f j = 0) → f k ≠ 0 → firstN f n = f k
  | 0, _, hk, _, _ => by omega
  | n + 1, k, hk, h0, h1 => by
    unfold firstN
    rcases Nat.lt_or_ge k n with h | h
    · rw [firstN_hit h h0 h1, if_pos h1]
    · have e : k = n := by omega
      subst e
      have : firstN f k = 0 := by
        clear h1 hk h
        induction k with
        | zero => rfl
        | succ k ih => unfold firstN; rw [ih fun j hj => h0 j (by omega), if_neg (by simp), h0 k (by omega)]
      rw [this, if_neg (by simp)]
theorem firstN_zero {f : Nat → Int} : ∀ {n : Nat}, firstN f n = 0 ↔ ∀ k, k < n → f k = 0
  | 0 => by simp [firstN]
  | n + 1 => by
    unfold firstN
    constructor
    · intro h k hk
      by_cases h1 : firstN f n ≠ 0
      · rw [if_pos h1] at h; exact absurd h h1
      · rw [if_neg h1] at h
        rcases Nat.lt_or_ge k n with hlt | hge
        · exact (firstN_zero.1 (Classical.not_not.1 h1)) k hlt
        · have : k = n := by omega
          subst this; exact h
    · intro h
      rw [if_neg (by rw [firstN_zero.2 fun k hk => h k (by omega)]; simp), h n (by omega)]
def allN (p : Nat → Bool) (n : Nat) : Bool := (List.range n).all p
theorem allN_true {p : Nat → Bool} {n : Nat} : allN p n = true ↔ ∀ k, k < n → p k = true := by simp [allN]
theorem allN_false {p : Nat → Bool} {n k : Nat} (hk : k < n) (h : p k = false) : allN p n = false := by
  cases hx : allN p n with
  | false => rfl
  | true => rw [allN_true.1 hx k hk] at h; cases h
theorem allN_congr {p q : Nat → Bool} {n : Nat} (h : ∀ k, k < n → p k = q k) : allN p n = allN q n := by
  rw [Bool.eq_iff_iff, allN_true, allN_true]
  exact ⟨fun g k hk => by rw [← h k hk]; exact g k hk, fun g k hk => by rw [h k hk]; exact g k hk⟩
theorem LoopW.allL {step : Int → (Int → Prop) → Prop} (n : Nat) (p : Nat → Bool) {Φ : Bool → Prop} (hΦ : Φ (allN p n)) (h : ∀ (k : Nat) rec, k < n → (∀ j, j < k → p j = true) → (p k = false → Φ false) → (p k = true → rec ((k : Int) + 1)) → step (k : Int) rec)
    (he : ∀ rec, Φ true → (∀ j, j < n → p j = true) → step (n : Int) rec) : LoopW step 0 := by
  refine LoopW.up n (fun k => ∀ j, j < k → p j = true) ?_ rfl (Nat.zero_le _) (fun j hj => absurd hj (Nat.not_lt_zero j))
  intro k rec hk hI hrec
  rcases Nat.lt_or_ge k n with hlt | hge
  · refine h k rec hlt hI (fun h1 => by rw [allN_false hlt h1] at hΦ; exact hΦ) fun h0 => hrec hlt fun j hj => ?_
    rcases Nat.lt_or_ge j k with h2 | h2
    · exact hI j h2
    · have : j = k := by omega
      subst this; exact h0
  · have e : k = n := by omega
    subst e
    exact he rec (by rw [allN_true.2 hI] at hΦ; exact hΦ) hI
end
end
theorem LoopW.upI {S : Type} {step : S → (S → Prop) → Prop} (n : Nat) (st : Nat → S) (I : Nat → Prop) {s : S} (hs : s = st 0) (h0 : I 0)
    (h : ∀ (k : Nat) rec, k < n → I k → (I (k + 1) → ∀ s, s = st (k + 1) → rec s) → step (st k) rec) (he : ∀ rec, I n → step (st n) rec) : LoopW step s := by
  have key : ∀ m k, k + m = n → I k → LoopN step (m + 1) (st k) := by
    intro m
    induction m with
    | zero => intro k hk hI; obtain rfl : k = n := hk; exact he _ hI
    | succ m ih => intro k hk hI; exact h k _ (by omega) hI fun hI' s hs => by rw [hs]; exact ih (k + 1) (by omega) hI'
  exact ⟨n + 1, by rw [hs]; exact key n 0 (by omega) h0⟩
theorem LoopW.upT {S : Type} {step : S → (S → Prop) → Prop} (n : Nat) (st : Nat → S) {s : S} (hs : s = st 0)
    (h : ∀ (k : Nat) rec, k < n → (∀ s, s = st (k + 1) → rec s) → step (st k) rec) (he : ∀ rec, step (st n) rec) : LoopW step s :=
  LoopW.upI n st (fun _ => True) hs trivial (fun k rec hk _ hr => h k rec hk (hr trivial)) fun rec _ => he rec
theorem LoopW.findI {step : Int → (Int → Prop) → Prop} (n : Nat) (p : Nat → Bool) (h : ∀ (k : Nat) rec, k < n → (∀ j, j < k → p j = false) → (p k = false → rec ((k : Int) + 1)) → step (k : Int) rec)
    (he : ∀ rec, (∀ j, j < n → p j = false) → step (n : Int) rec) : LoopW step 0 :=
  LoopW.upI n (fun k => (k : Int)) (fun k => ∀ j, j < k → p j = false) rfl (fun j hj => absurd hj (Nat.not_lt_zero j)) (fun k rec hk hI hr => h k rec hk hI fun hp => hr (fun j hj => by
    rcases Nat.lt_or_ge j k with h2 | h2
    · exact hI j h2
    · obtain rfl : j = k := by omega
      exact hp) _ rfl) he
theorem any_ix {α : Type} [Dt α] {xs : List α} {p : α → Bool} : xs.any p = true ↔ ∃ k, k < xs.length ∧ p (ix xs (k : Int)) = true := by
  rw [List.any_eq_true]
  constructor
  · rintro ⟨x, hx, hp⟩
    obtain ⟨k, hk, rfl⟩ := List.getElem_of_mem hx
    exact ⟨k, hk, by rw [ix_get hk]; exact hp⟩
  · rintro ⟨k, hk, hp⟩
    exact ⟨xs[k], List.getElem_mem hk, by rw [ix_get hk] at hp; exact hp⟩
theorem any_false_ix {α : Type} [Dt α] {xs : List α} {p : α → Bool} (h : ∀ k, k < xs.length → p (ix xs (k : Int)) = false) : xs.any p = false := by
  rw [Bool.eq_false_iff]
  intro q
  obtain ⟨k, hk, hp⟩ := any_ix.1 q
  rw [h k hk] at hp; cases hp
theorem any_true_ix {α : Type} [Dt α] {xs : List α} {p : α → Bool} {k : Nat} (hk : k < xs.length) (h : p (ix xs (k : Int)) = true) : xs.any p = true := any_ix.2 ⟨k, hk, h⟩
theorem LoopW.anyL {α : Type} [Dt α] {step : Int → (Int → Prop) → Prop} (xs : List α) (p : α → Bool) {Φ : Bool → Prop} (hΦ : Φ (xs.any p)) (h : ∀ (k : Nat) rec, k < xs.length → (p (ix xs (k : Int)) = true → Φ true) → (p (ix xs (k : Int)) = false → rec ((k : Int) + 1)) → step (k : Int) rec)
    (he : ∀ rec, Φ false → step (xs.length : Int) rec) : LoopW step 0 :=
  LoopW.findI xs.length (fun k => p (ix xs (k : Int))) (fun k rec hk _ hr => h k rec hk (fun hp => by rw [any_true_ix hk hp] at hΦ; exact hΦ) hr) fun rec hn => he rec (by rw [any_false_ix hn] at hΦ; exact hΦ)
theorem LoopW.allE {α : Type} [Dt α] {step : Int → (Int → Prop) → Prop} (xs : List α) (p : α → Bool) {Φ : Bool → Prop} (hΦ : Φ (xs.all p)) (h : ∀ (k : Nat) rec, k < xs.length → (p (ix xs (k : Int)) = false → Φ false) → (p (ix xs (k : Int)) = true → rec ((k : Int) + 1)) → step (k : Int) rec)
    (he : ∀ rec, Φ true → step (xs.length : Int) rec) : LoopW step 0 := by
  have e : xs.all p = !(xs.any fun x => !p x) := by simp [List.all_eq_not_any_not]
  rw [e] at hΦ
  refine LoopW.anyL xs (fun x => !p x) (Φ := fun b => Φ (!b)) hΦ (fun k rec hk h1 h2 => h k rec hk (fun hp => h1 (by simp [hp])) fun hp => h2 (by simp [hp])) he
theorem len_snoc {α : Type} (xs : List α) (x : α) : (xs ++ [x]).length = xs.length + 1 := by simp
theorem lenT {α : Type} {xs : List α} {k : Nat} (h : k ≤ xs.length) : (xs.take k).length = k := by rw [List.length_take]; omega
theorem take_all {α : Type} (xs : List α) : xs.take xs.length = xs := List.take_length
theorem map_take_snoc {α β : Type} [Dt α] {xs : List α} {k : Nat} (f : α → β) (h : k < xs.length) : (xs.take (k + 1)).map f = (xs.take k).map f ++ [f (ix xs (k : Int))] := by rw [take_ix h, List.map_append]; rfl
theorem filter_take_snoc {α : Type} [Dt α] {xs : List α} {k : Nat} (p : α → Bool) (h : k < xs.length) : (xs.take (k + 1)).filter p = (xs.take k).filter p ++ (if p (ix xs (k : Int)) then [ix xs (k : Int)] else []) := by
  rw [take_ix h, List.filter_append]; congr 1; by_cases hp : p (ix xs (k : Int)) = true <;> simp [hp]
theorem filter_range_snoc (k : Nat) (p : Nat → Bool) : (List.range (k + 1)).filter p = (List.range k).filter p ++ (if p k then [k] else []) := by
  rw [List.range_succ, List.filter_append]; congr 1; by_cases hp : p k = true <;> simp [hp]
theorem LoopW.errI {S : Type} {step : S → (S → Prop) → Prop} (n : Nat) (st : Nat → S) (f : Nat → Int) {Ψ : Int → Prop} {s : S} (hs : s = st 0) (hΨ : Ψ (firstN f n))
    (h : ∀ (k : Nat) rec, k < n → (∀ j, j < k → f j = 0) → (f k ≠ 0 → Ψ (f k)) → (f k = 0 → ∀ s, s = st (k + 1) → rec s) → step (st k) rec) (he : ∀ rec, (∀ j, j < n → f j = 0) → Ψ 0 → step (st n) rec) : LoopW step s :=
  LoopW.upI n st (fun k => ∀ j, j < k → f j = 0) hs (fun j hj => absurd hj (Nat.not_lt_zero j)) (fun k rec hk hI hr => h k rec hk hI (fun h1 => by rw [firstN_hit hk hI h1] at hΨ; exact hΨ) fun h0 => hr fun j hj => by
    rcases Nat.lt_or_ge j k with h2 | h2
    · exact hI j h2
    · obtain rfl : j = k := by omega
      exact h0) fun rec hI => he rec hI (by rw [firstN_zero.2 hI] at hΨ; exact hΨ)
def sizesE (l : List Int) : Int := if (l.length : Int) < 1 ∨ 8 < (l.length : Int) then 6 else firstN (fun k => if ix l (k : Int) < 1 ∨ 4096 < ix l (k : Int) then 2 else 0) l.length
def szs (im : List (List Sec)) : List Int := im.map fun v => (v.length : Int)
def imgE (im : List (List Sec)) : Int := sizesE (szs im)
theorem szs_len (im : List (List Sec)) : (szs im).length = im.length := by unfold szs; rw [List.length_map]
theorem ix_szs {im : List (List Sec)} {k : Nat} (h : k < im.length) : ix (szs im) (k : Int) = ((ix im (k : Int)).length : Int) := by
  rw [ix_get (by rw [szs_len]; exact h), ix_get h]; unfold szs; rw [List.getElem_map]
theorem sizesE_len {l : List Int} (h : sizesE l = 0) : 1 ≤ l.length ∧ l.length ≤ 8 := by
  unfold sizesE at h
  by_cases hl : (l.length : Int) < 1 ∨ 8 < (l.length : Int)
  · rw [if_pos hl] at h; cases h
  · omega
theorem sizesE_ix {l : List Int} (h : sizesE l = 0) {k : Nat} (hk : k < l.length) : 1 ≤ ix l (k : Int) ∧ ix l (k : Int) ≤ 4096 := by
  unfold sizesE at h
  by_cases hl : (l.length : Int) < 1 ∨ 8 < (l.length : Int)
  · rw [if_pos hl] at h; cases h
  · rw [if_neg hl] at h
    have := firstN_zero.1 h k hk
    by_cases q : ix l (k : Int) < 1 ∨ 4096 < ix l (k : Int)
    · rw [if_pos q] at this; cases this
    · omega
theorem ref07_Sizes_ok {l : List Int} {Φ : Int → Prop} (hΦ : Φ (sizesE l)) : ref07_Sizes_W l Φ := by
  unfold sizesE at hΦ
  by_cases h : (l.length : Int) < 1 ∨ 8 < (l.length : Int)
  · rw [if_pos h] at hΦ
    exact ⟨fun _ => hΦ, fun _ => ⟨fun _ => hΦ, fun _ => by omega⟩⟩
  · rw [if_neg h] at hΦ
    refine ⟨fun _ => by omega, fun _ => ⟨fun _ => by omega, fun _ => ?_⟩⟩
    refine LoopW.errI l.length (fun k => (k : Int)) _ rfl hΦ (fun k rec hk _ h1 h2 => ?_) fun rec _ h0 => ⟨fun _ => by omega, fun _ => h0⟩
    refine ⟨fun _ => ⟨iX (by omega) (by omega), fun q => ?_, fun q => ⟨iX (by omega) (by omega), fun r => ?_, fun r => ⟨iI (by omega) (by omega), h2 (if_neg (by omega)) _ rfl⟩⟩⟩, fun _ => by omega⟩
    · have := h1 (by rw [if_pos (.inl q)]; omega)
      rw [if_pos (.inl q)] at this; exact this
    · have := h1 (by rw [if_pos (.inr r)]; omega)
      rw [if_pos (.inr r)] at this; exact this
theorem image_checkSizes_ok {l : List Int} {Φ : Int → Prop} (hΦ : Φ (sizesE l)) : image_checkSizes_W l Φ := by
  unfold sizesE at hΦ
  by_cases h : (l.length : Int) < 1 ∨ 8 < (l.length : Int)
  · rw [if_pos h] at hΦ
    exact ⟨fun _ => hΦ, fun _ => ⟨fun _ => hΦ, fun _ => by omega⟩⟩
  · rw [if_neg h] at hΦ
    refine ⟨fun _ => by omega, fun _ => ⟨fun _ => by omega, fun _ => ?_⟩⟩
    refine LoopW.errI l.length (fun k => (k : Int)) _ rfl hΦ (fun k rec hk _ h1 h2 => ?_) fun rec _ h0 => ⟨fun _ => by omega, fun _ => ⟨fun _ => by omega, fun _ => h0⟩⟩
    have go : ∀ q : ix l (k : Int) < 1 ∨ 4096 < ix l (k : Int), Φ 2 := fun q => by
      have := h1 (by rw [if_pos q]; omega)
      rw [if_pos q] at this; exact this
    refine ⟨fun _ => ⟨iX (by omega) (by omega), fun q => ⟨fun _ => ⟨fun _ => go (.inl q), fun _ => by omega⟩, fun r => absurd rfl r⟩, fun q => ⟨fun r => ⟨fun _ => go (.inr (of_decide_eq_true r)), fun _ => by omega⟩, fun r => ⟨iI (by omega) (by omega), h2 (if_neg (by have := of_decide_eq_false (Bool.eq_false_iff.2 r); omega)) _ rfl⟩⟩⟩, fun _ => by omega⟩
theorem image_sizes_ok {im : List (List Sec)} {Φ : List Int → Prop} (hl : im.length ≤ 100000) (hΦ : Φ (szs im)) : image_sizes_W im Φ := by
  refine ⟨by omega, iL (by omega) (by omega), ?_⟩
  refine LoopW.upT im.length (fun k => ((k : Int), (im.take k).map fun v => (v.length : Int))) rfl (fun k rec hk hr => ?_) fun rec => ⟨fun _ => by omega, fun _ => by rw [take_all]; exact hΦ⟩
  refine ⟨fun _ => ⟨iX (by omega) (by omega), iL (by rw [len_snoc, List.length_map, lenT (by omega)]; omega) (by omega), iI (by omega) (by omega), hr _ (by rw [map_take_snoc _ hk]; rfl)⟩, fun _ => by omega⟩
theorem image_Check_ok {im : List (List Sec)} {Φ : Int → Prop} (hl : im.length ≤ 100000) (hΦ : Φ (imgE im)) : image_Check_W im Φ := image_sizes_ok hl (image_checkSizes_ok hΦ)
theorem ref07_SizesOf_ok {im : List (List Sec)} {Φ : List Int → Prop} (hl : im.length ≤ 100000) (hΦ : Φ (szs im)) : ref07_SizesOf_W im Φ := by
  refine LoopW.upT im.length (fun k => ((k : Int), (im.take k).map fun v => (v.length : Int))) rfl (fun k rec hk hr => ?_) fun rec => ⟨fun _ => by omega, fun _ => by rw [take_all]; exact hΦ⟩
  refine ⟨fun _ => ⟨iX (by omega) (by omega), iL (by rw [len_snoc, List.length_map, lenT (by omega)]; omega) (by omega), iI (by omega) (by omega), hr _ (by rw [map_take_snoc _ hk]; rfl)⟩, fun _ => by omega⟩
theorem ref07_Check_ok {im : List (List Sec)} {Φ : Int → Prop} (hl : im.length ≤ 100000) (hΦ : Φ (imgE im)) : ref07_Check_W im Φ := ref07_SizesOf_ok hl (ref07_Sizes_ok hΦ)
def zeroI (l : List Int) : List (List Sec) := l.map fun n => List.replicate n.toNat sec0
theorem zeroI_len (l : List Int) : (zeroI l).length = l.length := by unfold zeroI; rw [List.length_map]
theorem ix_zeroI {l : List Int} {k : Nat} (h : k < l.length) : ix (zeroI l) (k : Int) = List.replicate (ix l (k : Int)).toNat sec0 := by
  rw [ix_get (by rw [zeroI_len]; exact h), ix_get h]; unfold zeroI; rw [List.getElem_map]
theorem szs_zeroI {l : List Int} (h : sizesE l = 0) : szs (zeroI l) = l := by
  refine ext_ix (by rw [szs_len, zeroI_len]) fun k hk => ?_
  rw [szs_len, zeroI_len] at hk
  have := sizesE_ix h hk
  rw [ix_szs (by rw [zeroI_len]; exact hk), ix_zeroI hk, List.length_replicate]; omega
theorem image_New_ok {l : List Int} {Φ : List (List Sec) × Int → Prop} (h0 : sizesE l = 0 → Φ (zeroI l, 0)) (h1 : sizesE l ≠ 0 → Φ ([], sizesE l)) : image_New_W l Φ := by
  refine image_checkSizes_ok ⟨fun q => h1 q, fun q => ?_⟩
  have q : sizesE l = 0 := Classical.not_not.1 q
  have hl := sizesE_len q
  refine ⟨by omega, iL (by omega) (by omega), ?_⟩
  refine LoopW.upT l.length (fun k => ((k : Int), (l.take k).map fun n => List.replicate n.toNat sec0)) rfl (fun k rec hk hr => ?_) fun rec => ⟨fun _ => by omega, fun _ => by rw [take_all]; exact h0 q⟩
  have := sizesE_ix q hk
  refine ⟨fun _ => ⟨iX (by omega) (by omega), by omega, iL (by omega) (by omega), iL (by rw [len_snoc, List.length_map, lenT (by omega)]; omega) (by omega), iI (by omega) (by omega), hr _ (by rw [map_take_snoc _ hk]; rfl)⟩, fun _ => by omega⟩
def fitW (l : List Int) (w : api_Write) : Int := if w.Volume < 0 ∨ (l.length : Int) ≤ w.Volume then 7 else if (w.Data.length : Int) = 0 then 1 else if w.Start < 0 ∨ ix l w.Volume - w.Start < (w.Data.length : Int) then 2 else 0
theorem image_fits_ok {im : List (List Sec)} {w : api_Write} {Φ : Int → Prop} (hd : w.Data.length ≤ 1000000) (hv : ∀ k : Nat, k < im.length → (ix im (k : Int)).length ≤ 1000000) (hΦ : Φ (fitW (szs im) w)) : image_fits_W im w Φ := by
  unfold fitW at hΦ
  rw [szs_len] at hΦ
  show (_ → image_fits_J1 _ _ _ _) ∧ _
  have tail : ¬ (w.Volume < 0 ∨ (im.length : Int) ≤ w.Volume) → image_fits_J1 im w Φ false := fun q => by
    rw [if_neg q] at hΦ
    refine ⟨fun r => (Bool.noConfusion r), fun _ => ⟨fun r => by rw [if_pos (by omega)] at hΦ; exact hΦ, fun r => ?_⟩⟩
    rw [if_neg (by omega)] at hΦ
    obtain ⟨v, hw⟩ := Int.eq_ofNat_of_zero_le (show 0 ≤ w.Volume by omega)
    have hvl : v < im.length := by omega
    rw [hw, ix_szs hvl] at hΦ
    have := hv v hvl
    refine ⟨fun s => by rw [if_pos (.inl s)] at hΦ; exact hΦ, fun s => ⟨iX (by omega) (by omega), ?_⟩⟩
    rw [hw]
    exact ⟨iI (by omega) (by omega), fun t => by rw [if_pos (by omega)] at hΦ; exact hΦ, fun t => by rw [if_neg (by omega)] at hΦ; exact hΦ⟩
  refine ⟨fun q => ⟨fun _ => by rw [if_pos (.inl q)] at hΦ; exact hΦ, fun r => absurd rfl r⟩, fun q => ?_⟩
  by_cases r : (im.length : Int) ≤ w.Volume
  · rw [decide_eq_true r]
    exact ⟨fun _ => by rw [if_pos (.inr r)] at hΦ; exact hΦ, fun r => absurd rfl r⟩
  · rw [decide_eq_false r]; exact tail (by omega)
theorem ref07_FitsSizes_ok {l : List Int} {w : api_Write} {Φ : Int → Prop} (hd : w.Data.length ≤ 1000000) (hl : ∀ k : Nat, k < l.length → ix l (k : Int) ≤ 1000000) (hΦ : Φ (fitW l w)) : ref07_FitsSizes_W l w Φ := by
  unfold fitW at hΦ
  refine ⟨fun q => by rw [if_pos (.inl q)] at hΦ; exact hΦ, fun q => ⟨fun r => by rw [if_pos (.inr r)] at hΦ; exact hΦ, fun r => ?_⟩⟩
  rw [if_neg (by omega)] at hΦ
  refine ⟨fun s => by rw [if_pos (by omega)] at hΦ; exact hΦ, fun s => ?_⟩
  rw [if_neg (by omega)] at hΦ
  obtain ⟨v, hw⟩ := Int.eq_ofNat_of_zero_le (show 0 ≤ w.Volume by omega)
  have hvl : v < l.length := by omega
  have := hl v hvl
  rw [hw] at hΦ ⊢
  refine ⟨fun t => by rw [if_pos (.inl t)] at hΦ; exact hΦ, fun t => ⟨iX (by omega) (by omega), fun u => by rw [if_pos (by omega)] at hΦ; exact hΦ, fun u => ⟨iX (by omega) (by omega), iI (by omega) (by omega), fun x => by rw [if_pos (by omega)] at hΦ; exact hΦ, fun x => by rw [if_neg (by omega)] at hΦ; exact hΦ⟩⟩⟩
theorem szs_small {im : List (List Sec)} (h : imgE im = 0) (k : Nat) (hk : k < im.length) : (ix im (k : Int)).length ≤ 4096 := by
  have := sizesE_ix h (k := k) (by rw [szs_len]; exact hk)
  rw [ix_szs hk] at this; omega
theorem image_Fits_ok {im : List (List Sec)} {w : api_Write} {Φ : Int → Prop} (hd : w.Data.length ≤ 1000000) (h : imgE im = 0) (hΦ : Φ (fitW (szs im) w)) : image_Fits_W im w Φ := by
  have hl := sizesE_len h
  rw [szs_len] at hl
  exact image_Check_ok (by omega) ⟨fun q => absurd h q, fun _ => image_fits_ok hd (fun k hk => Nat.le_trans (szs_small h k hk) (by omega)) hΦ⟩
theorem sizes_ok {l : List Int} (h : ¬ sizesE l ≠ 0) : l.length ≤ 8 ∧ 1 ≤ l.length ∧ ∀ k : Nat, k < l.length → 1 ≤ ix l (k : Int) ∧ ix l (k : Int) ≤ 4096 := by
  have h0 := Classical.not_not.1 h
  unfold sizesE at h0
  split at h0
  · omega
  · refine ⟨by omega, by omega, fun k hk => ?_⟩
    have := firstN_zero.1 h0 k hk
    split at this <;> omega
theorem fitW_zero {sizes : List Int} {w : api_Write} (hs : ¬ sizesE sizes ≠ 0) (h : fitW sizes w = 0) : 0 ≤ w.Volume ∧ w.Volume < (sizes.length : Int) ∧ 1 ≤ w.Data.length ∧ 0 ≤ w.Start ∧ w.Start + (w.Data.length : Int) ≤ ix sizes w.Volume ∧ ix sizes w.Volume ≤ 4096 := by
  unfold fitW at h
  split at h
  · omega
  split at h
  · omega
  split at h
  · omega
  obtain ⟨v, hv⟩ := Int.eq_ofNat_of_zero_le (show 0 ≤ w.Volume by omega)
  have hz := (sizes_ok hs).2.2 v (by omega)
  rw [← hv] at hz
  omega
theorem ix_put {α : Type} [Dt α] (xs : List α) {i j : Nat} (x : α) (hi : i < xs.length) : ix (put xs (i : Int) x) (j : Int) = if j = i then x else ix xs (j : Int) := by
  show (xs.set i x).getD j default = if j = i then x else xs.getD j default
  rw [List.getD_eq_getElem?_getD, List.getD_eq_getElem?_getD]
  by_cases h : j = i
  · subst h; rw [List.getElem?_set_self hi, if_pos rfl]; rfl
  · rw [List.getElem?_set_ne (by omega), if_neg h]
theorem put_put {α : Type} (xs : List α) (i : Int) (x y : α) : put (put xs i x) i y = put xs i y := by unfold put; rw [List.set_set]
theorem ix_put_self {α : Type} [Dt α] {xs : List α} {i : Int} (x : α) (hi : inX i xs.length) : ix (put xs i x) i = x := by
  obtain ⟨k, rfl⟩ := Int.eq_ofNat_of_zero_le hi.1
  rw [ix_put xs x (by have := hi.2; omega), if_pos rfl]
theorem ix_paste {α : Type} [Dt α] {xs ys : List α} {s i : Nat} (h : s + ys.length ≤ xs.length) : ix (paste xs (s : Int) ys) (i : Int) = if s ≤ i ∧ i < s + ys.length then ix ys ((i : Int) - (s : Int)) else ix xs (i : Int) := by
  show (paste xs (s : Int) ys).getD i default = if _ then ys.getD ((i : Int) - (s : Int)).toNat default else xs.getD i default
  unfold paste
  rw [Int.toNat_natCast, List.getD_eq_getElem?_getD, List.getD_eq_getElem?_getD, List.getD_eq_getElem?_getD]
  have e1 : (xs.take s).length = s := by rw [List.length_take]; omega
  have e2 : ys.take (xs.length - s) = ys := List.take_of_length_le (by omega)
  have e3 : min ys.length (xs.length - s) = ys.length := by omega
  rw [e2, e3]
  by_cases h1 : i < s
  · rw [if_neg (by omega), List.getElem?_append_left (by omega), List.getElem?_take_of_lt h1]
  · by_cases h2 : i < s + ys.length
    · rw [if_pos (by omega), List.getElem?_append_right (by omega), e1, List.getElem?_append_left (by omega), show ((i : Int) - (s : Int)).toNat = i - s by omega]
    · rw [if_neg (by omega), List.getElem?_append_right (by omega), e1, List.getElem?_append_right (by omega), List.getElem?_drop]
      congr 2
      omega
theorem paste_len' {α : Type} {xs ys : List α} {s : Nat} (h : s ≤ xs.length) : (paste xs (s : Int) ys).length = xs.length := paste_len ⟨by omega, by omega, by omega⟩
theorem paste_nil {α : Type} [Dt α] {xs : List α} {s : Nat} (h : s ≤ xs.length) : paste xs (s : Int) [] = xs :=
  ext_ix (paste_len' h) fun k _ => by rw [ix_paste (by simpa using h), if_neg fun q => by have := q.2; rw [List.length_nil] at this; omega]
theorem paste_step {α : Type} [Dt α] {xs ys : List α} {s m : Nat} (h : s + ys.length ≤ xs.length) (hm : m < ys.length) : put (paste xs (s : Int) (ys.take m)) ((s : Int) + (m : Int)) (ix ys (m : Int)) = paste xs (s : Int) (ys.take (m + 1)) := by
  have l1 : (ys.take m).length = m := by rw [List.length_take]; omega
  have l2 : (ys.take (m + 1)).length = m + 1 := by rw [List.length_take]; omega
  have p1 : (paste xs (s : Int) (ys.take m)).length = xs.length := paste_len' (by omega)
  refine ext_ix (by rw [put_len, p1, paste_len' (by omega)]) fun k hk => ?_
  rw [put_len, p1] at hk
  rw [show (s : Int) + (m : Int) = ((s + m : Nat) : Int) by omega, ix_put _ _ (by omega), ix_paste (by omega), ix_paste (by omega), l1, l2]
  have tk : ∀ q j : Nat, j < q → j < ys.length → ix (ys.take q) (j : Int) = ix ys (j : Int) := fun q j h1 h2 => by
    rw [ix_get (by rw [List.length_take]; omega), ix_get h2, List.getElem_take]
  by_cases h1 : k = s + m
  · rw [if_pos h1, if_pos (by omega), show (k : Int) - (s : Int) = (m : Int) by omega, tk _ _ (by omega) hm]
  · rw [if_neg h1]
    by_cases h2 : s ≤ k ∧ k < s + m
    · rw [if_pos h2, if_pos (by omega), show (k : Int) - (s : Int) = ((k - s : Nat) : Int) by omega, tk _ _ (by omega) (by omega), tk _ _ (by omega) (by omega)]
    · rw [if_neg h2, if_neg (by omega)]
def apply1 (im : List (List Sec)) (w : api_Write) : List (List Sec) := put im w.Volume (paste (ix im w.Volume) w.Start w.Data)
def appL (im : List (List Sec)) (l : List api_Write) : List (List Sec) := l.foldl apply1 im
theorem appL_snoc (im : List (List Sec)) (l : List api_Write) (w : api_Write) : appL im (l ++ [w]) = apply1 (appL im l) w := by unfold appL; rw [List.foldl_append]; rfl
structure FitW (sizes : List Int) (w : api_Write) (v s : Nat) : Prop where
  vol : w.Volume = (v : Int)
  start : w.Start = (s : Int)
  hv : v < sizes.length
  len : 1 ≤ w.Data.length
  le : ((s + w.Data.length : Nat) : Int) ≤ ix sizes (v : Int)
  top : ix sizes (v : Int) ≤ 4096
theorem fitW_of {sizes : List Int} {w : api_Write} (hs : ¬ sizesE sizes ≠ 0) (h : fitW sizes w = 0) : ∃ v s : Nat, FitW sizes w v s := by
  have := fitW_zero hs h
  obtain ⟨v, hv⟩ := Int.eq_ofNat_of_zero_le this.1
  obtain ⟨s, hst⟩ := Int.eq_ofNat_of_zero_le this.2.2.2.1
  rw [hv, hst] at this
  exact ⟨v, s, hv, hst, by omega, by omega, by omega, by omega⟩
theorem szs_apply1 {im : List (List Sec)} {w : api_Write} {v s : Nat} (h : FitW (szs im) w v s) : szs (apply1 im w) = szs im := by
  have hv := h.hv
  rw [szs_len] at hv
  have hle := h.le
  rw [ix_szs hv] at hle
  unfold apply1
  rw [h.vol, h.start]
  refine ext_ix (by rw [szs_len, szs_len, put_len]) fun k hk => ?_
  rw [szs_len, put_len] at hk
  rw [ix_szs (by rw [put_len]; exact hk), ix_szs hk, ix_put _ _ hv]
  by_cases hkv : k = v
  · rw [if_pos hkv, paste_len' (by omega), hkv]
  · rw [if_neg hkv]
theorem szs_appL {im : List (List Sec)} (hs : ¬ sizesE (szs im) ≠ 0) : ∀ {l : List api_Write}, (∀ w ∈ l, fitW (szs im) w = 0) → szs (appL im l) = szs im := by
  intro l
  induction l generalizing im with
  | nil => intro _; rfl
  | cons w l ih =>
    intro h
    obtain ⟨v, s, hw⟩ := fitW_of hs (h w (List.mem_cons_self ..))
    have e := szs_apply1 hw
    show szs (appL (apply1 im w) l) = _
    rw [ih (by rw [e]; exact hs) fun x hx => by rw [e]; exact h x (List.mem_cons_of_mem _ hx), e]
def sec (im : List (List Sec)) (v i : Nat) : Sec := ix (ix im (v : Int)) (i : Int)
theorem fit_small {im : List (List Sec)} (hs : ¬ sizesE (szs im) ≠ 0) : im.length ≤ 8 ∧ 1 ≤ im.length ∧ ∀ v : Nat, v < im.length → 1 ≤ (ix im (v : Int)).length ∧ (ix im (v : Int)).length ≤ 4096 := by
  obtain ⟨h1, h2, h3⟩ := sizes_ok hs
  rw [szs_len] at h1 h2 h3
  refine ⟨h1, h2, fun v hv => ?_⟩
  have := h3 v hv
  rw [ix_szs hv] at this
  omega
theorem fit_data {l : List Int} {w : api_Write} (hs : sizesE l = 0) (h : fitW l w = 0) : w.Data.length ≤ 4096 := by
  have := fitW_zero (by omega) h; omega
theorem slices_Clone_Sec_ok {l : List Sec} {Φ : List Sec → Prop} (hl : l.length ≤ 1000000) (hΦ : Φ l) : slices_Clone_api_Sector_api_Sector_W l Φ :=
  ⟨fun h => (by subst h; exact hΦ), iL hl (by omega), hΦ⟩
theorem image_copiedE_ok {im : List (List Sec)} {Φ : List (List Sec) → Prop} (h : imgE im = 0) (hΦ : Φ im) : image_copiedE_W im Φ := by
  have hl := sizesE_len h
  rw [szs_len] at hl
  refine ⟨by omega, iL (by omega) (by omega), ?_⟩
  refine LoopW.upT im.length (fun k => (im.take k, (k : Int))) rfl (fun k rec hk hr => ?_) fun rec => ⟨fun _ => by omega, fun _ => by rw [take_all]; exact hΦ⟩
  have := szs_small h k hk
  refine ⟨fun _ => ⟨iX (by omega) (by omega), slices_Clone_Sec_ok (by omega) ⟨iL (by rw [len_snoc, lenT (by omega)]; omega) (by omega), iI (by omega) (by omega), hr _ (by rw [take_ix hk]; rfl)⟩⟩, fun _ => by omega⟩
theorem appL_take {im : List (List Sec)} {l : List api_Write} {k : Nat} (h : k < l.length) : appL im (l.take (k + 1)) = apply1 (appL im (l.take k)) (ix l (k : Int)) := by rw [take_ix h, appL_snoc]
theorem szs_takeL {im : List (List Sec)} {l : List api_Write} (hs : imgE im = 0) (hf : ∀ w ∈ l, fitW (szs im) w = 0) (k : Nat) : szs (appL im (l.take k)) = szs im := szs_appL (by rw [show sizesE (szs im) = 0 from hs]; simp) fun w hw => hf w (List.mem_of_mem_take hw)
theorem image_Apply_ok {im : List (List Sec)} {l : List api_Write} {Φ : List (List Sec) × Int × Int → Prop} (hl : l.length ≤ 1000000) (hs : imgE im = 0) (hf : ∀ w ∈ l, fitW (szs im) w = 0) (hΦ : Φ (appL im l, 0, 0)) : image_Apply_W im l Φ := by
  have h8 := sizesE_len hs
  rw [szs_len] at h8
  refine image_Check_ok (by omega) ⟨fun q => absurd hs q, fun _ => image_copiedE_ok hs ?_⟩
  refine LoopW.upT l.length (fun k => (appL im (l.take k), (k : Int))) rfl (fun k rec hk hr => ?_) fun rec => ⟨fun _ => by omega, fun _ => by rw [take_all]; exact hΦ⟩
  have hw := hf _ (ix_mem (iX (i := (k : Int)) (n := l.length) (by omega) (by omega)))
  have e := szs_takeL hs hf k
  have hs' : imgE (appL im (l.take k)) = 0 := by unfold imgE; rw [e]; exact hs
  obtain ⟨v, s, hfw⟩ := fitW_of (by rw [show sizesE (szs im) = 0 from hs]; simp) hw
  have hv := hfw.hv
  have hle := hfw.le
  rw [← e, szs_len] at hv
  rw [← e, ix_szs hv] at hle
  refine ⟨fun _ => ⟨iX (by omega) (by omega), image_fits_ok (by have := fit_data (show sizesE (szs im) = 0 from hs) hw; omega) (fun j hj => Nat.le_trans (szs_small hs' j hj) (by omega)) ?_⟩, fun _ => by omega⟩
  rw [e, hw]
  refine ⟨fun q => absurd rfl q, fun _ => ?_⟩
  refine ⟨by rw [hfw.vol]; exact iX (by omega) (by omega), by rw [hfw.vol, hfw.start]; exact iS (by omega) (by omega) (by omega), iI (by omega) (by omega), hr _ (by rw [appL_take hk]; rfl)⟩
def idxN (p : Nat → Bool) (n : Nat) : Int := match (List.range n).find? p with
  | some k => (k : Int)
  | none => -1
theorem idxN_hit {p : Nat → Bool} {n k : Nat} (hk : k < n) (h0 : ∀ j, j < k → p j = false) (h1 : p k = true) : idxN p n = (k : Int) := by
  unfold idxN
  have : (List.range n).find? p = some k := by
    rw [List.find?_range_eq_some]
    exact ⟨h1, List.mem_range.2 hk, fun j hj => by rw [h0 j hj]; rfl⟩
  rw [this]
theorem idxN_none {p : Nat → Bool} {n : Nat} (h0 : ∀ j, j < n → p j = false) : idxN p n = -1 := by
  unfold idxN
  have : (List.range n).find? p = none := by
    rw [List.find?_eq_none]
    intro j hj
    rw [h0 j (List.mem_range.1 hj)]; simp
  rw [this]
theorem LoopW.idxL {step : Int → (Int → Prop) → Prop} (n : Nat) (p : Nat → Bool) {Φ : Int → Prop} (hΦ : Φ (idxN p n)) (h : ∀ (k : Nat) rec, k < n → (p k = true → Φ (k : Int)) → (p k = false → rec ((k : Int) + 1)) → step (k : Int) rec)
    (he : ∀ rec, Φ (-1) → step (n : Int) rec) : LoopW step 0 := by
  refine LoopW.up n (fun k => ∀ j, j < k → p j = false) ?_ rfl (Nat.zero_le _) (fun j hj => absurd hj (Nat.not_lt_zero j))
  intro k rec hk hI hrec
  rcases Nat.lt_or_ge k n with hlt | hge
  · refine h k rec hlt (fun h1 => by rw [idxN_hit hlt hI h1] at hΦ; exact hΦ) fun h0 => hrec hlt fun j hj => ?_
    rcases Nat.lt_or_ge j k with h2 | h2
    · exact hI j h2
    · have : j = k := by omega
      subst this; exact h0
  · have e : k = n := by omega
    subst e
    exact he rec (by rw [idxN_none hI] at hΦ; exact hΦ)
theorem idxN_nonneg {p : Nat → Bool} {n : Nat} : 0 ≤ idxN p n ↔ ∃ k, k < n ∧ p k = true := by
  unfold idxN
  cases h : (List.range n).find? p with
  | some k => exact ⟨fun _ => ⟨k, List.mem_range.1 (List.mem_of_find?_eq_some h), List.find?_some h⟩, fun _ => by simp⟩
  | none =>
    rw [List.find?_eq_none] at h
    exact ⟨fun q => absurd q (by simp), fun ⟨k, hk, hp⟩ => absurd hp (h k (List.mem_range.2 hk))⟩
theorem idxN_cases (p : Nat → Bool) (n : Nat) : (idxN p n = -1 ∧ ∀ k, k < n → p k = false) ∨ ∃ k, k < n ∧ idxN p n = (k : Int) ∧ p k = true ∧ ∀ j, j < k → p j = false := by
  unfold idxN
  cases h : (List.range n).find? p with
  | none => exact .inl ⟨rfl, fun k hk => by rw [List.find?_eq_none] at h; have := h k (List.mem_range.2 hk); simpa using this⟩
  | some k =>
    rw [List.find?_range_eq_some] at h
    exact .inr ⟨k, List.mem_range.1 h.2.1, rfl, h.1, fun j hj => by have := h.2.2 j hj; simpa using this⟩
theorem idxN_succ (p : Nat → Bool) (n : Nat) : idxN p (n + 1) = if 0 ≤ idxN p n then idxN p n else if p n = true then (n : Int) else -1 := by
  rcases idxN_cases p n with ⟨h, h0⟩ | ⟨k, hk, h, h1, h0⟩
  · rw [h, if_neg (by omega)]
    by_cases hp : p n = true
    · rw [if_pos hp]; exact idxN_hit (Nat.lt_succ_self n) h0 hp
    · rw [if_neg hp]
      refine idxN_none fun j hj => ?_
      rcases Nat.lt_or_ge j n with h2 | h2
      · exact h0 j h2
      · obtain rfl : j = n := by omega
        simpa using hp
  · rw [h, if_pos (by omega)]; exact idxN_hit (by omega) h0 h1
theorem idxN_congr {p q : Nat → Bool} {n : Nat} (h : ∀ k, k < n → p k = q k) : idxN p n = idxN q n := by
  induction n with
  | zero => rfl
  | succ n ih => rw [idxN_succ, idxN_succ, ih fun k hk => h k (by omega), h n (Nat.lt_succ_self n)]
theorem idxN_lt (p : Nat → Bool) (n : Nat) : -1 ≤ idxN p n ∧ idxN p n < (n : Int) ∨ n = 0 ∧ idxN p n = -1 := by
  rcases idxN_cases p n with ⟨h, _⟩ | ⟨k, hk, h, _⟩
  · rw [h]
    rcases Nat.eq_zero_or_pos n with h0 | h0
    · exact .inr ⟨h0, rfl⟩
    · exact .inl ⟨by omega, by omega⟩
  · rw [h]; exact .inl ⟨by omega, by omega⟩
def atN (l : List api_HistoryEvent) (n : Nat) (e : api_HistoryEvent) : Int := idxN (fun k => decide (ix l (k : Int) = e)) n
theorem atN_succ (l : List api_HistoryEvent) (n : Nat) (e : api_HistoryEvent) : atN l (n + 1) e = if 0 ≤ atN l n e then atN l n e else if ix l (n : Int) = e then (n : Int) else -1 := by
  unfold atN; rw [idxN_succ]; simp
theorem atN_keep {l : List api_HistoryEvent} {n : Nat} {e : api_HistoryEvent} (h : ix l (n : Int) ≠ e) : atN l (n + 1) e = atN l n e := by
  rw [atN_succ, if_neg h]
  rcases idxN_cases (fun k => decide (ix l (k : Int) = e)) n with ⟨q, _⟩ | ⟨k, _, q, _⟩
  · have q : atN l n e = -1 := q
    rw [q, if_neg (by omega)]
  · have q : atN l n e = (k : Int) := q
    rw [q, if_pos (by omega)]
theorem atN_here {l : List api_HistoryEvent} {n : Nat} (h : atN l n (ix l (n : Int)) < 0) : atN l (n + 1) (ix l (n : Int)) = (n : Int) := by rw [atN_succ, if_neg (by omega), if_pos rfl]
theorem atN_old {l : List api_HistoryEvent} {n : Nat} {e : api_HistoryEvent} (h : 0 ≤ atN l n e) : atN l (n + 1) e = atN l n e := by rw [atN_succ, if_pos h]
theorem atN_nn {l : List api_HistoryEvent} {n : Nat} {e : api_HistoryEvent} : 0 ≤ atN l (n + 1) e ↔ 0 ≤ atN l n e ∨ ix l (n : Int) = e := by
  rw [atN_succ]
  by_cases h : 0 ≤ atN l n e
  · rw [if_pos h]; exact ⟨fun q => .inl q, fun _ => h⟩
  · rw [if_neg h]
    by_cases q : ix l (n : Int) = e
    · rw [if_pos q]; exact ⟨fun _ => .inr q, fun _ => by omega⟩
    · rw [if_neg q]; exact ⟨fun r => by omega, fun r => (r.elim (fun r => absurd r h) fun r => absurd r q)⟩
theorem atN_lt (l : List api_HistoryEvent) (n : Nat) (e : api_HistoryEvent) : -1 ≤ atN l n e ∧ atN l n e < (n : Int) ∨ atN l n e = -1 := by
  rcases idxN_lt (fun k => decide (ix l (k : Int) = e)) n with h | h
  · exact .inl h
  · exact .inr h.2
theorem atN_neg {l : List api_HistoryEvent} {n : Nat} {e : api_HistoryEvent} (h : ¬ 0 ≤ atN l n e) : atN l n e = -1 := by
  rcases atN_lt l n e with q | q <;> omega
def cntI (l : List api_HistoryEvent) : Nat → Nat
  | 0 => 0
  | k + 1 => cntI l k + if (ix l (k : Int)).Kind = 0 then 1 else 0
theorem cntI_le (l : List api_HistoryEvent) : ∀ k, cntI l k ≤ k
  | 0 => Nat.le_refl _
  | k + 1 => by have := cntI_le l k; unfold cntI; split <;> omega
def evErr (l : List api_HistoryEvent) (n : Nat) (k : Nat) : Int :=
  if (ix l (k : Int)).Kind = 0 then (if (ix l (k : Int)).Write ≠ (cntI l k : Int) ∨ n ≤ cntI l k then 3 else 0)
  else if (ix l (k : Int)).Kind ≠ 1 then 3 else if (ix l (k : Int)).Write < 0 ∨ (cntI l k : Int) ≤ (ix l (k : Int)).Write then 7 else if 0 ≤ atN l k (ix l (k : Int)) then 8 else 0
theorem evErr_issue {l : List api_HistoryEvent} {n k : Nat} (h : evErr l n k = 0) (hk : (ix l (k : Int)).Kind = 0) : ix l (k : Int) = ⟨0, (cntI l k : Int)⟩ ∧ cntI l k < n := by
  unfold evErr at h
  rw [if_pos hk] at h
  by_cases q : (ix l (k : Int)).Write ≠ (cntI l k : Int) ∨ n ≤ cntI l k
  · rw [if_pos q] at h; cases h
  · refine ⟨?_, by omega⟩
    cases hx : ix l (k : Int) with
    | mk a b => rw [hx] at hk q; simp only at hk q; rw [hk, show b = (cntI l k : Int) by omega]
theorem evErr_ack {l : List api_HistoryEvent} {n k : Nat} (h : evErr l n k = 0) (hk : ¬ (ix l (k : Int)).Kind = 0) : ix l (k : Int) = ⟨1, (ix l (k : Int)).Write⟩ ∧ 0 ≤ (ix l (k : Int)).Write ∧ (ix l (k : Int)).Write < (cntI l k : Int) ∧ atN l k (ix l (k : Int)) = -1 := by
  unfold evErr at h
  rw [if_neg hk] at h
  by_cases q : (ix l (k : Int)).Kind ≠ 1
  · rw [if_pos q] at h; cases h
  rw [if_neg q] at h
  by_cases r : (ix l (k : Int)).Write < 0 ∨ (cntI l k : Int) ≤ (ix l (k : Int)).Write
  · rw [if_pos r] at h; cases h
  rw [if_neg r] at h
  by_cases s : 0 ≤ atN l k (ix l (k : Int))
  · rw [if_pos s] at h; cases h
  refine ⟨?_, by omega, by omega, atN_neg s⟩
  cases hx : ix l (k : Int) with
  | mk a b => rw [hx] at q; simp only at q; rw [Classical.not_not.1 q]
theorem cnt_issue {l : List api_HistoryEvent} {k : Nat} (h : (ix l (k : Int)).Kind = 0) : cntI l (k + 1) = cntI l k + 1 := by rw [cntI, if_pos h]
theorem cnt_ack {l : List api_HistoryEvent} {k : Nat} (h : ¬ (ix l (k : Int)).Kind = 0) : cntI l (k + 1) = cntI l k := by rw [cntI, if_neg h]; rfl
theorem at_issue {l : List api_HistoryEvent} {n : Nat} : ∀ {k : Nat}, (∀ j, j < k → evErr l n j = 0) → ∀ w : Int, 0 ≤ atN l k ⟨0, w⟩ ↔ 0 ≤ w ∧ w < (cntI l k : Int)
  | 0, _, w => ⟨fun h => absurd (show (0 : Int) ≤ -1 from h) (by decide), fun h => by unfold cntI at h; omega⟩
  | k + 1, hz, w => by
    rw [atN_nn, at_issue (fun j hj => hz j (by omega)) w]
    by_cases hk : (ix l (k : Int)).Kind = 0
    · have := (evErr_issue (hz k (Nat.lt_succ_self k)) hk).1
      rw [this, cnt_issue hk, api_HistoryEvent.mk.injEq]; omega
    · rw [cnt_ack hk]
      refine ⟨fun h => h.elim id fun q => absurd (by rw [q]) hk, .inl⟩
theorem at_ack {l : List api_HistoryEvent} {n : Nat} : ∀ {k : Nat}, (∀ j, j < k → evErr l n j = 0) → ∀ w : Int, 0 ≤ atN l k ⟨1, w⟩ → 0 ≤ w ∧ w < (cntI l k : Int)
  | 0, _, w => fun h => absurd (show (0 : Int) ≤ -1 from h) (by decide)
  | k + 1, hz, w => by
    rw [atN_nn]
    have ih := at_ack (k := k) (fun j hj => hz j (by omega)) w
    by_cases hk : (ix l (k : Int)).Kind = 0
    · rw [cnt_issue hk]
      rintro (h | h)
      · have := ih h; omega
      · rw [h] at hk; cases hk
    · rw [cnt_ack hk]
      rintro (h | h)
      · exact ih h
      · have := evErr_ack (hz k (Nat.lt_succ_self k)) hk
        rw [h] at this; exact ⟨this.2.1, this.2.2.1⟩
theorem cnt_le {l : List api_HistoryEvent} {n : Nat} : ∀ {k : Nat}, (∀ j, j < k → evErr l n j = 0) → cntI l k ≤ n
  | 0, _ => Nat.zero_le _
  | k + 1, hz => by
    by_cases hk : (ix l (k : Int)).Kind = 0
    · have := (evErr_issue (hz k (Nat.lt_succ_self k)) hk).2
      rw [cnt_issue hk]; omega
    · rw [cnt_ack hk]; exact cnt_le fun j hj => hz j (by omega)
def issL (l : List api_HistoryEvent) (k : Nat) : List Int := (List.range (cntI l k)).map fun w : Nat => atN l k ⟨0, (w : Int)⟩
def ackL (l : List api_HistoryEvent) (k : Nat) : List Int := (List.range (cntI l k)).map fun w : Nat => atN l k ⟨1, (w : Int)⟩
theorem issL_len (l : List api_HistoryEvent) (k : Nat) : (issL l k).length = cntI l k := by unfold issL; rw [List.length_map, List.length_range]
theorem ackL_len (l : List api_HistoryEvent) (k : Nat) : (ackL l k).length = cntI l k := by unfold ackL; rw [List.length_map, List.length_range]
theorem ix_ackL {l : List api_HistoryEvent} {k w : Nat} (h : w < cntI l k) : ix (ackL l k) (w : Int) = atN l k ⟨1, (w : Int)⟩ := by
  rw [ix_get (by rw [ackL_len]; exact h)]; unfold ackL; rw [List.getElem_map, List.getElem_range]
theorem issL_issue {l : List api_HistoryEvent} {n k : Nat} (hz : ∀ j, j < k + 1 → evErr l n j = 0) (hk : (ix l (k : Int)).Kind = 0) : issL l (k + 1) = issL l k ++ [(k : Int)] := by
  have h0 : ∀ j, j < k → evErr l n j = 0 := fun j hj => hz j (by omega)
  have hx := (evErr_issue (hz k (Nat.lt_succ_self k)) hk).1
  unfold issL
  rw [cnt_issue hk, List.range_succ, List.map_append]
  congr 1
  · refine List.map_congr_left fun w hw => atN_old ((at_issue h0 _).2 ⟨by omega, by have := List.mem_range.1 hw; omega⟩)
  · simp only [List.map_cons, List.map_nil]
    rw [← hx, atN_here (by rw [hx]; have := mt (at_issue h0 (cntI l k : Int)).1 (by omega); omega)]
theorem ackL_issue {l : List api_HistoryEvent} {n k : Nat} (hz : ∀ j, j < k + 1 → evErr l n j = 0) (hk : (ix l (k : Int)).Kind = 0) : ackL l (k + 1) = ackL l k ++ [-1] := by
  have h0 : ∀ j, j < k → evErr l n j = 0 := fun j hj => hz j (by omega)
  have hx := (evErr_issue (hz k (Nat.lt_succ_self k)) hk).1
  have hne : ∀ w : Int, ix l (k : Int) ≠ ⟨1, w⟩ := fun w q => by rw [q] at hk; cases hk
  unfold ackL
  rw [cnt_issue hk, List.range_succ, List.map_append]
  congr 1
  · exact List.map_congr_left fun w _ => atN_keep (hne _)
  · simp only [List.map_cons, List.map_nil]
    rw [atN_keep (hne _), atN_neg (fun q => by have := at_ack h0 _ q; omega)]
theorem issL_ack {l : List api_HistoryEvent} {k : Nat} (hk : ¬ (ix l (k : Int)).Kind = 0) : issL l (k + 1) = issL l k := by
  unfold issL
  rw [cnt_ack hk]
  exact List.map_congr_left fun w _ => atN_keep fun q => hk (by rw [q])
theorem ackL_ack {l : List api_HistoryEvent} {n k : Nat} (hz : ∀ j, j < k + 1 → evErr l n j = 0) (hk : ¬ (ix l (k : Int)).Kind = 0) : ackL l (k + 1) = put (ackL l k) (ix l (k : Int)).Write (k : Int) := by
  obtain ⟨hx, h1, h2, h3⟩ := evErr_ack (hz k (Nat.lt_succ_self k)) hk
  obtain ⟨w, hw⟩ := Int.eq_ofNat_of_zero_le h1
  rw [hw] at hx h2 ⊢
  refine ext_ix (by rw [put_len, ackL_len, ackL_len, cnt_ack hk]) fun j hj => ?_
  rw [ackL_len, cnt_ack hk] at hj
  rw [ix_put _ _ (by rw [ackL_len]; omega), ix_ackL (by rw [cnt_ack hk]; exact hj), ix_ackL hj]
  by_cases hjw : j = w
  · rw [if_pos hjw, hjw, ← hx, atN_here (by rw [h3]; omega)]
  · rw [if_neg hjw, atN_keep (by rw [hx]; intro q; rw [api_HistoryEvent.mk.injEq] at q; omega)]
def evE (h : api_History) : Int := if firstN (evErr h.Events h.Writes.length) h.Events.length ≠ 0 then firstN (evErr h.Events h.Writes.length) h.Events.length else if cntI h.Events h.Events.length < h.Writes.length then 3 else 0
def histE (h : api_History) : Int := if sizesE h.Sizes ≠ 0 then sizesE h.Sizes else if 4096 < (h.Writes.length : Int) then 6 else if firstN (fun k => fitW h.Sizes (ix h.Writes (k : Int))) h.Writes.length ≠ 0 then firstN (fun k => fitW h.Sizes (ix h.Writes (k : Int))) h.Writes.length else evE h
def tlH (h : api_History) : history_timeline := ⟨issL h.Events h.Events.length, ackL h.Events h.Events.length⟩
def noH : history_checked := ⟨⟨[], [], []⟩, ⟨[], []⟩⟩
structure SmallH (h : api_History) : Prop where
  ev : h.Events.length ≤ 100000
  wr : h.Writes.length ≤ 100000
  data : ∀ k : Nat, k < h.Writes.length → (ix h.Writes (k : Int)).Data.length ≤ 100000
theorem history_check_ok {h : api_History} {Φ : history_checked × Int → Prop} (hh : SmallH h) (k0 : histE h = 0 → Φ (⟨h, tlH h⟩, 0)) (k1 : histE h ≠ 0 → Φ (noH, histE h)) : history_check_W h Φ := by
  unfold histE at k0 k1
  refine image_New_ok (fun hs => ⟨fun q => absurd rfl q, fun _ => ?_⟩) fun hs => ⟨fun _ => ?_, fun q => absurd hs q⟩
  · rw [if_neg (by omega)] at k0 k1
    refine ⟨fun q => ?_, fun q => ?_⟩
    · rw [if_pos q] at k1; exact k1 (by omega)
    rw [if_neg q] at k0 k1
    have hi : imgE (zeroI h.Sizes) = 0 := by unfold imgE; rw [szs_zeroI hs, hs]
    refine LoopW.errI (Ψ := fun e => (e = 0 → LoopW (history_check_L2 h Φ) (0, [], [])) ∧ (e ≠ 0 → Φ (noH, e))) h.Writes.length (fun k => (k : Int)) (fun k => fitW h.Sizes (ix h.Writes (k : Int))) rfl ⟨fun hf => ?_, fun hf => ?_⟩
      (fun k rec hk _ h1 h2 => ⟨fun _ => ⟨iX (by omega) (by omega), image_Fits_ok (by have := hh.data k hk; omega) hi ?_⟩, fun _ => by omega⟩) fun rec _ h0 => ⟨fun _ => by omega, fun _ => h0.1 rfl⟩
    · rw [if_neg (by omega)] at k0 k1
      unfold evE at k0 k1
      refine LoopW.errI (Ψ := fun e => (e = 0 → (cntI h.Events h.Events.length < h.Writes.length → Φ (noH, 3)) ∧ (¬ cntI h.Events h.Events.length < h.Writes.length → Φ (⟨h, tlH h⟩, 0))) ∧ (e ≠ 0 → Φ (noH, e))) h.Events.length (fun k => ((k : Int), issL h.Events k, ackL h.Events k))
        (evErr h.Events h.Writes.length) rfl ⟨fun hf => ⟨fun hc => ?_, fun hc => ?_⟩, fun hf => ?_⟩ (fun k rec hk h0 h1 h2 => ⟨fun _ => ⟨iX (by omega) (by omega), ?_⟩, fun _ => by omega⟩) fun rec _ h0 => ⟨fun _ => by omega, fun _ => ⟨fun q => ?_, fun q => ?_⟩⟩
      · rw [if_neg (by omega), if_pos hc] at k1; exact k1 (by omega)
      · rw [if_neg (by omega), if_neg hc] at k0; exact k0 rfl
      · rw [if_pos hf] at k1; exact k1 hf
      · have hev := hh.ev
        have hcl := cntI_le h.Events k
        have fail : ∀ e : Int, e ≠ 0 → evErr h.Events h.Writes.length k = e → history_check_J3 (k : Int) rec Φ (e, issL h.Events k, ackL h.Events k) := fun e he hq => ⟨fun _ => (by have := (h1 (by rw [hq]; exact he)).2 (by rw [hq]; exact he); rw [hq] at this; exact this), fun q => absurd he q⟩
        have good : evErr h.Events h.Writes.length k = 0 → history_check_J3 (k : Int) rec Φ (0, issL h.Events (k + 1), ackL h.Events (k + 1)) := fun hq => ⟨fun q => absurd rfl q, fun _ => ⟨iI (by omega) (by omega), h2 hq _ rfl⟩⟩
        have hz : evErr h.Events h.Writes.length k = 0 → ∀ j, j < k + 1 → evErr h.Events h.Writes.length j = 0 := fun hq j hj => by
          rcases Nat.lt_or_ge j k with h3 | h3
          · exact h0 j h3
          · obtain rfl : j = k := by omega
            exact hq
        show (_ → _) ∧ _
        refine ⟨fun hk0 => ⟨fun q => ?_, fun q => ⟨fun r => ?_, fun r => ?_⟩⟩, fun hk0 => ⟨fun hk1 => ⟨fun q => ?_, fun q => ⟨fun r => ?_, fun r => ?_⟩⟩, fun hk1 => ?_⟩⟩
        · rw [issL_len] at q
          exact fail 3 (by omega) (by unfold evErr; rw [if_pos hk0, if_pos (.inl q)])
        · rw [issL_len] at q
          exact fail 3 (by omega) (by unfold evErr; rw [if_pos hk0, if_pos (by omega)])
        · rw [issL_len] at q
          have e0 : evErr h.Events h.Writes.length k = 0 := by unfold evErr; rw [if_pos hk0, if_neg (by omega)]
          refine ⟨iL (by rw [len_snoc, issL_len]; omega) (by omega), iL (by rw [len_snoc, ackL_len]; omega) (by omega), ?_⟩
          have := good e0
          rw [issL_issue (hz e0) hk0, ackL_issue (hz e0) hk0] at this; exact this
        · exact fail 7 (by omega) (by unfold evErr; rw [if_neg hk0, if_neg (by omega), if_pos (.inl q)])
        · rw [issL_len] at r
          exact fail 7 (by omega) (by unfold evErr; rw [if_neg hk0, if_neg (by omega), if_pos (.inr r)])
        · rw [issL_len] at r
          obtain ⟨w, hw⟩ := Int.eq_ofNat_of_zero_le (show 0 ≤ (ix h.Events (k : Int)).Write by omega)
          have hwl : w < cntI h.Events k := by omega
          have ha : ix (ackL h.Events k) (ix h.Events (k : Int)).Write = atN h.Events k (ix h.Events (k : Int)) := by
            rw [hw, ix_ackL hwl]
            congr 1
            cases hx : ix h.Events (k : Int) with
            | mk a b => rw [hx] at hw hk1; simp only at hw hk1; rw [hw, hk1]
          have hX : inX (ix h.Events (k : Int)).Write (ackL h.Events k).length := iX (by omega) (by rw [ackL_len]; omega)
          refine ⟨hX, fun s => ?_, fun s => ⟨hX, ?_⟩⟩
          · rw [ha] at s
            exact fail 8 (by omega) (by unfold evErr; rw [if_neg hk0, if_neg (by omega), if_neg (by omega), if_pos s])
          · rw [ha] at s
            have e0 : evErr h.Events h.Writes.length k = 0 := by unfold evErr; rw [if_neg hk0, if_neg (by omega), if_neg (by omega), if_neg s]
            have := good e0
            rw [issL_ack hk0, ackL_ack (hz e0) hk0] at this; exact this
        · exact fail 3 (by omega) (by unfold evErr; rw [if_neg hk0, if_pos hk1])
      · rw [issL_len] at q; exact (h0.1 rfl).1 (by omega)
      · rw [issL_len] at q; exact (h0.1 rfl).2 (by omega)
    · rw [if_pos hf] at k1; exact k1 hf
    · rw [szs_zeroI hs]
      exact ⟨fun q => (h1 q).2 q, fun q => ⟨iI (by have := hh.wr; omega) (by have := hh.wr; omega), h2 (Classical.not_not.1 q) _ rfl⟩⟩
  · rw [if_pos hs] at k1; exact k1 hs
theorem LoopW.lst {α S : Type} {step : (List α × S) → ((List α × S) → Prop) → Prop} (L : List α) (acc : Nat → S) {s0 : S} (hs : s0 = acc 0)
    (h : ∀ (k : Nat) (hk : k < L.length) rec, (∀ s, s = acc (k + 1) → rec (L.drop (k + 1), s)) → step (L[k] :: L.drop (k + 1), acc k) rec) (he : ∀ rec, step ([], acc L.length) rec) : LoopW step (L, s0) :=
  LoopW.upT L.length (fun k => (L.drop k, acc k)) (by rw [hs]; rfl) (fun k rec hk hr => by rw [List.drop_eq_getElem_cons hk]; exact h k hk rec fun s e => hr _ (by rw [e])) fun rec => by rw [List.drop_length]; exact he rec
theorem sub0 {α : Type} (xs : List α) (k : Nat) : sub xs 0 (k : Int) = xs.take k := by unfold sub; simp
theorem ix_take {α : Type} [Dt α] {xs : List α} {n k : Nat} (h : k < n) (hn : n ≤ xs.length) : ix (xs.take n) (k : Int) = ix xs (k : Int) := by
  rw [ix_get (by rw [lenT hn]; exact h), ix_get (by omega), List.getElem_take]
theorem ref15_At_ok {l : List api_HistoryEvent} {e : api_HistoryEvent} {Φ : Int → Prop} (hl : l.length ≤ 1000000) (hΦ : Φ (atN l l.length e)) : ref15_At_W l e Φ :=
  LoopW.idxL l.length (fun k => decide (ix l (k : Int) = e)) hΦ (fun k rec hk h1 h2 => ⟨fun _ => ⟨iX (by omega) (by omega), fun q => h1 (decide_eq_true q), fun q => ⟨iI (by omega) (by omega), h2 (decide_eq_false q)⟩⟩, fun _ => by omega⟩) fun rec h0 => ⟨fun _ => by omega, fun _ => h0⟩
theorem atN_take (l : List api_HistoryEvent) (e : api_HistoryEvent) {n : Nat} (hn : n ≤ l.length) : atN (l.take n) n e = atN l n e := idxN_congr fun k hk => by rw [ix_take hk hn]
theorem ref15_At_sub {l : List api_HistoryEvent} {n : Nat} {e : api_HistoryEvent} {Φ : Int → Prop} (hn : n ≤ l.length) (hl : l.length ≤ 1000000) (hΦ : Φ (atN l n e)) : ref15_At_W (sub l 0 (n : Int)) e Φ := by
  rw [sub0]
  refine ref15_At_ok (by rw [lenT hn]; omega) ?_
  rw [lenT hn, atN_take l e hn]; exact hΦ
theorem ref15_Check_ok {h : api_History} {Φ : Int → Prop} (hh : SmallH h) (hΦ : Φ (histE h)) : ref15_Check_W h Φ := by
  unfold histE at hΦ
  refine ref07_Sizes_ok ⟨fun q => by rw [if_pos q] at hΦ; exact hΦ, fun q => ?_⟩
  rw [if_neg q] at hΦ
  have hs : sizesE h.Sizes = 0 := Classical.not_not.1 q
  refine ⟨fun r => by rw [if_pos r] at hΦ; exact hΦ, fun r => ?_⟩
  rw [if_neg r] at hΦ
  refine LoopW.errI (Ψ := fun e => (e = 0 → LoopW (ref15_Check_L2 h Φ) (0, 0)) ∧ (e ≠ 0 → Φ e)) h.Writes.length (fun k => (k : Int)) (fun k => fitW h.Sizes (ix h.Writes (k : Int))) rfl ⟨fun hf => ?_, fun hf => ?_⟩
      (fun k rec hk _ h1 h2 => ⟨fun _ => ⟨iX (by omega) (by omega), (fitW h.Sizes (ix h.Writes (k : Int)), ()), ref07_FitsSizes_ok (by have := hh.data k hk; omega) (fun j hj => by have := sizesE_ix hs hj; omega) rfl, fun q => (h1 q).2 q, fun q => ⟨iI (by have := hh.wr; omega) (by have := hh.wr; omega), h2 (Classical.not_not.1 q) _ rfl⟩⟩, fun _ => by omega⟩) fun rec _ h0 => ⟨fun _ => by omega, fun _ => h0.1 rfl⟩
  · rw [if_neg (by omega)] at hΦ
    unfold evE at hΦ
    refine LoopW.errI (Ψ := fun e => (e = 0 → (cntI h.Events h.Events.length < h.Writes.length → Φ 3) ∧ (¬ cntI h.Events h.Events.length < h.Writes.length → Φ 0)) ∧ (e ≠ 0 → Φ e)) h.Events.length (fun k => ((cntI h.Events k : Int), (k : Int)))
      (evErr h.Events h.Writes.length) rfl ⟨fun hf => ⟨fun hc => ?_, fun hc => ?_⟩, fun hf => ?_⟩ (fun k rec hk h0 h1 h2 => ⟨fun _ => ⟨iX (by omega) (by omega), ?_⟩, fun _ => by omega⟩) fun rec _ h0 => ⟨fun _ => by omega, fun _ => ⟨fun q => (h0.1 rfl).1 (by omega), fun q => (h0.1 rfl).2 (by omega)⟩⟩
    · rw [if_neg (by omega), if_pos hc] at hΦ; exact hΦ
    · rw [if_neg (by omega), if_neg hc] at hΦ; exact hΦ
    · rw [if_pos hf] at hΦ; exact hΦ
    · have hev := hh.ev
      have hcl := cntI_le h.Events k
      have fail : ∀ e : Int, e ≠ 0 → evErr h.Events h.Writes.length k = e → Φ e := fun e he hq => by
        have := (h1 (by rw [hq]; exact he)).2 (by rw [hq]; exact he)
        rw [hq] at this; exact this
      have hX : inS 0 (k : Int) h.Events.length := iS (by omega) (by omega) (by omega)
      refine ⟨fun hk0 => ⟨fun q => ?_, fun q => ⟨fun r => ?_, fun r => ?_⟩⟩, fun hk0 => ⟨fun hk1 => ?_, fun hk1 => ⟨hX, (⟨0, (ix h.Events (k : Int)).Write⟩, ()), rfl, (atN h.Events k ⟨0, (ix h.Events (k : Int)).Write⟩, ()), ref15_At_sub (by omega) (by omega) rfl, fun q => ?_, fun q => ⟨hX, (atN h.Events k (ix h.Events (k : Int)), ()), ref15_At_sub (by omega) (by omega) rfl, fun s => ?_, fun s => ?_⟩⟩⟩⟩
      · exact fail 3 (by omega) (by unfold evErr; rw [if_pos hk0, if_pos (.inl q)])
      · exact fail 3 (by omega) (by unfold evErr; rw [if_pos hk0, if_pos (by omega)])
      · have e0 : evErr h.Events h.Writes.length k = 0 := by unfold evErr; rw [if_pos hk0, if_neg (by omega)]
        exact ⟨iI (by omega) (by omega), iI (by omega) (by omega), h2 e0 _ (by rw [cnt_issue hk0]; rfl)⟩
      · exact fail 3 (by omega) (by unfold evErr; rw [if_neg hk0, if_pos hk1])
      · have q : atN h.Events k ⟨0, (ix h.Events (k : Int)).Write⟩ < 0 := q
        have := mt (at_issue h0 (ix h.Events (k : Int)).Write).2 (by omega)
        exact fail 7 (by omega) (by unfold evErr; rw [if_neg hk0, if_neg (by omega), if_pos (by omega)])
      · have q : ¬ atN h.Events k ⟨0, (ix h.Events (k : Int)).Write⟩ < 0 := q
        have := (at_issue h0 (ix h.Events (k : Int)).Write).1 (by omega)
        exact fail 8 (by omega) (by unfold evErr; rw [if_neg hk0, if_neg (by omega), if_neg (by omega), if_pos s])
      · have q : ¬ atN h.Events k ⟨0, (ix h.Events (k : Int)).Write⟩ < 0 := q
        have := (at_issue h0 (ix h.Events (k : Int)).Write).1 (by omega)
        have e0 : evErr h.Events h.Writes.length k = 0 := by unfold evErr; rw [if_neg hk0, if_neg (by omega), if_neg (by omega), if_neg s]
        exact ⟨iI (by omega) (by omega), h2 e0 _ (by rw [cnt_ack hk0]; rfl)⟩
  · rw [if_pos hf] at hΦ; exact hΦ
theorem histE_zero {h : api_History} (hz : histE h = 0) : sizesE h.Sizes = 0 ∧ h.Writes.length ≤ 4096 ∧ (∀ w ∈ h.Writes, fitW h.Sizes w = 0) ∧ evE h = 0 := by
  unfold histE at hz
  by_cases q : sizesE h.Sizes ≠ 0
  · rw [if_pos q] at hz; exact absurd hz q
  rw [if_neg q] at hz
  by_cases r : 4096 < (h.Writes.length : Int)
  · rw [if_pos r] at hz; cases hz
  rw [if_neg r] at hz
  by_cases s : firstN (fun k => fitW h.Sizes (ix h.Writes (k : Int))) h.Writes.length ≠ 0
  · rw [if_pos s] at hz; exact absurd hz s
  rw [if_neg s] at hz
  refine ⟨Classical.not_not.1 q, by omega, fun w hw => ?_, hz⟩
  obtain ⟨k, hk, rfl⟩ := List.getElem_of_mem hw
  have := firstN_zero.1 (Classical.not_not.1 s) k hk
  rw [ix_get hk] at this; exact this
def isSetP (l : List Int) (n : Int) (k : Nat) : Bool := decide (0 ≤ ix l (k : Int) ∧ ix l (k : Int) < n ∧ (0 < k → ix l ((k : Int) - 1) < ix l (k : Int)))
def isSetB (l : List Int) (n : Int) : Bool := allN (isSetP l n) l.length
theorem ref15_Set_ok {l : List Int} {n : Int} {Φ : Bool → Prop} (hl : l.length ≤ 1000000) (hΦ : Φ (isSetB l n)) : ref15_Set_W l n Φ := by
  refine LoopW.allL _ _ hΦ (fun k rec hk _ h1 h2 => ⟨fun _ => ⟨iX (by omega) (by omega), fun q => h1 (decide_eq_false (by omega)), fun q => ⟨iX (by omega) (by omega), fun r => h1 (decide_eq_false (by omega)), fun r => ⟨fun s => ⟨iX (by omega) (by omega), iI (by omega) (by omega), iX (by omega) (by omega), fun t => h1 (decide_eq_false (by omega)), fun t => ⟨iI (by omega) (by omega), h2 (decide_eq_true (by omega))⟩⟩, fun s => ⟨iI (by omega) (by omega), h2 (decide_eq_true (by omega))⟩⟩⟩⟩, fun _ => by omega⟩) fun rec h0 _ => ⟨fun _ => by omega, fun _ => h0⟩
theorem history_checked_isSet_ok {c : history_checked} {l : List Int} {Φ : Bool → Prop} (hl : l.length ≤ 1000000) (hΦ : Φ (isSetB l (c.History.Writes.length : Int))) : history_checked_isSet_W c l Φ := by
  refine LoopW.allL _ _ hΦ (fun k rec hk _ h1 h2 => ⟨fun _ => ⟨iX (by omega) (by omega), fun q => h1 (decide_eq_false (by omega)), fun q => ⟨fun r => h1 (decide_eq_false (by omega)), fun r => ⟨fun s => ⟨iI (by omega) (by omega), iX (by omega) (by omega), fun t => h1 (decide_eq_false (by omega)), fun t => ⟨iI (by omega) (by omega), h2 (decide_eq_true (by omega))⟩⟩, fun s => ⟨iI (by omega) (by omega), h2 (decide_eq_true (by omega))⟩⟩⟩⟩, fun _ => by omega⟩) fun rec h0 _ => ⟨fun _ => by omega, fun _ => h0⟩
theorem isSetB_at {l : List Int} {n : Int} (h : isSetB l n = true) {k : Nat} (hk : k < l.length) : 0 ≤ ix l (k : Int) ∧ ix l (k : Int) < n ∧ (0 < k → ix l ((k : Int) - 1) < ix l (k : Int)) := of_decide_eq_true (allN_true.1 h k hk)
theorem isSetB_lt {l : List Int} {n : Int} (h : isSetB l n = true) {i j : Nat} (hij : i < j) (hj : j < l.length) : ix l (i : Int) < ix l (j : Int) := by
  induction j with
  | zero => omega
  | succ j ih =>
    have := (isSetB_at h hj).2.2 (by omega)
    rw [show ((j + 1 : Nat) : Int) - 1 = (j : Int) by omega] at this
    rcases Nat.lt_or_ge i j with q | q
    · have := ih q (by omega); omega
    · obtain rfl : i = j := by omega
      exact this
theorem isSetB_len {l : List Int} {n : Int} (h : isSetB l n = true) : ∀ {k : Nat}, k < l.length → (k : Int) ≤ ix l (k : Int)
  | 0, hk => (isSetB_at h hk).1
  | k + 1, hk => by have h1 := isSetB_len h (k := k) (by omega); have h2 : ix l (k : Int) < ix l ((k + 1 : Nat) : Int) := isSetB_lt h (Nat.lt_succ_self k) hk; omega
theorem isSetB_le {l : List Int} {n : Int} (h : isSetB l n = true) (hn : 0 ≤ n) : (l.length : Int) ≤ n := by
  rcases Nat.eq_zero_or_pos l.length with q | q
  · omega
  · have := isSetB_len h (k := l.length - 1) (by omega); have := (isSetB_at h (k := l.length - 1) (by omega)).2.1; omega
theorem isSetB_mem {l : List Int} {n : Int} (h : isSetB l n = true) {x : Int} (hx : x ∈ l) : 0 ≤ x ∧ x < n := by
  obtain ⟨k, hk, rfl⟩ := List.getElem_of_mem hx
  have := isSetB_at h hk
  rw [ix_get hk] at this; exact ⟨this.1, this.2.1⟩
theorem any_eq_mem (l : List Int) (x : Int) : l.any (fun y => decide (y = x)) = decide (x ∈ l) := by
  rw [Bool.eq_iff_iff, List.any_eq_true, decide_eq_true_iff]
  exact ⟨fun ⟨y, hy, e⟩ => (of_decide_eq_true e) ▸ hy, fun h => ⟨x, h, decide_eq_true rfl⟩⟩
theorem ref15_Has_ok {l : List Int} {x : Int} {Φ : Bool → Prop} (hl : l.length ≤ 1000000) (hΦ : Φ (decide (x ∈ l))) : ref15_Has_W l x Φ := by
  rw [← any_eq_mem] at hΦ
  exact LoopW.anyL l (fun y => decide (y = x)) hΦ (fun k rec hk h1 h2 => ⟨fun _ => ⟨iX (by omega) (by omega), fun q => h1 (decide_eq_true q), fun q => ⟨iI (by omega) (by omega), h2 (decide_eq_false q)⟩⟩, fun _ => by omega⟩) fun rec h0 => ⟨fun _ => by omega, fun _ => h0⟩
theorem ref15_SameInts_ok {a b : List Int} {Φ : Bool → Prop} (hl : a.length ≤ 1000000) (hΦ : Φ (decide (a = b))) : ref15_SameInts_W a b Φ := by
  refine ⟨fun q => by rw [decide_eq_false (fun e => q (by rw [e]))] at hΦ; exact hΦ, fun q => ?_⟩
  have e : decide (a = b) = allN (fun k => decide (ix a (k : Int) = ix b (k : Int))) a.length := by
    rw [Bool.eq_iff_iff, decide_eq_true_iff, allN_true]
    exact ⟨fun e k _ => by rw [e]; exact decide_eq_true rfl, fun h => ext_ix (by omega) fun k hk => of_decide_eq_true (h k hk)⟩
  rw [e] at hΦ
  exact LoopW.allL _ _ hΦ (fun k rec hk _ h1 h2 => ⟨fun _ => ⟨iX (by omega) (by omega), iX (by omega) (by omega), fun r => h1 (decide_eq_false r), fun r => ⟨iI (by omega) (by omega), h2 (decide_eq_true (Classical.not_not.1 r))⟩⟩, fun _ => by omega⟩) fun rec h0 _ => ⟨fun _ => by omega, fun _ => h0⟩
def setWr (h : api_History) (l : List Int) : List api_Write := l.map fun n => ix h.Writes n
theorem members_ok {l : List Int} {c : history_checked} (hl : l.length ≤ 1000000) (hb : isSetB l (c.History.Writes.length : Int) = true) : history_checked_members_1_I l c (l.map fun n => (n, ix c.History.Writes n, ())) := by
  refine LoopW.upT l.length (fun k => ((l.drop k).map fun n => (n, ix c.History.Writes n, ()), (k : Int))) rfl (fun k rec hk hr => ?_) fun rec => ⟨fun _ => by omega, fun _ => by rw [List.drop_length]; rfl⟩
  have := isSetB_at hb hk
  refine ⟨fun _ => ⟨iX (by omega) (by omega), iX (by omega) (by omega), ?_⟩, fun _ => by omega⟩
  rw [drop_ix hk]
  exact ⟨rfl, ⟨iI (by omega) (by omega), hr _ rfl⟩, trivial⟩
theorem mem_ix {α : Type} [Dt α] {xs : List α} {i : Int} (h0 : 0 ≤ i) (h1 : i < (xs.length : Int)) : ix xs i ∈ xs := ix_mem ⟨h0, h1⟩
theorem setWr_fit {h : api_History} (hz : histE h = 0) {l : List Int} (hb : isSetB l (h.Writes.length : Int) = true) : ∀ w ∈ setWr h l, fitW h.Sizes w = 0 := by
  intro w hw
  obtain ⟨n, hn, rfl⟩ := List.mem_map.1 hw
  have := isSetB_mem hb hn
  exact (histE_zero hz).2.2.1 _ (mem_ix this.1 this.2)
def imgH (h : api_History) (l : List Int) : List (List Sec) := appL (zeroI h.Sizes) (setWr h l)
theorem history_Image_ok {h : api_History} {l : List Int} {Φ : List (List Sec) × Int → Prop} (hh : SmallH h) (hl : l.length ≤ 1000000) (k0 : histE h = 0 → isSetB l (h.Writes.length : Int) = true → Φ (imgH h l, 0)) (k1 : histE h ≠ 0 → Φ ([], histE h)) (k2 : histE h = 0 → isSetB l (h.Writes.length : Int) = false → Φ ([], 2)) : history_Image_W h l Φ := by
  refine history_check_ok hh (fun hz => ⟨fun q => absurd rfl q, fun _ => history_checked_isSet_ok hl ⟨fun q => ?_, fun q => ?_⟩⟩) fun hz => ⟨fun _ => k1 hz, fun q => absurd hz q⟩
  · exact k2 hz (by simpa using q)
  · have hb : isSetB l (h.Writes.length : Int) = true := Classical.not_not.1 q
    have hs := (histE_zero hz).1
    refine image_New_ok (fun _ => ⟨l.map fun n => (n, ix h.Writes n, ()), members_ok (c := ⟨h, tlH h⟩) hl hb, ?_⟩) fun q => absurd hs q
    refine LoopW.lst (l.map fun n => (n, ix h.Writes n, ())) (fun k => (l.take k).map fun n => ix h.Writes n) rfl (fun k hk rec hr => ?_) fun rec => ?_
    · rw [List.length_map] at hk
      refine ⟨iL (by rw [len_snoc, List.length_map, lenT (by omega)]; omega) (by omega), hr _ ?_⟩
      rw [map_take_snoc _ hk, List.getElem_map, ix_get hk]
    · have e : (l.map fun n => (n, ix h.Writes n, ())).length = l.length := List.length_map _
      rw [e]
      simp only [take_all]
      refine image_Apply_ok (Φ := fun v7 => Φ (v7.1, v7.2.2)) (l := setWr h l) (by unfold setWr; rw [List.length_map]; omega) (by unfold imgE; rw [szs_zeroI hs, hs]) (by rw [szs_zeroI hs]; exact setWr_fit hz hb) (k0 hz hb)
def fewH (h : api_History) : Bool := decide (h.Sizes.length ≤ 9 ∧ h.Writes.length ≤ 40 ∧ h.Events.length ≤ 90) && (h.Sizes.all (fun n => decide (n ≤ 24)) && h.Writes.all fun w => decide (w.Data.length ≤ 30))
theorem ref15_Few_ok {h : api_History} {Φ : Bool → Prop} (hΦ : Φ (fewH h)) : ref15_Few_W h Φ := by
  unfold fewH at hΦ
  refine ⟨fun q => by rw [decide_eq_false (by omega)] at hΦ; exact hΦ, fun q => ⟨fun r => by rw [decide_eq_false (by omega)] at hΦ; exact hΦ, fun r => ⟨fun s => by rw [decide_eq_false (by omega)] at hΦ; exact hΦ, fun s => ?_⟩⟩⟩
  rw [decide_eq_true (by omega), Bool.true_and] at hΦ
  refine LoopW.findI h.Sizes.length (fun k => !decide (ix h.Sizes (k : Int) ≤ 24)) (fun k rec hk _ hr => ⟨fun _ => ⟨iX (by omega) (by omega), fun t => ?_, fun t => ⟨iI (by omega) (by omega), hr (by simp; omega)⟩⟩, fun _ => by omega⟩) fun rec hn => ⟨fun _ => by omega, fun _ => ?_⟩
  · rw [show h.Sizes.all (fun n => decide (n ≤ 24)) = false from by
      rw [List.all_eq_not_any_not, any_true_ix hk (by simp; omega)]; rfl] at hΦ
    exact hΦ
  · rw [show h.Sizes.all (fun n => decide (n ≤ 24)) = true from by
      rw [List.all_eq_not_any_not, any_false_ix fun k hk => by simpa using hn k hk]; rfl, Bool.true_and] at hΦ
    exact LoopW.allE h.Writes (fun w => decide (w.Data.length ≤ 30)) hΦ (fun k rec hk h1 h2 => ⟨fun _ => ⟨iX (by omega) (by omega), fun t => h1 (decide_eq_false (by omega)), fun t => ⟨iI (by omega) (by omega), h2 (decide_eq_true (by omega))⟩⟩, fun _ => by omega⟩) fun rec h0 => ⟨fun _ => by omega, fun _ => h0⟩
theorem fewH_small {h : api_History} (hf : fewH h = true) : SmallH h ∧ h.Writes.length ≤ 40 := by
  unfold fewH at hf
  rw [Bool.and_eq_true, Bool.and_eq_true, decide_eq_true_iff] at hf
  refine ⟨⟨by omega, by omega, fun k hk => ?_⟩, by omega⟩
  have := List.all_eq_true.1 hf.2.2 (ix h.Writes (k : Int)) (mem_ix (by omega) (by omega))
  have := of_decide_eq_true this
  omega
end Go.Proofs.YtjjodmgmidbamaaGreat
