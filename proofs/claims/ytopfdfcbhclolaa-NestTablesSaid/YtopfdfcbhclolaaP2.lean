/-
  Printed by this repo's own wip/tools/pr.py: what each function owes, as a proposition over heaps, read out of its body by the core.
-/
import Derived.Test.YtopfdfcbhclolaaP
namespace Go.Proofs.Ytopfdfcbhclolaa
open Go Go.Wd
set_option linter.unusedVariables false
set_option maxRecDepth 100000
/-! ### warderref08_read: function 41 -/
def warderref08_read.hints : Hints := { loops := [], cuts := [], orders := [(7, [0, 0, 1, 7, 15], (.leaf [0, 1, 2, 3, 4])), (9, [0, 1, 0, 3, 15, 31], (.leaf [0, 2, 1, 3, 4, 5]))] }
def warderref08_read.P (p0mb p0mo : Nat) (p1table : Int) (p2page : Int) (p3index : Int) (p4va : Int) (p5reads : Int) (h : Hp) (R : Value → Hp → Prop) : Prop :=
  ∀ h1 : Hp, h1 = new h (blk 97 [.bool false, .bool false, .bool false, .bool false, .int .i64 0]) → ∀ h2 : Hp, h2 = new h1 (blk 55 [.int .i64 0, .int .i64 0, .int .i64 0, .int .i64 0, .int .u32 0, .int .u32 0, .bool false, .bool false, .bool false]) →
  ((decide (p2page > 4095)) = true → (CallsH Try.prog 39 [.int .i64 1, .int .i64 1, .int .u32 p4va, .bool false, .int .i64 p5reads] h2 fun r1 h3 => ∃ fault2 : Int, ∃ fault3 : Int, ∃ fault4 : Int, ∃ fault5 : Int, ∃ fault6 : Int, ∃ fault7 : Int, ∃ fault8 : Bool, ∃ fault9 : Bool, ∃ fault10 : Bool, r1 = .agg #[.int .i64 fault2, .int .i64 fault3, .int .i64 fault4, .int .i64 fault5, .int .u32 fault6, .int .u32 fault7, .bool fault8, .bool fault9, .bool fault10] ∧
  truly true ∧ ∃ T11 : TypeId, ∃ l12 : List Value, bk h3 (sz h) = some (blk T11 l12) ∧ 0 + 5 ≤ l12.length ∧ ∀ h4 : Hp, h4 = upd h3 (sz h) T11 (writeAt l12 0 [.bool false, .bool false, .bool false, .bool false, .int .i64 0]) →
  truly true ∧ ∃ T13 : TypeId, ∃ l14 : List Value, bk h4 (sz h1) = some (blk T13 l14) ∧ 0 + 9 ≤ l14.length ∧ ∀ h5 : Hp, h5 = upd h4 (sz h1) T13 (writeAt l14 0 [.int .i64 fault2, .int .i64 fault3, .int .i64 fault4, .int .i64 fault5, .int .u32 fault6, .int .u32 fault7, .bool fault8, .bool fault9, .bool fault10]) →
  ∃ res15 : Bool, cellAt h5 (sz h) (0 + 0) = some (.bool res15) ∧ ∃ res16 : Bool, cellAt h5 (sz h) (0 + 1) = some (.bool res16) ∧ ∃ res17 : Bool, cellAt h5 (sz h) (0 + 2) = some (.bool res17) ∧ ∃ res18 : Bool, cellAt h5 (sz h) (0 + 3) = some (.bool res18) ∧
  ∃ res19 : Int, cellAt h5 (sz h) (0 + 4) = some (.int .i64 res19) ∧ ∃ res20 : Int, cellAt h5 (sz h1) (0 + 0) = some (.int .i64 res20) ∧ ∃ res21 : Int, cellAt h5 (sz h1) (0 + 1) = some (.int .i64 res21) ∧
  ∃ res22 : Int, cellAt h5 (sz h1) (0 + 2) = some (.int .i64 res22) ∧ ∃ res23 : Int, cellAt h5 (sz h1) (0 + 3) = some (.int .i64 res23) ∧ ∃ res24 : Int, cellAt h5 (sz h1) (0 + 4) = some (.int .u32 res24) ∧
  ∃ res25 : Int, cellAt h5 (sz h1) (0 + 5) = some (.int .u32 res25) ∧ ∃ res26 : Bool, cellAt h5 (sz h1) (0 + 6) = some (.bool res26) ∧ ∃ res27 : Bool, cellAt h5 (sz h1) (0 + 7) = some (.bool res27) ∧ ∃ res28 : Bool, cellAt h5 (sz h1) (0 + 8) = some (.bool res28) ∧
  R (.tuple #[.agg #[.bool res15, .bool res16, .bool res17, .bool res18, .int .i64 res19], .agg #[.int .i64 res20, .int .i64 res21, .int .i64 res22, .int .i64 res23, .int .u32 res24, .int .u32 res25, .bool res26, .bool res27, .bool res28], .bool false]) h5)) ∧
  ((decide (p2page > 4095)) = false → (CallsH Try.prog 40 [.pointer (some ⟨p0mb, p0mo, none⟩), .int .i64 p1table, .int .u32 (IntKind.wrap .u32 (IntKind.wrap .i64 ((IntKind.wrap .i64 (256 * p2page)) + (IntKind.wrap .i64 (4 * p3index))))), .int .i64 0, .int .i64 p5reads] h2 fun r29 h6 => ∃ last30 : Int, ∃ last31 : Int, ∃ last32 : Int, ∃ last33 : Int, ∃ last34 : Int, ∃ last35 : Int, ∃ last36 : Bool, ∃ last37 : Bool, ∃ last38 : Bool, r29 = .agg #[.int .i64 last30, .int .i64 last31, .int .i64 last32, .int .i64 last33, .int .u32 last34, .int .u32 last35, .bool last36, .bool last37, .bool last38] ∧
  ∀ h7 : Hp, h7 = new h6 (blk 55 [.int .i64 0, .int .i64 0, .int .i64 0, .int .i64 0, .int .u32 0, .int .u32 0, .bool false, .bool false, .bool false]) → truly true ∧ ∃ T39 : TypeId, ∃ l40 : List Value, bk h7 (sz h6) = some (blk T39 l40) ∧
  0 + 9 ≤ l40.length ∧ ∀ h8 : Hp, h8 = upd h7 (sz h6) T39 (writeAt l40 0 [.int .i64 last30, .int .i64 last31, .int .i64 last32, .int .i64 last33, .int .u32 last34, .int .u32 last35, .bool last36, .bool last37, .bool last38]) →
  ∃ Kind41 : Int, cellAt h8 (sz h6) 1 = some (.int .i64 Kind41) ∧ ((Kind41 != 0) = true → (truly true ∧ ∃ T42 : TypeId, ∃ l43 : List Value, bk h8 (sz h6) = some (blk T42 l43) ∧ 6 + 1 ≤ l43.length ∧ ∀ h9 : Hp, h9 = upd h8 (sz h6) T42 (writeAt l43 6 [.bool true]) →
  ∃ x44 : Int, cellAt h9 (sz h6) (0 + 0) = some (.int .i64 x44) ∧ ∃ x45 : Int, cellAt h9 (sz h6) (0 + 1) = some (.int .i64 x45) ∧ ∃ x46 : Int, cellAt h9 (sz h6) (0 + 2) = some (.int .i64 x46) ∧ ∃ x47 : Int, cellAt h9 (sz h6) (0 + 3) = some (.int .i64 x47) ∧
  ∃ x48 : Int, cellAt h9 (sz h6) (0 + 4) = some (.int .u32 x48) ∧ ∃ x49 : Int, cellAt h9 (sz h6) (0 + 5) = some (.int .u32 x49) ∧ ∃ x50 : Bool, cellAt h9 (sz h6) (0 + 6) = some (.bool x50) ∧ ∃ x51 : Bool, cellAt h9 (sz h6) (0 + 7) = some (.bool x51) ∧
  ∃ x52 : Bool, cellAt h9 (sz h6) (0 + 8) = some (.bool x52) ∧ truly true ∧ ∃ T53 : TypeId, ∃ l54 : List Value, bk h9 (sz h) = some (blk T53 l54) ∧ 0 + 5 ≤ l54.length ∧ ∀ h10 : Hp, h10 = upd h9 (sz h) T53 (writeAt l54 0 [.bool false, .bool false, .bool false, .bool false, .int .i64 0]) →
  cellAt h10 (sz h6) (0 + 0) = some (.int .i64 x44) ∧ cellAt h10 (sz h6) (0 + 1) = some (.int .i64 x45) ∧ cellAt h10 (sz h6) (0 + 2) = some (.int .i64 x46) ∧ cellAt h10 (sz h6) (0 + 3) = some (.int .i64 x47) ∧
  cellAt h10 (sz h6) (0 + 4) = some (.int .u32 x48) ∧ cellAt h10 (sz h6) (0 + 5) = some (.int .u32 x49) ∧ cellAt h10 (sz h6) (0 + 6) = some (.bool x50) ∧ cellAt h10 (sz h6) (0 + 7) = some (.bool x51) ∧
  cellAt h10 (sz h6) (0 + 8) = some (.bool x52) ∧ truly true ∧ ∃ T55 : TypeId, ∃ l56 : List Value, bk h10 (sz h1) = some (blk T55 l56) ∧ 0 + 9 ≤ l56.length ∧ ∀ h11 : Hp, h11 = upd h10 (sz h1) T55 (writeAt l56 0 [.int .i64 x44, .int .i64 x45, .int .i64 x46, .int .i64 x47, .int .u32 x48, .int .u32 x49, .bool x50, .bool x51, .bool x52]) →
  ∃ res57 : Bool, cellAt h11 (sz h) (0 + 0) = some (.bool res57) ∧ ∃ res58 : Bool, cellAt h11 (sz h) (0 + 1) = some (.bool res58) ∧ ∃ res59 : Bool, cellAt h11 (sz h) (0 + 2) = some (.bool res59) ∧ ∃ res60 : Bool, cellAt h11 (sz h) (0 + 3) = some (.bool res60) ∧
  ∃ res61 : Int, cellAt h11 (sz h) (0 + 4) = some (.int .i64 res61) ∧ ∃ res62 : Int, cellAt h11 (sz h1) (0 + 0) = some (.int .i64 res62) ∧ ∃ res63 : Int, cellAt h11 (sz h1) (0 + 1) = some (.int .i64 res63) ∧
  ∃ res64 : Int, cellAt h11 (sz h1) (0 + 2) = some (.int .i64 res64) ∧ ∃ res65 : Int, cellAt h11 (sz h1) (0 + 3) = some (.int .i64 res65) ∧ ∃ res66 : Int, cellAt h11 (sz h1) (0 + 4) = some (.int .u32 res66) ∧
  ∃ res67 : Int, cellAt h11 (sz h1) (0 + 5) = some (.int .u32 res67) ∧ ∃ res68 : Bool, cellAt h11 (sz h1) (0 + 6) = some (.bool res68) ∧ ∃ res69 : Bool, cellAt h11 (sz h1) (0 + 7) = some (.bool res69) ∧
  ∃ res70 : Bool, cellAt h11 (sz h1) (0 + 8) = some (.bool res70) ∧ R (.tuple #[.agg #[.bool res57, .bool res58, .bool res59, .bool res60, .int .i64 res61], .agg #[.int .i64 res62, .int .i64 res63, .int .i64 res64, .int .i64 res65, .int .u32 res66, .int .u32 res67, .bool res68, .bool res69, .bool res70], .bool false]) h11)) ∧
  ((Kind41 != 0) = false → (∃ Addr71 : Int, cellAt h8 (sz h6) 5 = some (.int .u32 Addr71) ∧ CallsH Try.prog 22 [.pointer (some ⟨p0mb, p0mo, none⟩), .int .u32 Addr71] h8 fun r72 h12 => ∃ Word73 : Int, ∃ Word74 : Bool, r72 = .tuple #[.int .u32 Word73, .bool Word74] ∧
  ∃ x75 : Int, cellAt h12 (sz h6) (0 + 0) = some (.int .i64 x75) ∧ ∃ x76 : Int, cellAt h12 (sz h6) (0 + 1) = some (.int .i64 x76) ∧ ∃ x77 : Int, cellAt h12 (sz h6) (0 + 2) = some (.int .i64 x77) ∧ ∃ x78 : Int, cellAt h12 (sz h6) (0 + 3) = some (.int .i64 x78) ∧
  ∃ x79 : Int, cellAt h12 (sz h6) (0 + 4) = some (.int .u32 x79) ∧ ∃ x80 : Int, cellAt h12 (sz h6) (0 + 5) = some (.int .u32 x80) ∧ ∃ x81 : Bool, cellAt h12 (sz h6) (0 + 6) = some (.bool x81) ∧ ∃ x82 : Bool, cellAt h12 (sz h6) (0 + 7) = some (.bool x82) ∧
  ∃ x83 : Bool, cellAt h12 (sz h6) (0 + 8) = some (.bool x83) ∧ CallsH Try.prog 61 [.int .u32 Word73] h12 fun r84 h13 => ∃ Decode85 : Bool, ∃ Decode86 : Bool, ∃ Decode87 : Bool, ∃ Decode88 : Bool, ∃ Decode89 : Int, r84 = .agg #[.bool Decode85, .bool Decode86, .bool Decode87, .bool Decode88, .int .i64 Decode89] ∧
  cellAt h13 (sz h6) (0 + 0) = some (.int .i64 x75) ∧ cellAt h13 (sz h6) (0 + 1) = some (.int .i64 x76) ∧ cellAt h13 (sz h6) (0 + 2) = some (.int .i64 x77) ∧ cellAt h13 (sz h6) (0 + 3) = some (.int .i64 x78) ∧
  cellAt h13 (sz h6) (0 + 4) = some (.int .u32 x79) ∧ cellAt h13 (sz h6) (0 + 5) = some (.int .u32 x80) ∧ cellAt h13 (sz h6) (0 + 6) = some (.bool x81) ∧ cellAt h13 (sz h6) (0 + 7) = some (.bool x82) ∧
  cellAt h13 (sz h6) (0 + 8) = some (.bool x83) ∧ truly true ∧ ∃ T90 : TypeId, ∃ l91 : List Value, bk h13 (sz h) = some (blk T90 l91) ∧ 0 + 5 ≤ l91.length ∧ ∀ h14 : Hp, h14 = upd h13 (sz h) T90 (writeAt l91 0 [.bool Decode85, .bool Decode86, .bool Decode87, .bool Decode88, .int .i64 Decode89]) →
  cellAt h14 (sz h6) (0 + 0) = some (.int .i64 x75) ∧ cellAt h14 (sz h6) (0 + 1) = some (.int .i64 x76) ∧ cellAt h14 (sz h6) (0 + 2) = some (.int .i64 x77) ∧ cellAt h14 (sz h6) (0 + 3) = some (.int .i64 x78) ∧
  cellAt h14 (sz h6) (0 + 4) = some (.int .u32 x79) ∧ cellAt h14 (sz h6) (0 + 5) = some (.int .u32 x80) ∧ cellAt h14 (sz h6) (0 + 6) = some (.bool x81) ∧ cellAt h14 (sz h6) (0 + 7) = some (.bool x82) ∧
  cellAt h14 (sz h6) (0 + 8) = some (.bool x83) ∧ truly true ∧ ∃ T92 : TypeId, ∃ l93 : List Value, bk h14 (sz h1) = some (blk T92 l93) ∧ 0 + 9 ≤ l93.length ∧ ∀ h15 : Hp, h15 = upd h14 (sz h1) T92 (writeAt l93 0 [.int .i64 x75, .int .i64 x76, .int .i64 x77, .int .i64 x78, .int .u32 x79, .int .u32 x80, .bool x81, .bool x82, .bool x83]) →
  ∃ res94 : Bool, cellAt h15 (sz h) (0 + 0) = some (.bool res94) ∧ ∃ res95 : Bool, cellAt h15 (sz h) (0 + 1) = some (.bool res95) ∧ ∃ res96 : Bool, cellAt h15 (sz h) (0 + 2) = some (.bool res96) ∧ ∃ res97 : Bool, cellAt h15 (sz h) (0 + 3) = some (.bool res97) ∧
  ∃ res98 : Int, cellAt h15 (sz h) (0 + 4) = some (.int .i64 res98) ∧ ∃ res99 : Int, cellAt h15 (sz h1) (0 + 0) = some (.int .i64 res99) ∧ ∃ res100 : Int, cellAt h15 (sz h1) (0 + 1) = some (.int .i64 res100) ∧
  ∃ res101 : Int, cellAt h15 (sz h1) (0 + 2) = some (.int .i64 res101) ∧ ∃ res102 : Int, cellAt h15 (sz h1) (0 + 3) = some (.int .i64 res102) ∧ ∃ res103 : Int, cellAt h15 (sz h1) (0 + 4) = some (.int .u32 res103) ∧
  ∃ res104 : Int, cellAt h15 (sz h1) (0 + 5) = some (.int .u32 res104) ∧ ∃ res105 : Bool, cellAt h15 (sz h1) (0 + 6) = some (.bool res105) ∧ ∃ res106 : Bool, cellAt h15 (sz h1) (0 + 7) = some (.bool res106) ∧
  ∃ res107 : Bool, cellAt h15 (sz h1) (0 + 8) = some (.bool res107) ∧ R (.tuple #[.agg #[.bool res94, .bool res95, .bool res96, .bool res97, .int .i64 res98], .agg #[.int .i64 res99, .int .i64 res100, .int .i64 res101, .int .i64 res102, .int .u32 res103, .int .u32 res104, .bool res105, .bool res106, .bool res107], .bool true]) h15))))
theorem warderref08_read.eq (p0mb p0mo : Nat) (p1table : Int) (p2page : Int) (p3index : Int) (p4va : Int) (p5reads : Int) (h : Hp) (R : Value → Hp → Prop) : evBody Try.prog calls warderref08_read.hints Try.f41 [.ptr p0mb p0mo, .int .i64 p1table, .int .i64 p2page, .int .i64 p3index, .int .u32 p4va, .int .i64 p5reads] h R = warderref08_read.P p0mb p0mo p1table p2page p3index p4va p5reads h R := by kernel_rfl
theorem warderref08_read.calls (p0mb p0mo : Nat) (p1table : Int) (p2page : Int) (p3index : Int) (p4va : Int) (p5reads : Int) (h : Hp) (R : Value → Hp → Prop) (hp : warderref08_read.P p0mb p0mo p1table p2page p3index p4va p5reads h R) : CallsH Try.prog 41 [.pointer (some ⟨p0mb, p0mo, none⟩), .int .i64 p1table, .int .i64 p2page, .int .i64 p3index, .int .u32 p4va, .int .i64 p5reads] h R :=
  calls_of_body calls_ok Try.func41 (args := [.ptr p0mb p0mo, .int .i64 p1table, .int .i64 p2page, .int .i64 p3index, .int .u32 p4va, .int .i64 p5reads]) (by rw [warderref08_read.eq]; exact hp)
/-! ### warderref06_Allows: function 42 -/
def warderref06_Allows.hints : Hints := { loops := [], cuts := [], orders := [] }
def warderref06_Allows.P (p0e_0 : Bool) (p0e_1 : Bool) (p0e_2 : Bool) (p0e_3 : Bool) (p0e_4 : Int) (p1access : Int) (h : Hp) (R : Value → Hp → Prop) : Prop :=
  ∀ h1 : Hp, h1 = new h (blk 97 [.bool p0e_0, .bool p0e_1, .bool p0e_2, .bool p0e_3, .int .i64 p0e_4]) → ∃ Valid1 : Bool, cellAt h1 (sz h) 0 = some (.bool Valid1) ∧ ((Valid1) = true → (((p1access == 0) = true →
  (R (.bool true) h1)) ∧ ((p1access == 0) = false → (((p1access == 1) = true → (∃ Write2 : Bool, cellAt h1 (sz h) 1 = some (.bool Write2) ∧ ((Write2) = true → (R (.bool true) h1)) ∧ ((Write2) = false →
  (((p1access == 2) = true → (∃ Exec3 : Bool, cellAt h1 (sz h) 2 = some (.bool Exec3) ∧ R (.bool Exec3) h1)) ∧ ((p1access == 2) = false → (R (.bool false) h1)))))) ∧ ((p1access == 1) = false → (((p1access == 2) = true →
  (∃ Exec4 : Bool, cellAt h1 (sz h) 2 = some (.bool Exec4) ∧ R (.bool Exec4) h1)) ∧ ((p1access == 2) = false → (R (.bool false) h1)))))))) ∧ ((Valid1) = false → (R (.bool false) h1))
theorem warderref06_Allows.eq (p0e_0 : Bool) (p0e_1 : Bool) (p0e_2 : Bool) (p0e_3 : Bool) (p0e_4 : Int) (p1access : Int) (h : Hp) (R : Value → Hp → Prop) : evBody Try.prog calls warderref06_Allows.hints Try.f42 [.agg [.bool p0e_0, .bool p0e_1, .bool p0e_2, .bool p0e_3, .int .i64 p0e_4], .int .i64 p1access] h R = warderref06_Allows.P p0e_0 p0e_1 p0e_2 p0e_3 p0e_4 p1access h R := by kernel_rfl
theorem warderref06_Allows.calls (p0e_0 : Bool) (p0e_1 : Bool) (p0e_2 : Bool) (p0e_3 : Bool) (p0e_4 : Int) (p1access : Int) (h : Hp) (R : Value → Hp → Prop) (hp : warderref06_Allows.P p0e_0 p0e_1 p0e_2 p0e_3 p0e_4 p1access h R) : CallsH Try.prog 42 [.agg #[.bool p0e_0, .bool p0e_1, .bool p0e_2, .bool p0e_3, .int .i64 p0e_4], .int .i64 p1access] h R :=
  calls_of_body calls_ok Try.func42 (args := [.agg [.bool p0e_0, .bool p0e_1, .bool p0e_2, .bool p0e_3, .int .i64 p0e_4], .int .i64 p1access]) (by rw [warderref06_Allows.eq]; exact hp)
/-! ### warderref01_Get: function 43 -/
def warderref01_Get.hints : Hints := { loops := [(5, [0, 1], [(6, (.one (.int .u32))), (7, (.one (.int .i64)))])], cuts := [(3, [0, 1], [])], orders := [] }
def warderref01_Get.P (p0ba : Option Addr) (p0bl : Nat) (p0bc : Nat) (p1at : Int) (h : Hp) (R : Value → Hp → Prop) : Prop :=
  ∃ I1 : Hp → Prop, (((decide (p1at < 0)) = true → (R (.tuple #[.int .u32 0, .bool false]) h)) ∧ ((decide (p1at < 0)) = false → (((decide (p1at > (IntKind.wrap .i64 (((p0bl : Nat) : Int) - 4)))) = true →
  (R (.tuple #[.int .u32 0, .bool false]) h)) ∧ ((decide (p1at > (IntKind.wrap .i64 (((p0bl : Nat) : Int) - 4)))) = false → (I1 h))))) ∧ ∀ h1 : Hp, I1 h1 → ∃ I2 : Int → Int → Hp → Prop, ∃ m3 : Int → Int →
  Hp → Nat, I2 0 3 h1 ∧ ∀ out4 : Int, ∀ i5 : Int, ∀ h2 : Hp, I2 out4 i5 h2 → ((decide (i5 ≥ 0)) = true → ((0 : Int) ≤ (IntKind.wrap .i64 (p1at + i5)) ∧ (IntKind.wrap .i64 (p1at + i5)) < ((p0bl : Nat) : Int) ∧
  ∃ b6 : Nat, ∃ o7 : Nat, (p0ba : Option Addr) = some ⟨b6, o7, none⟩ ∧ ∃ x8 : Int, cellAt h2 b6 (o7 + (IntKind.wrap .i64 (p1at + i5)).toNat * 1) = some (.int .u8 x8) ∧ I2 (IntKind.wrap .u32 ((IntKind.wrap .u32 (out4 * 256)) + (IntKind.wrap .u32 x8))) (IntKind.wrap .i64 (i5 - 1)) h2 ∧
  m3 (IntKind.wrap .u32 ((IntKind.wrap .u32 (out4 * 256)) + (IntKind.wrap .u32 x8))) (IntKind.wrap .i64 (i5 - 1)) h2 < m3 out4 i5 h2)) ∧ ((decide (i5 ≥ 0)) = false → (R (.tuple #[.int .u32 out4, .bool true]) h2))
theorem warderref01_Get.eq (p0ba : Option Addr) (p0bl : Nat) (p0bc : Nat) (p1at : Int) (h : Hp) (R : Value → Hp → Prop) : evBody Try.prog calls warderref01_Get.hints Try.f43 [.slice p0ba p0bl p0bc, .int .i64 p1at] h R = warderref01_Get.P p0ba p0bl p0bc p1at h R := by kernel_rfl
theorem warderref01_Get.calls (p0ba : Option Addr) (p0bl : Nat) (p0bc : Nat) (p1at : Int) (h : Hp) (R : Value → Hp → Prop) (hp : warderref01_Get.P p0ba p0bl p0bc p1at h R) : CallsH Try.prog 43 [.slice p0ba p0bl p0bc, .int .i64 p1at] h R :=
  calls_of_body calls_ok Try.func43 (args := [.slice p0ba p0bl p0bc, .int .i64 p1at]) (by rw [warderref01_Get.eq]; exact hp)
/-! ### phys_Mem_there: function 44 -/
def phys_Mem_there.hints : Hints := { loops := [], cuts := [], orders := [] }
def phys_Mem_there.P (p0mb p0mo : Nat) (p1n : Int) (h : Hp) (R : Value → Hp → Prop) : Prop :=
  ((decide (p1n ≥ 0)) = true → (∃ framesa1 : Option Addr, ∃ framesl2 : Nat, ∃ framesc3 : Nat, cellAt h p0mb p0mo = some (.slice framesa1 framesl2 framesc3) ∧ R (.bool (decide (p1n < ((framesl2 : Nat) : Int)))) h)) ∧
  ((decide (p1n ≥ 0)) = false → (R (.bool false) h))
theorem phys_Mem_there.eq (p0mb p0mo : Nat) (p1n : Int) (h : Hp) (R : Value → Hp → Prop) : evBody Try.prog calls phys_Mem_there.hints Try.f44 [.ptr p0mb p0mo, .int .i64 p1n] h R = phys_Mem_there.P p0mb p0mo p1n h R := by kernel_rfl
theorem phys_Mem_there.calls (p0mb p0mo : Nat) (p1n : Int) (h : Hp) (R : Value → Hp → Prop) (hp : phys_Mem_there.P p0mb p0mo p1n h R) : CallsH Try.prog 44 [.pointer (some ⟨p0mb, p0mo, none⟩), .int .i64 p1n] h R :=
  calls_of_body calls_ok Try.func44 (args := [.ptr p0mb p0mo, .int .i64 p1n]) (by rw [phys_Mem_there.eq]; exact hp)
/-! ### warderref01_Four: function 45 -/
def warderref01_Four.hints : Hints := { loops := [], cuts := [], orders := [] }
def warderref01_Four.P (p0w : Int) (h : Hp) (R : Value → Hp → Prop) : Prop :=
  256 ≠ (0 : Int) ∧ 65536 ≠ (0 : Int) ∧ 16777216 ≠ (0 : Int) ∧ ∀ h1 : Hp, h1 = new h (blk 5 [.int .u8 (IntKind.wrap .u8 p0w), .int .u8 (IntKind.wrap .u8 (IntKind.wrap .u32 (Int.tdiv p0w 256))), .int .u8 (IntKind.wrap .u8 (IntKind.wrap .u32 (Int.tdiv p0w 65536))), .int .u8 (IntKind.wrap .u8 (IntKind.wrap .u32 (Int.tdiv p0w 16777216)))]) →
  R (.slice (some ⟨sz h, 0, none⟩) 4 4) h1
theorem warderref01_Four.eq (p0w : Int) (h : Hp) (R : Value → Hp → Prop) : evBody Try.prog calls warderref01_Four.hints Try.f45 [.int .u32 p0w] h R = warderref01_Four.P p0w h R := by kernel_rfl
theorem warderref01_Four.calls (p0w : Int) (h : Hp) (R : Value → Hp → Prop) (hp : warderref01_Four.P p0w h R) : CallsH Try.prog 45 [.int .u32 p0w] h R :=
  calls_of_body calls_ok Try.func45 (args := [.int .u32 p0w]) (by rw [warderref01_Four.eq]; exact hp)
/-! ### entry_Inside: function 46 -/
def entry_Inside.hints : Hints := { loops := [], cuts := [], orders := [] }
def entry_Inside.P (p0addr : Int) (h : Hp) (R : Value → Hp → Prop) : Prop :=
  R (.bool (decide (p0addr < 1048576))) h
theorem entry_Inside.eq (p0addr : Int) (h : Hp) (R : Value → Hp → Prop) : evBody Try.prog calls entry_Inside.hints Try.f46 [.int .u32 p0addr] h R = entry_Inside.P p0addr h R := by kernel_rfl
theorem entry_Inside.calls (p0addr : Int) (h : Hp) (R : Value → Hp → Prop) (hp : entry_Inside.P p0addr h R) : CallsH Try.prog 46 [.int .u32 p0addr] h R :=
  calls_of_body calls_ok Try.func46 (args := [.int .u32 p0addr]) (by rw [entry_Inside.eq]; exact hp)
/-! ### walk_read: function 47 -/
def walk_read.hints : Hints := { loops := [], cuts := [(3, [0, 1, 2, 6], [])], orders := [] }
def walk_read.P (p0mb p0mo : Nat) (p1table : Int) (p2index : Int) (h : Hp) (R : Value → Hp → Prop) : Prop :=
  ∀ h1 : Hp, h1 = new h (blk 41 [.bool false, .bool false, .bool false, .bool false, .int .i64 0]) → ∃ I1 : Hp → Prop, (((decide (p1table < 0)) = true → (truly true ∧ ∃ T2 : TypeId, ∃ l3 : List Value, bk h1 (sz h) = some (blk T2 l3) ∧
  0 + 5 ≤ l3.length ∧ ∀ h2 : Hp, h2 = upd h1 (sz h) T2 (writeAt l3 0 [.bool false, .bool false, .bool false, .bool false, .int .i64 0]) → ∃ res4 : Bool, cellAt h2 (sz h) (0 + 0) = some (.bool res4) ∧ ∃ res5 : Bool, cellAt h2 (sz h) (0 + 1) = some (.bool res5) ∧
  ∃ res6 : Bool, cellAt h2 (sz h) (0 + 2) = some (.bool res6) ∧ ∃ res7 : Bool, cellAt h2 (sz h) (0 + 3) = some (.bool res7) ∧ ∃ res8 : Int, cellAt h2 (sz h) (0 + 4) = some (.int .i64 res8) ∧ R (.tuple #[.agg #[.bool res4, .bool res5, .bool res6, .bool res7, .int .i64 res8], .bool false]) h2)) ∧
  ((decide (p1table < 0)) = false → (CallsH Try.prog 29 [.pointer (some ⟨p0mb, p0mo, none⟩)] h1 fun r9 h3 => ∃ Frames10 : Int, r9 = .int .i64 Frames10 ∧ ((decide (p1table ≥ Frames10)) = true → (truly true ∧
  ∃ T11 : TypeId, ∃ l12 : List Value, bk h3 (sz h) = some (blk T11 l12) ∧ 0 + 5 ≤ l12.length ∧ ∀ h4 : Hp, h4 = upd h3 (sz h) T11 (writeAt l12 0 [.bool false, .bool false, .bool false, .bool false, .int .i64 0]) →
  ∃ res13 : Bool, cellAt h4 (sz h) (0 + 0) = some (.bool res13) ∧ ∃ res14 : Bool, cellAt h4 (sz h) (0 + 1) = some (.bool res14) ∧ ∃ res15 : Bool, cellAt h4 (sz h) (0 + 2) = some (.bool res15) ∧ ∃ res16 : Bool, cellAt h4 (sz h) (0 + 3) = some (.bool res16) ∧
  ∃ res17 : Int, cellAt h4 (sz h) (0 + 4) = some (.int .i64 res17) ∧ R (.tuple #[.agg #[.bool res13, .bool res14, .bool res15, .bool res16, .int .i64 res17], .bool false]) h4)) ∧ ((decide (p1table ≥ Frames10)) = false →
  (I1 h3))))) ∧ ∀ h5 : Hp, I1 h5 → CallsH Try.prog 33 [.pointer (some ⟨p0mb, p0mo, none⟩), .int .u32 (IntKind.wrap .u32 (IntKind.wrap .i64 ((IntKind.wrap .i64 (256 * p1table)) + (IntKind.wrap .i64 (4 * p2index)))))] h5 fun r18 h6 => ∃ Word19 : Int, ∃ Word20 : Bool, r18 = .tuple #[.int .u32 Word19, .bool Word20] ∧
  CallsH Try.prog 34 [.int .u32 Word19] h6 fun r21 h7 => ∃ Decode22 : Bool, ∃ Decode23 : Bool, ∃ Decode24 : Bool, ∃ Decode25 : Bool, ∃ Decode26 : Int, r21 = .agg #[.bool Decode22, .bool Decode23, .bool Decode24, .bool Decode25, .int .i64 Decode26] ∧
  truly true ∧ ∃ T27 : TypeId, ∃ l28 : List Value, bk h7 (sz h) = some (blk T27 l28) ∧ 0 + 5 ≤ l28.length ∧ ∀ h8 : Hp, h8 = upd h7 (sz h) T27 (writeAt l28 0 [.bool Decode22, .bool Decode23, .bool Decode24, .bool Decode25, .int .i64 Decode26]) →
  ∃ res29 : Bool, cellAt h8 (sz h) (0 + 0) = some (.bool res29) ∧ ∃ res30 : Bool, cellAt h8 (sz h) (0 + 1) = some (.bool res30) ∧ ∃ res31 : Bool, cellAt h8 (sz h) (0 + 2) = some (.bool res31) ∧ ∃ res32 : Bool, cellAt h8 (sz h) (0 + 3) = some (.bool res32) ∧
  ∃ res33 : Int, cellAt h8 (sz h) (0 + 4) = some (.int .i64 res33) ∧ R (.tuple #[.agg #[.bool res29, .bool res30, .bool res31, .bool res32, .int .i64 res33], .bool Word20]) h8
theorem walk_read.eq (p0mb p0mo : Nat) (p1table : Int) (p2index : Int) (h : Hp) (R : Value → Hp → Prop) : evBody Try.prog calls walk_read.hints Try.f47 [.ptr p0mb p0mo, .int .i64 p1table, .int .i64 p2index] h R = walk_read.P p0mb p0mo p1table p2index h R := by kernel_rfl
theorem walk_read.calls (p0mb p0mo : Nat) (p1table : Int) (p2index : Int) (h : Hp) (R : Value → Hp → Prop) (hp : walk_read.P p0mb p0mo p1table p2index h R) : CallsH Try.prog 47 [.pointer (some ⟨p0mb, p0mo, none⟩), .int .i64 p1table, .int .i64 p2index] h R :=
  calls_of_body calls_ok Try.func47 (args := [.ptr p0mb p0mo, .int .i64 p1table, .int .i64 p2index]) (by rw [walk_read.eq]; exact hp)
/-! ### entry_First: function 48 -/
def entry_First.hints : Hints := { loops := [], cuts := [], orders := [] }
def entry_First.P (p0addr : Int) (h : Hp) (R : Value → Hp → Prop) : Prop :=
  CallsH Try.prog 59 [.int .u32 p0addr, .int .i64 14, .int .i64 6] h fun r1 h1 => ∃ Field2 : Int, r1 = .int .u32 Field2 ∧ R (.int .i64 (IntKind.wrap .i64 Field2)) h1
theorem entry_First.eq (p0addr : Int) (h : Hp) (R : Value → Hp → Prop) : evBody Try.prog calls entry_First.hints Try.f48 [.int .u32 p0addr] h R = entry_First.P p0addr h R := by kernel_rfl
theorem entry_First.calls (p0addr : Int) (h : Hp) (R : Value → Hp → Prop) (hp : entry_First.P p0addr h R) : CallsH Try.prog 48 [.int .u32 p0addr] h R :=
  calls_of_body calls_ok Try.func48 (args := [.int .u32 p0addr]) (by rw [entry_First.eq]; exact hp)
/-! ### entry_Second: function 49 -/
def entry_Second.hints : Hints := { loops := [], cuts := [], orders := [] }
def entry_Second.P (p0addr : Int) (h : Hp) (R : Value → Hp → Prop) : Prop :=
  CallsH Try.prog 59 [.int .u32 p0addr, .int .i64 8, .int .i64 6] h fun r1 h1 => ∃ Field2 : Int, r1 = .int .u32 Field2 ∧ R (.int .i64 (IntKind.wrap .i64 Field2)) h1
theorem entry_Second.eq (p0addr : Int) (h : Hp) (R : Value → Hp → Prop) : evBody Try.prog calls entry_Second.hints Try.f49 [.int .u32 p0addr] h R = entry_Second.P p0addr h R := by kernel_rfl
theorem entry_Second.calls (p0addr : Int) (h : Hp) (R : Value → Hp → Prop) (hp : entry_Second.P p0addr h R) : CallsH Try.prog 49 [.int .u32 p0addr] h R :=
  calls_of_body calls_ok Try.func49 (args := [.int .u32 p0addr]) (by rw [entry_Second.eq]; exact hp)
/-! ### nest_walker_need: function 50 -/
def nest_walker_need.hints : Hints := { loops := [], cuts := [], orders := [] }
def nest_walker_need.P (p0wb p0wo : Nat) (p1ok : Bool) (p2kind : Int) (h : Hp) (R X : Value → Hp → Prop) : Prop :=
  ((!p1ok) = true → (∃ va1 : Int, cellAt h p0wb (p0wo + 2) = some (.int .u32 va1) ∧ X (.iface 78 (.agg #[.int .i64 1, .int .i64 p2kind, .int .u32 va1, .bool false])) h)) ∧ ((!p1ok) = false → (R (.tuple #[]) h))
theorem nest_walker_need.eq (p0wb p0wo : Nat) (p1ok : Bool) (p2kind : Int) (h : Hp) (R X : Value → Hp → Prop) : evBodyX Try.prog calls nest_walker_need.hints Try.f50 [.ptr p0wb p0wo, .bool p1ok, .int .i64 p2kind] h R X = nest_walker_need.P p0wb p0wo p1ok p2kind h R X := by kernel_rfl
theorem nest_walker_need.calls (p0wb p0wo : Nat) (p1ok : Bool) (p2kind : Int) (h : Hp) (R X : Value → Hp → Prop) (hp : nest_walker_need.P p0wb p0wo p1ok p2kind h R X) : CallsX Try.prog 50 [.pointer (some ⟨p0wb, p0wo, none⟩), .bool p1ok, .int .i64 p2kind] h R X :=
  callsX_of_body calls_ok Try.func50 (args := [.ptr p0wb p0wo, .bool p1ok, .int .i64 p2kind]) (by rw [nest_walker_need.eq]; exact hp)
/-! ### entry_PageOf: function 51 -/
def entry_PageOf.hints : Hints := { loops := [], cuts := [], orders := [] }
def entry_PageOf.P (p0addr : Int) (h : Hp) (R : Value → Hp → Prop) : Prop :=
  CallsH Try.prog 59 [.int .u32 p0addr, .int .i64 8, .int .i64 12] h fun r1 h1 => ∃ Field2 : Int, r1 = .int .u32 Field2 ∧ R (.int .i64 (IntKind.wrap .i64 Field2)) h1
theorem entry_PageOf.eq (p0addr : Int) (h : Hp) (R : Value → Hp → Prop) : evBody Try.prog calls entry_PageOf.hints Try.f51 [.int .u32 p0addr] h R = entry_PageOf.P p0addr h R := by kernel_rfl
theorem entry_PageOf.calls (p0addr : Int) (h : Hp) (R : Value → Hp → Prop) (hp : entry_PageOf.P p0addr h R) : CallsH Try.prog 51 [.int .u32 p0addr] h R :=
  calls_of_body calls_ok Try.func51 (args := [.int .u32 p0addr]) (by rw [entry_PageOf.eq]; exact hp)
/-! ### nest_walker_own: function 52 -/
def nest_walker_own.hints : Hints := { loops := [], cuts := [], orders := [(4, [0, 0, 2, 0, 8, 24, 56, 120, 254, 249, 1023], (.leaf [0, 1, 2, 3, 4, 5, 6, 7, 8, 9, 10])), (5, [0, 0, 2, 0, 8, 24, 56, 120, 255, 511], (.leaf [0, 1, 2, 3, 4, 5, 6, 7, 8, 9])), (7, [0, 0, 2, 1, 15], (.leaf [0, 1, 2, 3, 4]))] }
def nest_walker_own.P (p0wb p0wo : Nat) (p1root : Int) (h : Hp) (R X : Value → Hp → Prop) : Prop :=
  ∀ h1 : Hp, h1 = new h (blk 41 [.bool false, .bool false, .bool false, .bool false, .int .i64 0]) → (0 : Int) ≤ 8 ∧ ∃ va1 : Int, cellAt h1 p0wb (p0wo + 2) = some (.int .u32 va1) ∧ CallsH Try.prog 48 [.int .u32 va1] h1 fun r2 h2 => ∃ First3 : Int, r2 = .int .i64 First3 ∧
  CallsX Try.prog 62 [.pointer (some ⟨p0wb, p0wo, none⟩), .int .i64 (IntKind.wrap .i64 (shrV .u32 p1root 8)), .int .i64 First3] h2 (fun r4 h3 => ∃ entry6 : Bool, ∃ entry7 : Bool, ∃ entry8 : Bool, ∃ entry9 : Bool, ∃ entry10 : Int, r4 = .agg #[.bool entry6, .bool entry7, .bool entry8, .bool entry9, .int .i64 entry10] ∧
  ∀ h5 : Hp, h5 = new h3 (blk 41 [.bool false, .bool false, .bool false, .bool false, .int .i64 0]) → truly true ∧ ∃ T11 : TypeId, ∃ l12 : List Value, bk h5 (sz h3) = some (blk T11 l12) ∧ 0 + 5 ≤ l12.length ∧
  ∀ h6 : Hp, h6 = upd h5 (sz h3) T11 (writeAt l12 0 [.bool entry6, .bool entry7, .bool entry8, .bool entry9, .int .i64 entry10]) → ∃ Valid13 : Bool, cellAt h6 (sz h3) 0 = some (.bool Valid13) ∧ CallsX Try.prog 50 [.pointer (some ⟨p0wb, p0wo, none⟩), .bool Valid13, .int .i64 2] h6 (fun r14 h7 => r14 = .tuple #[] ∧
  ∃ Block16 : Bool, cellAt h7 (sz h3) 3 = some (.bool Block16) ∧ ((Block16) = true → (∃ x17 : Bool, cellAt h7 (sz h3) (0 + 0) = some (.bool x17) ∧ ∃ x18 : Bool, cellAt h7 (sz h3) (0 + 1) = some (.bool x18) ∧
  ∃ x19 : Bool, cellAt h7 (sz h3) (0 + 2) = some (.bool x19) ∧ ∃ x20 : Bool, cellAt h7 (sz h3) (0 + 3) = some (.bool x20) ∧ ∃ x21 : Int, cellAt h7 (sz h3) (0 + 4) = some (.int .i64 x21) ∧ ∃ Frame22 : Int, cellAt h7 (sz h3) 4 = some (.int .i64 Frame22) ∧
  ∃ va23 : Int, cellAt h7 p0wb (p0wo + 2) = some (.int .u32 va23) ∧ CallsH Try.prog 49 [.int .u32 va23] h7 fun r24 h9 => ∃ Second25 : Int, r24 = .int .i64 Second25 ∧ cellAt h9 (sz h3) (0 + 0) = some (.bool x17) ∧
  cellAt h9 (sz h3) (0 + 1) = some (.bool x18) ∧ cellAt h9 (sz h3) (0 + 2) = some (.bool x19) ∧ cellAt h9 (sz h3) (0 + 3) = some (.bool x20) ∧ cellAt h9 (sz h3) (0 + 4) = some (.int .i64 x21) ∧ cellAt h9 (sz h3) 4 = some (.int .i64 Frame22) ∧
  truly true ∧ ∃ T26 : TypeId, ∃ l27 : List Value, bk h9 (sz h) = some (blk T26 l27) ∧ 0 + 5 ≤ l27.length ∧ ∀ h10 : Hp, h10 = upd h9 (sz h) T26 (writeAt l27 0 [.bool x17, .bool x18, .bool x19, .bool x20, .int .i64 x21]) →
  cellAt h10 (sz h3) 4 = some (.int .i64 Frame22) ∧ ∃ res28 : Bool, cellAt h10 (sz h) (0 + 0) = some (.bool res28) ∧ ∃ res29 : Bool, cellAt h10 (sz h) (0 + 1) = some (.bool res29) ∧ ∃ res30 : Bool, cellAt h10 (sz h) (0 + 2) = some (.bool res30) ∧
  ∃ res31 : Bool, cellAt h10 (sz h) (0 + 3) = some (.bool res31) ∧ ∃ res32 : Int, cellAt h10 (sz h) (0 + 4) = some (.int .i64 res32) ∧ R (.tuple #[.agg #[.bool res28, .bool res29, .bool res30, .bool res31, .int .i64 res32], .int .i64 (IntKind.wrap .i64 (Frame22 + Second25))]) h10)) ∧
  ((Block16) = false → (∃ Frame33 : Int, cellAt h7 (sz h3) 4 = some (.int .i64 Frame33) ∧ ∃ va34 : Int, cellAt h7 p0wb (p0wo + 2) = some (.int .u32 va34) ∧ CallsH Try.prog 49 [.int .u32 va34] h7 fun r35 h11 => ∃ Second36 : Int, r35 = .int .i64 Second36 ∧
  cellAt h11 (sz h3) 4 = some (.int .i64 Frame33) ∧ CallsX Try.prog 62 [.pointer (some ⟨p0wb, p0wo, none⟩), .int .i64 Frame33, .int .i64 Second36] h11 (fun r37 h12 => ∃ entry39 : Bool, ∃ entry40 : Bool, ∃ entry41 : Bool, ∃ entry42 : Bool, ∃ entry43 : Int, r37 = .agg #[.bool entry39, .bool entry40, .bool entry41, .bool entry42, .int .i64 entry43] ∧
  truly true ∧ ∃ T44 : TypeId, ∃ l45 : List Value, bk h12 (sz h3) = some (blk T44 l45) ∧ 0 + 5 ≤ l45.length ∧ ∀ h14 : Hp, h14 = upd h12 (sz h3) T44 (writeAt l45 0 [.bool entry39, .bool entry40, .bool entry41, .bool entry42, .int .i64 entry43]) →
  ∃ Valid46 : Bool, cellAt h14 (sz h3) 0 = some (.bool Valid46) ∧ CallsX Try.prog 50 [.pointer (some ⟨p0wb, p0wo, none⟩), .bool Valid46, .int .i64 3] h14 (fun r47 h15 => r47 = .tuple #[] ∧ ∃ x49 : Bool, cellAt h15 (sz h3) (0 + 0) = some (.bool x49) ∧
  ∃ x50 : Bool, cellAt h15 (sz h3) (0 + 1) = some (.bool x50) ∧ ∃ x51 : Bool, cellAt h15 (sz h3) (0 + 2) = some (.bool x51) ∧ ∃ x52 : Bool, cellAt h15 (sz h3) (0 + 3) = some (.bool x52) ∧ ∃ x53 : Int, cellAt h15 (sz h3) (0 + 4) = some (.int .i64 x53) ∧
  ∃ Frame54 : Int, cellAt h15 (sz h3) 4 = some (.int .i64 Frame54) ∧ truly true ∧ ∃ T55 : TypeId, ∃ l56 : List Value, bk h15 (sz h) = some (blk T55 l56) ∧ 0 + 5 ≤ l56.length ∧ ∀ h17 : Hp, h17 = upd h15 (sz h) T55 (writeAt l56 0 [.bool x49, .bool x50, .bool x51, .bool x52, .int .i64 x53]) →
  cellAt h17 (sz h3) 4 = some (.int .i64 Frame54) ∧ ∃ res57 : Bool, cellAt h17 (sz h) (0 + 0) = some (.bool res57) ∧ ∃ res58 : Bool, cellAt h17 (sz h) (0 + 1) = some (.bool res58) ∧ ∃ res59 : Bool, cellAt h17 (sz h) (0 + 2) = some (.bool res59) ∧
  ∃ res60 : Bool, cellAt h17 (sz h) (0 + 3) = some (.bool res60) ∧ ∃ res61 : Int, cellAt h17 (sz h) (0 + 4) = some (.int .i64 res61) ∧ R (.tuple #[.agg #[.bool res57, .bool res58, .bool res59, .bool res60, .int .i64 res61], .int .i64 Frame54]) h17) (fun px48 h16 => X (px48) h16)) (fun px38 h13 => X (px38) h13)))) (fun px15 h8 => X (px15) h8)) (fun px5 h4 => X (px5) h4)
theorem nest_walker_own.eq (p0wb p0wo : Nat) (p1root : Int) (h : Hp) (R X : Value → Hp → Prop) : evBodyX Try.prog calls nest_walker_own.hints Try.f52 [.ptr p0wb p0wo, .int .u32 p1root] h R X = nest_walker_own.P p0wb p0wo p1root h R X := by kernel_rfl
theorem nest_walker_own.calls (p0wb p0wo : Nat) (p1root : Int) (h : Hp) (R X : Value → Hp → Prop) (hp : nest_walker_own.P p0wb p0wo p1root h R X) : CallsX Try.prog 52 [.pointer (some ⟨p0wb, p0wo, none⟩), .int .u32 p1root] h R X :=
  callsX_of_body calls_ok Try.func52 (args := [.ptr p0wb p0wo, .int .u32 p1root]) (by rw [nest_walker_own.eq]; exact hp)
/-! ### entry_Offset: function 53 -/
def entry_Offset.hints : Hints := { loops := [], cuts := [], orders := [] }
def entry_Offset.P (p0addr : Int) (h : Hp) (R : Value → Hp → Prop) : Prop :=
  CallsH Try.prog 59 [.int .u32 p0addr, .int .i64 0, .int .i64 8] h fun r1 h1 => ∃ Field2 : Int, r1 = .int .u32 Field2 ∧ R (.int .i64 (IntKind.wrap .i64 Field2)) h1
theorem entry_Offset.eq (p0addr : Int) (h : Hp) (R : Value → Hp → Prop) : evBody Try.prog calls entry_Offset.hints Try.f53 [.int .u32 p0addr] h R = entry_Offset.P p0addr h R := by kernel_rfl
theorem entry_Offset.calls (p0addr : Int) (h : Hp) (R : Value → Hp → Prop) (hp : entry_Offset.P p0addr h R) : CallsH Try.prog 53 [.int .u32 p0addr] h R :=
  calls_of_body calls_ok Try.func53 (args := [.int .u32 p0addr]) (by rw [entry_Offset.eq]; exact hp)
/-! ### nest_walker_through: function 54 -/
def nest_walker_through.hints : Hints := { loops := [], cuts := [(2, [0, 1, 3, 8], [(9, (.one .addr))])], orders := [(1, [0, 1, 3, 7, 0, 16, 48, 112, 0, 0, 1023, 0, 4095], (.fork [0, 1, 2, 3, 4, 5, 6, 7, 8, 9] 10 (.leaf [11, 12]) 11 (.leaf [10, 12]))), (2, [0, 1, 3, 7, 0, 16, 63, 127, 255, 511], (.leaf [0, 1, 2, 3, 4, 5, 6, 7, 8, 9]))] }
def nest_walker_through.P (p0wb p0wo : Nat) (p1ipa : Int) (p2access : Int) (p3table : Bool) (h : Hp) (R X : Value → Hp → Prop) : Prop :=
  ∀ h1 : Hp, h1 = new h (blk 31 [.int .i64 0, .int .i64 0, .int .i64 0, .bool false, .bool false, .bool false]) → ∃ I1 : Nat → Nat → Hp → Prop, (∃ mem2 : Option Addr, cellAt h1 p0wb p0wo = some (.pointer mem2) ∧
  ∃ table3 : Int, cellAt h1 p0wb (p0wo + 1) = some (.int .i64 table3) ∧ (CallsH Try.prog 11 [.pointer mem2, .int .i64 table3, .int .u32 p1ipa, .int .i64 p2access] h1 fun r4 h2 => ∃ Walk5 : Int, ∃ Walk6 : Int, ∃ Walk7 : Int, ∃ Walk8 : Bool, ∃ Walk9 : Bool, ∃ Walk10 : Bool, r4 = .agg #[.int .i64 Walk5, .int .i64 Walk6, .int .i64 Walk7, .bool Walk8, .bool Walk9, .bool Walk10] ∧
  ∀ h3 : Hp, h3 = new h2 (blk 31 [.int .i64 0, .int .i64 0, .int .i64 0, .bool false, .bool false, .bool false]) → cellAt h3 p0wb p0wo = some (.pointer mem2) ∧ cellAt h3 p0wb (p0wo + 1) = some (.int .i64 table3) ∧
  truly true ∧ ∃ T11 : TypeId, ∃ l12 : List Value, bk h3 (sz h2) = some (blk T11 l12) ∧ 0 + 6 ≤ l12.length ∧ ∀ h4 : Hp, h4 = upd h3 (sz h2) T11 (writeAt l12 0 [.int .i64 Walk5, .int .i64 Walk6, .int .i64 Walk7, .bool Walk8, .bool Walk9, .bool Walk10]) →
  I1 (sz h2) 0 h4) ∧ (∀ h5 : Hp, h5 = new h1 (blk 31 [.int .i64 0, .int .i64 0, .int .i64 0, .bool false, .bool false, .bool false]) → cellAt h5 p0wb p0wo = some (.pointer mem2) ∧ cellAt h5 p0wb (p0wo + 1) = some (.int .i64 table3) ∧
  CallsH Try.prog 11 [.pointer mem2, .int .i64 table3, .int .u32 p1ipa, .int .i64 p2access] h5 fun r13 h6 => ∃ Walk14 : Int, ∃ Walk15 : Int, ∃ Walk16 : Int, ∃ Walk17 : Bool, ∃ Walk18 : Bool, ∃ Walk19 : Bool, r13 = .agg #[.int .i64 Walk14, .int .i64 Walk15, .int .i64 Walk16, .bool Walk17, .bool Walk18, .bool Walk19] ∧
  truly true ∧ ∃ T20 : TypeId, ∃ l21 : List Value, bk h6 (sz h1) = some (blk T20 l21) ∧ 0 + 6 ≤ l21.length ∧ ∀ h7 : Hp, h7 = upd h6 (sz h1) T20 (writeAt l21 0 [.int .i64 Walk14, .int .i64 Walk15, .int .i64 Walk16, .bool Walk17, .bool Walk18, .bool Walk19]) →
  I1 (sz h1) 0 h7)) ∧ ∀ hb22 : Nat, ∀ ho23 : Nat, ∀ h8 : Hp, I1 hb22 ho23 h8 → ∃ reads24 : Int, cellAt h8 p0wb (p0wo + 3) = some (.int .i64 reads24) ∧ ∃ Reads25 : Int, cellAt h8 hb22 (ho23 + 1) = some (.int .i64 Reads25) ∧
  truly true ∧ ∃ T26 : TypeId, ∃ l27 : List Value, bk h8 p0wb = some (blk T26 l27) ∧ (p0wo + 3) + 1 ≤ l27.length ∧ ∀ h9 : Hp, h9 = upd h8 p0wb T26 (writeAt l27 (p0wo + 3) [.int .i64 (IntKind.wrap .i64 (reads24 + Reads25))]) →
  ∃ Fault28 : Int, cellAt h9 hb22 ho23 = some (.int .i64 Fault28) ∧ ((Fault28 != 0) = true → (∃ Fault29 : Int, cellAt h9 hb22 ho23 = some (.int .i64 Fault29) ∧ X (.iface 78 (.agg #[.int .i64 2, .int .i64 Fault29, .int .u32 p1ipa, .bool p3table])) h9)) ∧
  ((Fault28 != 0) = false → (∃ x30 : Int, cellAt h9 hb22 (ho23 + 0) = some (.int .i64 x30) ∧ ∃ x31 : Int, cellAt h9 hb22 (ho23 + 1) = some (.int .i64 x31) ∧ ∃ x32 : Int, cellAt h9 hb22 (ho23 + 2) = some (.int .i64 x32) ∧
  ∃ x33 : Bool, cellAt h9 hb22 (ho23 + 3) = some (.bool x33) ∧ ∃ x34 : Bool, cellAt h9 hb22 (ho23 + 4) = some (.bool x34) ∧ ∃ x35 : Bool, cellAt h9 hb22 (ho23 + 5) = some (.bool x35) ∧ truly true ∧ ∃ T36 : TypeId, ∃ l37 : List Value, bk h9 (sz h) = some (blk T36 l37) ∧
  0 + 6 ≤ l37.length ∧ ∀ h10 : Hp, h10 = upd h9 (sz h) T36 (writeAt l37 0 [.int .i64 x30, .int .i64 x31, .int .i64 x32, .bool x33, .bool x34, .bool x35]) → ∃ res38 : Int, cellAt h10 (sz h) (0 + 0) = some (.int .i64 res38) ∧
  ∃ res39 : Int, cellAt h10 (sz h) (0 + 1) = some (.int .i64 res39) ∧ ∃ res40 : Int, cellAt h10 (sz h) (0 + 2) = some (.int .i64 res40) ∧ ∃ res41 : Bool, cellAt h10 (sz h) (0 + 3) = some (.bool res41) ∧
  ∃ res42 : Bool, cellAt h10 (sz h) (0 + 4) = some (.bool res42) ∧ ∃ res43 : Bool, cellAt h10 (sz h) (0 + 5) = some (.bool res43) ∧ R (.agg #[.int .i64 res38, .int .i64 res39, .int .i64 res40, .bool res41, .bool res42, .bool res43]) h10))
theorem nest_walker_through.eq (p0wb p0wo : Nat) (p1ipa : Int) (p2access : Int) (p3table : Bool) (h : Hp) (R X : Value → Hp → Prop) : evBodyX Try.prog calls nest_walker_through.hints Try.f54 [.ptr p0wb p0wo, .int .u32 p1ipa, .int .i64 p2access, .bool p3table] h R X = nest_walker_through.P p0wb p0wo p1ipa p2access p3table h R X := by kernel_rfl
theorem nest_walker_through.calls (p0wb p0wo : Nat) (p1ipa : Int) (p2access : Int) (p3table : Bool) (h : Hp) (R X : Value → Hp → Prop) (hp : nest_walker_through.P p0wb p0wo p1ipa p2access p3table h R X) : CallsX Try.prog 54 [.pointer (some ⟨p0wb, p0wo, none⟩), .int .u32 p1ipa, .int .i64 p2access, .bool p3table] h R X :=
  callsX_of_body calls_ok Try.func54 (args := [.ptr p0wb p0wo, .int .u32 p1ipa, .int .i64 p2access, .bool p3table]) (by rw [nest_walker_through.eq]; exact hp)
/-! ### entry_Both: function 55 -/
def entry_Both.hints : Hints := { loops := [], cuts := [(3, [2, 3, 4], [])], orders := [] }
def entry_Both.P (p0a_0 : Bool) (p0a_1 : Bool) (p0a_2 : Bool) (p0a_3 : Bool) (p0a_4 : Int) (p1b_0 : Bool) (p1b_1 : Bool) (p1b_2 : Bool) (p1b_3 : Bool) (p1b_4 : Int) (h : Hp) (R : Value → Hp → Prop) : Prop :=
  ∀ h1 : Hp, h1 = new h (blk 41 [.bool p0a_0, .bool p0a_1, .bool p0a_2, .bool p0a_3, .int .i64 p0a_4]) → ∀ h2 : Hp, h2 = new h1 (blk 41 [.bool p1b_0, .bool p1b_1, .bool p1b_2, .bool p1b_3, .int .i64 p1b_4]) →
  ∀ h3 : Hp, h3 = new h2 (blk 41 [.bool false, .bool false, .bool false, .bool false, .int .i64 0]) → ∃ I1 : Hp → Prop, (∃ Valid2 : Bool, cellAt h3 (sz h) 0 = some (.bool Valid2) ∧ ((!Valid2) = true →
  (truly true ∧ ∃ T3 : TypeId, ∃ l4 : List Value, bk h3 (sz h2) = some (blk T3 l4) ∧ 0 + 5 ≤ l4.length ∧ ∀ h4 : Hp, h4 = upd h3 (sz h2) T3 (writeAt l4 0 [.bool false, .bool false, .bool false, .bool false, .int .i64 0]) →
  ∃ res5 : Bool, cellAt h4 (sz h2) (0 + 0) = some (.bool res5) ∧ ∃ res6 : Bool, cellAt h4 (sz h2) (0 + 1) = some (.bool res6) ∧ ∃ res7 : Bool, cellAt h4 (sz h2) (0 + 2) = some (.bool res7) ∧ ∃ res8 : Bool, cellAt h4 (sz h2) (0 + 3) = some (.bool res8) ∧
  ∃ res9 : Int, cellAt h4 (sz h2) (0 + 4) = some (.int .i64 res9) ∧ R (.agg #[.bool res5, .bool res6, .bool res7, .bool res8, .int .i64 res9]) h4)) ∧ ((!Valid2) = false → (∃ Valid10 : Bool, cellAt h3 (sz h1) 0 = some (.bool Valid10) ∧
  ((!Valid10) = true → (truly true ∧ ∃ T11 : TypeId, ∃ l12 : List Value, bk h3 (sz h2) = some (blk T11 l12) ∧ 0 + 5 ≤ l12.length ∧ ∀ h5 : Hp, h5 = upd h3 (sz h2) T11 (writeAt l12 0 [.bool false, .bool false, .bool false, .bool false, .int .i64 0]) →
  ∃ res13 : Bool, cellAt h5 (sz h2) (0 + 0) = some (.bool res13) ∧ ∃ res14 : Bool, cellAt h5 (sz h2) (0 + 1) = some (.bool res14) ∧ ∃ res15 : Bool, cellAt h5 (sz h2) (0 + 2) = some (.bool res15) ∧ ∃ res16 : Bool, cellAt h5 (sz h2) (0 + 3) = some (.bool res16) ∧
  ∃ res17 : Int, cellAt h5 (sz h2) (0 + 4) = some (.int .i64 res17) ∧ R (.agg #[.bool res13, .bool res14, .bool res15, .bool res16, .int .i64 res17]) h5)) ∧ ((!Valid10) = false → (I1 h3))))) ∧ ∀ h6 : Hp, I1 h6 →
  ∃ Write18 : Bool, cellAt h6 (sz h) 1 = some (.bool Write18) ∧ ((Write18) = true → (∃ Write19 : Bool, cellAt h6 (sz h1) 1 = some (.bool Write19) ∧ ∃ Exec20 : Bool, cellAt h6 (sz h) 2 = some (.bool Exec20) ∧
  ((Exec20) = true → (∃ Exec21 : Bool, cellAt h6 (sz h1) 2 = some (.bool Exec21) ∧ ∃ Frame22 : Int, cellAt h6 (sz h1) 4 = some (.int .i64 Frame22) ∧ truly true ∧ ∃ T23 : TypeId, ∃ l24 : List Value, bk h6 (sz h2) = some (blk T23 l24) ∧
  0 + 5 ≤ l24.length ∧ ∀ h7 : Hp, h7 = upd h6 (sz h2) T23 (writeAt l24 0 [.bool true, .bool Write19, .bool Exec21, .bool false, .int .i64 Frame22]) → ∃ res25 : Bool, cellAt h7 (sz h2) (0 + 0) = some (.bool res25) ∧
  ∃ res26 : Bool, cellAt h7 (sz h2) (0 + 1) = some (.bool res26) ∧ ∃ res27 : Bool, cellAt h7 (sz h2) (0 + 2) = some (.bool res27) ∧ ∃ res28 : Bool, cellAt h7 (sz h2) (0 + 3) = some (.bool res28) ∧ ∃ res29 : Int, cellAt h7 (sz h2) (0 + 4) = some (.int .i64 res29) ∧
  R (.agg #[.bool res25, .bool res26, .bool res27, .bool res28, .int .i64 res29]) h7)) ∧ ((Exec20) = false → (∃ Frame30 : Int, cellAt h6 (sz h1) 4 = some (.int .i64 Frame30) ∧ truly true ∧ ∃ T31 : TypeId, ∃ l32 : List Value, bk h6 (sz h2) = some (blk T31 l32) ∧
  0 + 5 ≤ l32.length ∧ ∀ h8 : Hp, h8 = upd h6 (sz h2) T31 (writeAt l32 0 [.bool true, .bool Write19, .bool false, .bool false, .int .i64 Frame30]) → ∃ res33 : Bool, cellAt h8 (sz h2) (0 + 0) = some (.bool res33) ∧
  ∃ res34 : Bool, cellAt h8 (sz h2) (0 + 1) = some (.bool res34) ∧ ∃ res35 : Bool, cellAt h8 (sz h2) (0 + 2) = some (.bool res35) ∧ ∃ res36 : Bool, cellAt h8 (sz h2) (0 + 3) = some (.bool res36) ∧ ∃ res37 : Int, cellAt h8 (sz h2) (0 + 4) = some (.int .i64 res37) ∧
  R (.agg #[.bool res33, .bool res34, .bool res35, .bool res36, .int .i64 res37]) h8)))) ∧ ((Write18) = false → (∃ Exec38 : Bool, cellAt h6 (sz h) 2 = some (.bool Exec38) ∧ ((Exec38) = true → (∃ Exec39 : Bool, cellAt h6 (sz h1) 2 = some (.bool Exec39) ∧
  ∃ Frame40 : Int, cellAt h6 (sz h1) 4 = some (.int .i64 Frame40) ∧ truly true ∧ ∃ T41 : TypeId, ∃ l42 : List Value, bk h6 (sz h2) = some (blk T41 l42) ∧ 0 + 5 ≤ l42.length ∧ ∀ h9 : Hp, h9 = upd h6 (sz h2) T41 (writeAt l42 0 [.bool true, .bool false, .bool Exec39, .bool false, .int .i64 Frame40]) →
  ∃ res43 : Bool, cellAt h9 (sz h2) (0 + 0) = some (.bool res43) ∧ ∃ res44 : Bool, cellAt h9 (sz h2) (0 + 1) = some (.bool res44) ∧ ∃ res45 : Bool, cellAt h9 (sz h2) (0 + 2) = some (.bool res45) ∧ ∃ res46 : Bool, cellAt h9 (sz h2) (0 + 3) = some (.bool res46) ∧
  ∃ res47 : Int, cellAt h9 (sz h2) (0 + 4) = some (.int .i64 res47) ∧ R (.agg #[.bool res43, .bool res44, .bool res45, .bool res46, .int .i64 res47]) h9)) ∧ ((Exec38) = false → (∃ Frame48 : Int, cellAt h6 (sz h1) 4 = some (.int .i64 Frame48) ∧
  truly true ∧ ∃ T49 : TypeId, ∃ l50 : List Value, bk h6 (sz h2) = some (blk T49 l50) ∧ 0 + 5 ≤ l50.length ∧ ∀ h10 : Hp, h10 = upd h6 (sz h2) T49 (writeAt l50 0 [.bool true, .bool false, .bool false, .bool false, .int .i64 Frame48]) →
  ∃ res51 : Bool, cellAt h10 (sz h2) (0 + 0) = some (.bool res51) ∧ ∃ res52 : Bool, cellAt h10 (sz h2) (0 + 1) = some (.bool res52) ∧ ∃ res53 : Bool, cellAt h10 (sz h2) (0 + 2) = some (.bool res53) ∧ ∃ res54 : Bool, cellAt h10 (sz h2) (0 + 3) = some (.bool res54) ∧
  ∃ res55 : Int, cellAt h10 (sz h2) (0 + 4) = some (.int .i64 res55) ∧ R (.agg #[.bool res51, .bool res52, .bool res53, .bool res54, .int .i64 res55]) h10))))
theorem entry_Both.eq (p0a_0 : Bool) (p0a_1 : Bool) (p0a_2 : Bool) (p0a_3 : Bool) (p0a_4 : Int) (p1b_0 : Bool) (p1b_1 : Bool) (p1b_2 : Bool) (p1b_3 : Bool) (p1b_4 : Int) (h : Hp) (R : Value → Hp → Prop) : evBody Try.prog calls entry_Both.hints Try.f55 [.agg [.bool p0a_0, .bool p0a_1, .bool p0a_2, .bool p0a_3, .int .i64 p0a_4], .agg [.bool p1b_0, .bool p1b_1, .bool p1b_2, .bool p1b_3, .int .i64 p1b_4]] h R = entry_Both.P p0a_0 p0a_1 p0a_2 p0a_3 p0a_4 p1b_0 p1b_1 p1b_2 p1b_3 p1b_4 h R := by kernel_rfl
theorem entry_Both.calls (p0a_0 : Bool) (p0a_1 : Bool) (p0a_2 : Bool) (p0a_3 : Bool) (p0a_4 : Int) (p1b_0 : Bool) (p1b_1 : Bool) (p1b_2 : Bool) (p1b_3 : Bool) (p1b_4 : Int) (h : Hp) (R : Value → Hp → Prop) (hp : entry_Both.P p0a_0 p0a_1 p0a_2 p0a_3 p0a_4 p1b_0 p1b_1 p1b_2 p1b_3 p1b_4 h R) : CallsH Try.prog 55 [.agg #[.bool p0a_0, .bool p0a_1, .bool p0a_2, .bool p0a_3, .int .i64 p0a_4], .agg #[.bool p1b_0, .bool p1b_1, .bool p1b_2, .bool p1b_3, .int .i64 p1b_4]] h R :=
  calls_of_body calls_ok Try.func55 (args := [.agg [.bool p0a_0, .bool p0a_1, .bool p0a_2, .bool p0a_3, .int .i64 p0a_4], .agg [.bool p1b_0, .bool p1b_1, .bool p1b_2, .bool p1b_3, .int .i64 p1b_4]]) (by rw [entry_Both.eq]; exact hp)
/-! ### nest_addr: function 56 -/
def nest_addr.hints : Hints := { loops := [], cuts := [], orders := [] }
def nest_addr.P (p0h_0 : Int) (p0h_1 : Int) (p0h_2 : Int) (p0h_3 : Bool) (p0h_4 : Bool) (p0h_5 : Bool) (p1at : Int) (h : Hp) (R : Value → Hp → Prop) : Prop :=
  ∀ h1 : Hp, h1 = new h (blk 31 [.int .i64 p0h_0, .int .i64 p0h_1, .int .i64 p0h_2, .bool p0h_3, .bool p0h_4, .bool p0h_5]) → ∃ Frame1 : Int, cellAt h1 (sz h) 2 = some (.int .i64 Frame1) ∧ 256 ≠ (0 : Int) ∧
  R (.int .u32 (IntKind.wrap .u32 ((IntKind.wrap .u32 (IntKind.wrap .i64 (Frame1 * 256))) + (Int.tmod p1at 256)))) h1
theorem nest_addr.eq (p0h_0 : Int) (p0h_1 : Int) (p0h_2 : Int) (p0h_3 : Bool) (p0h_4 : Bool) (p0h_5 : Bool) (p1at : Int) (h : Hp) (R : Value → Hp → Prop) : evBody Try.prog calls nest_addr.hints Try.f56 [.agg [.int .i64 p0h_0, .int .i64 p0h_1, .int .i64 p0h_2, .bool p0h_3, .bool p0h_4, .bool p0h_5], .int .u32 p1at] h R = nest_addr.P p0h_0 p0h_1 p0h_2 p0h_3 p0h_4 p0h_5 p1at h R := by kernel_rfl
theorem nest_addr.calls (p0h_0 : Int) (p0h_1 : Int) (p0h_2 : Int) (p0h_3 : Bool) (p0h_4 : Bool) (p0h_5 : Bool) (p1at : Int) (h : Hp) (R : Value → Hp → Prop) (hp : nest_addr.P p0h_0 p0h_1 p0h_2 p0h_3 p0h_4 p0h_5 p1at h R) : CallsH Try.prog 56 [.agg #[.int .i64 p0h_0, .int .i64 p0h_1, .int .i64 p0h_2, .bool p0h_3, .bool p0h_4, .bool p0h_5], .int .u32 p1at] h R :=
  calls_of_body calls_ok Try.func56 (args := [.agg [.int .i64 p0h_0, .int .i64 p0h_1, .int .i64 p0h_2, .bool p0h_3, .bool p0h_4, .bool p0h_5], .int .u32 p1at]) (by rw [nest_addr.eq]; exact hp)
/-! ### word_Get: function 57 -/
def word_Get.hints : Hints := { loops := [(5, [22, 23], [(6, (.one (.int .u32))), (24, (.one (.int .i64)))])], cuts := [(3, [0, 1], [])], orders := [] }
def word_Get.P (p0ba : Option Addr) (p0bl : Nat) (p0bc : Nat) (p1at : Int) (h : Hp) (R : Value → Hp → Prop) : Prop :=
  ∃ I1 : Hp → Prop, (((decide (p1at < 0)) = true → (R (.tuple #[.int .u32 0, .bool false]) h)) ∧ ((decide (p1at < 0)) = false → (((decide (p1at > (IntKind.wrap .i64 (((p0bl : Nat) : Int) - 4)))) = true →
  (R (.tuple #[.int .u32 0, .bool false]) h)) ∧ ((decide (p1at > (IntKind.wrap .i64 (((p0bl : Nat) : Int) - 4)))) = false → (I1 h))))) ∧ ∀ h1 : Hp, I1 h1 → ((false : Bool) = true → (true : Bool) = true) ∧
  (0 : Int) ≤ p1at ∧ p1at ≤ (IntKind.wrap .i64 (p1at + 4)) ∧ (IntKind.wrap .i64 (p1at + 4)) ≤ ((p0bc : Nat) : Int) ∧ ((p0bc : Nat) : Int) ≤ ((p0bc : Nat) : Int) ∧ ∃ I2 : Int → Int → Hp → Prop, ∃ m3 : Int →
  Int → Hp → Nat, I2 0 0 h1 ∧ ∀ w4 : Int, ∀ x5 : Int, ∀ h2 : Hp, I2 w4 x5 h2 → ((decide (x5 < ((((IntKind.wrap .i64 (p1at + 4))).toNat - (p1at).toNat : Nat) : Int))) = true → ((0 : Int) ≤ x5 ∧ x5 < ((((IntKind.wrap .i64 (p1at + 4))).toNat - (p1at).toNat : Nat) : Int) ∧
  ∃ b6 : Nat, ∃ o7 : Nat, (sliceBase p0ba (p1at).toNat (((p0bc : Nat) : Int)).toNat 1 : Option Addr) = some ⟨b6, o7, none⟩ ∧ ∃ x8 : Int, cellAt h2 b6 (o7 + x5.toNat * 1) = some (.int .u8 x8) ∧ (0 : Int) ≤ (IntKind.wrap .i64 (8 * x5)) ∧
  I2 (borV .u32 w4 (shlV .u32 (IntKind.wrap .u32 x8) (IntKind.wrap .i64 (8 * x5)))) (IntKind.wrap .i64 (x5 + 1)) h2 ∧ m3 (borV .u32 w4 (shlV .u32 (IntKind.wrap .u32 x8) (IntKind.wrap .i64 (8 * x5)))) (IntKind.wrap .i64 (x5 + 1)) h2 < m3 w4 x5 h2)) ∧
  ((decide (x5 < ((((IntKind.wrap .i64 (p1at + 4))).toNat - (p1at).toNat : Nat) : Int))) = false → (R (.tuple #[.int .u32 w4, .bool true]) h2))
theorem word_Get.eq (p0ba : Option Addr) (p0bl : Nat) (p0bc : Nat) (p1at : Int) (h : Hp) (R : Value → Hp → Prop) : evBody Try.prog calls word_Get.hints Try.f57 [.slice p0ba p0bl p0bc, .int .i64 p1at] h R = word_Get.P p0ba p0bl p0bc p1at h R := by kernel_rfl
theorem word_Get.calls (p0ba : Option Addr) (p0bl : Nat) (p0bc : Nat) (p1at : Int) (h : Hp) (R : Value → Hp → Prop) (hp : word_Get.P p0ba p0bl p0bc p1at h R) : CallsH Try.prog 57 [.slice p0ba p0bl p0bc, .int .i64 p1at] h R :=
  calls_of_body calls_ok Try.func57 (args := [.slice p0ba p0bl p0bc, .int .i64 p1at]) (by rw [word_Get.eq]; exact hp)
/-! ### entry_Decode_1: function 58 -/
def entry_Decode_1.hints : Hints := { loops := [], cuts := [], orders := [] }
def entry_Decode_1.P (p0at : Int) (v0cb v0co : Nat) (h : Hp) (R : Value → Hp → Prop) : Prop :=
  ∃ x1 : Int, cellAt h v0cb v0co = some (.int .u32 x1) ∧ CallsH Try.prog 59 [.int .u32 x1, .int .i64 p0at, .int .i64 1] h fun r2 h1 => ∃ Field3 : Int, r2 = .int .u32 Field3 ∧ R (.bool (Field3 == 1)) h1
theorem entry_Decode_1.eq (p0at : Int) (v0cb v0co : Nat) (h : Hp) (R : Value → Hp → Prop) : evBody Try.prog calls entry_Decode_1.hints Try.f58 [.int .i64 p0at, .ptr v0cb v0co] h R = entry_Decode_1.P p0at v0cb v0co h R := by kernel_rfl
theorem entry_Decode_1.calls (p0at : Int) (v0cb v0co : Nat) (h : Hp) (R : Value → Hp → Prop) (hp : entry_Decode_1.P p0at v0cb v0co h R) : CallsH Try.prog 58 [.int .i64 p0at, .pointer (some ⟨v0cb, v0co, none⟩)] h R :=
  calls_of_body calls_ok Try.func58 (args := [.int .i64 p0at, .ptr v0cb v0co]) (by rw [entry_Decode_1.eq]; exact hp)
/-! ### word_Field: function 59 -/
def word_Field.hints : Hints := { loops := [], cuts := [], orders := [(3, [0, 0, 3, 0, 8, 31, 63], (.leaf [0, 1, 2, 3, 4, 5, 6]))] }
def word_Field.P (p0w : Int) (p1at : Int) (p2n : Int) (h : Hp) (R : Value → Hp → Prop) : Prop :=
  CallsH Try.prog 63 [.int .i64 p1at, .int .i64 p2n] h fun r1 h1 => ∃ fits2 : Bool, r1 = .bool fits2 ∧ ((!fits2) = true → (R (.int .u32 0) h1)) ∧ ((!fits2) = false → ((0 : Int) ≤ p1at ∧ CallsH Try.prog 64 [.int .i64 p2n] h1 fun r3 h2 => ∃ mask4 : Int, r3 = .int .u32 mask4 ∧
  R (.int .u32 (bandV .u32 (shrV .u32 p0w p1at) mask4)) h2))
theorem word_Field.eq (p0w : Int) (p1at : Int) (p2n : Int) (h : Hp) (R : Value → Hp → Prop) : evBody Try.prog calls word_Field.hints Try.f59 [.int .u32 p0w, .int .i64 p1at, .int .i64 p2n] h R = word_Field.P p0w p1at p2n h R := by kernel_rfl
theorem word_Field.calls (p0w : Int) (p1at : Int) (p2n : Int) (h : Hp) (R : Value → Hp → Prop) (hp : word_Field.P p0w p1at p2n h R) : CallsH Try.prog 59 [.int .u32 p0w, .int .i64 p1at, .int .i64 p2n] h R :=
  calls_of_body calls_ok Try.func59 (args := [.int .u32 p0w, .int .i64 p1at, .int .i64 p2n]) (by rw [word_Field.eq]; exact hp)
/-! ### warderref07_Walk: function 60 -/
def warderref07_Walk.hints : Hints := { loops := [], cuts := [(19, [0, 3, 8, 10, 12], [(11, (.one (.int .i64)))])], orders := [] }
def warderref07_Walk.P (p0mb p0mo : Nat) (p1root : Int) (p2addr : Int) (p3access : Int) (h : Hp) (R : Value → Hp → Prop) : Prop :=
  ∀ h1 : Hp, h1 = new h (blk 116 [.int .i64 0, .int .i64 0, .int .i64 0, .bool false, .bool false, .bool false]) → ((decide (p2addr ≥ 1048576)) = true → (truly true ∧ ∃ T1 : TypeId, ∃ l2 : List Value, bk h1 (sz h) = some (blk T1 l2) ∧
  0 + 6 ≤ l2.length ∧ ∀ h2 : Hp, h2 = upd h1 (sz h) T1 (writeAt l2 0 [.int .i64 1, .int .i64 0, .int .i64 0, .bool false, .bool false, .bool false]) → ∃ res3 : Int, cellAt h2 (sz h) (0 + 0) = some (.int .i64 res3) ∧
  ∃ res4 : Int, cellAt h2 (sz h) (0 + 1) = some (.int .i64 res4) ∧ ∃ res5 : Int, cellAt h2 (sz h) (0 + 2) = some (.int .i64 res5) ∧ ∃ res6 : Bool, cellAt h2 (sz h) (0 + 3) = some (.bool res6) ∧ ∃ res7 : Bool, cellAt h2 (sz h) (0 + 4) = some (.bool res7) ∧
  ∃ res8 : Bool, cellAt h2 (sz h) (0 + 5) = some (.bool res8) ∧ R (.agg #[.int .i64 res3, .int .i64 res4, .int .i64 res5, .bool res6, .bool res7, .bool res8]) h2)) ∧ ((decide (p2addr ≥ 1048576)) = false →
  (CallsH Try.prog 65 [.pointer (some ⟨p0mb, p0mo, none⟩), .int .i64 p1root] h1 fun r9 h3 => ∃ inx10 : Bool, r9 = .bool inx10 ∧ ((!inx10) = true → (truly true ∧ ∃ T11 : TypeId, ∃ l12 : List Value, bk h3 (sz h) = some (blk T11 l12) ∧
  0 + 6 ≤ l12.length ∧ ∀ h4 : Hp, h4 = upd h3 (sz h) T11 (writeAt l12 0 [.int .i64 5, .int .i64 0, .int .i64 0, .bool false, .bool false, .bool false]) → ∃ res13 : Int, cellAt h4 (sz h) (0 + 0) = some (.int .i64 res13) ∧
  ∃ res14 : Int, cellAt h4 (sz h) (0 + 1) = some (.int .i64 res14) ∧ ∃ res15 : Int, cellAt h4 (sz h) (0 + 2) = some (.int .i64 res15) ∧ ∃ res16 : Bool, cellAt h4 (sz h) (0 + 3) = some (.bool res16) ∧ ∃ res17 : Bool, cellAt h4 (sz h) (0 + 4) = some (.bool res17) ∧
  ∃ res18 : Bool, cellAt h4 (sz h) (0 + 5) = some (.bool res18) ∧ R (.agg #[.int .i64 res13, .int .i64 res14, .int .i64 res15, .bool res16, .bool res17, .bool res18]) h4)) ∧ ((!inx10) = false → (256 ≠ (0 : Int) ∧
  64 ≠ (0 : Int) ∧ 16384 ≠ (0 : Int) ∧ CallsH Try.prog 66 [.pointer (some ⟨p0mb, p0mo, none⟩), .int .i64 p1root, .int .i64 (IntKind.wrap .i64 (IntKind.wrap .u32 (Int.tdiv p2addr 16384)))] h3 fun r19 h5 => ∃ read20 : Bool, ∃ read21 : Bool, ∃ read22 : Bool, ∃ read23 : Bool, ∃ read24 : Int, r19 = .agg #[.bool read20, .bool read21, .bool read22, .bool read23, .int .i64 read24] ∧
  ∀ h6 : Hp, h6 = new h5 (blk 97 [.bool false, .bool false, .bool false, .bool false, .int .i64 0]) → truly true ∧ ∃ T25 : TypeId, ∃ l26 : List Value, bk h6 (sz h5) = some (blk T25 l26) ∧ 0 + 5 ≤ l26.length ∧
  ∀ h7 : Hp, h7 = upd h6 (sz h5) T25 (writeAt l26 0 [.bool read20, .bool read21, .bool read22, .bool read23, .int .i64 read24]) → ∃ Valid27 : Bool, cellAt h7 (sz h5) 0 = some (.bool Valid27) ∧ ((!Valid27) = true →
  (truly true ∧ ∃ T28 : TypeId, ∃ l29 : List Value, bk h7 (sz h) = some (blk T28 l29) ∧ 0 + 6 ≤ l29.length ∧ ∀ h8 : Hp, h8 = upd h7 (sz h) T28 (writeAt l29 0 [.int .i64 2, .int .i64 1, .int .i64 0, .bool false, .bool false, .bool false]) →
  ∃ res30 : Int, cellAt h8 (sz h) (0 + 0) = some (.int .i64 res30) ∧ ∃ res31 : Int, cellAt h8 (sz h) (0 + 1) = some (.int .i64 res31) ∧ ∃ res32 : Int, cellAt h8 (sz h) (0 + 2) = some (.int .i64 res32) ∧
  ∃ res33 : Bool, cellAt h8 (sz h) (0 + 3) = some (.bool res33) ∧ ∃ res34 : Bool, cellAt h8 (sz h) (0 + 4) = some (.bool res34) ∧ ∃ res35 : Bool, cellAt h8 (sz h) (0 + 5) = some (.bool res35) ∧ R (.agg #[.int .i64 res30, .int .i64 res31, .int .i64 res32, .bool res33, .bool res34, .bool res35]) h8)) ∧
  ((!Valid27) = false → (∃ Block36 : Bool, cellAt h7 (sz h5) 3 = some (.bool Block36) ∧ ∃ I37 : Int → Hp → Prop, (((Block36) = true → (∃ Frame38 : Int, cellAt h7 (sz h5) 4 = some (.int .i64 Frame38) ∧
  truly true ∧ ∃ T39 : TypeId, ∃ l40 : List Value, bk h7 (sz h5) = some (blk T39 l40) ∧ 4 + 1 ≤ l40.length ∧ ∀ h9 : Hp, h9 = upd h7 (sz h5) T39 (writeAt l40 4 [.int .i64 (IntKind.wrap .i64 (Frame38 + (IntKind.wrap .i64 (Int.tmod (IntKind.wrap .u32 (Int.tdiv p2addr 256)) 64))))]) →
  I37 1 h9)) ∧ ((Block36) = false → (∃ Frame41 : Int, cellAt h7 (sz h5) 4 = some (.int .i64 Frame41) ∧ CallsH Try.prog 65 [.pointer (some ⟨p0mb, p0mo, none⟩), .int .i64 Frame41] h7 fun r42 h10 => ∃ inx43 : Bool, r42 = .bool inx43 ∧
  ((!inx43) = true → (truly true ∧ ∃ T44 : TypeId, ∃ l45 : List Value, bk h10 (sz h) = some (blk T44 l45) ∧ 0 + 6 ≤ l45.length ∧ ∀ h11 : Hp, h11 = upd h10 (sz h) T44 (writeAt l45 0 [.int .i64 5, .int .i64 1, .int .i64 0, .bool false, .bool false, .bool false]) →
  ∃ res46 : Int, cellAt h11 (sz h) (0 + 0) = some (.int .i64 res46) ∧ ∃ res47 : Int, cellAt h11 (sz h) (0 + 1) = some (.int .i64 res47) ∧ ∃ res48 : Int, cellAt h11 (sz h) (0 + 2) = some (.int .i64 res48) ∧
  ∃ res49 : Bool, cellAt h11 (sz h) (0 + 3) = some (.bool res49) ∧ ∃ res50 : Bool, cellAt h11 (sz h) (0 + 4) = some (.bool res50) ∧ ∃ res51 : Bool, cellAt h11 (sz h) (0 + 5) = some (.bool res51) ∧ R (.agg #[.int .i64 res46, .int .i64 res47, .int .i64 res48, .bool res49, .bool res50, .bool res51]) h11)) ∧
  ((!inx43) = false → (∃ Frame52 : Int, cellAt h10 (sz h5) 4 = some (.int .i64 Frame52) ∧ CallsH Try.prog 66 [.pointer (some ⟨p0mb, p0mo, none⟩), .int .i64 Frame52, .int .i64 (IntKind.wrap .i64 (Int.tmod (IntKind.wrap .u32 (Int.tdiv p2addr 256)) 64))] h10 fun r53 h12 => ∃ read54 : Bool, ∃ read55 : Bool, ∃ read56 : Bool, ∃ read57 : Bool, ∃ read58 : Int, r53 = .agg #[.bool read54, .bool read55, .bool read56, .bool read57, .int .i64 read58] ∧
  truly true ∧ ∃ T59 : TypeId, ∃ l60 : List Value, bk h12 (sz h5) = some (blk T59 l60) ∧ 0 + 5 ≤ l60.length ∧ ∀ h13 : Hp, h13 = upd h12 (sz h5) T59 (writeAt l60 0 [.bool read54, .bool read55, .bool read56, .bool read57, .int .i64 read58]) →
  ∃ Valid61 : Bool, cellAt h13 (sz h5) 0 = some (.bool Valid61) ∧ ((!Valid61) = true → (truly true ∧ ∃ T62 : TypeId, ∃ l63 : List Value, bk h13 (sz h) = some (blk T62 l63) ∧ 0 + 6 ≤ l63.length ∧ ∀ h14 : Hp, h14 = upd h13 (sz h) T62 (writeAt l63 0 [.int .i64 3, .int .i64 2, .int .i64 0, .bool false, .bool false, .bool false]) →
  ∃ res64 : Int, cellAt h14 (sz h) (0 + 0) = some (.int .i64 res64) ∧ ∃ res65 : Int, cellAt h14 (sz h) (0 + 1) = some (.int .i64 res65) ∧ ∃ res66 : Int, cellAt h14 (sz h) (0 + 2) = some (.int .i64 res66) ∧
  ∃ res67 : Bool, cellAt h14 (sz h) (0 + 3) = some (.bool res67) ∧ ∃ res68 : Bool, cellAt h14 (sz h) (0 + 4) = some (.bool res68) ∧ ∃ res69 : Bool, cellAt h14 (sz h) (0 + 5) = some (.bool res69) ∧ R (.agg #[.int .i64 res64, .int .i64 res65, .int .i64 res66, .bool res67, .bool res68, .bool res69]) h14)) ∧
  ((!Valid61) = false → (I37 2 h13))))))) ∧ ∀ reads70 : Int, ∀ h15 : Hp, I37 reads70 h15 → ∃ x71 : Bool, cellAt h15 (sz h5) (0 + 0) = some (.bool x71) ∧ ∃ x72 : Bool, cellAt h15 (sz h5) (0 + 1) = some (.bool x72) ∧
  ∃ x73 : Bool, cellAt h15 (sz h5) (0 + 2) = some (.bool x73) ∧ ∃ x74 : Bool, cellAt h15 (sz h5) (0 + 3) = some (.bool x74) ∧ ∃ x75 : Int, cellAt h15 (sz h5) (0 + 4) = some (.int .i64 x75) ∧ CallsH Try.prog 42 [.agg #[.bool x71, .bool x72, .bool x73, .bool x74, .int .i64 x75], .int .i64 p3access] h15 fun r76 h16 => ∃ Allows77 : Bool, r76 = .bool Allows77 ∧
  ((!Allows77) = true → (truly true ∧ ∃ T78 : TypeId, ∃ l79 : List Value, bk h16 (sz h) = some (blk T78 l79) ∧ 0 + 6 ≤ l79.length ∧ ∀ h17 : Hp, h17 = upd h16 (sz h) T78 (writeAt l79 0 [.int .i64 4, .int .i64 reads70, .int .i64 0, .bool false, .bool false, .bool false]) →
  ∃ res80 : Int, cellAt h17 (sz h) (0 + 0) = some (.int .i64 res80) ∧ ∃ res81 : Int, cellAt h17 (sz h) (0 + 1) = some (.int .i64 res81) ∧ ∃ res82 : Int, cellAt h17 (sz h) (0 + 2) = some (.int .i64 res82) ∧
  ∃ res83 : Bool, cellAt h17 (sz h) (0 + 3) = some (.bool res83) ∧ ∃ res84 : Bool, cellAt h17 (sz h) (0 + 4) = some (.bool res84) ∧ ∃ res85 : Bool, cellAt h17 (sz h) (0 + 5) = some (.bool res85) ∧ R (.agg #[.int .i64 res80, .int .i64 res81, .int .i64 res82, .bool res83, .bool res84, .bool res85]) h17)) ∧
  ((!Allows77) = false → (∃ Frame86 : Int, cellAt h16 (sz h5) 4 = some (.int .i64 Frame86) ∧ CallsH Try.prog 65 [.pointer (some ⟨p0mb, p0mo, none⟩), .int .i64 Frame86] h16 fun r87 h18 => ∃ inx88 : Bool, r87 = .bool inx88 ∧
  ((!inx88) = true → (truly true ∧ ∃ T89 : TypeId, ∃ l90 : List Value, bk h18 (sz h) = some (blk T89 l90) ∧ 0 + 6 ≤ l90.length ∧ ∀ h19 : Hp, h19 = upd h18 (sz h) T89 (writeAt l90 0 [.int .i64 5, .int .i64 reads70, .int .i64 0, .bool false, .bool false, .bool false]) →
  ∃ res91 : Int, cellAt h19 (sz h) (0 + 0) = some (.int .i64 res91) ∧ ∃ res92 : Int, cellAt h19 (sz h) (0 + 1) = some (.int .i64 res92) ∧ ∃ res93 : Int, cellAt h19 (sz h) (0 + 2) = some (.int .i64 res93) ∧
  ∃ res94 : Bool, cellAt h19 (sz h) (0 + 3) = some (.bool res94) ∧ ∃ res95 : Bool, cellAt h19 (sz h) (0 + 4) = some (.bool res95) ∧ ∃ res96 : Bool, cellAt h19 (sz h) (0 + 5) = some (.bool res96) ∧ R (.agg #[.int .i64 res91, .int .i64 res92, .int .i64 res93, .bool res94, .bool res95, .bool res96]) h19)) ∧
  ((!inx88) = false → (∃ Frame97 : Int, cellAt h18 (sz h5) 4 = some (.int .i64 Frame97) ∧ ∃ Write98 : Bool, cellAt h18 (sz h5) 1 = some (.bool Write98) ∧ ∃ Exec99 : Bool, cellAt h18 (sz h5) 2 = some (.bool Exec99) ∧
  truly true ∧ ∃ T100 : TypeId, ∃ l101 : List Value, bk h18 (sz h) = some (blk T100 l101) ∧ 0 + 6 ≤ l101.length ∧ ∀ h20 : Hp, h20 = upd h18 (sz h) T100 (writeAt l101 0 [.int .i64 0, .int .i64 reads70, .int .i64 Frame97, .bool Write98, .bool Exec99, .bool Block36]) →
  ∃ res102 : Int, cellAt h20 (sz h) (0 + 0) = some (.int .i64 res102) ∧ ∃ res103 : Int, cellAt h20 (sz h) (0 + 1) = some (.int .i64 res103) ∧ ∃ res104 : Int, cellAt h20 (sz h) (0 + 2) = some (.int .i64 res104) ∧
  ∃ res105 : Bool, cellAt h20 (sz h) (0 + 3) = some (.bool res105) ∧ ∃ res106 : Bool, cellAt h20 (sz h) (0 + 4) = some (.bool res106) ∧ ∃ res107 : Bool, cellAt h20 (sz h) (0 + 5) = some (.bool res107) ∧
  R (.agg #[.int .i64 res102, .int .i64 res103, .int .i64 res104, .bool res105, .bool res106, .bool res107]) h20))))))))))
theorem warderref07_Walk.eq (p0mb p0mo : Nat) (p1root : Int) (p2addr : Int) (p3access : Int) (h : Hp) (R : Value → Hp → Prop) : evBody Try.prog calls warderref07_Walk.hints Try.f60 [.ptr p0mb p0mo, .int .i64 p1root, .int .u32 p2addr, .int .i64 p3access] h R = warderref07_Walk.P p0mb p0mo p1root p2addr p3access h R := by kernel_rfl
theorem warderref07_Walk.calls (p0mb p0mo : Nat) (p1root : Int) (p2addr : Int) (p3access : Int) (h : Hp) (R : Value → Hp → Prop) (hp : warderref07_Walk.P p0mb p0mo p1root p2addr p3access h R) : CallsH Try.prog 60 [.pointer (some ⟨p0mb, p0mo, none⟩), .int .i64 p1root, .int .u32 p2addr, .int .i64 p3access] h R :=
  calls_of_body calls_ok Try.func60 (args := [.ptr p0mb p0mo, .int .i64 p1root, .int .u32 p2addr, .int .i64 p3access]) (by rw [warderref07_Walk.eq]; exact hp)
/-! ### warderref06_Decode: function 61 -/
def warderref06_Decode.hints : Hints := { loops := [], cuts := [], orders := [] }
def warderref06_Decode.P (p0w : Int) (h : Hp) (R : Value → Hp → Prop) : Prop :=
  ∀ h1 : Hp, h1 = new h (blk 97 [.bool false, .bool false, .bool false, .bool false, .int .i64 0]) → 2 ≠ (0 : Int) ∧ (((Int.tmod p0w 2) == 0) = true → (truly true ∧ ∃ T1 : TypeId, ∃ l2 : List Value, bk h1 (sz h) = some (blk T1 l2) ∧
  0 + 5 ≤ l2.length ∧ ∀ h2 : Hp, h2 = upd h1 (sz h) T1 (writeAt l2 0 [.bool false, .bool false, .bool false, .bool false, .int .i64 0]) → ∃ res3 : Bool, cellAt h2 (sz h) (0 + 0) = some (.bool res3) ∧ ∃ res4 : Bool, cellAt h2 (sz h) (0 + 1) = some (.bool res4) ∧
  ∃ res5 : Bool, cellAt h2 (sz h) (0 + 2) = some (.bool res5) ∧ ∃ res6 : Bool, cellAt h2 (sz h) (0 + 3) = some (.bool res6) ∧ ∃ res7 : Int, cellAt h2 (sz h) (0 + 4) = some (.int .i64 res7) ∧ R (.agg #[.bool res3, .bool res4, .bool res5, .bool res6, .int .i64 res7]) h2)) ∧
  (((Int.tmod p0w 2) == 0) = false → (2 ≠ (0 : Int) ∧ 2 ≠ (0 : Int) ∧ 4 ≠ (0 : Int) ∧ 2 ≠ (0 : Int) ∧ 8 ≠ (0 : Int) ∧ 2 ≠ (0 : Int) ∧ 256 ≠ (0 : Int) ∧ 65536 ≠ (0 : Int) ∧ truly true ∧ ∃ T8 : TypeId, ∃ l9 : List Value, bk h1 (sz h) = some (blk T8 l9) ∧
  0 + 5 ≤ l9.length ∧ ∀ h3 : Hp, h3 = upd h1 (sz h) T8 (writeAt l9 0 [.bool true, .bool ((Int.tmod (IntKind.wrap .u32 (Int.tdiv p0w 2)) 2) == 1), .bool ((Int.tmod (IntKind.wrap .u32 (Int.tdiv p0w 4)) 2) == 1), .bool ((Int.tmod (IntKind.wrap .u32 (Int.tdiv p0w 8)) 2) == 1), .int .i64 (IntKind.wrap .i64 (Int.tmod (IntKind.wrap .u32 (Int.tdiv p0w 256)) 65536))]) →
  ∃ res10 : Bool, cellAt h3 (sz h) (0 + 0) = some (.bool res10) ∧ ∃ res11 : Bool, cellAt h3 (sz h) (0 + 1) = some (.bool res11) ∧ ∃ res12 : Bool, cellAt h3 (sz h) (0 + 2) = some (.bool res12) ∧ ∃ res13 : Bool, cellAt h3 (sz h) (0 + 3) = some (.bool res13) ∧
  ∃ res14 : Int, cellAt h3 (sz h) (0 + 4) = some (.int .i64 res14) ∧ R (.agg #[.bool res10, .bool res11, .bool res12, .bool res13, .int .i64 res14]) h3))
theorem warderref06_Decode.eq (p0w : Int) (h : Hp) (R : Value → Hp → Prop) : evBody Try.prog calls warderref06_Decode.hints Try.f61 [.int .u32 p0w] h R = warderref06_Decode.P p0w h R := by kernel_rfl
theorem warderref06_Decode.calls (p0w : Int) (h : Hp) (R : Value → Hp → Prop) (hp : warderref06_Decode.P p0w h R) : CallsH Try.prog 61 [.int .u32 p0w] h R :=
  calls_of_body calls_ok Try.func61 (args := [.int .u32 p0w]) (by rw [warderref06_Decode.eq]; exact hp)
/-! ### nest_walker_entry: function 62 -/
def nest_walker_entry.hints : Hints := { loops := [], cuts := [], orders := [(3, [0, 1, 3, 7, 0, 0, 48, 0, 240, 511, 1023, 2047, 2047, 4095, 16383], (.leaf [0, 1, 2, 3, 4, 5, 7, 6, 8, 9, 10, 11, 12, 13, 14]))] }
def nest_walker_entry.P (p0wb p0wo : Nat) (p1page : Int) (p2index : Int) (h : Hp) (R X : Value → Hp → Prop) : Prop :=
  ∀ h1 : Hp, h1 = new h (blk 41 [.bool false, .bool false, .bool false, .bool false, .int .i64 0]) → CallsX Try.prog 50 [.pointer (some ⟨p0wb, p0wo, none⟩), .bool (decide (p1page < 4096)), .int .i64 1] h1 (fun r1 h2 => r1 = .tuple #[] ∧
  CallsH Try.prog 32 [.int .i64 p1page, .int .i64 (IntKind.wrap .i64 (4 * p2index))] h2 fun r3 h4 => ∃ Join4 : Int, ∃ Join5 : Bool, r3 = .tuple #[.int .u32 Join4, .bool Join5] ∧ ∃ mem6 : Option Addr, cellAt h4 p0wb p0wo = some (.pointer mem6) ∧
  CallsX Try.prog 54 [.pointer (some ⟨p0wb, p0wo, none⟩), .int .u32 Join4, .int .i64 0, .bool true] h4 (fun r7 h5 => ∃ through9 : Int, ∃ through10 : Int, ∃ through11 : Int, ∃ through12 : Bool, ∃ through13 : Bool, ∃ through14 : Bool, r7 = .agg #[.int .i64 through9, .int .i64 through10, .int .i64 through11, .bool through12, .bool through13, .bool through14] ∧
  cellAt h5 p0wb p0wo = some (.pointer mem6) ∧ CallsH Try.prog 56 [.agg #[.int .i64 through9, .int .i64 through10, .int .i64 through11, .bool through12, .bool through13, .bool through14], .int .u32 Join4] h5 fun r15 h7 => ∃ addr16 : Int, r15 = .int .u32 addr16 ∧
  cellAt h7 p0wb p0wo = some (.pointer mem6) ∧ CallsH Try.prog 33 [.pointer mem6, .int .u32 addr16] h7 fun r17 h8 => ∃ Word18 : Int, ∃ Word19 : Bool, r17 = .tuple #[.int .u32 Word18, .bool Word19] ∧ CallsH Try.prog 34 [.int .u32 Word18] h8 fun r20 h9 => ∃ Decode21 : Bool, ∃ Decode22 : Bool, ∃ Decode23 : Bool, ∃ Decode24 : Bool, ∃ Decode25 : Int, r20 = .agg #[.bool Decode21, .bool Decode22, .bool Decode23, .bool Decode24, .int .i64 Decode25] ∧
  truly true ∧ ∃ T26 : TypeId, ∃ l27 : List Value, bk h9 (sz h) = some (blk T26 l27) ∧ 0 + 5 ≤ l27.length ∧ ∀ h10 : Hp, h10 = upd h9 (sz h) T26 (writeAt l27 0 [.bool Decode21, .bool Decode22, .bool Decode23, .bool Decode24, .int .i64 Decode25]) →
  ∃ res28 : Bool, cellAt h10 (sz h) (0 + 0) = some (.bool res28) ∧ ∃ res29 : Bool, cellAt h10 (sz h) (0 + 1) = some (.bool res29) ∧ ∃ res30 : Bool, cellAt h10 (sz h) (0 + 2) = some (.bool res30) ∧ ∃ res31 : Bool, cellAt h10 (sz h) (0 + 3) = some (.bool res31) ∧
  ∃ res32 : Int, cellAt h10 (sz h) (0 + 4) = some (.int .i64 res32) ∧ R (.agg #[.bool res28, .bool res29, .bool res30, .bool res31, .int .i64 res32]) h10) (fun px8 h6 => X (px8) h6)) (fun px2 h3 => X (px2) h3)
theorem nest_walker_entry.eq (p0wb p0wo : Nat) (p1page : Int) (p2index : Int) (h : Hp) (R X : Value → Hp → Prop) : evBodyX Try.prog calls nest_walker_entry.hints Try.f62 [.ptr p0wb p0wo, .int .i64 p1page, .int .i64 p2index] h R X = nest_walker_entry.P p0wb p0wo p1page p2index h R X := by kernel_rfl
theorem nest_walker_entry.calls (p0wb p0wo : Nat) (p1page : Int) (p2index : Int) (h : Hp) (R X : Value → Hp → Prop) (hp : nest_walker_entry.P p0wb p0wo p1page p2index h R X) : CallsX Try.prog 62 [.pointer (some ⟨p0wb, p0wo, none⟩), .int .i64 p1page, .int .i64 p2index] h R X :=
  callsX_of_body calls_ok Try.func62 (args := [.ptr p0wb p0wo, .int .i64 p1page, .int .i64 p2index]) (by rw [nest_walker_entry.eq]; exact hp)
/-! ### word_fits: function 63 -/
def word_fits.hints : Hints := { loops := [], cuts := [], orders := [] }
def word_fits.P (p0at : Int) (p1n : Int) (h : Hp) (R : Value → Hp → Prop) : Prop :=
  ((decide (p1n ≥ 1)) = true → (((decide (p1n ≤ 32)) = true → (((decide (p0at ≥ 0)) = true → (R (.bool (decide (p0at ≤ (IntKind.wrap .i64 (32 - p1n))))) h)) ∧ ((decide (p0at ≥ 0)) = false → (R (.bool false) h)))) ∧
  ((decide (p1n ≤ 32)) = false → (R (.bool false) h)))) ∧ ((decide (p1n ≥ 1)) = false → (R (.bool false) h))
theorem word_fits.eq (p0at : Int) (p1n : Int) (h : Hp) (R : Value → Hp → Prop) : evBody Try.prog calls word_fits.hints Try.f63 [.int .i64 p0at, .int .i64 p1n] h R = word_fits.P p0at p1n h R := by kernel_rfl
theorem word_fits.calls (p0at : Int) (p1n : Int) (h : Hp) (R : Value → Hp → Prop) (hp : word_fits.P p0at p1n h R) : CallsH Try.prog 63 [.int .i64 p0at, .int .i64 p1n] h R :=
  calls_of_body calls_ok Try.func63 (args := [.int .i64 p0at, .int .i64 p1n]) (by rw [word_fits.eq]; exact hp)
/-! ### word_mask: function 64 -/
def word_mask.hints : Hints := { loops := [], cuts := [], orders := [] }
def word_mask.P (p0n : Int) (h : Hp) (R : Value → Hp → Prop) : Prop :=
  (0 : Int) ≤ (IntKind.wrap .i64 (32 - p0n)) ∧ R (.int .u32 (shrV .u32 4294967295 (IntKind.wrap .i64 (32 - p0n)))) h
theorem word_mask.eq (p0n : Int) (h : Hp) (R : Value → Hp → Prop) : evBody Try.prog calls word_mask.hints Try.f64 [.int .i64 p0n] h R = word_mask.P p0n h R := by kernel_rfl
theorem word_mask.calls (p0n : Int) (h : Hp) (R : Value → Hp → Prop) (hp : word_mask.P p0n h R) : CallsH Try.prog 64 [.int .i64 p0n] h R :=
  calls_of_body calls_ok Try.func64 (args := [.int .i64 p0n]) (by rw [word_mask.eq]; exact hp)
/-! ### warderref07_in: function 65 -/
def warderref07_in.hints : Hints := { loops := [], cuts := [], orders := [] }
def warderref07_in.P (p0mb p0mo : Nat) (p1n : Int) (h : Hp) (R : Value → Hp → Prop) : Prop :=
  ((decide (p1n ≥ 0)) = true → (∃ Ba1 : Option Addr, ∃ Bl2 : Nat, ∃ Bc3 : Nat, cellAt h p0mb p0mo = some (.slice Ba1 Bl2 Bc3) ∧ 256 ≠ (0 : Int) ∧ R (.bool (decide (p1n < (IntKind.wrap .i64 (Int.tdiv ((Bl2 : Nat) : Int) 256))))) h)) ∧
  ((decide (p1n ≥ 0)) = false → (R (.bool false) h))
theorem warderref07_in.eq (p0mb p0mo : Nat) (p1n : Int) (h : Hp) (R : Value → Hp → Prop) : evBody Try.prog calls warderref07_in.hints Try.f65 [.ptr p0mb p0mo, .int .i64 p1n] h R = warderref07_in.P p0mb p0mo p1n h R := by kernel_rfl
theorem warderref07_in.calls (p0mb p0mo : Nat) (p1n : Int) (h : Hp) (R : Value → Hp → Prop) (hp : warderref07_in.P p0mb p0mo p1n h R) : CallsH Try.prog 65 [.pointer (some ⟨p0mb, p0mo, none⟩), .int .i64 p1n] h R :=
  calls_of_body calls_ok Try.func65 (args := [.ptr p0mb p0mo, .int .i64 p1n]) (by rw [warderref07_in.eq]; exact hp)
/-! ### warderref07_read: function 66 -/
def warderref07_read.hints : Hints := { loops := [], cuts := [], orders := [] }
def warderref07_read.P (p0mb p0mo : Nat) (p1table : Int) (p2index : Int) (h : Hp) (R : Value → Hp → Prop) : Prop :=
  ∀ h1 : Hp, h1 = new h (blk 97 [.bool false, .bool false, .bool false, .bool false, .int .i64 0]) → CallsH Try.prog 22 [.pointer (some ⟨p0mb, p0mo, none⟩), .int .u32 (IntKind.wrap .u32 (IntKind.wrap .i64 ((IntKind.wrap .i64 (256 * p1table)) + (IntKind.wrap .i64 (4 * p2index)))))] h1 fun r1 h2 => ∃ Word2 : Int, ∃ Word3 : Bool, r1 = .tuple #[.int .u32 Word2, .bool Word3] ∧
  CallsH Try.prog 61 [.int .u32 Word2] h2 fun r4 h3 => ∃ Decode5 : Bool, ∃ Decode6 : Bool, ∃ Decode7 : Bool, ∃ Decode8 : Bool, ∃ Decode9 : Int, r4 = .agg #[.bool Decode5, .bool Decode6, .bool Decode7, .bool Decode8, .int .i64 Decode9] ∧
  truly true ∧ ∃ T10 : TypeId, ∃ l11 : List Value, bk h3 (sz h) = some (blk T10 l11) ∧ 0 + 5 ≤ l11.length ∧ ∀ h4 : Hp, h4 = upd h3 (sz h) T10 (writeAt l11 0 [.bool Decode5, .bool Decode6, .bool Decode7, .bool Decode8, .int .i64 Decode9]) →
  ∃ res12 : Bool, cellAt h4 (sz h) (0 + 0) = some (.bool res12) ∧ ∃ res13 : Bool, cellAt h4 (sz h) (0 + 1) = some (.bool res13) ∧ ∃ res14 : Bool, cellAt h4 (sz h) (0 + 2) = some (.bool res14) ∧ ∃ res15 : Bool, cellAt h4 (sz h) (0 + 3) = some (.bool res15) ∧
  ∃ res16 : Int, cellAt h4 (sz h) (0 + 4) = some (.int .i64 res16) ∧ R (.agg #[.bool res12, .bool res13, .bool res14, .bool res15, .int .i64 res16]) h4
theorem warderref07_read.eq (p0mb p0mo : Nat) (p1table : Int) (p2index : Int) (h : Hp) (R : Value → Hp → Prop) : evBody Try.prog calls warderref07_read.hints Try.f66 [.ptr p0mb p0mo, .int .i64 p1table, .int .i64 p2index] h R = warderref07_read.P p0mb p0mo p1table p2index h R := by kernel_rfl
theorem warderref07_read.calls (p0mb p0mo : Nat) (p1table : Int) (p2index : Int) (h : Hp) (R : Value → Hp → Prop) (hp : warderref07_read.P p0mb p0mo p1table p2index h R) : CallsH Try.prog 66 [.pointer (some ⟨p0mb, p0mo, none⟩), .int .i64 p1table, .int .i64 p2index] h R :=
  calls_of_body calls_ok Try.func66 (args := [.ptr p0mb p0mo, .int .i64 p1table, .int .i64 p2index]) (by rw [warderref07_read.eq]; exact hp)
/-! ### nest_Translate_1_nil: function 30, deferred -/
def nest_Translate_1_nil.hints : Hints := { loops := [], cuts := [], orders := [] }
def nest_Translate_1_nil.P (v0cb v0co : Nat) (v1cb v1co : Nat) (h : Hp) (D : Hp → Prop) : Prop :=
  D h
theorem nest_Translate_1_nil.eq (v0cb v0co : Nat) (v1cb v1co : Nat) (h : Hp) (D : Hp → Prop) : evBodyR Try.prog calls nest_Translate_1_nil.hints Try.f30 [.ptr v0cb v0co, .ptr v1cb v1co] (.raw (.nilIface)) h D = nest_Translate_1_nil.P v0cb v0co v1cb v1co h D := by kernel_rfl
theorem nest_Translate_1_nil.calls (v0cb v0co : Nat) (v1cb v1co : Nat) (h : Hp) (D : Hp → Prop) (hp : nest_Translate_1_nil.P v0cb v0co v1cb v1co h D) : CallsDH Try.prog 30 [.pointer (some ⟨v0cb, v0co, none⟩), .pointer (some ⟨v1cb, v1co, none⟩)] none h D :=
  callsD_of_body (x := none) calls_ok Try.func30 (args := [.ptr v0cb v0co, .ptr v1cb v1co]) (by show evBodyR _ _ nest_Translate_1_nil.hints _ _ (.raw (.nilIface)) _ _; rw [nest_Translate_1_nil.eq]; exact hp)
/-! ### nest_Translate_1_78: function 30, deferred -/
def nest_Translate_1_78.hints : Hints := { loops := [], cuts := [(5, [0, 1, 3], [])], orders := [(5, [0, 1, 0, 4, 12, 28, 63, 127], (.leaf [0, 1, 2, 3, 4, 5, 6, 7]))] }
def nest_Translate_1_78.P (v0cb v0co : Nat) (v1cb v1co : Nat) (x_0 : Int) (x_1 : Int) (x_2 : Int) (x_3 : Bool) (h : Hp) (D : Hp → Prop) : Prop :=
  ∀ h1 : Hp, h1 = new h (blk 78 [.int .i64 0, .int .i64 0, .int .u32 0, .bool false]) → truly true ∧ ∃ T1 : TypeId, ∃ l2 : List Value, bk h1 (sz h) = some (blk T1 l2) ∧ 0 + 4 ≤ l2.length ∧ ∀ h2 : Hp, h2 = upd h1 (sz h) T1 (writeAt l2 0 [.int .i64 x_0, .int .i64 x_1, .int .u32 x_2, .bool x_3]) →
  ∃ I3 : Hp → Prop, (((!true) = true → (False)) ∧ ((!true) = false → (I3 h2))) ∧ ∀ h3 : Hp, I3 h3 → ∃ Fault4 : Int, cellAt h3 (sz h) (0 + 0) = some (.int .i64 Fault4) ∧ ∃ Fault5 : Int, cellAt h3 (sz h) (0 + 1) = some (.int .i64 Fault5) ∧
  ∃ Fault6 : Int, cellAt h3 (sz h) (0 + 2) = some (.int .u32 Fault6) ∧ ∃ Fault7 : Bool, cellAt h3 (sz h) (0 + 3) = some (.bool Fault7) ∧ ∃ x8 : Option Addr, cellAt h3 v0cb v0co = some (.pointer x8) ∧ ∃ b9 : Nat, ∃ o10 : Nat, x8 = some ⟨b9, o10, none⟩ ∧
  ∃ reads11 : Int, cellAt h3 b9 (o10 + 3) = some (.int .i64 reads11) ∧ truly true ∧ ∃ T12 : TypeId, ∃ l13 : List Value, bk h3 v1cb = some (blk T12 l13) ∧ v1co + 9 ≤ l13.length ∧ ∀ h4 : Hp, h4 = upd h3 v1cb T12 (writeAt l13 v1co [.int .i64 Fault4, .int .i64 Fault5, .int .u32 Fault6, .bool Fault7, .int .i64 reads11, .int .i64 0, .int .u32 0, .bool false, .bool false]) →
  D h4
theorem nest_Translate_1_78.eq (v0cb v0co : Nat) (v1cb v1co : Nat) (x_0 : Int) (x_1 : Int) (x_2 : Int) (x_3 : Bool) (h : Hp) (D : Hp → Prop) : evBodyR Try.prog calls nest_Translate_1_78.hints Try.f30 [.ptr v0cb v0co, .ptr v1cb v1co] (.raw (.iface 78 (.agg #[.int .i64 x_0, .int .i64 x_1, .int .u32 x_2, .bool x_3]))) h D = nest_Translate_1_78.P v0cb v0co v1cb v1co x_0 x_1 x_2 x_3 h D := by kernel_rfl
theorem nest_Translate_1_78.calls (v0cb v0co : Nat) (v1cb v1co : Nat) (x_0 : Int) (x_1 : Int) (x_2 : Int) (x_3 : Bool) (h : Hp) (D : Hp → Prop) (hp : nest_Translate_1_78.P v0cb v0co v1cb v1co x_0 x_1 x_2 x_3 h D) : CallsDH Try.prog 30 [.pointer (some ⟨v0cb, v0co, none⟩), .pointer (some ⟨v1cb, v1co, none⟩)] (some (.iface 78 (.agg #[.int .i64 x_0, .int .i64 x_1, .int .u32 x_2, .bool x_3]))) h D :=
  callsD_of_body (x := some (.iface 78 (.agg #[.int .i64 x_0, .int .i64 x_1, .int .u32 x_2, .bool x_3]))) calls_ok Try.func30 (args := [.ptr v0cb v0co, .ptr v1cb v1co]) (by show evBodyR _ _ nest_Translate_1_78.hints _ _ (.raw (.iface 78 (.agg #[.int .i64 x_0, .int .i64 x_1, .int .u32 x_2, .bool x_3]))) _ _; rw [nest_Translate_1_78.eq]; exact hp)
end Go.Proofs.Ytopfdfcbhclolaa
