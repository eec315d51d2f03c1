/-
  Printed by this repo's own wip/tools/pr.py: what each function owes, as a proposition over heaps, read out of its body by the core.
-/
import Derived.Test.YtfmhcmddcfphkaaProg
import Derived.Test.YtfmhcmddcfphkaaWdFn
import Derived.KernelRfl
namespace Go.Proofs.Ytfmhcmddcfphkaa
open Go Go.Wd
set_option linter.unusedVariables false
set_option maxRecDepth 100000
def calls : Nat → Bool := fun f => [7, 8, 9, 10, 11, 12, 13, 14, 15, 16, 17, 18, 19, 20, 21, 22, 23, 24, 25, 26, 27].any (Nat.beq f)
theorem calls_ok : CallsOk Try.prog calls := by
  intro f hf
  simp only [calls, List.any_cons, List.any_nil, Bool.or_eq_true, Bool.or_false] at hf
  rcases hf with hf | hf | hf | hf | hf | hf | hf | hf | hf | hf | hf | hf | hf | hf | hf | hf | hf | hf | hf | hf | hf
  · obtain rfl := Nat.eq_of_beq_eq_true hf; exact Try.call7
  · obtain rfl := Nat.eq_of_beq_eq_true hf; exact Try.call8
  · obtain rfl := Nat.eq_of_beq_eq_true hf; exact Try.call9
  · obtain rfl := Nat.eq_of_beq_eq_true hf; exact Try.call10
  · obtain rfl := Nat.eq_of_beq_eq_true hf; exact Try.call11
  · obtain rfl := Nat.eq_of_beq_eq_true hf; exact Try.call12
  · obtain rfl := Nat.eq_of_beq_eq_true hf; exact Try.call13
  · obtain rfl := Nat.eq_of_beq_eq_true hf; exact Try.call14
  · obtain rfl := Nat.eq_of_beq_eq_true hf; exact Try.call15
  · obtain rfl := Nat.eq_of_beq_eq_true hf; exact Try.call16
  · obtain rfl := Nat.eq_of_beq_eq_true hf; exact Try.call17
  · obtain rfl := Nat.eq_of_beq_eq_true hf; exact Try.call18
  · obtain rfl := Nat.eq_of_beq_eq_true hf; exact Try.call19
  · obtain rfl := Nat.eq_of_beq_eq_true hf; exact Try.call20
  · obtain rfl := Nat.eq_of_beq_eq_true hf; exact Try.call21
  · obtain rfl := Nat.eq_of_beq_eq_true hf; exact Try.call22
  · obtain rfl := Nat.eq_of_beq_eq_true hf; exact Try.call23
  · obtain rfl := Nat.eq_of_beq_eq_true hf; exact Try.call24
  · obtain rfl := Nat.eq_of_beq_eq_true hf; exact Try.call25
  · obtain rfl := Nat.eq_of_beq_eq_true hf; exact Try.call26
  · obtain rfl := Nat.eq_of_beq_eq_true hf; exact Try.call27
/-! ### warderlaw06_EntryWords: function 3 -/
def warderlaw06_EntryWords.hints : Hints := { loops := [], cuts := [], orders := [(6, [0, 0, 3, 7, 15, 15, 63, 127, 255, 511, 1023, 511, 4095, 8191, 16383, 32767, 65535, 65535, 262143, 65535, 1048575, 65535, 4194303, 8388607, 16777215], [0, 1, 2, 3, 4, 5, 6, 7, 8, 9, 11, 10, 12, 13, 14, 15, 16, 17, 19, 21, 18, 20, 22, 23, 24]), (9, [0, 1, 3, 7, 3, 31, 63, 127, 255, 511, 1023, 2047, 4095, 2047, 16383, 32767, 65535, 131071], [0, 1, 2, 4, 3, 5, 6, 7, 8, 9, 10, 11, 13, 12, 14, 15, 16, 17])] }
def warderlaw06_EntryWords.P (p0e_0 : Bool) (p0e_1 : Bool) (p0e_2 : Bool) (p0e_3 : Bool) (p0e_4 : Int) (p1w : Int) (p2access : Int) (h : Hp) (R : Value → Hp → Prop) : Prop :=
  ∀ h1 : Hp, h1 = new h (blk 23 [.bool p0e_0, .bool p0e_1, .bool p0e_2, .bool p0e_3, .int .i64 p0e_4]) → CallsH Try.prog 7 [] h1 fun r1 h2 => ∃ alive2 : Bool, r1 = .bool alive2 ∧ ((!alive2) = true → (R (.bool false) h2)) ∧
  ((!alive2) = false → (∃ x3 : Bool, cellAt h2 (sz h) (0 + 0) = some (.bool x3) ∧ ∃ x4 : Bool, cellAt h2 (sz h) (0 + 1) = some (.bool x4) ∧ ∃ x5 : Bool, cellAt h2 (sz h) (0 + 2) = some (.bool x5) ∧ ∃ x6 : Bool, cellAt h2 (sz h) (0 + 3) = some (.bool x6) ∧
  ∃ x7 : Int, cellAt h2 (sz h) (0 + 4) = some (.int .i64 x7) ∧ CallsH Try.prog 8 [.agg #[.bool x3, .bool x4, .bool x5, .bool x6, .int .i64 x7]] h2 fun r8 h3 => ∃ Encode9 : Int, ∃ Encode10 : Bool, r8 = .tuple #[.int .u32 Encode9, .bool Encode10] ∧
  ∃ x11 : Bool, cellAt h3 (sz h) (0 + 0) = some (.bool x11) ∧ ∃ x12 : Bool, cellAt h3 (sz h) (0 + 1) = some (.bool x12) ∧ ∃ x13 : Bool, cellAt h3 (sz h) (0 + 2) = some (.bool x13) ∧ ∃ x14 : Bool, cellAt h3 (sz h) (0 + 3) = some (.bool x14) ∧
  ∃ x15 : Int, cellAt h3 (sz h) (0 + 4) = some (.int .i64 x15) ∧ CallsH Try.prog 10 [.agg #[.bool x11, .bool x12, .bool x13, .bool x14, .int .i64 x15]] h3 fun r16 h4 => ∃ ofx17 : Bool, ∃ ofx18 : Bool, ∃ ofx19 : Bool, ∃ ofx20 : Bool, ∃ ofx21 : Int, r16 = .agg #[.bool ofx17, .bool ofx18, .bool ofx19, .bool ofx20, .int .i64 ofx21] ∧
  CallsH Try.prog 9 [.agg #[.bool ofx17, .bool ofx18, .bool ofx19, .bool ofx20, .int .i64 ofx21]] h4 fun r22 h5 => ∃ Encode23 : Int, ∃ Encode24 : Bool, r22 = .tuple #[.int .u32 Encode23, .bool Encode24] ∧
  CallsH Try.prog 11 [.int .u32 p1w] h5 fun r25 h6 => ∃ Decode26 : Bool, ∃ Decode27 : Bool, ∃ Decode28 : Bool, ∃ Decode29 : Bool, ∃ Decode30 : Int, r25 = .agg #[.bool Decode26, .bool Decode27, .bool Decode28, .bool Decode29, .int .i64 Decode30] ∧
  ∀ h7 : Hp, h7 = new h6 (blk 23 [.bool false, .bool false, .bool false, .bool false, .int .i64 0]) → (true = true) ∧ ∃ T31 : TypeId, ∃ l32 : List Value, bk h7 (sz h6) = some (blk T31 l32) ∧ 0 + 5 ≤ l32.length ∧
  ∀ h8 : Hp, h8 = upd h7 (sz h6) T31 (writeAt l32 0 [.bool Decode26, .bool Decode27, .bool Decode28, .bool Decode29, .int .i64 Decode30]) → ((Encode9 != Encode23) = true → (R (.bool false) h8)) ∧ ((Encode9 != Encode23) = false →
  (((notIf false (Encode10 == Encode24)) = true → (R (.bool false) h8)) ∧ ((notIf false (Encode10 == Encode24)) = false → (∃ x33 : Bool, cellAt h8 (sz h6) (0 + 0) = some (.bool x33) ∧ ∃ x34 : Bool, cellAt h8 (sz h6) (0 + 1) = some (.bool x34) ∧
  ∃ x35 : Bool, cellAt h8 (sz h6) (0 + 2) = some (.bool x35) ∧ ∃ x36 : Bool, cellAt h8 (sz h6) (0 + 3) = some (.bool x36) ∧ ∃ x37 : Int, cellAt h8 (sz h6) (0 + 4) = some (.int .i64 x37) ∧ CallsH Try.prog 10 [.agg #[.bool x33, .bool x34, .bool x35, .bool x36, .int .i64 x37]] h8 fun r38 h9 => ∃ ofx39 : Bool, ∃ ofx40 : Bool, ∃ ofx41 : Bool, ∃ ofx42 : Bool, ∃ ofx43 : Int, r38 = .agg #[.bool ofx39, .bool ofx40, .bool ofx41, .bool ofx42, .int .i64 ofx43] ∧
  CallsH Try.prog 12 [.int .u32 p1w] h9 fun r44 h10 => ∃ Decode45 : Bool, ∃ Decode46 : Bool, ∃ Decode47 : Bool, ∃ Decode48 : Bool, ∃ Decode49 : Int, r44 = .agg #[.bool Decode45, .bool Decode46, .bool Decode47, .bool Decode48, .int .i64 Decode49] ∧
  ((notIf false (((ofx39 : Bool) == Decode45) && (((ofx40 : Bool) == Decode46) && (((ofx41 : Bool) == Decode47) && (((ofx42 : Bool) == Decode48) && ((ofx43 == Decode49) && true)))))) = true → (R (.bool false) h10)) ∧
  ((notIf false (((ofx39 : Bool) == Decode45) && (((ofx40 : Bool) == Decode46) && (((ofx41 : Bool) == Decode47) && (((ofx42 : Bool) == Decode48) && ((ofx43 == Decode49) && true)))))) = false → (∃ x50 : Bool, cellAt h10 (sz h) (0 + 0) = some (.bool x50) ∧
  ∃ x51 : Bool, cellAt h10 (sz h) (0 + 1) = some (.bool x51) ∧ ∃ x52 : Bool, cellAt h10 (sz h) (0 + 2) = some (.bool x52) ∧ ∃ x53 : Bool, cellAt h10 (sz h) (0 + 3) = some (.bool x53) ∧ ∃ x54 : Int, cellAt h10 (sz h) (0 + 4) = some (.int .i64 x54) ∧
  ∃ x55 : Bool, cellAt h10 (sz h) (0 + 0) = some (.bool x55) ∧ ∃ x56 : Bool, cellAt h10 (sz h) (0 + 1) = some (.bool x56) ∧ ∃ x57 : Bool, cellAt h10 (sz h) (0 + 2) = some (.bool x57) ∧ ∃ x58 : Bool, cellAt h10 (sz h) (0 + 3) = some (.bool x58) ∧
  ∃ x59 : Int, cellAt h10 (sz h) (0 + 4) = some (.int .i64 x59) ∧ CallsH Try.prog 13 [.agg #[.bool x50, .bool x51, .bool x52, .bool x53, .int .i64 x54], .int .i64 p2access] h10 fun r60 h11 => ∃ Allows61 : Bool, r60 = .bool Allows61 ∧
  cellAt h11 (sz h) (0 + 0) = some (.bool x55) ∧ cellAt h11 (sz h) (0 + 1) = some (.bool x56) ∧ cellAt h11 (sz h) (0 + 2) = some (.bool x57) ∧ cellAt h11 (sz h) (0 + 3) = some (.bool x58) ∧ cellAt h11 (sz h) (0 + 4) = some (.int .i64 x59) ∧
  CallsH Try.prog 10 [.agg #[.bool x55, .bool x56, .bool x57, .bool x58, .int .i64 x59]] h11 fun r62 h12 => ∃ ofx63 : Bool, ∃ ofx64 : Bool, ∃ ofx65 : Bool, ∃ ofx66 : Bool, ∃ ofx67 : Int, r62 = .agg #[.bool ofx63, .bool ofx64, .bool ofx65, .bool ofx66, .int .i64 ofx67] ∧
  CallsH Try.prog 14 [.agg #[.bool ofx63, .bool ofx64, .bool ofx65, .bool ofx66, .int .i64 ofx67], .int .i64 p2access] h12 fun r68 h13 => ∃ Allows69 : Bool, r68 = .bool Allows69 ∧ ((notIf false (Allows61 == Allows69)) = true →
  (R (.bool false) h13)) ∧ ((notIf false (Allows61 == Allows69)) = false → (∃ x70 : Bool, cellAt h13 (sz h6) (0 + 0) = some (.bool x70) ∧ ∃ x71 : Bool, cellAt h13 (sz h6) (0 + 1) = some (.bool x71) ∧ ∃ x72 : Bool, cellAt h13 (sz h6) (0 + 2) = some (.bool x72) ∧
  ∃ x73 : Bool, cellAt h13 (sz h6) (0 + 3) = some (.bool x73) ∧ ∃ x74 : Int, cellAt h13 (sz h6) (0 + 4) = some (.int .i64 x74) ∧ CallsH Try.prog 8 [.agg #[.bool x70, .bool x71, .bool x72, .bool x73, .int .i64 x74]] h13 fun r75 h14 => ∃ Encode76 : Int, ∃ Encode77 : Bool, r75 = .tuple #[.int .u32 Encode76, .bool Encode77] ∧
  ((Encode77) = true → (∃ x78 : Bool, cellAt h14 (sz h6) (0 + 0) = some (.bool x78) ∧ ∃ x79 : Bool, cellAt h14 (sz h6) (0 + 1) = some (.bool x79) ∧ ∃ x80 : Bool, cellAt h14 (sz h6) (0 + 2) = some (.bool x80) ∧
  ∃ x81 : Bool, cellAt h14 (sz h6) (0 + 3) = some (.bool x81) ∧ ∃ x82 : Int, cellAt h14 (sz h6) (0 + 4) = some (.int .i64 x82) ∧ CallsH Try.prog 11 [.int .u32 Encode76] h14 fun r83 h15 => ∃ Decode84 : Bool, ∃ Decode85 : Bool, ∃ Decode86 : Bool, ∃ Decode87 : Bool, ∃ Decode88 : Int, r83 = .agg #[.bool Decode84, .bool Decode85, .bool Decode86, .bool Decode87, .int .i64 Decode88] ∧
  cellAt h15 (sz h6) (0 + 0) = some (.bool x78) ∧ cellAt h15 (sz h6) (0 + 1) = some (.bool x79) ∧ cellAt h15 (sz h6) (0 + 2) = some (.bool x80) ∧ cellAt h15 (sz h6) (0 + 3) = some (.bool x81) ∧ cellAt h15 (sz h6) (0 + 4) = some (.int .i64 x82) ∧
  ((notIf true (((Decode84 : Bool) == x78) && (((Decode85 : Bool) == x79) && (((Decode86 : Bool) == x80) && (((Decode87 : Bool) == x81) && ((Decode88 == x82) && true)))))) = true → (((!Encode10) = true →
  (R (.bool true) h15)) ∧ ((!Encode10) = false → (∃ x89 : Bool, cellAt h15 (sz h) (0 + 0) = some (.bool x89) ∧ ∃ x90 : Bool, cellAt h15 (sz h) (0 + 1) = some (.bool x90) ∧ ∃ x91 : Bool, cellAt h15 (sz h) (0 + 2) = some (.bool x91) ∧
  ∃ x92 : Bool, cellAt h15 (sz h) (0 + 3) = some (.bool x92) ∧ ∃ x93 : Int, cellAt h15 (sz h) (0 + 4) = some (.int .i64 x93) ∧ CallsH Try.prog 11 [.int .u32 Encode9] h15 fun r94 h16 => ∃ Decode95 : Bool, ∃ Decode96 : Bool, ∃ Decode97 : Bool, ∃ Decode98 : Bool, ∃ Decode99 : Int, r94 = .agg #[.bool Decode95, .bool Decode96, .bool Decode97, .bool Decode98, .int .i64 Decode99] ∧
  cellAt h16 (sz h) (0 + 0) = some (.bool x89) ∧ cellAt h16 (sz h) (0 + 1) = some (.bool x90) ∧ cellAt h16 (sz h) (0 + 2) = some (.bool x91) ∧ cellAt h16 (sz h) (0 + 3) = some (.bool x92) ∧ cellAt h16 (sz h) (0 + 4) = some (.int .i64 x93) ∧
  R (.bool (notIf true (((Decode95 : Bool) == x89) && (((Decode96 : Bool) == x90) && (((Decode97 : Bool) == x91) && (((Decode98 : Bool) == x92) && ((Decode99 == x93) && true))))))) h16)))) ∧ ((notIf true (((Decode84 : Bool) == x78) && (((Decode85 : Bool) == x79) && (((Decode86 : Bool) == x80) && (((Decode87 : Bool) == x81) && ((Decode88 == x82) && true)))))) = false →
  (R (.bool false) h15)))) ∧ ((Encode77) = false → (R (.bool false) h14))))))))))))
theorem warderlaw06_EntryWords.eq (p0e_0 : Bool) (p0e_1 : Bool) (p0e_2 : Bool) (p0e_3 : Bool) (p0e_4 : Int) (p1w : Int) (p2access : Int) (h : Hp) (R : Value → Hp → Prop) : evBody Try.prog calls warderlaw06_EntryWords.hints Try.f3 [.agg [.bool p0e_0, .bool p0e_1, .bool p0e_2, .bool p0e_3, .int .i64 p0e_4], .int .u32 p1w, .int .i64 p2access] h R = warderlaw06_EntryWords.P p0e_0 p0e_1 p0e_2 p0e_3 p0e_4 p1w p2access h R := by kernel_rfl
theorem warderlaw06_EntryWords.calls (p0e_0 : Bool) (p0e_1 : Bool) (p0e_2 : Bool) (p0e_3 : Bool) (p0e_4 : Int) (p1w : Int) (p2access : Int) (h : Hp) (R : Value → Hp → Prop) (hp : warderlaw06_EntryWords.P p0e_0 p0e_1 p0e_2 p0e_3 p0e_4 p1w p2access h R) : CallsH Try.prog 3 [.agg #[.bool p0e_0, .bool p0e_1, .bool p0e_2, .bool p0e_3, .int .i64 p0e_4], .int .u32 p1w, .int .i64 p2access] h R :=
  calls_of_body calls_ok Try.func3 (args := [.agg [.bool p0e_0, .bool p0e_1, .bool p0e_2, .bool p0e_3, .int .i64 p0e_4], .int .u32 p1w, .int .i64 p2access]) (by rw [warderlaw06_EntryWords.eq]; exact hp)
/-! ### warderlaw06_EntryParts: function 4 -/
def warderlaw06_EntryParts.hints : Hints := { loops := [], cuts := [(10, [1, 2, 9, 10, 11], []), (13, [1, 2, 11, 12, 13, 14, 15], [(16, (.one .bool))]), (15, [1, 2, 14, 15], [])], orders := [] }
def warderlaw06_EntryParts.P (p0addr : Int) (p1page : Int) (p2offset : Int) (h : Hp) (R : Value → Hp → Prop) : Prop :=
  CallsH Try.prog 7 [] h fun r1 h1 => ∃ alive2 : Bool, r1 = .bool alive2 ∧ ((!alive2) = true → (R (.bool false) h1)) ∧ ((!alive2) = false → (CallsH Try.prog 15 [.int .u32 p0addr] h1 fun r3 h2 => ∃ First4 : Int, r3 = .int .i64 First4 ∧
  CallsH Try.prog 16 [.int .u32 p0addr] h2 fun r5 h3 => ∃ Second6 : Int, r5 = .int .i64 Second6 ∧ CallsH Try.prog 17 [.int .u32 p0addr] h3 fun r7 h4 => ∃ Offset8 : Int, r7 = .int .i64 Offset8 ∧ CallsH Try.prog 18 [.int .u32 p0addr] h4 fun r9 h5 => ∃ PageOf10 : Int, r9 = .int .i64 PageOf10 ∧
  1048576 ≠ (0 : Int) ∧ ∃ I11 : Hp → Prop, ((0 : Int) ≤ 14 ∧ (0 : Int) ≤ 8 ∧ (((borV .u32 (borV .u32 (shlV .u32 (IntKind.wrap .u32 First4) 14) (shlV .u32 (IntKind.wrap .u32 Second6) 8)) (IntKind.wrap .u32 Offset8)) != (Int.tmod p0addr 1048576)) = true →
  (R (.bool false) h5)) ∧ (((borV .u32 (borV .u32 (shlV .u32 (IntKind.wrap .u32 First4) 14) (shlV .u32 (IntKind.wrap .u32 Second6) 8)) (IntKind.wrap .u32 Offset8)) != (Int.tmod p0addr 1048576)) = false →
  (((PageOf10 != (IntKind.wrap .i64 ((IntKind.wrap .i64 (First4 * 64)) + Second6))) = true → (R (.bool false) h5)) ∧ ((PageOf10 != (IntKind.wrap .i64 ((IntKind.wrap .i64 (First4 * 64)) + Second6))) = false →
  (((decide (Offset8 > 255)) = true → (R (.bool false) h5)) ∧ ((decide (Offset8 > 255)) = false → (((decide (Second6 > 63)) = true → (R (.bool false) h5)) ∧ ((decide (Second6 > 63)) = false → (((decide (First4 > 63)) = true →
  (R (.bool false) h5)) ∧ ((decide (First4 > 63)) = false → (CallsH Try.prog 19 [.int .u32 p0addr] h5 fun r12 h6 => ∃ Inside13 : Bool, r12 = .bool Inside13 ∧ ((notIf false (Inside13 == ((Int.tmod p0addr 1048576) == p0addr))) = true →
  (R (.bool false) h6)) ∧ ((notIf false (Inside13 == ((Int.tmod p0addr 1048576) == p0addr))) = false → (I11 h6))))))))))))) ∧ ∀ h7 : Hp, I11 h7 → CallsH Try.prog 20 [.int .i64 PageOf10, .int .i64 Offset8] h7 fun r14 h8 => ∃ Join15 : Int, ∃ Join16 : Bool, r14 = .tuple #[.int .u32 Join15, .bool Join16] ∧
  CallsH Try.prog 20 [.int .i64 p1page, .int .i64 p2offset] h8 fun r17 h9 => ∃ Join18 : Int, ∃ Join19 : Bool, r17 = .tuple #[.int .u32 Join18, .bool Join19] ∧ ∃ I20 : Bool → Hp → Prop, (((decide (p1page ≥ 0)) = true →
  (((decide (p1page ≤ 4095)) = true → (((decide (p2offset ≥ 0)) = true → (I20 (decide (p2offset ≤ 255)) h9)) ∧ ((decide (p2offset ≥ 0)) = false → (I20 false h9)))) ∧ ((decide (p1page ≤ 4095)) = false →
  (I20 false h9)))) ∧ ((decide (p1page ≥ 0)) = false → (I20 false h9))) ∧ ∀ there21 : Bool, ∀ h10 : Hp, I20 there21 h10 → ∃ I22 : Hp → Prop, (((!Join16) = true → (R (.bool false) h10)) ∧ ((!Join16) = false →
  (((Join15 != (Int.tmod p0addr 1048576)) = true → (R (.bool false) h10)) ∧ ((Join15 != (Int.tmod p0addr 1048576)) = false → (((notIf false (Join19 == there21)) = true → (R (.bool false) h10)) ∧ ((notIf false (Join19 == there21)) = false →
  (I22 h10))))))) ∧ ∀ h11 : Hp, I22 h11 → ((!Join19) = true → (((Join18 == 0) = true → (R (.bool true) h11)) ∧ ((Join18 == 0) = false → (((Join19) = true → (CallsH Try.prog 18 [.int .u32 Join18] h11 fun r23 h12 => ∃ PageOf24 : Int, r23 = .int .i64 PageOf24 ∧
  ((PageOf24 == p1page) = true → (CallsH Try.prog 17 [.int .u32 Join18] h12 fun r25 h13 => ∃ Offset26 : Int, r25 = .int .i64 Offset26 ∧ ((Offset26 == p2offset) = true → (CallsH Try.prog 19 [.int .u32 Join18] h13 fun r27 h14 => ∃ Inside28 : Bool, r27 = .bool Inside28 ∧
  R (.bool Inside28) h14)) ∧ ((Offset26 == p2offset) = false → (R (.bool false) h13)))) ∧ ((PageOf24 == p1page) = false → (R (.bool false) h12)))) ∧ ((Join19) = false → (R (.bool false) h11)))))) ∧ ((!Join19) = false →
  (((Join19) = true → (CallsH Try.prog 18 [.int .u32 Join18] h11 fun r29 h15 => ∃ PageOf30 : Int, r29 = .int .i64 PageOf30 ∧ ((PageOf30 == p1page) = true → (CallsH Try.prog 17 [.int .u32 Join18] h15 fun r31 h16 => ∃ Offset32 : Int, r31 = .int .i64 Offset32 ∧
  ((Offset32 == p2offset) = true → (CallsH Try.prog 19 [.int .u32 Join18] h16 fun r33 h17 => ∃ Inside34 : Bool, r33 = .bool Inside34 ∧ R (.bool Inside34) h17)) ∧ ((Offset32 == p2offset) = false → (R (.bool false) h16)))) ∧
  ((PageOf30 == p1page) = false → (R (.bool false) h15)))) ∧ ((Join19) = false → (R (.bool false) h11))))))
theorem warderlaw06_EntryParts.eq (p0addr : Int) (p1page : Int) (p2offset : Int) (h : Hp) (R : Value → Hp → Prop) : evBody Try.prog calls warderlaw06_EntryParts.hints Try.f4 [.int .u32 p0addr, .int .i64 p1page, .int .i64 p2offset] h R = warderlaw06_EntryParts.P p0addr p1page p2offset h R := by kernel_rfl
theorem warderlaw06_EntryParts.calls (p0addr : Int) (p1page : Int) (p2offset : Int) (h : Hp) (R : Value → Hp → Prop) (hp : warderlaw06_EntryParts.P p0addr p1page p2offset h R) : CallsH Try.prog 4 [.int .u32 p0addr, .int .i64 p1page, .int .i64 p2offset] h R :=
  calls_of_body calls_ok Try.func4 (args := [.int .u32 p0addr, .int .i64 p1page, .int .i64 p2offset]) (by rw [warderlaw06_EntryParts.eq]; exact hp)
/-! ### warderlaw06_EntryBits: function 5 -/
def warderlaw06_EntryBits.hints : Hints := { loops := [], cuts := [], orders := [(4, [0, 1, 0, 4, 15, 31, 0, 127], [0, 1, 2, 3, 4, 6, 5, 7])] }
def warderlaw06_EntryBits.P (p0w : Int) (p1other : Int) (h : Hp) (R : Value → Hp → Prop) : Prop :=
  CallsH Try.prog 7 [] h fun r1 h1 => ∃ alive2 : Bool, r1 = .bool alive2 ∧ ((!alive2) = true → (R (.bool false) h1)) ∧ ((!alive2) = false → (CallsH Try.prog 11 [.int .u32 p0w] h1 fun r3 h2 => ∃ Decode4 : Bool, ∃ Decode5 : Bool, ∃ Decode6 : Bool, ∃ Decode7 : Bool, ∃ Decode8 : Int, r3 = .agg #[.bool Decode4, .bool Decode5, .bool Decode6, .bool Decode7, .int .i64 Decode8] ∧
  ∀ h3 : Hp, h3 = new h2 (blk 23 [.bool false, .bool false, .bool false, .bool false, .int .i64 0]) → (true = true) ∧ ∃ T9 : TypeId, ∃ l10 : List Value, bk h3 (sz h2) = some (blk T9 l10) ∧ 0 + 5 ≤ l10.length ∧
  ∀ h4 : Hp, h4 = upd h3 (sz h2) T9 (writeAt l10 0 [.bool Decode4, .bool Decode5, .bool Decode6, .bool Decode7, .int .i64 Decode8]) → ∃ x11 : Bool, cellAt h4 (sz h2) (0 + 0) = some (.bool x11) ∧ ∃ x12 : Bool, cellAt h4 (sz h2) (0 + 1) = some (.bool x12) ∧
  ∃ x13 : Bool, cellAt h4 (sz h2) (0 + 2) = some (.bool x13) ∧ ∃ x14 : Bool, cellAt h4 (sz h2) (0 + 3) = some (.bool x14) ∧ ∃ x15 : Int, cellAt h4 (sz h2) (0 + 4) = some (.int .i64 x15) ∧ CallsH Try.prog 11 [.int .u32 (borV .u32 (bandV .u32 p0w 16776975) (bandV .u32 p1other 4278190320))] h4 fun r16 h5 => ∃ Decode17 : Bool, ∃ Decode18 : Bool, ∃ Decode19 : Bool, ∃ Decode20 : Bool, ∃ Decode21 : Int, r16 = .agg #[.bool Decode17, .bool Decode18, .bool Decode19, .bool Decode20, .int .i64 Decode21] ∧
  cellAt h5 (sz h2) (0 + 0) = some (.bool x11) ∧ cellAt h5 (sz h2) (0 + 1) = some (.bool x12) ∧ cellAt h5 (sz h2) (0 + 2) = some (.bool x13) ∧ cellAt h5 (sz h2) (0 + 3) = some (.bool x14) ∧ cellAt h5 (sz h2) (0 + 4) = some (.int .i64 x15) ∧
  ((notIf false (((Decode17 : Bool) == x11) && (((Decode18 : Bool) == x12) && (((Decode19 : Bool) == x13) && (((Decode20 : Bool) == x14) && ((Decode21 == x15) && true)))))) = true → (R (.bool false) h5)) ∧
  ((notIf false (((Decode17 : Bool) == x11) && (((Decode18 : Bool) == x12) && (((Decode19 : Bool) == x13) && (((Decode20 : Bool) == x14) && ((Decode21 == x15) && true)))))) = false → (2 ≠ (0 : Int) ∧ (((Int.tmod p0w 2) == 0) = true →
  (∃ x22 : Bool, cellAt h5 (sz h2) (0 + 0) = some (.bool x22) ∧ ∃ x23 : Bool, cellAt h5 (sz h2) (0 + 1) = some (.bool x23) ∧ ∃ x24 : Bool, cellAt h5 (sz h2) (0 + 2) = some (.bool x24) ∧ ∃ x25 : Bool, cellAt h5 (sz h2) (0 + 3) = some (.bool x25) ∧
  ∃ x26 : Int, cellAt h5 (sz h2) (0 + 4) = some (.int .i64 x26) ∧ R (.bool (notIf true (((x22 : Bool) == false) && (((x23 : Bool) == false) && (((x24 : Bool) == false) && (((x25 : Bool) == false) && ((x26 == 0) && true))))))) h5)) ∧
  (((Int.tmod p0w 2) == 0) = false → (∃ x27 : Bool, cellAt h5 (sz h2) (0 + 0) = some (.bool x27) ∧ ∃ x28 : Bool, cellAt h5 (sz h2) (0 + 1) = some (.bool x28) ∧ ∃ x29 : Bool, cellAt h5 (sz h2) (0 + 2) = some (.bool x29) ∧
  ∃ x30 : Bool, cellAt h5 (sz h2) (0 + 3) = some (.bool x30) ∧ ∃ x31 : Int, cellAt h5 (sz h2) (0 + 4) = some (.int .i64 x31) ∧ CallsH Try.prog 8 [.agg #[.bool x27, .bool x28, .bool x29, .bool x30, .int .i64 x31]] h5 fun r32 h6 => ∃ Encode33 : Int, ∃ Encode34 : Bool, r32 = .tuple #[.int .u32 Encode33, .bool Encode34] ∧
  ((Encode34) = true → (((Encode33 == (bandV .u32 p0w 16776975)) = true → (∃ x35 : Bool, cellAt h6 (sz h2) (0 + 0) = some (.bool x35) ∧ ∃ x36 : Bool, cellAt h6 (sz h2) (0 + 1) = some (.bool x36) ∧ ∃ x37 : Bool, cellAt h6 (sz h2) (0 + 2) = some (.bool x37) ∧
  ∃ x38 : Bool, cellAt h6 (sz h2) (0 + 3) = some (.bool x38) ∧ ∃ x39 : Int, cellAt h6 (sz h2) (0 + 4) = some (.int .i64 x39) ∧ CallsH Try.prog 13 [.agg #[.bool x35, .bool x36, .bool x37, .bool x38, .int .i64 x39], .int .i64 0] h6 fun r40 h7 => ∃ Allows41 : Bool, r40 = .bool Allows41 ∧
  R (.bool Allows41) h7)) ∧ ((Encode33 == (bandV .u32 p0w 16776975)) = false → (R (.bool false) h6)))) ∧ ((Encode34) = false → (R (.bool false) h6))))))))
theorem warderlaw06_EntryBits.eq (p0w : Int) (p1other : Int) (h : Hp) (R : Value → Hp → Prop) : evBody Try.prog calls warderlaw06_EntryBits.hints Try.f5 [.int .u32 p0w, .int .u32 p1other] h R = warderlaw06_EntryBits.P p0w p1other h R := by kernel_rfl
theorem warderlaw06_EntryBits.calls (p0w : Int) (p1other : Int) (h : Hp) (R : Value → Hp → Prop) (hp : warderlaw06_EntryBits.P p0w p1other h R) : CallsH Try.prog 5 [.int .u32 p0w, .int .u32 p1other] h R :=
  calls_of_body calls_ok Try.func5 (args := [.int .u32 p0w, .int .u32 p1other]) (by rw [warderlaw06_EntryBits.eq]; exact hp)
/-! ### warderlaw06_EntryBoth: function 6 -/
def warderlaw06_EntryBoth.hints : Hints := { loops := [(5, [2, 3, 5], [(6, (.one (.int .i64)))])], cuts := [], orders := [(7, [0, 0, 3, 0, 0, 31, 63, 127, 127, 511, 1023, 2047], [0, 1, 3, 4, 2, 5, 6, 7, 8, 9, 10, 11])] }
def warderlaw06_EntryBoth.P (p0a_0 : Bool) (p0a_1 : Bool) (p0a_2 : Bool) (p0a_3 : Bool) (p0a_4 : Int) (p1b_0 : Bool) (p1b_1 : Bool) (p1b_2 : Bool) (p1b_3 : Bool) (p1b_4 : Int) (h : Hp) (R : Value → Hp → Prop) : Prop :=
  ∀ h1 : Hp, h1 = new h (blk 23 [.bool p0a_0, .bool p0a_1, .bool p0a_2, .bool p0a_3, .int .i64 p0a_4]) → ∀ h2 : Hp, h2 = new h1 (blk 23 [.bool p1b_0, .bool p1b_1, .bool p1b_2, .bool p1b_3, .int .i64 p1b_4]) →
  CallsH Try.prog 7 [] h2 fun r1 h3 => ∃ alive2 : Bool, r1 = .bool alive2 ∧ ((!alive2) = true → (R (.bool false) h3)) ∧ ((!alive2) = false → (∃ x3 : Bool, cellAt h3 (sz h) (0 + 0) = some (.bool x3) ∧ ∃ x4 : Bool, cellAt h3 (sz h) (0 + 1) = some (.bool x4) ∧
  ∃ x5 : Bool, cellAt h3 (sz h) (0 + 2) = some (.bool x5) ∧ ∃ x6 : Bool, cellAt h3 (sz h) (0 + 3) = some (.bool x6) ∧ ∃ x7 : Int, cellAt h3 (sz h) (0 + 4) = some (.int .i64 x7) ∧ ∃ x8 : Bool, cellAt h3 (sz h1) (0 + 0) = some (.bool x8) ∧
  ∃ x9 : Bool, cellAt h3 (sz h1) (0 + 1) = some (.bool x9) ∧ ∃ x10 : Bool, cellAt h3 (sz h1) (0 + 2) = some (.bool x10) ∧ ∃ x11 : Bool, cellAt h3 (sz h1) (0 + 3) = some (.bool x11) ∧ ∃ x12 : Int, cellAt h3 (sz h1) (0 + 4) = some (.int .i64 x12) ∧
  CallsH Try.prog 21 [.agg #[.bool x3, .bool x4, .bool x5, .bool x6, .int .i64 x7], .agg #[.bool x8, .bool x9, .bool x10, .bool x11, .int .i64 x12]] h3 fun r13 h4 => ∃ Both14 : Bool, ∃ Both15 : Bool, ∃ Both16 : Bool, ∃ Both17 : Bool, ∃ Both18 : Int, r13 = .agg #[.bool Both14, .bool Both15, .bool Both16, .bool Both17, .int .i64 Both18] ∧
  ∀ h5 : Hp, h5 = new h4 (blk 23 [.bool false, .bool false, .bool false, .bool false, .int .i64 0]) → (true = true) ∧ ∃ T19 : TypeId, ∃ l20 : List Value, bk h5 (sz h4) = some (blk T19 l20) ∧ 0 + 5 ≤ l20.length ∧
  ∀ h6 : Hp, h6 = upd h5 (sz h4) T19 (writeAt l20 0 [.bool Both14, .bool Both15, .bool Both16, .bool Both17, .int .i64 Both18]) → ∃ I21 : Int → Hp → Prop, ∃ m22 : Int → Hp → Nat, I21 0 h6 ∧ ∀ access23 : Int, ∀ h7 : Hp, I21 access23 h7 →
  ((decide (access23 < 3)) = true → (∃ x24 : Bool, cellAt h7 (sz h4) (0 + 0) = some (.bool x24) ∧ ∃ x25 : Bool, cellAt h7 (sz h4) (0 + 1) = some (.bool x25) ∧ ∃ x26 : Bool, cellAt h7 (sz h4) (0 + 2) = some (.bool x26) ∧
  ∃ x27 : Bool, cellAt h7 (sz h4) (0 + 3) = some (.bool x27) ∧ ∃ x28 : Int, cellAt h7 (sz h4) (0 + 4) = some (.int .i64 x28) ∧ ∃ x29 : Bool, cellAt h7 (sz h) (0 + 0) = some (.bool x29) ∧ ∃ x30 : Bool, cellAt h7 (sz h) (0 + 1) = some (.bool x30) ∧
  ∃ x31 : Bool, cellAt h7 (sz h) (0 + 2) = some (.bool x31) ∧ ∃ x32 : Bool, cellAt h7 (sz h) (0 + 3) = some (.bool x32) ∧ ∃ x33 : Int, cellAt h7 (sz h) (0 + 4) = some (.int .i64 x33) ∧ CallsH Try.prog 13 [.agg #[.bool x24, .bool x25, .bool x26, .bool x27, .int .i64 x28], .int .i64 access23] h7 fun r34 h8 => ∃ Allows35 : Bool, r34 = .bool Allows35 ∧
  cellAt h8 (sz h) (0 + 0) = some (.bool x29) ∧ cellAt h8 (sz h) (0 + 1) = some (.bool x30) ∧ cellAt h8 (sz h) (0 + 2) = some (.bool x31) ∧ cellAt h8 (sz h) (0 + 3) = some (.bool x32) ∧ cellAt h8 (sz h) (0 + 4) = some (.int .i64 x33) ∧
  CallsH Try.prog 13 [.agg #[.bool x29, .bool x30, .bool x31, .bool x32, .int .i64 x33], .int .i64 access23] h8 fun r36 h9 => ∃ Allows37 : Bool, r36 = .bool Allows37 ∧ ((Allows37) = true → (∃ x38 : Bool, cellAt h9 (sz h1) (0 + 0) = some (.bool x38) ∧
  ∃ x39 : Bool, cellAt h9 (sz h1) (0 + 1) = some (.bool x39) ∧ ∃ x40 : Bool, cellAt h9 (sz h1) (0 + 2) = some (.bool x40) ∧ ∃ x41 : Bool, cellAt h9 (sz h1) (0 + 3) = some (.bool x41) ∧ ∃ x42 : Int, cellAt h9 (sz h1) (0 + 4) = some (.int .i64 x42) ∧
  CallsH Try.prog 13 [.agg #[.bool x38, .bool x39, .bool x40, .bool x41, .int .i64 x42], .int .i64 access23] h9 fun r43 h10 => ∃ Allows44 : Bool, r43 = .bool Allows44 ∧ ((notIf false (Allows35 == Allows44)) = true →
  (R (.bool false) h10)) ∧ ((notIf false (Allows35 == Allows44)) = false → (I21 (IntKind.wrap .i64 (access23 + 1)) h10 ∧ m22 (IntKind.wrap .i64 (access23 + 1)) h10 < m22 access23 h7)))) ∧ ((Allows37) = false →
  (((notIf false (!Allows35)) = true → (R (.bool false) h9)) ∧ ((notIf false (!Allows35)) = false → (I21 (IntKind.wrap .i64 (access23 + 1)) h9 ∧ m22 (IntKind.wrap .i64 (access23 + 1)) h9 < m22 access23 h7)))))) ∧
  ((decide (access23 < 3)) = false → (∃ Valid45 : Bool, cellAt h7 (sz h) 0 = some (.bool Valid45) ∧ ((!Valid45) = true → (∃ x46 : Bool, cellAt h7 (sz h4) (0 + 0) = some (.bool x46) ∧ ∃ x47 : Bool, cellAt h7 (sz h4) (0 + 1) = some (.bool x47) ∧
  ∃ x48 : Bool, cellAt h7 (sz h4) (0 + 2) = some (.bool x48) ∧ ∃ x49 : Bool, cellAt h7 (sz h4) (0 + 3) = some (.bool x49) ∧ ∃ x50 : Int, cellAt h7 (sz h4) (0 + 4) = some (.int .i64 x50) ∧ R (.bool (notIf true (((x46 : Bool) == false) && (((x47 : Bool) == false) && (((x48 : Bool) == false) && (((x49 : Bool) == false) && ((x50 == 0) && true))))))) h7)) ∧
  ((!Valid45) = false → (∃ Valid51 : Bool, cellAt h7 (sz h1) 0 = some (.bool Valid51) ∧ ((!Valid51) = true → (∃ x52 : Bool, cellAt h7 (sz h4) (0 + 0) = some (.bool x52) ∧ ∃ x53 : Bool, cellAt h7 (sz h4) (0 + 1) = some (.bool x53) ∧
  ∃ x54 : Bool, cellAt h7 (sz h4) (0 + 2) = some (.bool x54) ∧ ∃ x55 : Bool, cellAt h7 (sz h4) (0 + 3) = some (.bool x55) ∧ ∃ x56 : Int, cellAt h7 (sz h4) (0 + 4) = some (.int .i64 x56) ∧ R (.bool (notIf true (((x52 : Bool) == false) && (((x53 : Bool) == false) && (((x54 : Bool) == false) && (((x55 : Bool) == false) && ((x56 == 0) && true))))))) h7)) ∧
  ((!Valid51) = false → (∃ Frame57 : Int, cellAt h7 (sz h4) 4 = some (.int .i64 Frame57) ∧ ∃ Frame58 : Int, cellAt h7 (sz h1) 4 = some (.int .i64 Frame58) ∧ ((Frame57 == Frame58) = true → (∃ Block59 : Bool, cellAt h7 (sz h4) 3 = some (.bool Block59) ∧
  ((!Block59) = true → (∃ x60 : Bool, cellAt h7 (sz h4) (0 + 0) = some (.bool x60) ∧ ∃ x61 : Bool, cellAt h7 (sz h4) (0 + 1) = some (.bool x61) ∧ ∃ x62 : Bool, cellAt h7 (sz h4) (0 + 2) = some (.bool x62) ∧
  ∃ x63 : Bool, cellAt h7 (sz h4) (0 + 3) = some (.bool x63) ∧ ∃ x64 : Int, cellAt h7 (sz h4) (0 + 4) = some (.int .i64 x64) ∧ CallsH Try.prog 13 [.agg #[.bool x60, .bool x61, .bool x62, .bool x63, .int .i64 x64], .int .i64 3] h7 fun r65 h11 => ∃ Allows66 : Bool, r65 = .bool Allows66 ∧
  ((!Allows66) = true → (∃ x67 : Bool, cellAt h11 (sz h4) (0 + 0) = some (.bool x67) ∧ ∃ x68 : Bool, cellAt h11 (sz h4) (0 + 1) = some (.bool x68) ∧ ∃ x69 : Bool, cellAt h11 (sz h4) (0 + 2) = some (.bool x69) ∧
  ∃ x70 : Bool, cellAt h11 (sz h4) (0 + 3) = some (.bool x70) ∧ ∃ x71 : Int, cellAt h11 (sz h4) (0 + 4) = some (.int .i64 x71) ∧ CallsH Try.prog 13 [.agg #[.bool x67, .bool x68, .bool x69, .bool x70, .int .i64 x71], .int .i64 (-1)] h11 fun r72 h12 => ∃ Allows73 : Bool, r72 = .bool Allows73 ∧
  R (.bool (!Allows73)) h12)) ∧ ((!Allows66) = false → (R (.bool false) h11)))) ∧ ((!Block59) = false → (R (.bool false) h7)))) ∧ ((Frame57 == Frame58) = false → (R (.bool false) h7))))))))))
theorem warderlaw06_EntryBoth.eq (p0a_0 : Bool) (p0a_1 : Bool) (p0a_2 : Bool) (p0a_3 : Bool) (p0a_4 : Int) (p1b_0 : Bool) (p1b_1 : Bool) (p1b_2 : Bool) (p1b_3 : Bool) (p1b_4 : Int) (h : Hp) (R : Value → Hp → Prop) : evBody Try.prog calls warderlaw06_EntryBoth.hints Try.f6 [.agg [.bool p0a_0, .bool p0a_1, .bool p0a_2, .bool p0a_3, .int .i64 p0a_4], .agg [.bool p1b_0, .bool p1b_1, .bool p1b_2, .bool p1b_3, .int .i64 p1b_4]] h R = warderlaw06_EntryBoth.P p0a_0 p0a_1 p0a_2 p0a_3 p0a_4 p1b_0 p1b_1 p1b_2 p1b_3 p1b_4 h R := by kernel_rfl
theorem warderlaw06_EntryBoth.calls (p0a_0 : Bool) (p0a_1 : Bool) (p0a_2 : Bool) (p0a_3 : Bool) (p0a_4 : Int) (p1b_0 : Bool) (p1b_1 : Bool) (p1b_2 : Bool) (p1b_3 : Bool) (p1b_4 : Int) (h : Hp) (R : Value → Hp → Prop) (hp : warderlaw06_EntryBoth.P p0a_0 p0a_1 p0a_2 p0a_3 p0a_4 p1b_0 p1b_1 p1b_2 p1b_3 p1b_4 h R) : CallsH Try.prog 6 [.agg #[.bool p0a_0, .bool p0a_1, .bool p0a_2, .bool p0a_3, .int .i64 p0a_4], .agg #[.bool p1b_0, .bool p1b_1, .bool p1b_2, .bool p1b_3, .int .i64 p1b_4]] h R :=
  calls_of_body calls_ok Try.func6 (args := [.agg [.bool p0a_0, .bool p0a_1, .bool p0a_2, .bool p0a_3, .int .i64 p0a_4], .agg [.bool p1b_0, .bool p1b_1, .bool p1b_2, .bool p1b_3, .int .i64 p1b_4]]) (by rw [warderlaw06_EntryBoth.eq]; exact hp)
/-! ### warderlaw06_alive: function 7 -/
def warderlaw06_alive.hints : Hints := { loops := [], cuts := [], orders := [] }
def warderlaw06_alive.P  (h : Hp) (R : Value → Hp → Prop) : Prop :=
  CallsH Try.prog 11 [.int .u32 1283] h fun r1 h1 => ∃ Decode2 : Bool, ∃ Decode3 : Bool, ∃ Decode4 : Bool, ∃ Decode5 : Bool, ∃ Decode6 : Int, r1 = .agg #[.bool Decode2, .bool Decode3, .bool Decode4, .bool Decode5, .int .i64 Decode6] ∧
  ∀ h2 : Hp, h2 = new h1 (blk 23 [.bool false, .bool false, .bool false, .bool false, .int .i64 0]) → (true = true) ∧ ∃ T7 : TypeId, ∃ l8 : List Value, bk h2 (sz h1) = some (blk T7 l8) ∧ 0 + 5 ≤ l8.length ∧
  ∀ h3 : Hp, h3 = upd h2 (sz h1) T7 (writeAt l8 0 [.bool Decode2, .bool Decode3, .bool Decode4, .bool Decode5, .int .i64 Decode6]) → ∃ x9 : Bool, cellAt h3 (sz h1) (0 + 0) = some (.bool x9) ∧ ∃ x10 : Bool, cellAt h3 (sz h1) (0 + 1) = some (.bool x10) ∧
  ∃ x11 : Bool, cellAt h3 (sz h1) (0 + 2) = some (.bool x11) ∧ ∃ x12 : Bool, cellAt h3 (sz h1) (0 + 3) = some (.bool x12) ∧ ∃ x13 : Int, cellAt h3 (sz h1) (0 + 4) = some (.int .i64 x13) ∧ CallsH Try.prog 8 [.agg #[.bool x9, .bool x10, .bool x11, .bool x12, .int .i64 x13]] h3 fun r14 h4 => ∃ Encode15 : Int, ∃ Encode16 : Bool, r14 = .tuple #[.int .u32 Encode15, .bool Encode16] ∧
  CallsH Try.prog 20 [.int .i64 4095, .int .i64 255] h4 fun r17 h5 => ∃ Join18 : Int, ∃ Join19 : Bool, r17 = .tuple #[.int .u32 Join18, .bool Join19] ∧ ((Encode16) = true → (((Join19) = true → (((Encode15 == 1283) = true →
  (∃ x20 : Bool, cellAt h5 (sz h1) (0 + 0) = some (.bool x20) ∧ ∃ x21 : Bool, cellAt h5 (sz h1) (0 + 1) = some (.bool x21) ∧ ∃ x22 : Bool, cellAt h5 (sz h1) (0 + 2) = some (.bool x22) ∧ ∃ x23 : Bool, cellAt h5 (sz h1) (0 + 3) = some (.bool x23) ∧
  ∃ x24 : Int, cellAt h5 (sz h1) (0 + 4) = some (.int .i64 x24) ∧ ((notIf true (((x20 : Bool) == true) && (((x21 : Bool) == true) && (((x22 : Bool) == false) && (((x23 : Bool) == false) && ((x24 == 5) && true)))))) = true →
  (∃ x25 : Bool, cellAt h5 (sz h1) (0 + 0) = some (.bool x25) ∧ ∃ x26 : Bool, cellAt h5 (sz h1) (0 + 1) = some (.bool x26) ∧ ∃ x27 : Bool, cellAt h5 (sz h1) (0 + 2) = some (.bool x27) ∧ ∃ x28 : Bool, cellAt h5 (sz h1) (0 + 3) = some (.bool x28) ∧
  ∃ x29 : Int, cellAt h5 (sz h1) (0 + 4) = some (.int .i64 x29) ∧ CallsH Try.prog 13 [.agg #[.bool x25, .bool x26, .bool x27, .bool x28, .int .i64 x29], .int .i64 1] h5 fun r30 h6 => ∃ Allows31 : Bool, r30 = .bool Allows31 ∧
  ((Allows31) = true → (∃ x32 : Bool, cellAt h6 (sz h1) (0 + 0) = some (.bool x32) ∧ ∃ x33 : Bool, cellAt h6 (sz h1) (0 + 1) = some (.bool x33) ∧ ∃ x34 : Bool, cellAt h6 (sz h1) (0 + 2) = some (.bool x34) ∧
  ∃ x35 : Bool, cellAt h6 (sz h1) (0 + 3) = some (.bool x35) ∧ ∃ x36 : Int, cellAt h6 (sz h1) (0 + 4) = some (.int .i64 x36) ∧ CallsH Try.prog 13 [.agg #[.bool x32, .bool x33, .bool x34, .bool x35, .int .i64 x36], .int .i64 2] h6 fun r37 h7 => ∃ Allows38 : Bool, r37 = .bool Allows38 ∧
  ((!Allows38) = true → (((Join18 == 1048575) = true → (CallsH Try.prog 15 [.int .u32 284280] h7 fun r39 h8 => ∃ First40 : Int, r39 = .int .i64 First40 ∧ ((First40 == 17) = true → (CallsH Try.prog 16 [.int .u32 284280] h8 fun r41 h9 => ∃ Second42 : Int, r41 = .int .i64 Second42 ∧
  ((Second42 == 22) = true → (CallsH Try.prog 17 [.int .u32 284280] h9 fun r43 h10 => ∃ Offset44 : Int, r43 = .int .i64 Offset44 ∧ ((Offset44 == 120) = true → (CallsH Try.prog 18 [.int .u32 284280] h10 fun r45 h11 => ∃ PageOf46 : Int, r45 = .int .i64 PageOf46 ∧
  ((PageOf46 == 1110) = true → (CallsH Try.prog 19 [.int .u32 Join18] h11 fun r47 h12 => ∃ Inside48 : Bool, r47 = .bool Inside48 ∧ ((Inside48) = true → (CallsH Try.prog 19 [.int .u32 1048576] h12 fun r49 h13 => ∃ Inside50 : Bool, r49 = .bool Inside50 ∧
  R (.bool (!Inside50)) h13)) ∧ ((Inside48) = false → (R (.bool false) h12)))) ∧ ((PageOf46 == 1110) = false → (R (.bool false) h11)))) ∧ ((Offset44 == 120) = false → (R (.bool false) h10)))) ∧ ((Second42 == 22) = false →
  (R (.bool false) h9)))) ∧ ((First40 == 17) = false → (R (.bool false) h8)))) ∧ ((Join18 == 1048575) = false → (R (.bool false) h7)))) ∧ ((!Allows38) = false → (R (.bool false) h7)))) ∧ ((Allows31) = false →
  (R (.bool false) h6)))) ∧ ((notIf true (((x20 : Bool) == true) && (((x21 : Bool) == true) && (((x22 : Bool) == false) && (((x23 : Bool) == false) && ((x24 == 5) && true)))))) = false → (R (.bool false) h5)))) ∧
  ((Encode15 == 1283) = false → (R (.bool false) h5)))) ∧ ((Join19) = false → (R (.bool false) h5)))) ∧ ((Encode16) = false → (R (.bool false) h5))
theorem warderlaw06_alive.eq  (h : Hp) (R : Value → Hp → Prop) : evBody Try.prog calls warderlaw06_alive.hints Try.f7 [] h R = warderlaw06_alive.P  h R := by kernel_rfl
theorem warderlaw06_alive.calls  (h : Hp) (R : Value → Hp → Prop) (hp : warderlaw06_alive.P  h R) : CallsH Try.prog 7 [] h R :=
  calls_of_body calls_ok Try.func7 (args := []) (by rw [warderlaw06_alive.eq]; exact hp)
/-! ### entry_Encode: function 8 -/
def entry_Encode.hints : Hints := { loops := [(5, [37], [(4, (.one (.int .u32))), (38, (.one (.int .i64)))])], cuts := [], orders := [] }
def entry_Encode.P (p0e_0 : Bool) (p0e_1 : Bool) (p0e_2 : Bool) (p0e_3 : Bool) (p0e_4 : Int) (h : Hp) (R : Value → Hp → Prop) : Prop :=
  ∀ h1 : Hp, h1 = new h (blk 23 [.bool p0e_0, .bool p0e_1, .bool p0e_2, .bool p0e_3, .int .i64 p0e_4]) → ∃ Frame1 : Int, cellAt h1 (sz h) 4 = some (.int .i64 Frame1) ∧ ((decide (Frame1 < 0)) = true → (R (.tuple #[.int .u32 0, .bool false]) h1)) ∧
  ((decide (Frame1 < 0)) = false → (∃ Frame2 : Int, cellAt h1 (sz h) 4 = some (.int .i64 Frame2) ∧ ((decide (Frame2 ≥ 65536)) = true → (R (.tuple #[.int .u32 0, .bool false]) h1)) ∧ ((decide (Frame2 ≥ 65536)) = false →
  (∃ Valid3 : Bool, cellAt h1 (sz h) 0 = some (.bool Valid3) ∧ ((!Valid3) = true → (∃ x4 : Bool, cellAt h1 (sz h) (0 + 0) = some (.bool x4) ∧ ∃ x5 : Bool, cellAt h1 (sz h) (0 + 1) = some (.bool x5) ∧ ∃ x6 : Bool, cellAt h1 (sz h) (0 + 2) = some (.bool x6) ∧
  ∃ x7 : Bool, cellAt h1 (sz h) (0 + 3) = some (.bool x7) ∧ ∃ x8 : Int, cellAt h1 (sz h) (0 + 4) = some (.int .i64 x8) ∧ ((notIf false (((x4 : Bool) == false) && (((x5 : Bool) == false) && (((x6 : Bool) == false) && (((x7 : Bool) == false) && ((x8 == 0) && true)))))) = true →
  (R (.tuple #[.int .u32 0, .bool false]) h1)) ∧ ((notIf false (((x4 : Bool) == false) && (((x5 : Bool) == false) && (((x6 : Bool) == false) && (((x7 : Bool) == false) && ((x8 == 0) && true)))))) = false →
  (∃ Frame9 : Int, cellAt h1 (sz h) 4 = some (.int .i64 Frame9) ∧ CallsH Try.prog 22 [.int .u32 0, .int .i64 8, .int .i64 16, .int .u32 (IntKind.wrap .u32 Frame9)] h1 fun r10 h2 => ∃ Put11 : Int, r10 = .int .u32 Put11 ∧
  ∃ Valid12 : Bool, cellAt h2 (sz h) 0 = some (.bool Valid12) ∧ ∃ Write13 : Bool, cellAt h2 (sz h) 1 = some (.bool Write13) ∧ ∃ Exec14 : Bool, cellAt h2 (sz h) 2 = some (.bool Exec14) ∧ ∃ Block15 : Bool, cellAt h2 (sz h) 3 = some (.bool Block15) ∧
  ∃ I16 : Int → Int → Hp → Prop, ∃ m17 : Int → Int → Hp → Nat, I16 Put11 0 h2 ∧ ∀ w18 : Int, ∀ x19 : Int, ∀ h3 : Hp, I16 w18 x19 h3 → ((decide (x19 < 4)) = true → ((0 : Int) ≤ x19 ∧ x19 < ((4 : Nat) : Int) ∧
  ∃ x20 : Bool, ([.bool Valid12, .bool Write13, .bool Exec14, .bool Block15] : List Value)[x19.toNat * 1]? = some (.bool x20) ∧ ((x20) = true → ((0 : Int) ≤ x19 ∧ I16 (borV .u32 w18 (shlV .u32 1 x19)) (IntKind.wrap .i64 (x19 + 1)) h3 ∧
  m17 (borV .u32 w18 (shlV .u32 1 x19)) (IntKind.wrap .i64 (x19 + 1)) h3 < m17 w18 x19 h3)) ∧ ((x20) = false → (I16 w18 (IntKind.wrap .i64 (x19 + 1)) h3 ∧ m17 w18 (IntKind.wrap .i64 (x19 + 1)) h3 < m17 w18 x19 h3)))) ∧
  ((decide (x19 < 4)) = false → (R (.tuple #[.int .u32 w18, .bool true]) h3)))))) ∧ ((!Valid3) = false → (∃ Frame21 : Int, cellAt h1 (sz h) 4 = some (.int .i64 Frame21) ∧ CallsH Try.prog 22 [.int .u32 0, .int .i64 8, .int .i64 16, .int .u32 (IntKind.wrap .u32 Frame21)] h1 fun r22 h4 => ∃ Put23 : Int, r22 = .int .u32 Put23 ∧
  ∃ Valid24 : Bool, cellAt h4 (sz h) 0 = some (.bool Valid24) ∧ ∃ Write25 : Bool, cellAt h4 (sz h) 1 = some (.bool Write25) ∧ ∃ Exec26 : Bool, cellAt h4 (sz h) 2 = some (.bool Exec26) ∧ ∃ Block27 : Bool, cellAt h4 (sz h) 3 = some (.bool Block27) ∧
  ∃ I28 : Int → Int → Hp → Prop, ∃ m29 : Int → Int → Hp → Nat, I28 Put23 0 h4 ∧ ∀ w30 : Int, ∀ x31 : Int, ∀ h5 : Hp, I28 w30 x31 h5 → ((decide (x31 < 4)) = true → ((0 : Int) ≤ x31 ∧ x31 < ((4 : Nat) : Int) ∧
  ∃ x32 : Bool, ([.bool Valid24, .bool Write25, .bool Exec26, .bool Block27] : List Value)[x31.toNat * 1]? = some (.bool x32) ∧ ((x32) = true → ((0 : Int) ≤ x31 ∧ I28 (borV .u32 w30 (shlV .u32 1 x31)) (IntKind.wrap .i64 (x31 + 1)) h5 ∧
  m29 (borV .u32 w30 (shlV .u32 1 x31)) (IntKind.wrap .i64 (x31 + 1)) h5 < m29 w30 x31 h5)) ∧ ((x32) = false → (I28 w30 (IntKind.wrap .i64 (x31 + 1)) h5 ∧ m29 w30 (IntKind.wrap .i64 (x31 + 1)) h5 < m29 w30 x31 h5)))) ∧
  ((decide (x31 < 4)) = false → (R (.tuple #[.int .u32 w30, .bool true]) h5))))))))
theorem entry_Encode.eq (p0e_0 : Bool) (p0e_1 : Bool) (p0e_2 : Bool) (p0e_3 : Bool) (p0e_4 : Int) (h : Hp) (R : Value → Hp → Prop) : evBody Try.prog calls entry_Encode.hints Try.f8 [.agg [.bool p0e_0, .bool p0e_1, .bool p0e_2, .bool p0e_3, .int .i64 p0e_4]] h R = entry_Encode.P p0e_0 p0e_1 p0e_2 p0e_3 p0e_4 h R := by kernel_rfl
theorem entry_Encode.calls (p0e_0 : Bool) (p0e_1 : Bool) (p0e_2 : Bool) (p0e_3 : Bool) (p0e_4 : Int) (h : Hp) (R : Value → Hp → Prop) (hp : entry_Encode.P p0e_0 p0e_1 p0e_2 p0e_3 p0e_4 h R) : CallsH Try.prog 8 [.agg #[.bool p0e_0, .bool p0e_1, .bool p0e_2, .bool p0e_3, .int .i64 p0e_4]] h R :=
  calls_of_body calls_ok Try.func8 (args := [.agg [.bool p0e_0, .bool p0e_1, .bool p0e_2, .bool p0e_3, .int .i64 p0e_4]]) (by rw [entry_Encode.eq]; exact hp)
/-! ### warderref06_Encode: function 9 -/
def warderref06_Encode.hints : Hints := { loops := [], cuts := [], orders := [(3, [0, 1, 3, 0, 8, 31, 63, 0, 128, 447, 1023, 0, 2048, 7103, 16383, 0, 32768, 98304, 229376, 524287, 1048575, 2097151], [0, 1, 3, 4, 7, 8, 11, 12, 15, 16, 17, 18, 2, 5, 6, 9, 10, 13, 14, 19, 20, 21])] }
def warderref06_Encode.P (p0e_0 : Bool) (p0e_1 : Bool) (p0e_2 : Bool) (p0e_3 : Bool) (p0e_4 : Int) (h : Hp) (R : Value → Hp → Prop) : Prop :=
  ∀ h1 : Hp, h1 = new h (blk 29 [.bool p0e_0, .bool p0e_1, .bool p0e_2, .bool p0e_3, .int .i64 p0e_4]) → ∃ Frame1 : Int, cellAt h1 (sz h) 4 = some (.int .i64 Frame1) ∧ ((decide (Frame1 < 0)) = true → (R (.tuple #[.int .u32 0, .bool false]) h1)) ∧
  ((decide (Frame1 < 0)) = false → (∃ Frame2 : Int, cellAt h1 (sz h) 4 = some (.int .i64 Frame2) ∧ ((decide (Frame2 > 65535)) = true → (R (.tuple #[.int .u32 0, .bool false]) h1)) ∧ ((decide (Frame2 > 65535)) = false →
  (∃ Valid3 : Bool, cellAt h1 (sz h) 0 = some (.bool Valid3) ∧ ((!Valid3) = true → (∃ x4 : Bool, cellAt h1 (sz h) (0 + 0) = some (.bool x4) ∧ ∃ x5 : Bool, cellAt h1 (sz h) (0 + 1) = some (.bool x5) ∧ ∃ x6 : Bool, cellAt h1 (sz h) (0 + 2) = some (.bool x6) ∧
  ∃ x7 : Bool, cellAt h1 (sz h) (0 + 3) = some (.bool x7) ∧ ∃ x8 : Int, cellAt h1 (sz h) (0 + 4) = some (.int .i64 x8) ∧ ((notIf false (((x4 : Bool) == false) && (((x5 : Bool) == false) && (((x6 : Bool) == false) && (((x7 : Bool) == false) && ((x8 == 0) && true)))))) = true →
  (R (.tuple #[.int .u32 0, .bool false]) h1)) ∧ ((notIf false (((x4 : Bool) == false) && (((x5 : Bool) == false) && (((x6 : Bool) == false) && (((x7 : Bool) == false) && ((x8 == 0) && true)))))) = false →
  (∃ Valid9 : Bool, cellAt h1 (sz h) 0 = some (.bool Valid9) ∧ ∃ Write10 : Bool, cellAt h1 (sz h) 1 = some (.bool Write10) ∧ ∃ Exec11 : Bool, cellAt h1 (sz h) 2 = some (.bool Exec11) ∧ ∃ Block12 : Bool, cellAt h1 (sz h) 3 = some (.bool Block12) ∧
  ∃ Frame13 : Int, cellAt h1 (sz h) 4 = some (.int .i64 Frame13) ∧ CallsH Try.prog 23 [.bool Valid9, .int .u32 1] h1 fun r14 h2 => ∃ one15 : Int, r14 = .int .u32 one15 ∧ cellAt h2 (sz h) 1 = some (.bool Write10) ∧
  cellAt h2 (sz h) 2 = some (.bool Exec11) ∧ cellAt h2 (sz h) 3 = some (.bool Block12) ∧ cellAt h2 (sz h) 4 = some (.int .i64 Frame13) ∧ CallsH Try.prog 23 [.bool Write10, .int .u32 2] h2 fun r16 h3 => ∃ one17 : Int, r16 = .int .u32 one17 ∧
  cellAt h3 (sz h) 2 = some (.bool Exec11) ∧ cellAt h3 (sz h) 3 = some (.bool Block12) ∧ cellAt h3 (sz h) 4 = some (.int .i64 Frame13) ∧ CallsH Try.prog 23 [.bool Exec11, .int .u32 4] h3 fun r18 h4 => ∃ one19 : Int, r18 = .int .u32 one19 ∧
  cellAt h4 (sz h) 3 = some (.bool Block12) ∧ cellAt h4 (sz h) 4 = some (.int .i64 Frame13) ∧ CallsH Try.prog 23 [.bool Block12, .int .u32 8] h4 fun r20 h5 => ∃ one21 : Int, r20 = .int .u32 one21 ∧ cellAt h5 (sz h) 4 = some (.int .i64 Frame13) ∧
  R (.tuple #[.int .u32 (IntKind.wrap .u32 ((IntKind.wrap .u32 ((IntKind.wrap .u32 ((IntKind.wrap .u32 (one15 + one17)) + one19)) + one21)) + (IntKind.wrap .u32 (256 * (IntKind.wrap .u32 Frame13))))), .bool true]) h5)))) ∧
  ((!Valid3) = false → (∃ Valid22 : Bool, cellAt h1 (sz h) 0 = some (.bool Valid22) ∧ ∃ Write23 : Bool, cellAt h1 (sz h) 1 = some (.bool Write23) ∧ ∃ Exec24 : Bool, cellAt h1 (sz h) 2 = some (.bool Exec24) ∧
  ∃ Block25 : Bool, cellAt h1 (sz h) 3 = some (.bool Block25) ∧ ∃ Frame26 : Int, cellAt h1 (sz h) 4 = some (.int .i64 Frame26) ∧ CallsH Try.prog 23 [.bool Valid22, .int .u32 1] h1 fun r27 h6 => ∃ one28 : Int, r27 = .int .u32 one28 ∧
  cellAt h6 (sz h) 1 = some (.bool Write23) ∧ cellAt h6 (sz h) 2 = some (.bool Exec24) ∧ cellAt h6 (sz h) 3 = some (.bool Block25) ∧ cellAt h6 (sz h) 4 = some (.int .i64 Frame26) ∧ CallsH Try.prog 23 [.bool Write23, .int .u32 2] h6 fun r29 h7 => ∃ one30 : Int, r29 = .int .u32 one30 ∧
  cellAt h7 (sz h) 2 = some (.bool Exec24) ∧ cellAt h7 (sz h) 3 = some (.bool Block25) ∧ cellAt h7 (sz h) 4 = some (.int .i64 Frame26) ∧ CallsH Try.prog 23 [.bool Exec24, .int .u32 4] h7 fun r31 h8 => ∃ one32 : Int, r31 = .int .u32 one32 ∧
  cellAt h8 (sz h) 3 = some (.bool Block25) ∧ cellAt h8 (sz h) 4 = some (.int .i64 Frame26) ∧ CallsH Try.prog 23 [.bool Block25, .int .u32 8] h8 fun r33 h9 => ∃ one34 : Int, r33 = .int .u32 one34 ∧ cellAt h9 (sz h) 4 = some (.int .i64 Frame26) ∧
  R (.tuple #[.int .u32 (IntKind.wrap .u32 ((IntKind.wrap .u32 ((IntKind.wrap .u32 ((IntKind.wrap .u32 (one28 + one30)) + one32)) + one34)) + (IntKind.wrap .u32 (256 * (IntKind.wrap .u32 Frame26))))), .bool true]) h9))))))
theorem warderref06_Encode.eq (p0e_0 : Bool) (p0e_1 : Bool) (p0e_2 : Bool) (p0e_3 : Bool) (p0e_4 : Int) (h : Hp) (R : Value → Hp → Prop) : evBody Try.prog calls warderref06_Encode.hints Try.f9 [.agg [.bool p0e_0, .bool p0e_1, .bool p0e_2, .bool p0e_3, .int .i64 p0e_4]] h R = warderref06_Encode.P p0e_0 p0e_1 p0e_2 p0e_3 p0e_4 h R := by kernel_rfl
theorem warderref06_Encode.calls (p0e_0 : Bool) (p0e_1 : Bool) (p0e_2 : Bool) (p0e_3 : Bool) (p0e_4 : Int) (h : Hp) (R : Value → Hp → Prop) (hp : warderref06_Encode.P p0e_0 p0e_1 p0e_2 p0e_3 p0e_4 h R) : CallsH Try.prog 9 [.agg #[.bool p0e_0, .bool p0e_1, .bool p0e_2, .bool p0e_3, .int .i64 p0e_4]] h R :=
  calls_of_body calls_ok Try.func9 (args := [.agg [.bool p0e_0, .bool p0e_1, .bool p0e_2, .bool p0e_3, .int .i64 p0e_4]]) (by rw [warderref06_Encode.eq]; exact hp)
/-! ### warderlaw06_of: function 10 -/
def warderlaw06_of.hints : Hints := { loops := [], cuts := [], orders := [] }
def warderlaw06_of.P (p0e_0 : Bool) (p0e_1 : Bool) (p0e_2 : Bool) (p0e_3 : Bool) (p0e_4 : Int) (h : Hp) (R : Value → Hp → Prop) : Prop :=
  ∀ h1 : Hp, h1 = new h (blk 23 [.bool p0e_0, .bool p0e_1, .bool p0e_2, .bool p0e_3, .int .i64 p0e_4]) → ∀ h2 : Hp, h2 = new h1 (blk 29 [.bool false, .bool false, .bool false, .bool false, .int .i64 0]) →
  ∃ Valid1 : Bool, cellAt h2 (sz h) 0 = some (.bool Valid1) ∧ ∃ Write2 : Bool, cellAt h2 (sz h) 1 = some (.bool Write2) ∧ ∃ Exec3 : Bool, cellAt h2 (sz h) 2 = some (.bool Exec3) ∧ ∃ Block4 : Bool, cellAt h2 (sz h) 3 = some (.bool Block4) ∧
  ∃ Frame5 : Int, cellAt h2 (sz h) 4 = some (.int .i64 Frame5) ∧ (true = true) ∧ ∃ T6 : TypeId, ∃ l7 : List Value, bk h2 (sz h1) = some (blk T6 l7) ∧ 0 + 5 ≤ l7.length ∧ ∀ h3 : Hp, h3 = upd h2 (sz h1) T6 (writeAt l7 0 [.bool Valid1, .bool Write2, .bool Exec3, .bool Block4, .int .i64 Frame5]) →
  ∃ res8 : Bool, cellAt h3 (sz h1) (0 + 0) = some (.bool res8) ∧ ∃ res9 : Bool, cellAt h3 (sz h1) (0 + 1) = some (.bool res9) ∧ ∃ res10 : Bool, cellAt h3 (sz h1) (0 + 2) = some (.bool res10) ∧ ∃ res11 : Bool, cellAt h3 (sz h1) (0 + 3) = some (.bool res11) ∧
  ∃ res12 : Int, cellAt h3 (sz h1) (0 + 4) = some (.int .i64 res12) ∧ R (.agg #[.bool res8, .bool res9, .bool res10, .bool res11, .int .i64 res12]) h3
theorem warderlaw06_of.eq (p0e_0 : Bool) (p0e_1 : Bool) (p0e_2 : Bool) (p0e_3 : Bool) (p0e_4 : Int) (h : Hp) (R : Value → Hp → Prop) : evBody Try.prog calls warderlaw06_of.hints Try.f10 [.agg [.bool p0e_0, .bool p0e_1, .bool p0e_2, .bool p0e_3, .int .i64 p0e_4]] h R = warderlaw06_of.P p0e_0 p0e_1 p0e_2 p0e_3 p0e_4 h R := by kernel_rfl
theorem warderlaw06_of.calls (p0e_0 : Bool) (p0e_1 : Bool) (p0e_2 : Bool) (p0e_3 : Bool) (p0e_4 : Int) (h : Hp) (R : Value → Hp → Prop) (hp : warderlaw06_of.P p0e_0 p0e_1 p0e_2 p0e_3 p0e_4 h R) : CallsH Try.prog 10 [.agg #[.bool p0e_0, .bool p0e_1, .bool p0e_2, .bool p0e_3, .int .i64 p0e_4]] h R :=
  calls_of_body calls_ok Try.func10 (args := [.agg [.bool p0e_0, .bool p0e_1, .bool p0e_2, .bool p0e_3, .int .i64 p0e_4]]) (by rw [warderlaw06_of.eq]; exact hp)
/-! ### entry_Decode: function 11 -/
def entry_Decode.hints : Hints := { loops := [], cuts := [], orders := [(4, [0, 1, 0, 7, 0, 31, 0, 127, 255, 511, 1023], [0, 2, 4, 6, 1, 3, 5, 7, 8, 9, 10])] }
def entry_Decode.P (p0w : Int) (h : Hp) (R : Value → Hp → Prop) : Prop :=
  ∀ h1 : Hp, h1 = new h (blk 24 [.int .u32 p0w]) → ∀ h2 : Hp, h2 = new h1 (blk 23 [.bool false, .bool false, .bool false, .bool false, .int .i64 0]) → CallsH Try.prog 24 [.int .i64 0, .pointer (some ⟨(sz h), 0, none⟩)] h2 fun r1 h3 => ∃ Decode2 : Bool, r1 = .bool Decode2 ∧
  ((!Decode2) = true → ((true = true) ∧ ∃ T3 : TypeId, ∃ l4 : List Value, bk h3 (sz h1) = some (blk T3 l4) ∧ 0 + 5 ≤ l4.length ∧ ∀ h4 : Hp, h4 = upd h3 (sz h1) T3 (writeAt l4 0 [.bool false, .bool false, .bool false, .bool false, .int .i64 0]) →
  ∃ res5 : Bool, cellAt h4 (sz h1) (0 + 0) = some (.bool res5) ∧ ∃ res6 : Bool, cellAt h4 (sz h1) (0 + 1) = some (.bool res6) ∧ ∃ res7 : Bool, cellAt h4 (sz h1) (0 + 2) = some (.bool res7) ∧ ∃ res8 : Bool, cellAt h4 (sz h1) (0 + 3) = some (.bool res8) ∧
  ∃ res9 : Int, cellAt h4 (sz h1) (0 + 4) = some (.int .i64 res9) ∧ R (.agg #[.bool res5, .bool res6, .bool res7, .bool res8, .int .i64 res9]) h4)) ∧ ((!Decode2) = false → (∃ x10 : Int, cellAt h3 (sz h) 0 = some (.int .u32 x10) ∧
  CallsH Try.prog 24 [.int .i64 1, .pointer (some ⟨(sz h), 0, none⟩)] h3 fun r11 h5 => ∃ Decode12 : Bool, r11 = .bool Decode12 ∧ cellAt h5 (sz h) 0 = some (.int .u32 x10) ∧ CallsH Try.prog 24 [.int .i64 2, .pointer (some ⟨(sz h), 0, none⟩)] h5 fun r13 h6 => ∃ Decode14 : Bool, r13 = .bool Decode14 ∧
  cellAt h6 (sz h) 0 = some (.int .u32 x10) ∧ CallsH Try.prog 24 [.int .i64 3, .pointer (some ⟨(sz h), 0, none⟩)] h6 fun r15 h7 => ∃ Decode16 : Bool, r15 = .bool Decode16 ∧ cellAt h7 (sz h) 0 = some (.int .u32 x10) ∧
  CallsH Try.prog 25 [.int .u32 x10, .int .i64 8, .int .i64 16] h7 fun r17 h8 => ∃ Field18 : Int, r17 = .int .u32 Field18 ∧ (true = true) ∧ ∃ T19 : TypeId, ∃ l20 : List Value, bk h8 (sz h1) = some (blk T19 l20) ∧
  0 + 5 ≤ l20.length ∧ ∀ h9 : Hp, h9 = upd h8 (sz h1) T19 (writeAt l20 0 [.bool true, .bool Decode12, .bool Decode14, .bool Decode16, .int .i64 (IntKind.wrap .i64 Field18)]) → ∃ res21 : Bool, cellAt h9 (sz h1) (0 + 0) = some (.bool res21) ∧
  ∃ res22 : Bool, cellAt h9 (sz h1) (0 + 1) = some (.bool res22) ∧ ∃ res23 : Bool, cellAt h9 (sz h1) (0 + 2) = some (.bool res23) ∧ ∃ res24 : Bool, cellAt h9 (sz h1) (0 + 3) = some (.bool res24) ∧ ∃ res25 : Int, cellAt h9 (sz h1) (0 + 4) = some (.int .i64 res25) ∧
  R (.agg #[.bool res21, .bool res22, .bool res23, .bool res24, .int .i64 res25]) h9))
theorem entry_Decode.eq (p0w : Int) (h : Hp) (R : Value → Hp → Prop) : evBody Try.prog calls entry_Decode.hints Try.f11 [.int .u32 p0w] h R = entry_Decode.P p0w h R := by kernel_rfl
theorem entry_Decode.calls (p0w : Int) (h : Hp) (R : Value → Hp → Prop) (hp : entry_Decode.P p0w h R) : CallsH Try.prog 11 [.int .u32 p0w] h R :=
  calls_of_body calls_ok Try.func11 (args := [.int .u32 p0w]) (by rw [entry_Decode.eq]; exact hp)
/-! ### warderref06_Decode: function 12 -/
def warderref06_Decode.hints : Hints := { loops := [], cuts := [], orders := [] }
def warderref06_Decode.P (p0w : Int) (h : Hp) (R : Value → Hp → Prop) : Prop :=
  ∀ h1 : Hp, h1 = new h (blk 29 [.bool false, .bool false, .bool false, .bool false, .int .i64 0]) → 2 ≠ (0 : Int) ∧ (((Int.tmod p0w 2) == 0) = true → ((true = true) ∧ ∃ T1 : TypeId, ∃ l2 : List Value, bk h1 (sz h) = some (blk T1 l2) ∧
  0 + 5 ≤ l2.length ∧ ∀ h2 : Hp, h2 = upd h1 (sz h) T1 (writeAt l2 0 [.bool false, .bool false, .bool false, .bool false, .int .i64 0]) → ∃ res3 : Bool, cellAt h2 (sz h) (0 + 0) = some (.bool res3) ∧ ∃ res4 : Bool, cellAt h2 (sz h) (0 + 1) = some (.bool res4) ∧
  ∃ res5 : Bool, cellAt h2 (sz h) (0 + 2) = some (.bool res5) ∧ ∃ res6 : Bool, cellAt h2 (sz h) (0 + 3) = some (.bool res6) ∧ ∃ res7 : Int, cellAt h2 (sz h) (0 + 4) = some (.int .i64 res7) ∧ R (.agg #[.bool res3, .bool res4, .bool res5, .bool res6, .int .i64 res7]) h2)) ∧
  (((Int.tmod p0w 2) == 0) = false → (2 ≠ (0 : Int) ∧ 2 ≠ (0 : Int) ∧ 4 ≠ (0 : Int) ∧ 2 ≠ (0 : Int) ∧ 8 ≠ (0 : Int) ∧ 2 ≠ (0 : Int) ∧ 256 ≠ (0 : Int) ∧ 65536 ≠ (0 : Int) ∧ (true = true) ∧ ∃ T8 : TypeId, ∃ l9 : List Value, bk h1 (sz h) = some (blk T8 l9) ∧
  0 + 5 ≤ l9.length ∧ ∀ h3 : Hp, h3 = upd h1 (sz h) T8 (writeAt l9 0 [.bool true, .bool ((Int.tmod (IntKind.wrap .u32 (Int.tdiv p0w 2)) 2) == 1), .bool ((Int.tmod (IntKind.wrap .u32 (Int.tdiv p0w 4)) 2) == 1), .bool ((Int.tmod (IntKind.wrap .u32 (Int.tdiv p0w 8)) 2) == 1), .int .i64 (IntKind.wrap .i64 (Int.tmod (IntKind.wrap .u32 (Int.tdiv p0w 256)) 65536))]) →
  ∃ res10 : Bool, cellAt h3 (sz h) (0 + 0) = some (.bool res10) ∧ ∃ res11 : Bool, cellAt h3 (sz h) (0 + 1) = some (.bool res11) ∧ ∃ res12 : Bool, cellAt h3 (sz h) (0 + 2) = some (.bool res12) ∧ ∃ res13 : Bool, cellAt h3 (sz h) (0 + 3) = some (.bool res13) ∧
  ∃ res14 : Int, cellAt h3 (sz h) (0 + 4) = some (.int .i64 res14) ∧ R (.agg #[.bool res10, .bool res11, .bool res12, .bool res13, .int .i64 res14]) h3))
theorem warderref06_Decode.eq (p0w : Int) (h : Hp) (R : Value → Hp → Prop) : evBody Try.prog calls warderref06_Decode.hints Try.f12 [.int .u32 p0w] h R = warderref06_Decode.P p0w h R := by kernel_rfl
theorem warderref06_Decode.calls (p0w : Int) (h : Hp) (R : Value → Hp → Prop) (hp : warderref06_Decode.P p0w h R) : CallsH Try.prog 12 [.int .u32 p0w] h R :=
  calls_of_body calls_ok Try.func12 (args := [.int .u32 p0w]) (by rw [warderref06_Decode.eq]; exact hp)
/-! ### entry_Allows: function 13 -/
def entry_Allows.hints : Hints := { loops := [], cuts := [], orders := [] }
def entry_Allows.P (p0e_0 : Bool) (p0e_1 : Bool) (p0e_2 : Bool) (p0e_3 : Bool) (p0e_4 : Int) (p1access : Int) (h : Hp) (R : Value → Hp → Prop) : Prop :=
  ∀ h1 : Hp, h1 = new h (blk 23 [.bool p0e_0, .bool p0e_1, .bool p0e_2, .bool p0e_3, .int .i64 p0e_4]) → ((p1access == 0) = true → (∃ Valid1 : Bool, cellAt h1 (sz h) 0 = some (.bool Valid1) ∧ R (.bool Valid1) h1)) ∧
  ((p1access == 0) = false → (((p1access == 1) = true → (∃ Valid2 : Bool, cellAt h1 (sz h) 0 = some (.bool Valid2) ∧ ((Valid2) = true → (∃ Write3 : Bool, cellAt h1 (sz h) 1 = some (.bool Write3) ∧ R (.bool Write3) h1)) ∧
  ((Valid2) = false → (R (.bool false) h1)))) ∧ ((p1access == 1) = false → (((p1access == 2) = true → (∃ Valid4 : Bool, cellAt h1 (sz h) 0 = some (.bool Valid4) ∧ ((Valid4) = true → (∃ Exec5 : Bool, cellAt h1 (sz h) 2 = some (.bool Exec5) ∧
  R (.bool Exec5) h1)) ∧ ((Valid4) = false → (R (.bool false) h1)))) ∧ ((p1access == 2) = false → (R (.bool false) h1))))))
theorem entry_Allows.eq (p0e_0 : Bool) (p0e_1 : Bool) (p0e_2 : Bool) (p0e_3 : Bool) (p0e_4 : Int) (p1access : Int) (h : Hp) (R : Value → Hp → Prop) : evBody Try.prog calls entry_Allows.hints Try.f13 [.agg [.bool p0e_0, .bool p0e_1, .bool p0e_2, .bool p0e_3, .int .i64 p0e_4], .int .i64 p1access] h R = entry_Allows.P p0e_0 p0e_1 p0e_2 p0e_3 p0e_4 p1access h R := by kernel_rfl
theorem entry_Allows.calls (p0e_0 : Bool) (p0e_1 : Bool) (p0e_2 : Bool) (p0e_3 : Bool) (p0e_4 : Int) (p1access : Int) (h : Hp) (R : Value → Hp → Prop) (hp : entry_Allows.P p0e_0 p0e_1 p0e_2 p0e_3 p0e_4 p1access h R) : CallsH Try.prog 13 [.agg #[.bool p0e_0, .bool p0e_1, .bool p0e_2, .bool p0e_3, .int .i64 p0e_4], .int .i64 p1access] h R :=
  calls_of_body calls_ok Try.func13 (args := [.agg [.bool p0e_0, .bool p0e_1, .bool p0e_2, .bool p0e_3, .int .i64 p0e_4], .int .i64 p1access]) (by rw [entry_Allows.eq]; exact hp)
/-! ### warderref06_Allows: function 14 -/
def warderref06_Allows.hints : Hints := { loops := [], cuts := [], orders := [] }
def warderref06_Allows.P (p0e_0 : Bool) (p0e_1 : Bool) (p0e_2 : Bool) (p0e_3 : Bool) (p0e_4 : Int) (p1access : Int) (h : Hp) (R : Value → Hp → Prop) : Prop :=
  ∀ h1 : Hp, h1 = new h (blk 29 [.bool p0e_0, .bool p0e_1, .bool p0e_2, .bool p0e_3, .int .i64 p0e_4]) → ∃ Valid1 : Bool, cellAt h1 (sz h) 0 = some (.bool Valid1) ∧ ((Valid1) = true → (((p1access == 0) = true →
  (R (.bool true) h1)) ∧ ((p1access == 0) = false → (((p1access == 1) = true → (∃ Write2 : Bool, cellAt h1 (sz h) 1 = some (.bool Write2) ∧ ((Write2) = true → (R (.bool true) h1)) ∧ ((Write2) = false →
  (((p1access == 2) = true → (∃ Exec3 : Bool, cellAt h1 (sz h) 2 = some (.bool Exec3) ∧ R (.bool Exec3) h1)) ∧ ((p1access == 2) = false → (R (.bool false) h1)))))) ∧ ((p1access == 1) = false → (((p1access == 2) = true →
  (∃ Exec4 : Bool, cellAt h1 (sz h) 2 = some (.bool Exec4) ∧ R (.bool Exec4) h1)) ∧ ((p1access == 2) = false → (R (.bool false) h1)))))))) ∧ ((Valid1) = false → (R (.bool false) h1))
theorem warderref06_Allows.eq (p0e_0 : Bool) (p0e_1 : Bool) (p0e_2 : Bool) (p0e_3 : Bool) (p0e_4 : Int) (p1access : Int) (h : Hp) (R : Value → Hp → Prop) : evBody Try.prog calls warderref06_Allows.hints Try.f14 [.agg [.bool p0e_0, .bool p0e_1, .bool p0e_2, .bool p0e_3, .int .i64 p0e_4], .int .i64 p1access] h R = warderref06_Allows.P p0e_0 p0e_1 p0e_2 p0e_3 p0e_4 p1access h R := by kernel_rfl
theorem warderref06_Allows.calls (p0e_0 : Bool) (p0e_1 : Bool) (p0e_2 : Bool) (p0e_3 : Bool) (p0e_4 : Int) (p1access : Int) (h : Hp) (R : Value → Hp → Prop) (hp : warderref06_Allows.P p0e_0 p0e_1 p0e_2 p0e_3 p0e_4 p1access h R) : CallsH Try.prog 14 [.agg #[.bool p0e_0, .bool p0e_1, .bool p0e_2, .bool p0e_3, .int .i64 p0e_4], .int .i64 p1access] h R :=
  calls_of_body calls_ok Try.func14 (args := [.agg [.bool p0e_0, .bool p0e_1, .bool p0e_2, .bool p0e_3, .int .i64 p0e_4], .int .i64 p1access]) (by rw [warderref06_Allows.eq]; exact hp)
/-! ### entry_First: function 15 -/
def entry_First.hints : Hints := { loops := [], cuts := [], orders := [] }
def entry_First.P (p0addr : Int) (h : Hp) (R : Value → Hp → Prop) : Prop :=
  CallsH Try.prog 25 [.int .u32 p0addr, .int .i64 14, .int .i64 6] h fun r1 h1 => ∃ Field2 : Int, r1 = .int .u32 Field2 ∧ R (.int .i64 (IntKind.wrap .i64 Field2)) h1
theorem entry_First.eq (p0addr : Int) (h : Hp) (R : Value → Hp → Prop) : evBody Try.prog calls entry_First.hints Try.f15 [.int .u32 p0addr] h R = entry_First.P p0addr h R := by kernel_rfl
theorem entry_First.calls (p0addr : Int) (h : Hp) (R : Value → Hp → Prop) (hp : entry_First.P p0addr h R) : CallsH Try.prog 15 [.int .u32 p0addr] h R :=
  calls_of_body calls_ok Try.func15 (args := [.int .u32 p0addr]) (by rw [entry_First.eq]; exact hp)
/-! ### entry_Second: function 16 -/
def entry_Second.hints : Hints := { loops := [], cuts := [], orders := [] }
def entry_Second.P (p0addr : Int) (h : Hp) (R : Value → Hp → Prop) : Prop :=
  CallsH Try.prog 25 [.int .u32 p0addr, .int .i64 8, .int .i64 6] h fun r1 h1 => ∃ Field2 : Int, r1 = .int .u32 Field2 ∧ R (.int .i64 (IntKind.wrap .i64 Field2)) h1
theorem entry_Second.eq (p0addr : Int) (h : Hp) (R : Value → Hp → Prop) : evBody Try.prog calls entry_Second.hints Try.f16 [.int .u32 p0addr] h R = entry_Second.P p0addr h R := by kernel_rfl
theorem entry_Second.calls (p0addr : Int) (h : Hp) (R : Value → Hp → Prop) (hp : entry_Second.P p0addr h R) : CallsH Try.prog 16 [.int .u32 p0addr] h R :=
  calls_of_body calls_ok Try.func16 (args := [.int .u32 p0addr]) (by rw [entry_Second.eq]; exact hp)
/-! ### entry_Offset: function 17 -/
def entry_Offset.hints : Hints := { loops := [], cuts := [], orders := [] }
def entry_Offset.P (p0addr : Int) (h : Hp) (R : Value → Hp → Prop) : Prop :=
  CallsH Try.prog 25 [.int .u32 p0addr, .int .i64 0, .int .i64 8] h fun r1 h1 => ∃ Field2 : Int, r1 = .int .u32 Field2 ∧ R (.int .i64 (IntKind.wrap .i64 Field2)) h1
theorem entry_Offset.eq (p0addr : Int) (h : Hp) (R : Value → Hp → Prop) : evBody Try.prog calls entry_Offset.hints Try.f17 [.int .u32 p0addr] h R = entry_Offset.P p0addr h R := by kernel_rfl
theorem entry_Offset.calls (p0addr : Int) (h : Hp) (R : Value → Hp → Prop) (hp : entry_Offset.P p0addr h R) : CallsH Try.prog 17 [.int .u32 p0addr] h R :=
  calls_of_body calls_ok Try.func17 (args := [.int .u32 p0addr]) (by rw [entry_Offset.eq]; exact hp)
/-! ### entry_PageOf: function 18 -/
def entry_PageOf.hints : Hints := { loops := [], cuts := [], orders := [] }
def entry_PageOf.P (p0addr : Int) (h : Hp) (R : Value → Hp → Prop) : Prop :=
  CallsH Try.prog 25 [.int .u32 p0addr, .int .i64 8, .int .i64 12] h fun r1 h1 => ∃ Field2 : Int, r1 = .int .u32 Field2 ∧ R (.int .i64 (IntKind.wrap .i64 Field2)) h1
theorem entry_PageOf.eq (p0addr : Int) (h : Hp) (R : Value → Hp → Prop) : evBody Try.prog calls entry_PageOf.hints Try.f18 [.int .u32 p0addr] h R = entry_PageOf.P p0addr h R := by kernel_rfl
theorem entry_PageOf.calls (p0addr : Int) (h : Hp) (R : Value → Hp → Prop) (hp : entry_PageOf.P p0addr h R) : CallsH Try.prog 18 [.int .u32 p0addr] h R :=
  calls_of_body calls_ok Try.func18 (args := [.int .u32 p0addr]) (by rw [entry_PageOf.eq]; exact hp)
/-! ### entry_Inside: function 19 -/
def entry_Inside.hints : Hints := { loops := [], cuts := [], orders := [] }
def entry_Inside.P (p0addr : Int) (h : Hp) (R : Value → Hp → Prop) : Prop :=
  R (.bool (decide (p0addr < 1048576))) h
theorem entry_Inside.eq (p0addr : Int) (h : Hp) (R : Value → Hp → Prop) : evBody Try.prog calls entry_Inside.hints Try.f19 [.int .u32 p0addr] h R = entry_Inside.P p0addr h R := by kernel_rfl
theorem entry_Inside.calls (p0addr : Int) (h : Hp) (R : Value → Hp → Prop) (hp : entry_Inside.P p0addr h R) : CallsH Try.prog 19 [.int .u32 p0addr] h R :=
  calls_of_body calls_ok Try.func19 (args := [.int .u32 p0addr]) (by rw [entry_Inside.eq]; exact hp)
/-! ### entry_Join: function 20 -/
def entry_Join.hints : Hints := { loops := [], cuts := [], orders := [] }
def entry_Join.P (p0page : Int) (p1offset : Int) (h : Hp) (R : Value → Hp → Prop) : Prop :=
  ((decide (p0page < 0)) = true → (R (.tuple #[.int .u32 0, .bool false]) h)) ∧ ((decide (p0page < 0)) = false → (((decide (p0page ≥ 4096)) = true → (R (.tuple #[.int .u32 0, .bool false]) h)) ∧ ((decide (p0page ≥ 4096)) = false →
  (((decide (p1offset < 0)) = true → (R (.tuple #[.int .u32 0, .bool false]) h)) ∧ ((decide (p1offset < 0)) = false → (((decide (p1offset ≥ 256)) = true → (R (.tuple #[.int .u32 0, .bool false]) h)) ∧
  ((decide (p1offset ≥ 256)) = false → ((0 : Int) ≤ 8 ∧ R (.tuple #[.int .u32 (IntKind.wrap .u32 (borV .i64 (shlV .i64 p0page 8) p1offset)), .bool true]) h))))))))
theorem entry_Join.eq (p0page : Int) (p1offset : Int) (h : Hp) (R : Value → Hp → Prop) : evBody Try.prog calls entry_Join.hints Try.f20 [.int .i64 p0page, .int .i64 p1offset] h R = entry_Join.P p0page p1offset h R := by kernel_rfl
theorem entry_Join.calls (p0page : Int) (p1offset : Int) (h : Hp) (R : Value → Hp → Prop) (hp : entry_Join.P p0page p1offset h R) : CallsH Try.prog 20 [.int .i64 p0page, .int .i64 p1offset] h R :=
  calls_of_body calls_ok Try.func20 (args := [.int .i64 p0page, .int .i64 p1offset]) (by rw [entry_Join.eq]; exact hp)
/-! ### entry_Both: function 21 -/
def entry_Both.hints : Hints := { loops := [], cuts := [], orders := [] }
def entry_Both.P (p0a_0 : Bool) (p0a_1 : Bool) (p0a_2 : Bool) (p0a_3 : Bool) (p0a_4 : Int) (p1b_0 : Bool) (p1b_1 : Bool) (p1b_2 : Bool) (p1b_3 : Bool) (p1b_4 : Int) (h : Hp) (R : Value → Hp → Prop) : Prop :=
  ∀ h1 : Hp, h1 = new h (blk 23 [.bool p0a_0, .bool p0a_1, .bool p0a_2, .bool p0a_3, .int .i64 p0a_4]) → ∀ h2 : Hp, h2 = new h1 (blk 23 [.bool p1b_0, .bool p1b_1, .bool p1b_2, .bool p1b_3, .int .i64 p1b_4]) →
  ∀ h3 : Hp, h3 = new h2 (blk 23 [.bool false, .bool false, .bool false, .bool false, .int .i64 0]) → ∃ Valid1 : Bool, cellAt h3 (sz h) 0 = some (.bool Valid1) ∧ ((!Valid1) = true → ((true = true) ∧ ∃ T2 : TypeId, ∃ l3 : List Value, bk h3 (sz h2) = some (blk T2 l3) ∧
  0 + 5 ≤ l3.length ∧ ∀ h4 : Hp, h4 = upd h3 (sz h2) T2 (writeAt l3 0 [.bool false, .bool false, .bool false, .bool false, .int .i64 0]) → ∃ res4 : Bool, cellAt h4 (sz h2) (0 + 0) = some (.bool res4) ∧
  ∃ res5 : Bool, cellAt h4 (sz h2) (0 + 1) = some (.bool res5) ∧ ∃ res6 : Bool, cellAt h4 (sz h2) (0 + 2) = some (.bool res6) ∧ ∃ res7 : Bool, cellAt h4 (sz h2) (0 + 3) = some (.bool res7) ∧ ∃ res8 : Int, cellAt h4 (sz h2) (0 + 4) = some (.int .i64 res8) ∧
  R (.agg #[.bool res4, .bool res5, .bool res6, .bool res7, .int .i64 res8]) h4)) ∧ ((!Valid1) = false → (∃ Valid9 : Bool, cellAt h3 (sz h1) 0 = some (.bool Valid9) ∧ ((!Valid9) = true → ((true = true) ∧
  ∃ T10 : TypeId, ∃ l11 : List Value, bk h3 (sz h2) = some (blk T10 l11) ∧ 0 + 5 ≤ l11.length ∧ ∀ h5 : Hp, h5 = upd h3 (sz h2) T10 (writeAt l11 0 [.bool false, .bool false, .bool false, .bool false, .int .i64 0]) →
  ∃ res12 : Bool, cellAt h5 (sz h2) (0 + 0) = some (.bool res12) ∧ ∃ res13 : Bool, cellAt h5 (sz h2) (0 + 1) = some (.bool res13) ∧ ∃ res14 : Bool, cellAt h5 (sz h2) (0 + 2) = some (.bool res14) ∧ ∃ res15 : Bool, cellAt h5 (sz h2) (0 + 3) = some (.bool res15) ∧
  ∃ res16 : Int, cellAt h5 (sz h2) (0 + 4) = some (.int .i64 res16) ∧ R (.agg #[.bool res12, .bool res13, .bool res14, .bool res15, .int .i64 res16]) h5)) ∧ ((!Valid9) = false → (∃ Write17 : Bool, cellAt h3 (sz h) 1 = some (.bool Write17) ∧
  ((Write17) = true → (∃ Write18 : Bool, cellAt h3 (sz h1) 1 = some (.bool Write18) ∧ ∃ Exec19 : Bool, cellAt h3 (sz h) 2 = some (.bool Exec19) ∧ ((Exec19) = true → (∃ Exec20 : Bool, cellAt h3 (sz h1) 2 = some (.bool Exec20) ∧
  ∃ Frame21 : Int, cellAt h3 (sz h1) 4 = some (.int .i64 Frame21) ∧ (true = true) ∧ ∃ T22 : TypeId, ∃ l23 : List Value, bk h3 (sz h2) = some (blk T22 l23) ∧ 0 + 5 ≤ l23.length ∧ ∀ h6 : Hp, h6 = upd h3 (sz h2) T22 (writeAt l23 0 [.bool true, .bool Write18, .bool Exec20, .bool false, .int .i64 Frame21]) →
  ∃ res24 : Bool, cellAt h6 (sz h2) (0 + 0) = some (.bool res24) ∧ ∃ res25 : Bool, cellAt h6 (sz h2) (0 + 1) = some (.bool res25) ∧ ∃ res26 : Bool, cellAt h6 (sz h2) (0 + 2) = some (.bool res26) ∧ ∃ res27 : Bool, cellAt h6 (sz h2) (0 + 3) = some (.bool res27) ∧
  ∃ res28 : Int, cellAt h6 (sz h2) (0 + 4) = some (.int .i64 res28) ∧ R (.agg #[.bool res24, .bool res25, .bool res26, .bool res27, .int .i64 res28]) h6)) ∧ ((Exec19) = false → (∃ Frame29 : Int, cellAt h3 (sz h1) 4 = some (.int .i64 Frame29) ∧
  (true = true) ∧ ∃ T30 : TypeId, ∃ l31 : List Value, bk h3 (sz h2) = some (blk T30 l31) ∧ 0 + 5 ≤ l31.length ∧ ∀ h7 : Hp, h7 = upd h3 (sz h2) T30 (writeAt l31 0 [.bool true, .bool Write18, .bool false, .bool false, .int .i64 Frame29]) →
  ∃ res32 : Bool, cellAt h7 (sz h2) (0 + 0) = some (.bool res32) ∧ ∃ res33 : Bool, cellAt h7 (sz h2) (0 + 1) = some (.bool res33) ∧ ∃ res34 : Bool, cellAt h7 (sz h2) (0 + 2) = some (.bool res34) ∧ ∃ res35 : Bool, cellAt h7 (sz h2) (0 + 3) = some (.bool res35) ∧
  ∃ res36 : Int, cellAt h7 (sz h2) (0 + 4) = some (.int .i64 res36) ∧ R (.agg #[.bool res32, .bool res33, .bool res34, .bool res35, .int .i64 res36]) h7)))) ∧ ((Write17) = false → (∃ Exec37 : Bool, cellAt h3 (sz h) 2 = some (.bool Exec37) ∧
  ((Exec37) = true → (∃ Exec38 : Bool, cellAt h3 (sz h1) 2 = some (.bool Exec38) ∧ ∃ Frame39 : Int, cellAt h3 (sz h1) 4 = some (.int .i64 Frame39) ∧ (true = true) ∧ ∃ T40 : TypeId, ∃ l41 : List Value, bk h3 (sz h2) = some (blk T40 l41) ∧
  0 + 5 ≤ l41.length ∧ ∀ h8 : Hp, h8 = upd h3 (sz h2) T40 (writeAt l41 0 [.bool true, .bool false, .bool Exec38, .bool false, .int .i64 Frame39]) → ∃ res42 : Bool, cellAt h8 (sz h2) (0 + 0) = some (.bool res42) ∧
  ∃ res43 : Bool, cellAt h8 (sz h2) (0 + 1) = some (.bool res43) ∧ ∃ res44 : Bool, cellAt h8 (sz h2) (0 + 2) = some (.bool res44) ∧ ∃ res45 : Bool, cellAt h8 (sz h2) (0 + 3) = some (.bool res45) ∧ ∃ res46 : Int, cellAt h8 (sz h2) (0 + 4) = some (.int .i64 res46) ∧
  R (.agg #[.bool res42, .bool res43, .bool res44, .bool res45, .int .i64 res46]) h8)) ∧ ((Exec37) = false → (∃ Frame47 : Int, cellAt h3 (sz h1) 4 = some (.int .i64 Frame47) ∧ (true = true) ∧ ∃ T48 : TypeId, ∃ l49 : List Value, bk h3 (sz h2) = some (blk T48 l49) ∧
  0 + 5 ≤ l49.length ∧ ∀ h9 : Hp, h9 = upd h3 (sz h2) T48 (writeAt l49 0 [.bool true, .bool false, .bool false, .bool false, .int .i64 Frame47]) → ∃ res50 : Bool, cellAt h9 (sz h2) (0 + 0) = some (.bool res50) ∧
  ∃ res51 : Bool, cellAt h9 (sz h2) (0 + 1) = some (.bool res51) ∧ ∃ res52 : Bool, cellAt h9 (sz h2) (0 + 2) = some (.bool res52) ∧ ∃ res53 : Bool, cellAt h9 (sz h2) (0 + 3) = some (.bool res53) ∧ ∃ res54 : Int, cellAt h9 (sz h2) (0 + 4) = some (.int .i64 res54) ∧
  R (.agg #[.bool res50, .bool res51, .bool res52, .bool res53, .int .i64 res54]) h9))))))))
theorem entry_Both.eq (p0a_0 : Bool) (p0a_1 : Bool) (p0a_2 : Bool) (p0a_3 : Bool) (p0a_4 : Int) (p1b_0 : Bool) (p1b_1 : Bool) (p1b_2 : Bool) (p1b_3 : Bool) (p1b_4 : Int) (h : Hp) (R : Value → Hp → Prop) : evBody Try.prog calls entry_Both.hints Try.f21 [.agg [.bool p0a_0, .bool p0a_1, .bool p0a_2, .bool p0a_3, .int .i64 p0a_4], .agg [.bool p1b_0, .bool p1b_1, .bool p1b_2, .bool p1b_3, .int .i64 p1b_4]] h R = entry_Both.P p0a_0 p0a_1 p0a_2 p0a_3 p0a_4 p1b_0 p1b_1 p1b_2 p1b_3 p1b_4 h R := by kernel_rfl
theorem entry_Both.calls (p0a_0 : Bool) (p0a_1 : Bool) (p0a_2 : Bool) (p0a_3 : Bool) (p0a_4 : Int) (p1b_0 : Bool) (p1b_1 : Bool) (p1b_2 : Bool) (p1b_3 : Bool) (p1b_4 : Int) (h : Hp) (R : Value → Hp → Prop) (hp : entry_Both.P p0a_0 p0a_1 p0a_2 p0a_3 p0a_4 p1b_0 p1b_1 p1b_2 p1b_3 p1b_4 h R) : CallsH Try.prog 21 [.agg #[.bool p0a_0, .bool p0a_1, .bool p0a_2, .bool p0a_3, .int .i64 p0a_4], .agg #[.bool p1b_0, .bool p1b_1, .bool p1b_2, .bool p1b_3, .int .i64 p1b_4]] h R :=
  calls_of_body calls_ok Try.func21 (args := [.agg [.bool p0a_0, .bool p0a_1, .bool p0a_2, .bool p0a_3, .int .i64 p0a_4], .agg [.bool p1b_0, .bool p1b_1, .bool p1b_2, .bool p1b_3, .int .i64 p1b_4]]) (by rw [entry_Both.eq]; exact hp)
/-! ### word_Put: function 22 -/
def word_Put.hints : Hints := { loops := [], cuts := [], orders := [(3, [0, 0, 2, 0, 14, 31, 0, 0, 134, 454, 0, 1990, 4095, 8191], [0, 1, 3, 6, 7, 10, 2, 4, 5, 8, 9, 11, 12, 13])] }
def word_Put.P (p0w : Int) (p1at : Int) (p2n : Int) (p3v : Int) (h : Hp) (R : Value → Hp → Prop) : Prop :=
  CallsH Try.prog 26 [.int .i64 p1at, .int .i64 p2n] h fun r1 h1 => ∃ fits2 : Bool, r1 = .bool fits2 ∧ ((!fits2) = true → (R (.int .u32 p0w) h1)) ∧ ((!fits2) = false → (CallsH Try.prog 27 [.int .i64 p2n] h1 fun r3 h2 => ∃ mask4 : Int, r3 = .int .u32 mask4 ∧
  (0 : Int) ≤ p1at ∧ CallsH Try.prog 27 [.int .i64 p2n] h2 fun r5 h3 => ∃ mask6 : Int, r5 = .int .u32 mask6 ∧ (0 : Int) ≤ p1at ∧ R (.int .u32 (borV .u32 (bnotV .u32 p0w (shlV .u32 mask4 p1at)) (shlV .u32 (bandV .u32 p3v mask6) p1at))) h3))
theorem word_Put.eq (p0w : Int) (p1at : Int) (p2n : Int) (p3v : Int) (h : Hp) (R : Value → Hp → Prop) : evBody Try.prog calls word_Put.hints Try.f22 [.int .u32 p0w, .int .i64 p1at, .int .i64 p2n, .int .u32 p3v] h R = word_Put.P p0w p1at p2n p3v h R := by kernel_rfl
theorem word_Put.calls (p0w : Int) (p1at : Int) (p2n : Int) (p3v : Int) (h : Hp) (R : Value → Hp → Prop) (hp : word_Put.P p0w p1at p2n p3v h R) : CallsH Try.prog 22 [.int .u32 p0w, .int .i64 p1at, .int .i64 p2n, .int .u32 p3v] h R :=
  calls_of_body calls_ok Try.func22 (args := [.int .u32 p0w, .int .i64 p1at, .int .i64 p2n, .int .u32 p3v]) (by rw [word_Put.eq]; exact hp)
/-! ### warderref06_one: function 23 -/
def warderref06_one.hints : Hints := { loops := [], cuts := [], orders := [] }
def warderref06_one.P (p0b : Bool) (p1v : Int) (h : Hp) (R : Value → Hp → Prop) : Prop :=
  ((p0b) = true → (R (.int .u32 p1v) h)) ∧ ((p0b) = false → (R (.int .u32 0) h))
theorem warderref06_one.eq (p0b : Bool) (p1v : Int) (h : Hp) (R : Value → Hp → Prop) : evBody Try.prog calls warderref06_one.hints Try.f23 [.bool p0b, .int .u32 p1v] h R = warderref06_one.P p0b p1v h R := by kernel_rfl
theorem warderref06_one.calls (p0b : Bool) (p1v : Int) (h : Hp) (R : Value → Hp → Prop) (hp : warderref06_one.P p0b p1v h R) : CallsH Try.prog 23 [.bool p0b, .int .u32 p1v] h R :=
  calls_of_body calls_ok Try.func23 (args := [.bool p0b, .int .u32 p1v]) (by rw [warderref06_one.eq]; exact hp)
/-! ### entry_Decode_1: function 24 -/
def entry_Decode_1.hints : Hints := { loops := [], cuts := [], orders := [] }
def entry_Decode_1.P (p0at : Int) (v0cb v0co : Nat) (h : Hp) (R : Value → Hp → Prop) : Prop :=
  ∃ x1 : Int, cellAt h v0cb v0co = some (.int .u32 x1) ∧ CallsH Try.prog 25 [.int .u32 x1, .int .i64 p0at, .int .i64 1] h fun r2 h1 => ∃ Field3 : Int, r2 = .int .u32 Field3 ∧ R (.bool (Field3 == 1)) h1
theorem entry_Decode_1.eq (p0at : Int) (v0cb v0co : Nat) (h : Hp) (R : Value → Hp → Prop) : evBody Try.prog calls entry_Decode_1.hints Try.f24 [.int .i64 p0at, .ptr v0cb v0co] h R = entry_Decode_1.P p0at v0cb v0co h R := by kernel_rfl
theorem entry_Decode_1.calls (p0at : Int) (v0cb v0co : Nat) (h : Hp) (R : Value → Hp → Prop) (hp : entry_Decode_1.P p0at v0cb v0co h R) : CallsH Try.prog 24 [.int .i64 p0at, .pointer (some ⟨v0cb, v0co, none⟩)] h R :=
  calls_of_body calls_ok Try.func24 (args := [.int .i64 p0at, .ptr v0cb v0co]) (by rw [entry_Decode_1.eq]; exact hp)
/-! ### word_Field: function 25 -/
def word_Field.hints : Hints := { loops := [], cuts := [], orders := [(3, [0, 0, 3, 0, 8, 31, 63], [0, 1, 2, 3, 4, 5, 6])] }
def word_Field.P (p0w : Int) (p1at : Int) (p2n : Int) (h : Hp) (R : Value → Hp → Prop) : Prop :=
  CallsH Try.prog 26 [.int .i64 p1at, .int .i64 p2n] h fun r1 h1 => ∃ fits2 : Bool, r1 = .bool fits2 ∧ ((!fits2) = true → (R (.int .u32 0) h1)) ∧ ((!fits2) = false → ((0 : Int) ≤ p1at ∧ CallsH Try.prog 27 [.int .i64 p2n] h1 fun r3 h2 => ∃ mask4 : Int, r3 = .int .u32 mask4 ∧
  R (.int .u32 (bandV .u32 (shrV .u32 p0w p1at) mask4)) h2))
theorem word_Field.eq (p0w : Int) (p1at : Int) (p2n : Int) (h : Hp) (R : Value → Hp → Prop) : evBody Try.prog calls word_Field.hints Try.f25 [.int .u32 p0w, .int .i64 p1at, .int .i64 p2n] h R = word_Field.P p0w p1at p2n h R := by kernel_rfl
theorem word_Field.calls (p0w : Int) (p1at : Int) (p2n : Int) (h : Hp) (R : Value → Hp → Prop) (hp : word_Field.P p0w p1at p2n h R) : CallsH Try.prog 25 [.int .u32 p0w, .int .i64 p1at, .int .i64 p2n] h R :=
  calls_of_body calls_ok Try.func25 (args := [.int .u32 p0w, .int .i64 p1at, .int .i64 p2n]) (by rw [word_Field.eq]; exact hp)
/-! ### word_fits: function 26 -/
def word_fits.hints : Hints := { loops := [], cuts := [], orders := [] }
def word_fits.P (p0at : Int) (p1n : Int) (h : Hp) (R : Value → Hp → Prop) : Prop :=
  ((decide (p1n ≥ 1)) = true → (((decide (p1n ≤ 32)) = true → (((decide (p0at ≥ 0)) = true → (R (.bool (decide (p0at ≤ (IntKind.wrap .i64 (32 - p1n))))) h)) ∧ ((decide (p0at ≥ 0)) = false → (R (.bool false) h)))) ∧
  ((decide (p1n ≤ 32)) = false → (R (.bool false) h)))) ∧ ((decide (p1n ≥ 1)) = false → (R (.bool false) h))
theorem word_fits.eq (p0at : Int) (p1n : Int) (h : Hp) (R : Value → Hp → Prop) : evBody Try.prog calls word_fits.hints Try.f26 [.int .i64 p0at, .int .i64 p1n] h R = word_fits.P p0at p1n h R := by kernel_rfl
theorem word_fits.calls (p0at : Int) (p1n : Int) (h : Hp) (R : Value → Hp → Prop) (hp : word_fits.P p0at p1n h R) : CallsH Try.prog 26 [.int .i64 p0at, .int .i64 p1n] h R :=
  calls_of_body calls_ok Try.func26 (args := [.int .i64 p0at, .int .i64 p1n]) (by rw [word_fits.eq]; exact hp)
/-! ### word_mask: function 27 -/
def word_mask.hints : Hints := { loops := [], cuts := [], orders := [] }
def word_mask.P (p0n : Int) (h : Hp) (R : Value → Hp → Prop) : Prop :=
  (0 : Int) ≤ (IntKind.wrap .i64 (32 - p0n)) ∧ R (.int .u32 (shrV .u32 4294967295 (IntKind.wrap .i64 (32 - p0n)))) h
theorem word_mask.eq (p0n : Int) (h : Hp) (R : Value → Hp → Prop) : evBody Try.prog calls word_mask.hints Try.f27 [.int .i64 p0n] h R = word_mask.P p0n h R := by kernel_rfl
theorem word_mask.calls (p0n : Int) (h : Hp) (R : Value → Hp → Prop) (hp : word_mask.P p0n h R) : CallsH Try.prog 27 [.int .i64 p0n] h R :=
  calls_of_body calls_ok Try.func27 (args := [.int .i64 p0n]) (by rw [word_mask.eq]; exact hp)
end Go.Proofs.Ytfmhcmddcfphkaa
