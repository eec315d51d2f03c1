/-
  Printed by this repo's own wip/tools/pr.py: what each function owes, as a proposition over heaps, read out of its body by the core.
-/
import Derived.Test.YtafnhohibpmlaaaProg
import Derived.Test.YtafnhohibpmlaaaWdFn
import Derived.KernelRfl
namespace Go.Proofs.Ytafnhohibpmlaaa
open Go Go.Wd
set_option linter.unusedVariables false
set_option maxRecDepth 100000
def calls : Nat → Bool := fun f => [8, 9, 10, 11, 12, 13, 14, 15, 16, 17, 18, 19, 20, 21, 22, 23, 24, 25, 26, 27, 28, 29, 30, 31].any (Nat.beq f)
theorem calls_ok : CallsOk Try.prog calls := by
  intro f hf
  simp only [calls, List.any_cons, List.any_nil, Bool.or_eq_true, Bool.or_false] at hf
  rcases hf with hf | hf | hf | hf | hf | hf | hf | hf | hf | hf | hf | hf | hf | hf | hf | hf | hf | hf | hf | hf | hf | hf | hf | hf
  · obtain rfl := Nat.eq_of_beq_eq_true hf; exact Try.call8
  · obtain rfl := Nat.eq_of_beq_eq_true hf; exact Try.call9
  · obtain rfl := Nat.eq_of_beq_eq_true hf; exact Try.call10
  · obtain rfl := Nat.eq_of_beq_eq_true hf; exact Try.call11
  · obtain rfl := Nat.eq_of_beq_eq_true hf; exact Try.call12
  · obtain rfl := Nat.eq_of_beq_eq_true hf; exact Try.call13
  · obtain rfl := Nat.eq_of_beq_eq_true hf; exact Try.call14
  · obtain rfl := Nat.eq_of_beq_eq_true hf; exact Try.call15
  · obtain rfl := Nat.eq_of_beq_eq_true hf; exact Try.call16
  · obtain rfl := Nat.eq_of_beq_eq_true hf; exact Try.call17
  · obtain rfl := Nat.eq_of_beq_eq_true hf; exact Try.call18
  · obtain rfl := Nat.eq_of_beq_eq_true hf; exact Try.call19
  · obtain rfl := Nat.eq_of_beq_eq_true hf; exact Try.call20
  · obtain rfl := Nat.eq_of_beq_eq_true hf; exact Try.call21
  · obtain rfl := Nat.eq_of_beq_eq_true hf; exact Try.call22
  · obtain rfl := Nat.eq_of_beq_eq_true hf; exact Try.call23
  · obtain rfl := Nat.eq_of_beq_eq_true hf; exact Try.call24
  · obtain rfl := Nat.eq_of_beq_eq_true hf; exact Try.call25
  · obtain rfl := Nat.eq_of_beq_eq_true hf; exact Try.call26
  · obtain rfl := Nat.eq_of_beq_eq_true hf; exact Try.call27
  · obtain rfl := Nat.eq_of_beq_eq_true hf; exact Try.call28
  · obtain rfl := Nat.eq_of_beq_eq_true hf; exact Try.call29
  · obtain rfl := Nat.eq_of_beq_eq_true hf; exact Try.call30
  · obtain rfl := Nat.eq_of_beq_eq_true hf; exact Try.call31
/-! ### warderlaw10_FramesCalls: function 3 -/
def warderlaw10_FramesCalls.hints : Hints := { loops := [(12, [0, 1, 2, 3, 9, 11], [(12, (.one (.int .i64)))])], cuts := [(5, [0, 1, 2, 3], []), (8, [0, 1, 2, 3, 9, 10], []), (10, [0, 1, 2, 3, 9], []), (19, [0, 1, 2, 3, 9, 11, 12, 13, 14], [(76, (.one .bool))]), (20, [0, 1, 2, 3, 9, 11, 12, 13], [(14, (.one (.int .i64)))])], orders := [] }
def warderlaw10_FramesCalls.P (p0n : Int) (p1callsa : Option Addr) (p1callsl : Nat) (p1callsc : Nat) (p2owner : Int) (p3frame : Int) (h : Hp) (R : Value → Hp → Prop) : Prop :=
  CallsH Try.prog 8 [] h fun r1 h1 => ∃ alive2 : Bool, r1 = .bool alive2 ∧ ((!alive2) = true → (R (.bool false) h1)) ∧ ((!alive2) = false → (∃ I3 : Hp → Prop, (((decide (((p1callsl : Nat) : Int) > 60)) = true →
  (R (.bool true) h1)) ∧ ((decide (((p1callsl : Nat) : Int) > 60)) = false → (((decide (p0n > 300)) = true → (((decide (p0n ≤ 1024)) = true → (R (.bool true) h1)) ∧ ((decide (p0n ≤ 1024)) = false → (I3 h1)))) ∧
  ((decide (p0n > 300)) = false → (I3 h1))))) ∧ ∀ h2 : Hp, I3 h2 → CallsH Try.prog 9 [.int .i64 p0n] h2 fun r4 h3 => ∃ New5 : Option Addr, ∃ New6 : Int, r4 = .tuple #[.pointer New5, .int .i64 New6] ∧ ∃ I7 : Hp →
  Prop, (((decide (p0n < 1)) = true → (((New6 == 11) = true → (R (.bool (notIf true New5.isNone)) h3)) ∧ ((New6 == 11) = false → (R (.bool false) h3)))) ∧ ((decide (p0n < 1)) = false → (((decide (p0n > 1024)) = true →
  (((New6 == 11) = true → (R (.bool (notIf true New5.isNone)) h3)) ∧ ((New6 == 11) = false → (R (.bool false) h3)))) ∧ ((decide (p0n > 1024)) = false → (I7 h3))))) ∧ ∀ h4 : Hp, I7 h4 → ∃ I8 : Hp → Prop, (((New6 != 0) = true →
  (R (.bool false) h4)) ∧ ((New6 != 0) = false → (((notIf true New5.isNone) = true → (R (.bool false) h4)) ∧ ((notIf true New5.isNone) = false → (I8 h4))))) ∧ ∀ h5 : Hp, I8 h5 → CallsH Try.prog 10 [.int .i64 p0n] h5 fun r9 h6 => ∃ New10 : Option Addr, r9 = .pointer New10 ∧
  ∃ I11 : Int → Hp → Prop, ∃ m12 : Int → Hp → Nat, I11 0 h6 ∧ ∀ i13 : Int, ∀ h7 : Hp, I11 i13 h7 → ((decide (i13 < ((p1callsl : Nat) : Int))) = true → ((0 : Int) ≤ i13 ∧ i13 < ((p1callsl : Nat) : Int) ∧
  ∃ b14 : Nat, ∃ o15 : Nat, p1callsa = some ⟨b14, o15, none⟩ ∧ ∃ x16 : Int, cellAt h7 b14 (o15 + i13.toNat * 4 + 0) = some (.int .i64 x16) ∧ ∃ x17 : Int, cellAt h7 b14 (o15 + i13.toNat * 4 + 1) = some (.int .i64 x17) ∧
  ∃ x18 : Int, cellAt h7 b14 (o15 + i13.toNat * 4 + 2) = some (.int .i64 x18) ∧ ∃ x19 : Int, cellAt h7 b14 (o15 + i13.toNat * 4 + 3) = some (.int .i64 x19) ∧ CallsH Try.prog 11 [.pointer New5, .pointer New10, .agg #[.int .i64 x16, .int .i64 x17, .int .i64 x18, .int .i64 x19]] h7 fun r20 h8 => ∃ dox21 : Bool, r20 = .bool dox21 ∧
  ((!dox21) = true → (R (.bool false) h8)) ∧ ((!dox21) = false → (CallsH Try.prog 12 [.pointer New10, .int .i64 p2owner] h8 fun r22 h9 => ∃ Lista23 : Option Addr, ∃ Listl24 : Nat, ∃ Listc25 : Nat, r22 = .slice Lista23 Listl24 Listc25 ∧
  ∃ I26 : Int → Hp → Prop, (∃ I27 : Bool → Hp → Prop, (((decide (p3frame ≥ 0)) = true → (I27 (decide (p3frame < p0n)) h9)) ∧ ((decide (p3frame ≥ 0)) = false → (I27 false h9))) ∧ ∀ x28 : Bool, ∀ h10 : Hp, I27 x28 h10 →
  ((x28) = true → (∃ b29 : Nat, ∃ o30 : Nat, New10 = some ⟨b29, o30, none⟩ ∧ ∃ Ownersa31 : Option Addr, ∃ Ownersl32 : Nat, ∃ Ownersc33 : Nat, cellAt h10 b29 o30 = some (.slice Ownersa31 Ownersl32 Ownersc33) ∧
  (0 : Int) ≤ p3frame ∧ p3frame < ((Ownersl32 : Nat) : Int) ∧ ∃ b34 : Nat, ∃ o35 : Nat, Ownersa31 = some ⟨b34, o35, none⟩ ∧ ∃ x36 : Int, cellAt h10 b34 (o35 + p3frame.toNat * 1) = some (.int .i64 x36) ∧
  I26 x36 h10)) ∧ ((x28) = false → (I26 (-1) h10))) ∧ ∀ want37 : Int, ∀ h11 : Hp, I26 want37 h11 → CallsH Try.prog 14 [.pointer New5, .int .i64 p2owner] h11 fun r38 h12 => ∃ Lista39 : Option Addr, ∃ Listl40 : Nat, ∃ Listc41 : Nat, r38 = .slice Lista39 Listl40 Listc41 ∧
  CallsH Try.prog 13 [.slice Lista39 Listl40 Listc41, .slice Lista23 Listl24 Listc25] h12 fun r42 h13 => ∃ SameInts43 : Bool, r42 = .bool SameInts43 ∧ ((!SameInts43) = true → (R (.bool false) h13)) ∧ ((!SameInts43) = false →
  (CallsH Try.prog 15 [.pointer New5, .int .i64 p2owner] h13 fun r44 h14 => ∃ Count45 : Int, r44 = .int .i64 Count45 ∧ ((Count45 != ((Listl24 : Nat) : Int)) = true → (R (.bool false) h14)) ∧ ((Count45 != ((Listl24 : Nat) : Int)) = false →
  (CallsH Try.prog 16 [.pointer New5, .int .i64 p3frame] h14 fun r46 h15 => ∃ Owner47 : Int, r46 = .int .i64 Owner47 ∧ ((Owner47 != want37) = true → (R (.bool false) h15)) ∧ ((Owner47 != want37) = false →
  (I11 (IntKind.wrap .i64 (i13 + 1)) h15 ∧ m12 (IntKind.wrap .i64 (i13 + 1)) h15 < m12 i13 h7)))))))))) ∧ ((decide (i13 < ((p1callsl : Nat) : Int))) = false → (R (.bool true) h7))))
theorem warderlaw10_FramesCalls.eq (p0n : Int) (p1callsa : Option Addr) (p1callsl : Nat) (p1callsc : Nat) (p2owner : Int) (p3frame : Int) (h : Hp) (R : Value → Hp → Prop) : evBody Try.prog calls warderlaw10_FramesCalls.hints Try.f3 [.int .i64 p0n, .slice p1callsa p1callsl p1callsc, .int .i64 p2owner, .int .i64 p3frame] h R = warderlaw10_FramesCalls.P p0n p1callsa p1callsl p1callsc p2owner p3frame h R := by kernel_rfl
theorem warderlaw10_FramesCalls.calls (p0n : Int) (p1callsa : Option Addr) (p1callsl : Nat) (p1callsc : Nat) (p2owner : Int) (p3frame : Int) (h : Hp) (R : Value → Hp → Prop) (hp : warderlaw10_FramesCalls.P p0n p1callsa p1callsl p1callsc p2owner p3frame h R) : CallsH Try.prog 3 [.int .i64 p0n, .slice p1callsa p1callsl p1callsc, .int .i64 p2owner, .int .i64 p3frame] h R :=
  calls_of_body calls_ok Try.func3 (args := [.int .i64 p0n, .slice p1callsa p1callsl p1callsc, .int .i64 p2owner, .int .i64 p3frame]) (by rw [warderlaw10_FramesCalls.eq]; exact hp)
/-! ### warderlaw10_FramesParts: function 4 -/
def warderlaw10_FramesParts.hints : Hints := { loops := [(9, [0, 1, 5], [(7, (.one (.int .i64)))]), (28, [0, 1, 5, 7], [(12, (.one (.int .i64))), (13, (.one (.int .i64)))])], cuts := [(5, [0, 1], []), (8, [0, 1, 5], []), (23, [0, 1, 5, 7, 9], [(10, (.one (.int .i64)))]), (26, [0, 1, 5, 7], [])], orders := [] }
def warderlaw10_FramesParts.P (p0n : Int) (p1callsa : Option Addr) (p1callsl : Nat) (p1callsc : Nat) (h : Hp) (R : Value → Hp → Prop) : Prop :=
  CallsH Try.prog 8 [] h fun r1 h1 => ∃ alive2 : Bool, r1 = .bool alive2 ∧ ((!alive2) = true → (R (.bool false) h1)) ∧ ((!alive2) = false → (∃ I3 : Hp → Prop, (((decide (((p1callsl : Nat) : Int) > 60)) = true →
  (R (.bool true) h1)) ∧ ((decide (((p1callsl : Nat) : Int) > 60)) = false → (((decide (p0n < 1)) = true → (R (.bool true) h1)) ∧ ((decide (p0n < 1)) = false → (((decide (p0n > 300)) = true → (R (.bool true) h1)) ∧
  ((decide (p0n > 300)) = false → (I3 h1))))))) ∧ ∀ h2 : Hp, I3 h2 → CallsH Try.prog 9 [.int .i64 p0n] h2 fun r4 h3 => ∃ New5 : Option Addr, ∃ New6 : Int, r4 = .tuple #[.pointer New5, .int .i64 New6] ∧
  ∃ I7 : Hp → Prop, (((New6 != 0) = true → (R (.bool false) h3)) ∧ ((New6 != 0) = false → (((notIf true New5.isNone) = true → (R (.bool false) h3)) ∧ ((notIf true New5.isNone) = false → (I7 h3))))) ∧ ∀ h4 : Hp, I7 h4 →
  ∃ I8 : Int → Hp → Prop, ∃ m9 : Int → Hp → Nat, I8 0 h4 ∧ ∀ i10 : Int, ∀ h5 : Hp, I8 i10 h5 → ((decide (i10 < ((p1callsl : Nat) : Int))) = true → ((0 : Int) ≤ i10 ∧ i10 < ((p1callsl : Nat) : Int) ∧ ∃ b11 : Nat, ∃ o12 : Nat, p1callsa = some ⟨b11, o12, none⟩ ∧
  ∃ x13 : Int, cellAt h5 b11 (o12 + i10.toNat * 4 + 0) = some (.int .i64 x13) ∧ ∃ x14 : Int, cellAt h5 b11 (o12 + i10.toNat * 4 + 1) = some (.int .i64 x14) ∧ ∃ x15 : Int, cellAt h5 b11 (o12 + i10.toNat * 4 + 2) = some (.int .i64 x15) ∧
  ∃ x16 : Int, cellAt h5 b11 (o12 + i10.toNat * 4 + 3) = some (.int .i64 x16) ∧ ∀ h6 : Hp, h6 = new h5 (blk 32 [.int .i64 0, .int .i64 0, .int .i64 0, .int .i64 0]) → truly true ∧ ∃ T17 : TypeId, ∃ l18 : List Value, bk h6 (sz h5) = some (blk T17 l18) ∧
  0 + 4 ≤ l18.length ∧ ∀ h7 : Hp, h7 = upd h6 (sz h5) T17 (writeAt l18 0 [.int .i64 x13, .int .i64 x14, .int .i64 x15, .int .i64 x16]) → CallsH Try.prog 17 [.pointer New5, .int .i64 p0n] h7 fun r19 h8 => ∃ ownersa20 : Option Addr, ∃ ownersl21 : Nat, ∃ ownersc22 : Nat, r19 = .slice ownersa20 ownersl21 ownersc22 ∧
  ∃ I23 : Int → Hp → Prop, (∃ What24 : Int, cellAt h8 (sz h5) 0 = some (.int .i64 What24) ∧ ((What24 == 0) = true → (∃ Owner25 : Int, cellAt h8 (sz h5) 1 = some (.int .i64 Owner25) ∧ CallsH Try.prog 18 [.pointer New5, .int .i64 Owner25] h8 fun r26 h9 => ∃ Take27 : Int, ∃ Take28 : Int, r26 = .tuple #[.int .i64 Take27, .int .i64 Take28] ∧
  I23 Take28 h9)) ∧ ((What24 == 0) = false → (((What24 == 1) = true → (∃ Owner29 : Int, cellAt h8 (sz h5) 1 = some (.int .i64 Owner29) ∧ CallsH Try.prog 19 [.pointer New5, .int .i64 Owner29] h8 fun r30 h10 => ∃ TakeRun31 : Int, ∃ TakeRun32 : Int, r30 = .tuple #[.int .i64 TakeRun31, .int .i64 TakeRun32] ∧
  I23 TakeRun32 h10)) ∧ ((What24 == 1) = false → (((What24 == 2) = true → (∃ Owner33 : Int, cellAt h8 (sz h5) 1 = some (.int .i64 Owner33) ∧ ∃ Frame34 : Int, cellAt h8 (sz h5) 3 = some (.int .i64 Frame34) ∧
  CallsH Try.prog 20 [.pointer New5, .int .i64 Owner33, .int .i64 Frame34] h8 fun r35 h11 => ∃ Give36 : Int, r35 = .int .i64 Give36 ∧ I23 Give36 h11)) ∧ ((What24 == 2) = false → (((What24 == 4) = true →
  (∃ Frame37 : Int, cellAt h8 (sz h5) 3 = some (.int .i64 Frame37) ∧ ∃ Owner38 : Int, cellAt h8 (sz h5) 1 = some (.int .i64 Owner38) ∧ ∃ To39 : Int, cellAt h8 (sz h5) 2 = some (.int .i64 To39) ∧ CallsH Try.prog 21 [.pointer New5, .int .i64 Frame37, .int .i64 Owner38, .int .i64 To39] h8 fun r40 h12 => ∃ Move41 : Int, r40 = .int .i64 Move41 ∧
  I23 Move41 h12)) ∧ ((What24 == 4) = false → (I23 0 h8))))))))) ∧ ∀ f42 : Int, ∀ h13 : Hp, I23 f42 h13 → CallsH Try.prog 17 [.pointer New5, .int .i64 p0n] h13 fun r43 h14 => ∃ ownersa44 : Option Addr, ∃ ownersl45 : Nat, ∃ ownersc46 : Nat, r43 = .slice ownersa44 ownersl45 ownersc46 ∧
  ∃ I47 : Hp → Prop, (((f42 != 0) = true → (CallsH Try.prog 13 [.slice ownersa20 ownersl21 ownersc22, .slice ownersa44 ownersl45 ownersc46] h14 fun r48 h15 => ∃ SameInts49 : Bool, r48 = .bool SameInts49 ∧
  ((!SameInts49) = true → (R (.bool false) h15)) ∧ ((!SameInts49) = false → (I47 h15)))) ∧ ((f42 != 0) = false → (I47 h14))) ∧ ∀ h16 : Hp, I47 h16 → ∃ I50 : Int → Int → Hp → Prop, ∃ m51 : Int → Int → Hp →
  Nat, I50 0 0 h16 ∧ ∀ sum52 : Int, ∀ who53 : Int, ∀ h17 : Hp, I50 sum52 who53 h17 → ((decide (who53 ≤ 9)) = true → (CallsH Try.prog 15 [.pointer New5, .int .i64 who53] h17 fun r54 h18 => ∃ Count55 : Int, r54 = .int .i64 Count55 ∧
  I50 (IntKind.wrap .i64 (sum52 + Count55)) (IntKind.wrap .i64 (who53 + 1)) h18 ∧ m51 (IntKind.wrap .i64 (sum52 + Count55)) (IntKind.wrap .i64 (who53 + 1)) h18 < m51 sum52 who53 h17)) ∧ ((decide (who53 ≤ 9)) = false →
  (((sum52 != p0n) = true → (R (.bool false) h17)) ∧ ((sum52 != p0n) = false → (I8 (IntKind.wrap .i64 (i10 + 1)) h17 ∧ m9 (IntKind.wrap .i64 (i10 + 1)) h17 < m9 i10 h5)))))) ∧ ((decide (i10 < ((p1callsl : Nat) : Int))) = false →
  (R (.bool true) h5))))
theorem warderlaw10_FramesParts.eq (p0n : Int) (p1callsa : Option Addr) (p1callsl : Nat) (p1callsc : Nat) (h : Hp) (R : Value → Hp → Prop) : evBody Try.prog calls warderlaw10_FramesParts.hints Try.f4 [.int .i64 p0n, .slice p1callsa p1callsl p1callsc] h R = warderlaw10_FramesParts.P p0n p1callsa p1callsl p1callsc h R := by kernel_rfl
theorem warderlaw10_FramesParts.calls (p0n : Int) (p1callsa : Option Addr) (p1callsl : Nat) (p1callsc : Nat) (h : Hp) (R : Value → Hp → Prop) (hp : warderlaw10_FramesParts.P p0n p1callsa p1callsl p1callsc h R) : CallsH Try.prog 4 [.int .i64 p0n, .slice p1callsa p1callsl p1callsc] h R :=
  calls_of_body calls_ok Try.func4 (args := [.int .i64 p0n, .slice p1callsa p1callsl p1callsc]) (by rw [warderlaw10_FramesParts.eq]; exact hp)
/-! ### warderlaw10_FramesAll: function 5 -/
def warderlaw10_FramesAll.hints : Hints := { loops := [(9, [0, 1, 5], [(7, (.one (.int .i64)))])], cuts := [(5, [0, 1], []), (8, [0, 1, 5], []), (19, [0, 1, 5, 12, 13], [])], orders := [] }
def warderlaw10_FramesAll.P (p0n : Int) (p1owner : Int) (h : Hp) (R : Value → Hp → Prop) : Prop :=
  CallsH Try.prog 8 [] h fun r1 h1 => ∃ alive2 : Bool, r1 = .bool alive2 ∧ ((!alive2) = true → (R (.bool false) h1)) ∧ ((!alive2) = false → (∃ I3 : Hp → Prop, (((decide (p0n < 1)) = true → (R (.bool true) h1)) ∧
  ((decide (p0n < 1)) = false → (((decide (p0n > 300)) = true → (R (.bool true) h1)) ∧ ((decide (p0n > 300)) = false → (((decide (p1owner < 1)) = true → (R (.bool true) h1)) ∧ ((decide (p1owner < 1)) = false →
  (((decide (p1owner > 9)) = true → (R (.bool true) h1)) ∧ ((decide (p1owner > 9)) = false → (I3 h1))))))))) ∧ ∀ h2 : Hp, I3 h2 → CallsH Try.prog 9 [.int .i64 p0n] h2 fun r4 h3 => ∃ New5 : Option Addr, ∃ New6 : Int, r4 = .tuple #[.pointer New5, .int .i64 New6] ∧
  ∃ I7 : Hp → Prop, (((New6 != 0) = true → (R (.bool false) h3)) ∧ ((New6 != 0) = false → (((notIf true New5.isNone) = true → (R (.bool false) h3)) ∧ ((notIf true New5.isNone) = false → (I7 h3))))) ∧ ∀ h4 : Hp, I7 h4 →
  ∃ I8 : Int → Hp → Prop, ∃ m9 : Int → Hp → Nat, I8 0 h4 ∧ ∀ i10 : Int, ∀ h5 : Hp, I8 i10 h5 → ((decide (i10 < p0n)) = true → (CallsH Try.prog 18 [.pointer New5, .int .i64 p1owner] h5 fun r11 h6 => ∃ Take12 : Int, ∃ Take13 : Int, r11 = .tuple #[.int .i64 Take12, .int .i64 Take13] ∧
  ((Take13 != 0) = true → (R (.bool false) h6)) ∧ ((Take13 != 0) = false → (((Take12 != i10) = true → (R (.bool false) h6)) ∧ ((Take12 != i10) = false → (I8 (IntKind.wrap .i64 (i10 + 1)) h6 ∧ m9 (IntKind.wrap .i64 (i10 + 1)) h6 < m9 i10 h5)))))) ∧
  ((decide (i10 < p0n)) = false → (CallsH Try.prog 18 [.pointer New5, .int .i64 p1owner] h5 fun r14 h7 => ∃ Take15 : Int, ∃ Take16 : Int, r14 = .tuple #[.int .i64 Take15, .int .i64 Take16] ∧ CallsH Try.prog 22 [.pointer New5, .int .i64 p1owner] h7 fun r17 h8 => ∃ GiveAlla18 : Option Addr, ∃ GiveAlll19 : Nat, ∃ GiveAllc20 : Nat, r17 = .slice GiveAlla18 GiveAlll19 GiveAllc20 ∧
  CallsH Try.prog 19 [.pointer New5, .int .i64 p1owner] h8 fun r21 h9 => ∃ TakeRun22 : Int, ∃ TakeRun23 : Int, r21 = .tuple #[.int .i64 TakeRun22, .int .i64 TakeRun23] ∧ ∃ I24 : Hp → Prop, (((Take16 != 15) = true →
  (R (.bool false) h9)) ∧ ((Take16 != 15) = false → (((Take15 != (-1)) = true → (R (.bool false) h9)) ∧ ((Take15 != (-1)) = false → (((((GiveAlll19 : Nat) : Int) != p0n) = true → (R (.bool false) h9)) ∧
  ((((GiveAlll19 : Nat) : Int) != p0n) = false → (I24 h9))))))) ∧ ∀ h10 : Hp, I24 h10 → ((decide (p0n < 64)) = true → (((TakeRun23 == 15) = true → (R (.bool (TakeRun22 == (-1))) h10)) ∧ ((TakeRun23 == 15) = false →
  (R (.bool false) h10)))) ∧ ((decide (p0n < 64)) = false → (((TakeRun23 == 0) = true → (((TakeRun22 == 0) = true → (CallsH Try.prog 15 [.pointer New5, .int .i64 p1owner] h10 fun r25 h11 => ∃ Count26 : Int, r25 = .int .i64 Count26 ∧
  R (.bool (Count26 == 64)) h11)) ∧ ((TakeRun22 == 0) = false → (R (.bool false) h10)))) ∧ ((TakeRun23 == 0) = false → (R (.bool false) h10))))))))
theorem warderlaw10_FramesAll.eq (p0n : Int) (p1owner : Int) (h : Hp) (R : Value → Hp → Prop) : evBody Try.prog calls warderlaw10_FramesAll.hints Try.f5 [.int .i64 p0n, .int .i64 p1owner] h R = warderlaw10_FramesAll.P p0n p1owner h R := by kernel_rfl
theorem warderlaw10_FramesAll.calls (p0n : Int) (p1owner : Int) (h : Hp) (R : Value → Hp → Prop) (hp : warderlaw10_FramesAll.P p0n p1owner h R) : CallsH Try.prog 5 [.int .i64 p0n, .int .i64 p1owner] h R :=
  calls_of_body calls_ok Try.func5 (args := [.int .i64 p0n, .int .i64 p1owner]) (by rw [warderlaw10_FramesAll.eq]; exact hp)
/-! ### warderlaw10_FramesRuns: function 6 -/
def warderlaw10_FramesRuns.hints : Hints := { loops := [(10, [0, 1, 2, 7, 9], [(10, (.one (.int .i64)))]), (16, [0, 2, 7, 11, 12, 13], [(14, (.one (.int .i64)))]), (20, [0, 2, 7, 11, 12, 13, 14], [(15, (.one .bool)), (16, (.one (.int .i64)))]), (27, [2, 7, 14], [(17, (.one (.int .i64)))])], cuts := [(5, [0, 1, 2], []), (8, [0, 1, 2, 7], []), (26, [2, 7, 14], [])], orders := [] }
def warderlaw10_FramesRuns.P (p0n : Int) (p1callsa : Option Addr) (p1callsl : Nat) (p1callsc : Nat) (p2owner : Int) (h : Hp) (R : Value → Hp → Prop) : Prop :=
  CallsH Try.prog 8 [] h fun r1 h1 => ∃ alive2 : Bool, r1 = .bool alive2 ∧ ((!alive2) = true → (R (.bool false) h1)) ∧ ((!alive2) = false → (∃ I3 : Hp → Prop, (((decide (((p1callsl : Nat) : Int) > 60)) = true →
  (R (.bool true) h1)) ∧ ((decide (((p1callsl : Nat) : Int) > 60)) = false → (((decide (p0n < 1)) = true → (R (.bool true) h1)) ∧ ((decide (p0n < 1)) = false → (((decide (p0n > 300)) = true → (R (.bool true) h1)) ∧
  ((decide (p0n > 300)) = false → (((decide (p2owner < 1)) = true → (R (.bool true) h1)) ∧ ((decide (p2owner < 1)) = false → (((decide (p2owner > 9)) = true → (R (.bool true) h1)) ∧ ((decide (p2owner > 9)) = false →
  (I3 h1))))))))))) ∧ ∀ h2 : Hp, I3 h2 → CallsH Try.prog 9 [.int .i64 p0n] h2 fun r4 h3 => ∃ New5 : Option Addr, ∃ New6 : Int, r4 = .tuple #[.pointer New5, .int .i64 New6] ∧ ∃ I7 : Hp → Prop, (((New6 != 0) = true →
  (R (.bool false) h3)) ∧ ((New6 != 0) = false → (((notIf true New5.isNone) = true → (R (.bool false) h3)) ∧ ((notIf true New5.isNone) = false → (I7 h3))))) ∧ ∀ h4 : Hp, I7 h4 → CallsH Try.prog 10 [.int .i64 p0n] h4 fun r8 h5 => ∃ New9 : Option Addr, r8 = .pointer New9 ∧
  ∃ I10 : Int → Hp → Prop, ∃ m11 : Int → Hp → Nat, I10 0 h5 ∧ ∀ i12 : Int, ∀ h6 : Hp, I10 i12 h6 → ((decide (i12 < ((p1callsl : Nat) : Int))) = true → ((0 : Int) ≤ i12 ∧ i12 < ((p1callsl : Nat) : Int) ∧
  ∃ b13 : Nat, ∃ o14 : Nat, p1callsa = some ⟨b13, o14, none⟩ ∧ ∃ x15 : Int, cellAt h6 b13 (o14 + i12.toNat * 4 + 0) = some (.int .i64 x15) ∧ ∃ x16 : Int, cellAt h6 b13 (o14 + i12.toNat * 4 + 1) = some (.int .i64 x16) ∧
  ∃ x17 : Int, cellAt h6 b13 (o14 + i12.toNat * 4 + 2) = some (.int .i64 x17) ∧ ∃ x18 : Int, cellAt h6 b13 (o14 + i12.toNat * 4 + 3) = some (.int .i64 x18) ∧ CallsH Try.prog 11 [.pointer New5, .pointer New9, .agg #[.int .i64 x15, .int .i64 x16, .int .i64 x17, .int .i64 x18]] h6 fun r19 h7 => ∃ dox20 : Bool, r19 = .bool dox20 ∧
  I10 (IntKind.wrap .i64 (i12 + 1)) h7 ∧ m11 (IntKind.wrap .i64 (i12 + 1)) h7 < m11 i12 h6)) ∧ ((decide (i12 < ((p1callsl : Nat) : Int))) = false → (CallsH Try.prog 17 [.pointer New5, .int .i64 p0n] h6 fun r21 h8 => ∃ ownersa22 : Option Addr, ∃ ownersl23 : Nat, ∃ ownersc24 : Nat, r21 = .slice ownersa22 ownersl23 ownersc24 ∧
  CallsH Try.prog 19 [.pointer New5, .int .i64 p2owner] h8 fun r25 h9 => ∃ TakeRun26 : Int, ∃ TakeRun27 : Int, r25 = .tuple #[.int .i64 TakeRun26, .int .i64 TakeRun27] ∧ ∃ I28 : Int → Hp → Prop, ∃ m29 : Int →
  Hp → Nat, I28 0 h9 ∧ ∀ k30 : Int, ∀ h10 : Hp, I28 k30 h10 → ((decide ((IntKind.wrap .i64 (k30 + 64)) ≤ p0n)) = true → (∃ I31 : Bool → Int → Hp → Prop, ∃ m32 : Bool → Int → Hp → Nat, I31 true 0 h10 ∧
  ∀ free33 : Bool, ∀ j34 : Int, ∀ h11 : Hp, I31 free33 j34 h11 → ((decide (j34 < 64)) = true → (((free33) = true → ((0 : Int) ≤ (IntKind.wrap .i64 (k30 + j34)) ∧ (IntKind.wrap .i64 (k30 + j34)) < ((ownersl23 : Nat) : Int) ∧
  ∃ b35 : Nat, ∃ o36 : Nat, ownersa22 = some ⟨b35, o36, none⟩ ∧ ∃ x37 : Int, cellAt h11 b35 (o36 + (IntKind.wrap .i64 (k30 + j34)).toNat * 1) = some (.int .i64 x37) ∧ I31 (x37 == 0) (IntKind.wrap .i64 (j34 + 1)) h11 ∧
  m32 (x37 == 0) (IntKind.wrap .i64 (j34 + 1)) h11 < m32 free33 j34 h11)) ∧ ((free33) = false → (I31 false (IntKind.wrap .i64 (j34 + 1)) h11 ∧ m32 false (IntKind.wrap .i64 (j34 + 1)) h11 < m32 free33 j34 h11)))) ∧
  ((decide (j34 < 64)) = false → (((free33) = true → (∃ I38 : Hp → Prop, (((TakeRun27 != 0) = true → (R (.bool false) h11)) ∧ ((TakeRun27 != 0) = false → (((TakeRun26 != k30) = true → (R (.bool false) h11)) ∧
  ((TakeRun26 != k30) = false → (I38 h11))))) ∧ ∀ h12 : Hp, I38 h12 → ∃ I39 : Int → Hp → Prop, ∃ m40 : Int → Hp → Nat, I39 0 h12 ∧ ∀ j41 : Int, ∀ h13 : Hp, I39 j41 h13 → ((decide (j41 < 64)) = true → (CallsH Try.prog 16 [.pointer New5, .int .i64 (IntKind.wrap .i64 (k30 + j41))] h13 fun r42 h14 => ∃ Owner43 : Int, r42 = .int .i64 Owner43 ∧
  ((Owner43 != p2owner) = true → (R (.bool false) h14)) ∧ ((Owner43 != p2owner) = false → (I39 (IntKind.wrap .i64 (j41 + 1)) h14 ∧ m40 (IntKind.wrap .i64 (j41 + 1)) h14 < m40 j41 h13)))) ∧ ((decide (j41 < 64)) = false →
  (R (.bool true) h13)))) ∧ ((free33) = false → (I28 (IntKind.wrap .i64 (k30 + 64)) h11 ∧ m29 (IntKind.wrap .i64 (k30 + 64)) h11 < m29 k30 h10)))))) ∧ ((decide ((IntKind.wrap .i64 (k30 + 64)) ≤ p0n)) = false →
  (((TakeRun27 == 15) = true → (R (.bool (TakeRun26 == (-1))) h10)) ∧ ((TakeRun27 == 15) = false → (R (.bool false) h10))))))))
theorem warderlaw10_FramesRuns.eq (p0n : Int) (p1callsa : Option Addr) (p1callsl : Nat) (p1callsc : Nat) (p2owner : Int) (h : Hp) (R : Value → Hp → Prop) : evBody Try.prog calls warderlaw10_FramesRuns.hints Try.f6 [.int .i64 p0n, .slice p1callsa p1callsl p1callsc, .int .i64 p2owner] h R = warderlaw10_FramesRuns.P p0n p1callsa p1callsl p1callsc p2owner h R := by kernel_rfl
theorem warderlaw10_FramesRuns.calls (p0n : Int) (p1callsa : Option Addr) (p1callsl : Nat) (p1callsc : Nat) (p2owner : Int) (h : Hp) (R : Value → Hp → Prop) (hp : warderlaw10_FramesRuns.P p0n p1callsa p1callsl p1callsc p2owner h R) : CallsH Try.prog 6 [.int .i64 p0n, .slice p1callsa p1callsl p1callsc, .int .i64 p2owner] h R :=
  calls_of_body calls_ok Try.func6 (args := [.int .i64 p0n, .slice p1callsa p1callsl p1callsc, .int .i64 p2owner]) (by rw [warderlaw10_FramesRuns.eq]; exact hp)
/-! ### warderlaw10_FramesGives: function 7 -/
def warderlaw10_FramesGives.hints : Hints := { loops := [(10, [1, 2, 7, 9], [(10, (.one (.int .i64)))]), (25, [7, 13, 15], [(16, (.one .bool)), (17, (.one (.int .i64)))])], cuts := [(5, [0, 1, 2], []), (8, [0, 1, 2, 7], []), (16, [2, 7, 11], []), (22, [7, 13], [])], orders := [] }
def warderlaw10_FramesGives.P (p0n : Int) (p1callsa : Option Addr) (p1callsl : Nat) (p1callsc : Nat) (p2frame : Int) (h : Hp) (R : Value → Hp → Prop) : Prop :=
  CallsH Try.prog 8 [] h fun r1 h1 => ∃ alive2 : Bool, r1 = .bool alive2 ∧ ((!alive2) = true → (R (.bool false) h1)) ∧ ((!alive2) = false → (∃ I3 : Hp → Prop, (((decide (((p1callsl : Nat) : Int) > 60)) = true →
  (R (.bool true) h1)) ∧ ((decide (((p1callsl : Nat) : Int) > 60)) = false → (((decide (p0n < 1)) = true → (R (.bool true) h1)) ∧ ((decide (p0n < 1)) = false → (((decide (p0n > 300)) = true → (R (.bool true) h1)) ∧
  ((decide (p0n > 300)) = false → (I3 h1))))))) ∧ ∀ h2 : Hp, I3 h2 → CallsH Try.prog 9 [.int .i64 p0n] h2 fun r4 h3 => ∃ New5 : Option Addr, ∃ New6 : Int, r4 = .tuple #[.pointer New5, .int .i64 New6] ∧
  ∃ I7 : Hp → Prop, (((New6 != 0) = true → (R (.bool false) h3)) ∧ ((New6 != 0) = false → (((notIf true New5.isNone) = true → (R (.bool false) h3)) ∧ ((notIf true New5.isNone) = false → (I7 h3))))) ∧ ∀ h4 : Hp, I7 h4 →
  CallsH Try.prog 10 [.int .i64 p0n] h4 fun r8 h5 => ∃ New9 : Option Addr, r8 = .pointer New9 ∧ ∃ I10 : Int → Hp → Prop, ∃ m11 : Int → Hp → Nat, I10 0 h5 ∧ ∀ i12 : Int, ∀ h6 : Hp, I10 i12 h6 → ((decide (i12 < ((p1callsl : Nat) : Int))) = true →
  ((0 : Int) ≤ i12 ∧ i12 < ((p1callsl : Nat) : Int) ∧ ∃ b13 : Nat, ∃ o14 : Nat, p1callsa = some ⟨b13, o14, none⟩ ∧ ∃ x15 : Int, cellAt h6 b13 (o14 + i12.toNat * 4 + 0) = some (.int .i64 x15) ∧ ∃ x16 : Int, cellAt h6 b13 (o14 + i12.toNat * 4 + 1) = some (.int .i64 x16) ∧
  ∃ x17 : Int, cellAt h6 b13 (o14 + i12.toNat * 4 + 2) = some (.int .i64 x17) ∧ ∃ x18 : Int, cellAt h6 b13 (o14 + i12.toNat * 4 + 3) = some (.int .i64 x18) ∧ CallsH Try.prog 11 [.pointer New5, .pointer New9, .agg #[.int .i64 x15, .int .i64 x16, .int .i64 x17, .int .i64 x18]] h6 fun r19 h7 => ∃ dox20 : Bool, r19 = .bool dox20 ∧
  I10 (IntKind.wrap .i64 (i12 + 1)) h7 ∧ m11 (IntKind.wrap .i64 (i12 + 1)) h7 < m11 i12 h6)) ∧ ((decide (i12 < ((p1callsl : Nat) : Int))) = false → (CallsH Try.prog 16 [.pointer New5, .int .i64 p2frame] h6 fun r21 h8 => ∃ Owner22 : Int, r21 = .int .i64 Owner22 ∧
  ∃ I23 : Hp → Prop, (((decide (Owner22 > 0)) = true → (CallsH Try.prog 20 [.pointer New5, .int .i64 Owner22, .int .i64 p2frame] h8 fun r24 h9 => ∃ Give25 : Int, r24 = .int .i64 Give25 ∧ ((Give25 != 0) = true →
  (R (.bool false) h9)) ∧ ((Give25 != 0) = false → (I23 h9)))) ∧ ((decide (Owner22 > 0)) = false → (I23 h8))) ∧ ∀ h10 : Hp, I23 h10 → CallsH Try.prog 14 [.pointer New5, .int .i64 0] h10 fun r26 h11 => ∃ Lista27 : Option Addr, ∃ Listl28 : Nat, ∃ Listc29 : Nat, r26 = .slice Lista27 Listl28 Listc29 ∧
  CallsH Try.prog 18 [.pointer New5, .int .i64 7] h11 fun r30 h12 => ∃ Take31 : Int, ∃ Take32 : Int, r30 = .tuple #[.int .i64 Take31, .int .i64 Take32] ∧ ((((Listl28 : Nat) : Int) == 0) = true → (((Take32 == 15) = true →
  (R (.bool (Take31 == (-1))) h12)) ∧ ((Take32 == 15) = false → (R (.bool false) h12)))) ∧ ((((Listl28 : Nat) : Int) == 0) = false → (∃ I33 : Hp → Prop, (((Take32 != 0) = true → (R (.bool false) h12)) ∧
  ((Take32 != 0) = false → ((0 : Int) ≤ 0 ∧ (0 : Int) < ((Listl28 : Nat) : Int) ∧ ∃ b34 : Nat, ∃ o35 : Nat, Lista27 = some ⟨b34, o35, none⟩ ∧ ∃ x36 : Int, cellAt h12 b34 (o35 + (0 : Int).toNat * 1) = some (.int .i64 x36) ∧
  ((Take31 != x36) = true → (R (.bool false) h12)) ∧ ((Take31 != x36) = false → (((decide (Owner22 > 0)) = true → (((decide (Take31 > p2frame)) = true → (R (.bool false) h12)) ∧ ((decide (Take31 > p2frame)) = false →
  (I33 h12)))) ∧ ((decide (Owner22 > 0)) = false → (I33 h12))))))) ∧ ∀ h13 : Hp, I33 h13 → CallsH Try.prog 22 [.pointer New5, .int .i64 7] h13 fun r37 h14 => ∃ GiveAlla38 : Option Addr, ∃ GiveAlll39 : Nat, ∃ GiveAllc40 : Nat, r37 = .slice GiveAlla38 GiveAlll39 GiveAllc40 ∧
  ∃ I41 : Bool → Int → Hp → Prop, ∃ m42 : Bool → Int → Hp → Nat, I41 false 0 h14 ∧ ∀ has43 : Bool, ∀ i44 : Int, ∀ h15 : Hp, I41 has43 i44 h15 → ((decide (i44 < ((GiveAlll39 : Nat) : Int))) = true → (((has43) = true →
  (I41 true (IntKind.wrap .i64 (i44 + 1)) h15 ∧ m42 true (IntKind.wrap .i64 (i44 + 1)) h15 < m42 has43 i44 h15)) ∧ ((has43) = false → ((0 : Int) ≤ i44 ∧ i44 < ((GiveAlll39 : Nat) : Int) ∧ ∃ b45 : Nat, ∃ o46 : Nat, GiveAlla38 = some ⟨b45, o46, none⟩ ∧
  ∃ x47 : Int, cellAt h15 b45 (o46 + i44.toNat * 1) = some (.int .i64 x47) ∧ I41 (x47 == Take31) (IntKind.wrap .i64 (i44 + 1)) h15 ∧ m42 (x47 == Take31) (IntKind.wrap .i64 (i44 + 1)) h15 < m42 has43 i44 h15)))) ∧
  ((decide (i44 < ((GiveAlll39 : Nat) : Int))) = false → (((has43) = true → (CallsH Try.prog 15 [.pointer New5, .int .i64 7] h15 fun r48 h16 => ∃ Count49 : Int, r48 = .int .i64 Count49 ∧ R (.bool (Count49 == 0)) h16)) ∧
  ((has43) = false → (R (.bool false) h15))))))))))
theorem warderlaw10_FramesGives.eq (p0n : Int) (p1callsa : Option Addr) (p1callsl : Nat) (p1callsc : Nat) (p2frame : Int) (h : Hp) (R : Value → Hp → Prop) : evBody Try.prog calls warderlaw10_FramesGives.hints Try.f7 [.int .i64 p0n, .slice p1callsa p1callsl p1callsc, .int .i64 p2frame] h R = warderlaw10_FramesGives.P p0n p1callsa p1callsl p1callsc p2frame h R := by kernel_rfl
theorem warderlaw10_FramesGives.calls (p0n : Int) (p1callsa : Option Addr) (p1callsl : Nat) (p1callsc : Nat) (p2frame : Int) (h : Hp) (R : Value → Hp → Prop) (hp : warderlaw10_FramesGives.P p0n p1callsa p1callsl p1callsc p2frame h R) : CallsH Try.prog 7 [.int .i64 p0n, .slice p1callsa p1callsl p1callsc, .int .i64 p2frame] h R :=
  calls_of_body calls_ok Try.func7 (args := [.int .i64 p0n, .slice p1callsa p1callsl p1callsc, .int .i64 p2frame]) (by rw [warderlaw10_FramesGives.eq]; exact hp)
/-! ### warderlaw10_alive: function 8 -/
def warderlaw10_alive.hints : Hints := { loops := [], cuts := [(4, [1], [])], orders := [] }
def warderlaw10_alive.P  (h : Hp) (R : Value → Hp → Prop) : Prop :=
  CallsH Try.prog 9 [.int .i64 130] h fun r1 h1 => ∃ New2 : Option Addr, ∃ New3 : Int, r1 = .tuple #[.pointer New2, .int .i64 New3] ∧ ∃ I4 : Hp → Prop, (((New3 != 0) = true → (R (.bool false) h1)) ∧ ((New3 != 0) = false →
  (((notIf true New2.isNone) = true → (R (.bool false) h1)) ∧ ((notIf true New2.isNone) = false → (I4 h1))))) ∧ ∀ h2 : Hp, I4 h2 → CallsH Try.prog 18 [.pointer New2, .int .i64 2] h2 fun r5 h3 => ∃ Take6 : Int, ∃ Take7 : Int, r5 = .tuple #[.int .i64 Take6, .int .i64 Take7] ∧
  CallsH Try.prog 18 [.pointer New2, .int .i64 3] h3 fun r8 h4 => ∃ Take9 : Int, ∃ Take10 : Int, r8 = .tuple #[.int .i64 Take9, .int .i64 Take10] ∧ CallsH Try.prog 20 [.pointer New2, .int .i64 2, .int .i64 0] h4 fun r11 h5 => ∃ Give12 : Int, r11 = .int .i64 Give12 ∧
  CallsH Try.prog 18 [.pointer New2, .int .i64 4] h5 fun r13 h6 => ∃ Take14 : Int, ∃ Take15 : Int, r13 = .tuple #[.int .i64 Take14, .int .i64 Take15] ∧ CallsH Try.prog 19 [.pointer New2, .int .i64 5] h6 fun r16 h7 => ∃ TakeRun17 : Int, ∃ TakeRun18 : Int, r16 = .tuple #[.int .i64 TakeRun17, .int .i64 TakeRun18] ∧
  CallsH Try.prog 19 [.pointer New2, .int .i64 5] h7 fun r19 h8 => ∃ TakeRun20 : Int, ∃ TakeRun21 : Int, r19 = .tuple #[.int .i64 TakeRun20, .int .i64 TakeRun21] ∧ CallsH Try.prog 21 [.pointer New2, .int .i64 1, .int .i64 3, .int .i64 6] h8 fun r22 h9 => ∃ Move23 : Int, r22 = .int .i64 Move23 ∧
  CallsH Try.prog 20 [.pointer New2, .int .i64 3, .int .i64 1] h9 fun r24 h10 => ∃ Give25 : Int, r24 = .int .i64 Give25 ∧ ((Take6 == 0) = true → (((Take9 == 1) = true → (((Give12 == 0) = true → (((Take14 == 0) = true →
  (((Take15 == 0) = true → (((TakeRun17 == 64) = true → (((TakeRun18 == 0) = true → (((TakeRun21 == 15) = true → (((Move23 == 0) = true → (((Give25 == 16) = true → (CallsH Try.prog 16 [.pointer New2, .int .i64 1] h10 fun r26 h11 => ∃ Owner27 : Int, r26 = .int .i64 Owner27 ∧
  ((Owner27 == 6) = true → (CallsH Try.prog 16 [.pointer New2, .int .i64 130] h11 fun r28 h12 => ∃ Owner29 : Int, r28 = .int .i64 Owner29 ∧ ((Owner29 == (-1)) = true → (CallsH Try.prog 15 [.pointer New2, .int .i64 5] h12 fun r30 h13 => ∃ Count31 : Int, r30 = .int .i64 Count31 ∧
  ((Count31 == 64) = true → (CallsH Try.prog 22 [.pointer New2, .int .i64 5] h13 fun r32 h14 => ∃ GiveAlla33 : Option Addr, ∃ GiveAlll34 : Nat, ∃ GiveAllc35 : Nat, r32 = .slice GiveAlla33 GiveAlll34 GiveAllc35 ∧
  ((((GiveAlll34 : Nat) : Int) == 64) = true → (CallsH Try.prog 15 [.pointer New2, .int .i64 5] h14 fun r36 h15 => ∃ Count37 : Int, r36 = .int .i64 Count37 ∧ ((Count37 == 0) = true → (CallsH Try.prog 14 [.pointer New2, .int .i64 4] h15 fun r38 h16 => ∃ Lista39 : Option Addr, ∃ Listl40 : Nat, ∃ Listc41 : Nat, r38 = .slice Lista39 Listl40 Listc41 ∧
  ∀ h17 : Hp, h17 = new h16 (blk 3 [.int .i64 0]) → CallsH Try.prog 13 [.slice Lista39 Listl40 Listc41, .slice (some ⟨sz h16, 0, none⟩) 1 1] h17 fun r42 h18 => ∃ SameInts43 : Bool, r42 = .bool SameInts43 ∧
  R (.bool SameInts43) h18)) ∧ ((Count37 == 0) = false → (R (.bool false) h15)))) ∧ ((((GiveAlll34 : Nat) : Int) == 64) = false → (R (.bool false) h14)))) ∧ ((Count31 == 64) = false → (R (.bool false) h13)))) ∧
  ((Owner29 == (-1)) = false → (R (.bool false) h12)))) ∧ ((Owner27 == 6) = false → (R (.bool false) h11)))) ∧ ((Give25 == 16) = false → (R (.bool false) h10)))) ∧ ((Move23 == 0) = false → (R (.bool false) h10)))) ∧
  ((TakeRun21 == 15) = false → (R (.bool false) h10)))) ∧ ((TakeRun18 == 0) = false → (R (.bool false) h10)))) ∧ ((TakeRun17 == 64) = false → (R (.bool false) h10)))) ∧ ((Take15 == 0) = false → (R (.bool false) h10)))) ∧
  ((Take14 == 0) = false → (R (.bool false) h10)))) ∧ ((Give12 == 0) = false → (R (.bool false) h10)))) ∧ ((Take9 == 1) = false → (R (.bool false) h10)))) ∧ ((Take6 == 0) = false → (R (.bool false) h10))
theorem warderlaw10_alive.eq  (h : Hp) (R : Value → Hp → Prop) : evBody Try.prog calls warderlaw10_alive.hints Try.f8 [] h R = warderlaw10_alive.P  h R := by kernel_rfl
theorem warderlaw10_alive.calls  (h : Hp) (R : Value → Hp → Prop) (hp : warderlaw10_alive.P  h R) : CallsH Try.prog 8 [] h R :=
  calls_of_body calls_ok Try.func8 (args := []) (by rw [warderlaw10_alive.eq]; exact hp)
/-! ### frames_New: function 9 -/
def frames_New.hints : Hints := { loops := [], cuts := [(3, [0], [])], orders := [] }
def frames_New.P (p0frames : Int) (h : Hp) (R : Value → Hp → Prop) : Prop :=
  ∃ I1 : Hp → Prop, (((decide (p0frames < 1)) = true → (R (.tuple #[.pointer none, .int .i64 11]) h)) ∧ ((decide (p0frames < 1)) = false → (((decide (p0frames > 1024)) = true → (R (.tuple #[.pointer none, .int .i64 11]) h)) ∧
  ((decide (p0frames > 1024)) = false → (I1 h))))) ∧ ∀ h1 : Hp, I1 h1 → (0 : Int) ≤ p0frames ∧ p0frames ≤ p0frames ∧ p0frames ≤ 140737488355328 ∧ ((8 : Nat) : Int) * p0frames ≤ 281474976710656 ∧ (1 : Nat) = 1 ∧
  ∀ h2 : Hp, h2 = new h1 (blk 3 (zeros [.int .i64 0] p0frames.toNat)) → ∀ h3 : Hp, h3 = new h2 (blk 50 [.slice (some ⟨sz h1, 0, none⟩) p0frames.toNat p0frames.toNat, .int .i64 0, .int .i64 0, .int .i64 0, .int .i64 0, .int .i64 0, .int .i64 0, .int .i64 0, .int .i64 0, .int .i64 0, .int .i64 0]) →
  (0 : Int) ≤ 0 ∧ (0 : Int) < ((10 : Nat) : Int) ∧ truly true ∧ ∃ T2 : TypeId, ∃ l3 : List Value, bk h3 (sz h2) = some (blk T2 l3) ∧ (1 + (0 : Int).toNat * 1) + 1 ≤ l3.length ∧ ∀ h4 : Hp, h4 = upd h3 (sz h2) T2 (writeAt l3 (1 + (0 : Int).toNat * 1) [.int .i64 p0frames]) →
  R (.tuple #[.pointer (some ⟨(sz h2), 0, none⟩), .int .i64 0]) h4
theorem frames_New.eq (p0frames : Int) (h : Hp) (R : Value → Hp → Prop) : evBody Try.prog calls frames_New.hints Try.f9 [.int .i64 p0frames] h R = frames_New.P p0frames h R := by kernel_rfl
theorem frames_New.calls (p0frames : Int) (h : Hp) (R : Value → Hp → Prop) (hp : frames_New.P p0frames h R) : CallsH Try.prog 9 [.int .i64 p0frames] h R :=
  calls_of_body calls_ok Try.func9 (args := [.int .i64 p0frames]) (by rw [frames_New.eq]; exact hp)
/-! ### warderref10_New: function 10 -/
def warderref10_New.hints : Hints := { loops := [], cuts := [], orders := [] }
def warderref10_New.P (p0frames : Int) (h : Hp) (R : Value → Hp → Prop) : Prop :=
  (0 : Int) ≤ p0frames ∧ p0frames ≤ p0frames ∧ p0frames ≤ 140737488355328 ∧ ((8 : Nat) : Int) * p0frames ≤ 281474976710656 ∧ (1 : Nat) = 1 ∧ ∀ h1 : Hp, h1 = new h (blk 3 (zeros [.int .i64 0] p0frames.toNat)) →
  ∀ h2 : Hp, h2 = new h1 (blk 36 [.slice (some ⟨sz h, 0, none⟩) p0frames.toNat p0frames.toNat]) → R (.pointer (some ⟨(sz h1), 0, none⟩)) h2
theorem warderref10_New.eq (p0frames : Int) (h : Hp) (R : Value → Hp → Prop) : evBody Try.prog calls warderref10_New.hints Try.f10 [.int .i64 p0frames] h R = warderref10_New.P p0frames h R := by kernel_rfl
theorem warderref10_New.calls (p0frames : Int) (h : Hp) (R : Value → Hp → Prop) (hp : warderref10_New.P p0frames h R) : CallsH Try.prog 10 [.int .i64 p0frames] h R :=
  calls_of_body calls_ok Try.func10 (args := [.int .i64 p0frames]) (by rw [warderref10_New.eq]; exact hp)
/-! ### warderlaw10_do: function 11 -/
def warderlaw10_do.hints : Hints := { loops := [(18, [1, 15, 16], [(17, (.one (.int .i64)))])], cuts := [(26, [0, 5], [(18, (.one (.int .i64)))])], orders := [(11, [0, 0, 2, 0, 8, 31, 0, 0, 128, 0, 512, 2047, 4095, 8191], [0, 1, 2, 3, 4, 6, 7, 8, 9, 10, 5, 11, 12, 13]), (20, [0, 1, 3, 7, 0, 0, 48, 112, 255, 511], [0, 1, 2, 3, 4, 5, 6, 7, 8, 9])] }
def warderlaw10_do.P (p0tb p0to : Nat) (p1rb p1ro : Nat) (p2c_0 : Int) (p2c_1 : Int) (p2c_2 : Int) (p2c_3 : Int) (h : Hp) (R : Value → Hp → Prop) : Prop :=
  ∀ h1 : Hp, h1 = new h (blk 32 [.int .i64 p2c_0, .int .i64 p2c_1, .int .i64 p2c_2, .int .i64 p2c_3]) → ∃ What1 : Int, cellAt h1 (sz h) 0 = some (.int .i64 What1) ∧ ((What1 == 0) = true → (∃ Owner2 : Int, cellAt h1 (sz h) 1 = some (.int .i64 Owner2) ∧
  CallsH Try.prog 18 [.pointer (some ⟨p0tb, p0to, none⟩), .int .i64 Owner2] h1 fun r3 h2 => ∃ Take4 : Int, ∃ Take5 : Int, r3 = .tuple #[.int .i64 Take4, .int .i64 Take5] ∧ ∃ Owner6 : Int, cellAt h2 (sz h) 1 = some (.int .i64 Owner6) ∧
  CallsH Try.prog 23 [.pointer (some ⟨p1rb, p1ro, none⟩), .int .i64 Owner6, .int .i64 1] h2 fun r7 h3 => ∃ Take8 : Int, ∃ Take9 : Int, r7 = .tuple #[.int .i64 Take8, .int .i64 Take9] ∧ ((Take4 == Take8) = true →
  (R (.bool (Take5 == Take9)) h3)) ∧ ((Take4 == Take8) = false → (R (.bool false) h3)))) ∧ ((What1 == 0) = false → (((What1 == 1) = true → (∃ Owner10 : Int, cellAt h1 (sz h) 1 = some (.int .i64 Owner10) ∧
  CallsH Try.prog 19 [.pointer (some ⟨p0tb, p0to, none⟩), .int .i64 Owner10] h1 fun r11 h4 => ∃ TakeRun12 : Int, ∃ TakeRun13 : Int, r11 = .tuple #[.int .i64 TakeRun12, .int .i64 TakeRun13] ∧ ∃ Owner14 : Int, cellAt h4 (sz h) 1 = some (.int .i64 Owner14) ∧
  CallsH Try.prog 23 [.pointer (some ⟨p1rb, p1ro, none⟩), .int .i64 Owner14, .int .i64 64] h4 fun r15 h5 => ∃ Take16 : Int, ∃ Take17 : Int, r15 = .tuple #[.int .i64 Take16, .int .i64 Take17] ∧ ((TakeRun12 == Take16) = true →
  (R (.bool (TakeRun13 == Take17)) h5)) ∧ ((TakeRun12 == Take16) = false → (R (.bool false) h5)))) ∧ ((What1 == 1) = false → (((What1 == 2) = true → (∃ Owner18 : Int, cellAt h1 (sz h) 1 = some (.int .i64 Owner18) ∧
  ∃ Frame19 : Int, cellAt h1 (sz h) 3 = some (.int .i64 Frame19) ∧ ∃ Frame20 : Int, cellAt h1 (sz h) 3 = some (.int .i64 Frame20) ∧ ∃ Owner21 : Int, cellAt h1 (sz h) 1 = some (.int .i64 Owner21) ∧ CallsH Try.prog 20 [.pointer (some ⟨p0tb, p0to, none⟩), .int .i64 Owner18, .int .i64 Frame19] h1 fun r22 h6 => ∃ Give23 : Int, r22 = .int .i64 Give23 ∧
  cellAt h6 (sz h) 3 = some (.int .i64 Frame20) ∧ cellAt h6 (sz h) 1 = some (.int .i64 Owner21) ∧ CallsH Try.prog 24 [.pointer (some ⟨p1rb, p1ro, none⟩), .int .i64 Frame20, .int .i64 Owner21, .int .i64 0] h6 fun r24 h7 => ∃ Move25 : Int, r24 = .int .i64 Move25 ∧
  R (.bool (Give23 == Move25)) h7)) ∧ ((What1 == 2) = false → (((What1 == 3) = true → (∃ Owner26 : Int, cellAt h1 (sz h) 1 = some (.int .i64 Owner26) ∧ CallsH Try.prog 22 [.pointer (some ⟨p0tb, p0to, none⟩), .int .i64 Owner26] h1 fun r27 h8 => ∃ GiveAlla28 : Option Addr, ∃ GiveAlll29 : Nat, ∃ GiveAllc30 : Nat, r27 = .slice GiveAlla28 GiveAlll29 GiveAllc30 ∧
  ∃ Owner31 : Int, cellAt h8 (sz h) 1 = some (.int .i64 Owner31) ∧ ((Owner31 == 0) = true → (R (.bool (((GiveAlll29 : Nat) : Int) == 0)) h8)) ∧ ((Owner31 == 0) = false → (∃ Owner32 : Int, cellAt h8 (sz h) 1 = some (.int .i64 Owner32) ∧
  CallsH Try.prog 12 [.pointer (some ⟨p1rb, p1ro, none⟩), .int .i64 Owner32] h8 fun r33 h9 => ∃ Lista34 : Option Addr, ∃ Listl35 : Nat, ∃ Listc36 : Nat, r33 = .slice Lista34 Listl35 Listc36 ∧ ∃ I37 : Int →
  Hp → Prop, ∃ m38 : Int → Hp → Nat, I37 0 h9 ∧ ∀ i39 : Int, ∀ h10 : Hp, I37 i39 h10 → ((decide (i39 < ((Listl35 : Nat) : Int))) = true → (∃ Ownersa40 : Option Addr, ∃ Ownersl41 : Nat, ∃ Ownersc42 : Nat, cellAt h10 p1rb p1ro = some (.slice Ownersa40 Ownersl41 Ownersc42) ∧
  (0 : Int) ≤ i39 ∧ i39 < ((Listl35 : Nat) : Int) ∧ ∃ b43 : Nat, ∃ o44 : Nat, Lista34 = some ⟨b43, o44, none⟩ ∧ ∃ x45 : Int, cellAt h10 b43 (o44 + i39.toNat * 1) = some (.int .i64 x45) ∧ (0 : Int) ≤ x45 ∧
  x45 < ((Ownersl41 : Nat) : Int) ∧ ∃ b46 : Nat, ∃ o47 : Nat, Ownersa40 = some ⟨b46, o47, none⟩ ∧ truly true ∧ ∃ T48 : TypeId, ∃ l49 : List Value, bk h10 b46 = some (blk T48 l49) ∧ (o47 + x45.toNat * 1) + 1 ≤ l49.length ∧
  ∀ h11 : Hp, h11 = upd h10 b46 T48 (writeAt l49 (o47 + x45.toNat * 1) [.int .i64 0]) → I37 (IntKind.wrap .i64 (i39 + 1)) h11 ∧ m38 (IntKind.wrap .i64 (i39 + 1)) h11 < m38 i39 h10)) ∧ ((decide (i39 < ((Listl35 : Nat) : Int))) = false →
  (CallsH Try.prog 13 [.slice GiveAlla28 GiveAlll29 GiveAllc30, .slice Lista34 Listl35 Listc36] h10 fun r50 h12 => ∃ SameInts51 : Bool, r50 = .bool SameInts51 ∧ R (.bool SameInts51) h12)))))) ∧ ((What1 == 3) = false →
  (((What1 == 4) = true → (∃ I52 : Int → Hp → Prop, (∃ To53 : Int, cellAt h1 (sz h) 2 = some (.int .i64 To53) ∧ ((To53 != 0) = true → (∃ Frame54 : Int, cellAt h1 (sz h) 3 = some (.int .i64 Frame54) ∧ ∃ Owner55 : Int, cellAt h1 (sz h) 1 = some (.int .i64 Owner55) ∧
  ∃ To56 : Int, cellAt h1 (sz h) 2 = some (.int .i64 To56) ∧ CallsH Try.prog 24 [.pointer (some ⟨p1rb, p1ro, none⟩), .int .i64 Frame54, .int .i64 Owner55, .int .i64 To56] h1 fun r57 h13 => ∃ Move58 : Int, r57 = .int .i64 Move58 ∧
  I52 Move58 h13)) ∧ ((To53 != 0) = false → (I52 11 h1))) ∧ ∀ want59 : Int, ∀ h14 : Hp, I52 want59 h14 → ∃ Frame60 : Int, cellAt h14 (sz h) 3 = some (.int .i64 Frame60) ∧ ∃ Owner61 : Int, cellAt h14 (sz h) 1 = some (.int .i64 Owner61) ∧
  ∃ To62 : Int, cellAt h14 (sz h) 2 = some (.int .i64 To62) ∧ CallsH Try.prog 21 [.pointer (some ⟨p0tb, p0to, none⟩), .int .i64 Frame60, .int .i64 Owner61, .int .i64 To62] h14 fun r63 h15 => ∃ Move64 : Int, r63 = .int .i64 Move64 ∧
  R (.bool (Move64 == want59)) h15)) ∧ ((What1 == 4) = false → (R (.bool true) h1))))))))))
theorem warderlaw10_do.eq (p0tb p0to : Nat) (p1rb p1ro : Nat) (p2c_0 : Int) (p2c_1 : Int) (p2c_2 : Int) (p2c_3 : Int) (h : Hp) (R : Value → Hp → Prop) : evBody Try.prog calls warderlaw10_do.hints Try.f11 [.ptr p0tb p0to, .ptr p1rb p1ro, .agg [.int .i64 p2c_0, .int .i64 p2c_1, .int .i64 p2c_2, .int .i64 p2c_3]] h R = warderlaw10_do.P p0tb p0to p1rb p1ro p2c_0 p2c_1 p2c_2 p2c_3 h R := by kernel_rfl
theorem warderlaw10_do.calls (p0tb p0to : Nat) (p1rb p1ro : Nat) (p2c_0 : Int) (p2c_1 : Int) (p2c_2 : Int) (p2c_3 : Int) (h : Hp) (R : Value → Hp → Prop) (hp : warderlaw10_do.P p0tb p0to p1rb p1ro p2c_0 p2c_1 p2c_2 p2c_3 h R) : CallsH Try.prog 11 [.pointer (some ⟨p0tb, p0to, none⟩), .pointer (some ⟨p1rb, p1ro, none⟩), .agg #[.int .i64 p2c_0, .int .i64 p2c_1, .int .i64 p2c_2, .int .i64 p2c_3]] h R :=
  calls_of_body calls_ok Try.func11 (args := [.ptr p0tb p0to, .ptr p1rb p1ro, .agg [.int .i64 p2c_0, .int .i64 p2c_1, .int .i64 p2c_2, .int .i64 p2c_3]]) (by rw [warderlaw10_do.eq]; exact hp)
/-! ### warderref10_Table_List: function 12 -/
def warderref10_Table_List.hints : Hints := { loops := [(3, [0, 1], [(5, (.one .slice)), (6, (.one (.int .i64)))])], cuts := [], orders := [] }
def warderref10_Table_List.P (p0tb p0to : Nat) (p1who : Int) (h : Hp) (R : Value → Hp → Prop) : Prop :=
  ∀ h1 : Hp, h1 = new h (blk 3 []) → ∃ I1 : Option Addr → Nat → Nat → Int → Hp → Prop, ∃ m2 : Option Addr → Nat → Nat → Int → Hp → Nat, I1 (some ⟨sz h, 0, none⟩) 0 0 0 h1 ∧ ∀ outa3 : Option Addr, ∀ outl4 : Nat, ∀ outc5 : Nat, ∀ i6 : Int, ∀ h2 : Hp, I1 outa3 outl4 outc5 i6 h2 →
  ∃ Ownersa7 : Option Addr, ∃ Ownersl8 : Nat, ∃ Ownersc9 : Nat, cellAt h2 p0tb p0to = some (.slice Ownersa7 Ownersl8 Ownersc9) ∧ ((decide (i6 < ((Ownersl8 : Nat) : Int))) = true → (∃ Ownersa10 : Option Addr, ∃ Ownersl11 : Nat, ∃ Ownersc12 : Nat, cellAt h2 p0tb p0to = some (.slice Ownersa10 Ownersl11 Ownersc12) ∧
  (0 : Int) ≤ i6 ∧ i6 < ((Ownersl11 : Nat) : Int) ∧ ∃ b13 : Nat, ∃ o14 : Nat, Ownersa10 = some ⟨b13, o14, none⟩ ∧ ∃ x15 : Int, cellAt h2 b13 (o14 + i6.toNat * 1) = some (.int .i64 x15) ∧ ((x15 == p1who) = true →
  (∀ h3 : Hp, h3 = new h2 (blk 3 [.int .i64 i6]) → appendN h3 3 1 8 [.int .i64 0] outa3 outl4 outc5 (some ⟨sz h2, 0, none⟩) 1 fun a16 l17 c18 h4 => I1 a16 l17 c18 (IntKind.wrap .i64 (i6 + 1)) h4 ∧ m2 a16 l17 c18 (IntKind.wrap .i64 (i6 + 1)) h4 < m2 outa3 outl4 outc5 i6 h2)) ∧
  ((x15 == p1who) = false → (I1 outa3 outl4 outc5 (IntKind.wrap .i64 (i6 + 1)) h2 ∧ m2 outa3 outl4 outc5 (IntKind.wrap .i64 (i6 + 1)) h2 < m2 outa3 outl4 outc5 i6 h2)))) ∧ ((decide (i6 < ((Ownersl8 : Nat) : Int))) = false →
  (R (.slice outa3 outl4 outc5) h2))
theorem warderref10_Table_List.eq (p0tb p0to : Nat) (p1who : Int) (h : Hp) (R : Value → Hp → Prop) : evBody Try.prog calls warderref10_Table_List.hints Try.f12 [.ptr p0tb p0to, .int .i64 p1who] h R = warderref10_Table_List.P p0tb p0to p1who h R := by kernel_rfl
theorem warderref10_Table_List.calls (p0tb p0to : Nat) (p1who : Int) (h : Hp) (R : Value → Hp → Prop) (hp : warderref10_Table_List.P p0tb p0to p1who h R) : CallsH Try.prog 12 [.pointer (some ⟨p0tb, p0to, none⟩), .int .i64 p1who] h R :=
  calls_of_body calls_ok Try.func12 (args := [.ptr p0tb p0to, .int .i64 p1who]) (by rw [warderref10_Table_List.eq]; exact hp)
/-! ### warderref00_SameInts: function 13 -/
def warderref00_SameInts.hints : Hints := { loops := [(4, [0, 1], [(5, (.one (.int .i64)))])], cuts := [], orders := [(6, [0, 0, 3, 7, 0, 0, 48, 112, 255], [0, 1, 2, 3, 4, 5, 6, 7, 8])] }
def warderref00_SameInts.P (p0aa : Option Addr) (p0al : Nat) (p0ac : Nat) (p1ba : Option Addr) (p1bl : Nat) (p1bc : Nat) (h : Hp) (R : Value → Hp → Prop) : Prop :=
  ((((p0al : Nat) : Int) != ((p1bl : Nat) : Int)) = true → (R (.bool false) h)) ∧ ((((p0al : Nat) : Int) != ((p1bl : Nat) : Int)) = false → (∃ I1 : Int → Hp → Prop, ∃ m2 : Int → Hp → Nat, I1 0 h ∧ ∀ i3 : Int, ∀ h1 : Hp, I1 i3 h1 →
  ((decide (i3 < ((p0al : Nat) : Int))) = true → ((0 : Int) ≤ i3 ∧ i3 < ((p0al : Nat) : Int) ∧ ∃ b4 : Nat, ∃ o5 : Nat, p0aa = some ⟨b4, o5, none⟩ ∧ ∃ x6 : Int, cellAt h1 b4 (o5 + i3.toNat * 1) = some (.int .i64 x6) ∧
  (0 : Int) ≤ i3 ∧ i3 < ((p1bl : Nat) : Int) ∧ ∃ b7 : Nat, ∃ o8 : Nat, p1ba = some ⟨b7, o8, none⟩ ∧ ∃ x9 : Int, cellAt h1 b7 (o8 + i3.toNat * 1) = some (.int .i64 x9) ∧ ((x6 != x9) = true → (R (.bool false) h1)) ∧
  ((x6 != x9) = false → (I1 (IntKind.wrap .i64 (i3 + 1)) h1 ∧ m2 (IntKind.wrap .i64 (i3 + 1)) h1 < m2 i3 h1)))) ∧ ((decide (i3 < ((p0al : Nat) : Int))) = false → (R (.bool true) h1))))
theorem warderref00_SameInts.eq (p0aa : Option Addr) (p0al : Nat) (p0ac : Nat) (p1ba : Option Addr) (p1bl : Nat) (p1bc : Nat) (h : Hp) (R : Value → Hp → Prop) : evBody Try.prog calls warderref00_SameInts.hints Try.f13 [.slice p0aa p0al p0ac, .slice p1ba p1bl p1bc] h R = warderref00_SameInts.P p0aa p0al p0ac p1ba p1bl p1bc h R := by kernel_rfl
theorem warderref00_SameInts.calls (p0aa : Option Addr) (p0al : Nat) (p0ac : Nat) (p1ba : Option Addr) (p1bl : Nat) (p1bc : Nat) (h : Hp) (R : Value → Hp → Prop) (hp : warderref00_SameInts.P p0aa p0al p0ac p1ba p1bl p1bc h R) : CallsH Try.prog 13 [.slice p0aa p0al p0ac, .slice p1ba p1bl p1bc] h R :=
  calls_of_body calls_ok Try.func13 (args := [.slice p0aa p0al p0ac, .slice p1ba p1bl p1bc]) (by rw [warderref00_SameInts.eq]; exact hp)
/-! ### frames_Table_List: function 14 -/
def frames_Table_List.hints : Hints := { loops := [(3, [1, 15, 16], [(5, (.one .slice)), (17, (.one (.int .i64)))])], cuts := [], orders := [] }
def frames_Table_List.P (p0tb p0to : Nat) (p1owner : Int) (h : Hp) (R : Value → Hp → Prop) : Prop :=
  CallsH Try.prog 15 [.pointer (some ⟨p0tb, p0to, none⟩), .int .i64 p1owner] h fun r1 h1 => ∃ Count2 : Int, r1 = .int .i64 Count2 ∧ (0 : Int) ≤ 0 ∧ (0 : Int) ≤ Count2 ∧ Count2 ≤ 140737488355328 ∧ ((8 : Nat) : Int) * Count2 ≤ 281474976710656 ∧
  (1 : Nat) = 1 ∧ ∀ h2 : Hp, h2 = new h1 (blk 3 (zeros [.int .i64 0] Count2.toNat)) → ∃ ownersa3 : Option Addr, ∃ ownersl4 : Nat, ∃ ownersc5 : Nat, cellAt h2 p0tb p0to = some (.slice ownersa3 ownersl4 ownersc5) ∧
  ∃ I6 : Option Addr → Nat → Nat → Int → Hp → Prop, ∃ m7 : Option Addr → Nat → Nat → Int → Hp → Nat, I6 (some ⟨sz h1, 0, none⟩) ((0 : Int).toNat) Count2.toNat 0 h2 ∧ ∀ outa8 : Option Addr, ∀ outl9 : Nat, ∀ outc10 : Nat, ∀ x11 : Int, ∀ h3 : Hp, I6 outa8 outl9 outc10 x11 h3 →
  ((decide (x11 < ((ownersl4 : Nat) : Int))) = true → ((0 : Int) ≤ x11 ∧ x11 < ((ownersl4 : Nat) : Int) ∧ ∃ b12 : Nat, ∃ o13 : Nat, ownersa3 = some ⟨b12, o13, none⟩ ∧ ∃ x14 : Int, cellAt h3 b12 (o13 + x11.toNat * 1) = some (.int .i64 x14) ∧
  ((x14 == p1owner) = true → (∀ h4 : Hp, h4 = new h3 (blk 3 [.int .i64 x11]) → appendN h4 3 1 8 [.int .i64 0] outa8 outl9 outc10 (some ⟨sz h3, 0, none⟩) 1 fun a15 l16 c17 h5 => I6 a15 l16 c17 (IntKind.wrap .i64 (x11 + 1)) h5 ∧
  m7 a15 l16 c17 (IntKind.wrap .i64 (x11 + 1)) h5 < m7 outa8 outl9 outc10 x11 h3)) ∧ ((x14 == p1owner) = false → (I6 outa8 outl9 outc10 (IntKind.wrap .i64 (x11 + 1)) h3 ∧ m7 outa8 outl9 outc10 (IntKind.wrap .i64 (x11 + 1)) h3 < m7 outa8 outl9 outc10 x11 h3)))) ∧
  ((decide (x11 < ((ownersl4 : Nat) : Int))) = false → (CallsH Try.prog 25 [.slice outa8 outl9 outc10] h3 fun r18 h6 => ∃ Clipa19 : Option Addr, ∃ Clipl20 : Nat, ∃ Clipc21 : Nat, r18 = .slice Clipa19 Clipl20 Clipc21 ∧
  R (.slice Clipa19 Clipl20 Clipc21) h6))
theorem frames_Table_List.eq (p0tb p0to : Nat) (p1owner : Int) (h : Hp) (R : Value → Hp → Prop) : evBody Try.prog calls frames_Table_List.hints Try.f14 [.ptr p0tb p0to, .int .i64 p1owner] h R = frames_Table_List.P p0tb p0to p1owner h R := by kernel_rfl
theorem frames_Table_List.calls (p0tb p0to : Nat) (p1owner : Int) (h : Hp) (R : Value → Hp → Prop) (hp : frames_Table_List.P p0tb p0to p1owner h R) : CallsH Try.prog 14 [.pointer (some ⟨p0tb, p0to, none⟩), .int .i64 p1owner] h R :=
  calls_of_body calls_ok Try.func14 (args := [.ptr p0tb p0to, .int .i64 p1owner]) (by rw [frames_Table_List.eq]; exact hp)
/-! ### frames_Table_Count: function 15 -/
def frames_Table_Count.hints : Hints := { loops := [], cuts := [], orders := [] }
def frames_Table_Count.P (p0tb p0to : Nat) (p1owner : Int) (h : Hp) (R : Value → Hp → Prop) : Prop :=
  ((p1owner != 0) = true → (CallsH Try.prog 26 [.int .i64 p1owner] h fun r1 h1 => ∃ some2 : Bool, r1 = .bool some2 ∧ ((!some2) = true → (R (.int .i64 0) h1)) ∧ ((!some2) = false → ((0 : Int) ≤ p1owner ∧
  p1owner < ((10 : Nat) : Int) ∧ ∃ x3 : Int, cellAt h1 p0tb (p0to + 1 + p1owner.toNat * 1) = some (.int .i64 x3) ∧ R (.int .i64 x3) h1)))) ∧ ((p1owner != 0) = false → ((0 : Int) ≤ p1owner ∧ p1owner < ((10 : Nat) : Int) ∧
  ∃ x4 : Int, cellAt h p0tb (p0to + 1 + p1owner.toNat * 1) = some (.int .i64 x4) ∧ R (.int .i64 x4) h))
theorem frames_Table_Count.eq (p0tb p0to : Nat) (p1owner : Int) (h : Hp) (R : Value → Hp → Prop) : evBody Try.prog calls frames_Table_Count.hints Try.f15 [.ptr p0tb p0to, .int .i64 p1owner] h R = frames_Table_Count.P p0tb p0to p1owner h R := by kernel_rfl
theorem frames_Table_Count.calls (p0tb p0to : Nat) (p1owner : Int) (h : Hp) (R : Value → Hp → Prop) (hp : frames_Table_Count.P p0tb p0to p1owner h R) : CallsH Try.prog 15 [.pointer (some ⟨p0tb, p0to, none⟩), .int .i64 p1owner] h R :=
  calls_of_body calls_ok Try.func15 (args := [.ptr p0tb p0to, .int .i64 p1owner]) (by rw [frames_Table_Count.eq]; exact hp)
/-! ### frames_Table_Owner: function 16 -/
def frames_Table_Owner.hints : Hints := { loops := [], cuts := [], orders := [] }
def frames_Table_Owner.P (p0tb p0to : Nat) (p1frame : Int) (h : Hp) (R : Value → Hp → Prop) : Prop :=
  CallsH Try.prog 27 [.pointer (some ⟨p0tb, p0to, none⟩), .int .i64 p1frame] h fun r1 h1 => ∃ there2 : Bool, r1 = .bool there2 ∧ ((!there2) = true → (R (.int .i64 (-1)) h1)) ∧ ((!there2) = false → (∃ ownersa3 : Option Addr, ∃ ownersl4 : Nat, ∃ ownersc5 : Nat, cellAt h1 p0tb p0to = some (.slice ownersa3 ownersl4 ownersc5) ∧
  (0 : Int) ≤ p1frame ∧ p1frame < ((ownersl4 : Nat) : Int) ∧ ∃ b6 : Nat, ∃ o7 : Nat, ownersa3 = some ⟨b6, o7, none⟩ ∧ ∃ x8 : Int, cellAt h1 b6 (o7 + p1frame.toNat * 1) = some (.int .i64 x8) ∧ R (.int .i64 x8) h1))
theorem frames_Table_Owner.eq (p0tb p0to : Nat) (p1frame : Int) (h : Hp) (R : Value → Hp → Prop) : evBody Try.prog calls frames_Table_Owner.hints Try.f16 [.ptr p0tb p0to, .int .i64 p1frame] h R = frames_Table_Owner.P p0tb p0to p1frame h R := by kernel_rfl
theorem frames_Table_Owner.calls (p0tb p0to : Nat) (p1frame : Int) (h : Hp) (R : Value → Hp → Prop) (hp : frames_Table_Owner.P p0tb p0to p1frame h R) : CallsH Try.prog 16 [.pointer (some ⟨p0tb, p0to, none⟩), .int .i64 p1frame] h R :=
  calls_of_body calls_ok Try.func16 (args := [.ptr p0tb p0to, .int .i64 p1frame]) (by rw [frames_Table_Owner.eq]; exact hp)
/-! ### warderlaw10_owners: function 17 -/
def warderlaw10_owners.hints : Hints := { loops := [(3, [0, 1], [(5, (.one .slice)), (6, (.one (.int .i64)))])], cuts := [], orders := [] }
def warderlaw10_owners.P (p0tb p0to : Nat) (p1n : Int) (h : Hp) (R : Value → Hp → Prop) : Prop :=
  ∀ h1 : Hp, h1 = new h (blk 3 []) → ∃ I1 : Option Addr → Nat → Nat → Int → Hp → Prop, ∃ m2 : Option Addr → Nat → Nat → Int → Hp → Nat, I1 (some ⟨sz h, 0, none⟩) 0 0 0 h1 ∧ ∀ outa3 : Option Addr, ∀ outl4 : Nat, ∀ outc5 : Nat, ∀ i6 : Int, ∀ h2 : Hp, I1 outa3 outl4 outc5 i6 h2 →
  ((decide (i6 < p1n)) = true → (CallsH Try.prog 16 [.pointer (some ⟨p0tb, p0to, none⟩), .int .i64 i6] h2 fun r7 h3 => ∃ Owner8 : Int, r7 = .int .i64 Owner8 ∧ ∀ h4 : Hp, h4 = new h3 (blk 3 [.int .i64 Owner8]) →
  appendN h4 3 1 8 [.int .i64 0] outa3 outl4 outc5 (some ⟨sz h3, 0, none⟩) 1 fun a9 l10 c11 h5 => I1 a9 l10 c11 (IntKind.wrap .i64 (i6 + 1)) h5 ∧ m2 a9 l10 c11 (IntKind.wrap .i64 (i6 + 1)) h5 < m2 outa3 outl4 outc5 i6 h2)) ∧
  ((decide (i6 < p1n)) = false → (R (.slice outa3 outl4 outc5) h2))
theorem warderlaw10_owners.eq (p0tb p0to : Nat) (p1n : Int) (h : Hp) (R : Value → Hp → Prop) : evBody Try.prog calls warderlaw10_owners.hints Try.f17 [.ptr p0tb p0to, .int .i64 p1n] h R = warderlaw10_owners.P p0tb p0to p1n h R := by kernel_rfl
theorem warderlaw10_owners.calls (p0tb p0to : Nat) (p1n : Int) (h : Hp) (R : Value → Hp → Prop) (hp : warderlaw10_owners.P p0tb p0to p1n h R) : CallsH Try.prog 17 [.pointer (some ⟨p0tb, p0to, none⟩), .int .i64 p1n] h R :=
  calls_of_body calls_ok Try.func17 (args := [.ptr p0tb p0to, .int .i64 p1n]) (by rw [warderlaw10_owners.eq]; exact hp)
/-! ### frames_Table_Take: function 18 -/
def frames_Table_Take.hints : Hints := { loops := [], cuts := [], orders := [] }
def frames_Table_Take.P (p0tb p0to : Nat) (p1owner : Int) (h : Hp) (R : Value → Hp → Prop) : Prop :=
  CallsH Try.prog 28 [.pointer (some ⟨p0tb, p0to, none⟩), .int .i64 p1owner, .int .i64 1] h fun r1 h1 => ∃ take2 : Int, ∃ take3 : Int, r1 = .tuple #[.int .i64 take2, .int .i64 take3] ∧ R (.tuple #[.int .i64 take2, .int .i64 take3]) h1
theorem frames_Table_Take.eq (p0tb p0to : Nat) (p1owner : Int) (h : Hp) (R : Value → Hp → Prop) : evBody Try.prog calls frames_Table_Take.hints Try.f18 [.ptr p0tb p0to, .int .i64 p1owner] h R = frames_Table_Take.P p0tb p0to p1owner h R := by kernel_rfl
theorem frames_Table_Take.calls (p0tb p0to : Nat) (p1owner : Int) (h : Hp) (R : Value → Hp → Prop) (hp : frames_Table_Take.P p0tb p0to p1owner h R) : CallsH Try.prog 18 [.pointer (some ⟨p0tb, p0to, none⟩), .int .i64 p1owner] h R :=
  calls_of_body calls_ok Try.func18 (args := [.ptr p0tb p0to, .int .i64 p1owner]) (by rw [frames_Table_Take.eq]; exact hp)
/-! ### frames_Table_TakeRun: function 19 -/
def frames_Table_TakeRun.hints : Hints := { loops := [], cuts := [], orders := [] }
def frames_Table_TakeRun.P (p0tb p0to : Nat) (p1owner : Int) (h : Hp) (R : Value → Hp → Prop) : Prop :=
  CallsH Try.prog 28 [.pointer (some ⟨p0tb, p0to, none⟩), .int .i64 p1owner, .int .i64 64] h fun r1 h1 => ∃ take2 : Int, ∃ take3 : Int, r1 = .tuple #[.int .i64 take2, .int .i64 take3] ∧ R (.tuple #[.int .i64 take2, .int .i64 take3]) h1
theorem frames_Table_TakeRun.eq (p0tb p0to : Nat) (p1owner : Int) (h : Hp) (R : Value → Hp → Prop) : evBody Try.prog calls frames_Table_TakeRun.hints Try.f19 [.ptr p0tb p0to, .int .i64 p1owner] h R = frames_Table_TakeRun.P p0tb p0to p1owner h R := by kernel_rfl
theorem frames_Table_TakeRun.calls (p0tb p0to : Nat) (p1owner : Int) (h : Hp) (R : Value → Hp → Prop) (hp : frames_Table_TakeRun.P p0tb p0to p1owner h R) : CallsH Try.prog 19 [.pointer (some ⟨p0tb, p0to, none⟩), .int .i64 p1owner] h R :=
  calls_of_body calls_ok Try.func19 (args := [.ptr p0tb p0to, .int .i64 p1owner]) (by rw [frames_Table_TakeRun.eq]; exact hp)
/-! ### frames_Table_Give: function 20 -/
def frames_Table_Give.hints : Hints := { loops := [], cuts := [], orders := [] }
def frames_Table_Give.P (p0tb p0to : Nat) (p1owner : Int) (p2frame : Int) (h : Hp) (R : Value → Hp → Prop) : Prop :=
  CallsH Try.prog 29 [.pointer (some ⟨p0tb, p0to, none⟩), .int .i64 p2frame, .int .i64 p1owner, .int .i64 0] h fun r1 h1 => ∃ move2 : Int, r1 = .int .i64 move2 ∧ R (.int .i64 move2) h1
theorem frames_Table_Give.eq (p0tb p0to : Nat) (p1owner : Int) (p2frame : Int) (h : Hp) (R : Value → Hp → Prop) : evBody Try.prog calls frames_Table_Give.hints Try.f20 [.ptr p0tb p0to, .int .i64 p1owner, .int .i64 p2frame] h R = frames_Table_Give.P p0tb p0to p1owner p2frame h R := by kernel_rfl
theorem frames_Table_Give.calls (p0tb p0to : Nat) (p1owner : Int) (p2frame : Int) (h : Hp) (R : Value → Hp → Prop) (hp : frames_Table_Give.P p0tb p0to p1owner p2frame h R) : CallsH Try.prog 20 [.pointer (some ⟨p0tb, p0to, none⟩), .int .i64 p1owner, .int .i64 p2frame] h R :=
  calls_of_body calls_ok Try.func20 (args := [.ptr p0tb p0to, .int .i64 p1owner, .int .i64 p2frame]) (by rw [frames_Table_Give.eq]; exact hp)
/-! ### frames_Table_Move: function 21 -/
def frames_Table_Move.hints : Hints := { loops := [], cuts := [], orders := [] }
def frames_Table_Move.P (p0tb p0to : Nat) (p1frame : Int) (p2from : Int) (p3to : Int) (h : Hp) (R : Value → Hp → Prop) : Prop :=
  CallsH Try.prog 26 [.int .i64 p3to] h fun r1 h1 => ∃ some2 : Bool, r1 = .bool some2 ∧ ((!some2) = true → (R (.int .i64 11) h1)) ∧ ((!some2) = false → (CallsH Try.prog 29 [.pointer (some ⟨p0tb, p0to, none⟩), .int .i64 p1frame, .int .i64 p2from, .int .i64 p3to] h1 fun r3 h2 => ∃ move4 : Int, r3 = .int .i64 move4 ∧
  R (.int .i64 move4) h2))
theorem frames_Table_Move.eq (p0tb p0to : Nat) (p1frame : Int) (p2from : Int) (p3to : Int) (h : Hp) (R : Value → Hp → Prop) : evBody Try.prog calls frames_Table_Move.hints Try.f21 [.ptr p0tb p0to, .int .i64 p1frame, .int .i64 p2from, .int .i64 p3to] h R = frames_Table_Move.P p0tb p0to p1frame p2from p3to h R := by kernel_rfl
theorem frames_Table_Move.calls (p0tb p0to : Nat) (p1frame : Int) (p2from : Int) (p3to : Int) (h : Hp) (R : Value → Hp → Prop) (hp : frames_Table_Move.P p0tb p0to p1frame p2from p3to h R) : CallsH Try.prog 21 [.pointer (some ⟨p0tb, p0to, none⟩), .int .i64 p1frame, .int .i64 p2from, .int .i64 p3to] h R :=
  calls_of_body calls_ok Try.func21 (args := [.ptr p0tb p0to, .int .i64 p1frame, .int .i64 p2from, .int .i64 p3to]) (by rw [frames_Table_Move.eq]; exact hp)
/-! ### frames_Table_GiveAll: function 22 -/
def frames_Table_GiveAll.hints : Hints := { loops := [(5, [0, 5, 14, 15], [(16, (.one (.int .i64)))])], cuts := [], orders := [] }
def frames_Table_GiveAll.P (p0tb p0to : Nat) (p1owner : Int) (h : Hp) (R : Value → Hp → Prop) : Prop :=
  CallsH Try.prog 26 [.int .i64 p1owner] h fun r1 h1 => ∃ some2 : Bool, r1 = .bool some2 ∧ ((!some2) = true → (R (.slice none 0 0) h1)) ∧ ((!some2) = false → (CallsH Try.prog 14 [.pointer (some ⟨p0tb, p0to, none⟩), .int .i64 p1owner] h1 fun r3 h2 => ∃ Lista4 : Option Addr, ∃ Listl5 : Nat, ∃ Listc6 : Nat, r3 = .slice Lista4 Listl5 Listc6 ∧
  ∃ I7 : Int → Hp → Prop, ∃ m8 : Int → Hp → Nat, I7 0 h2 ∧ ∀ x9 : Int, ∀ h3 : Hp, I7 x9 h3 → ((decide (x9 < ((Listl5 : Nat) : Int))) = true → ((0 : Int) ≤ x9 ∧ x9 < ((Listl5 : Nat) : Int) ∧ ∃ b10 : Nat, ∃ o11 : Nat, Lista4 = some ⟨b10, o11, none⟩ ∧
  ∃ x12 : Int, cellAt h3 b10 (o11 + x9.toNat * 1) = some (.int .i64 x12) ∧ CallsH Try.prog 30 [.pointer (some ⟨p0tb, p0to, none⟩), .int .i64 x12, .int .i64 0] h3 fun r13 h4 => r13 = .tuple #[] ∧ I7 (IntKind.wrap .i64 (x9 + 1)) h4 ∧
  m8 (IntKind.wrap .i64 (x9 + 1)) h4 < m8 x9 h3)) ∧ ((decide (x9 < ((Listl5 : Nat) : Int))) = false → (R (.slice Lista4 Listl5 Listc6) h3))))
theorem frames_Table_GiveAll.eq (p0tb p0to : Nat) (p1owner : Int) (h : Hp) (R : Value → Hp → Prop) : evBody Try.prog calls frames_Table_GiveAll.hints Try.f22 [.ptr p0tb p0to, .int .i64 p1owner] h R = frames_Table_GiveAll.P p0tb p0to p1owner h R := by kernel_rfl
theorem frames_Table_GiveAll.calls (p0tb p0to : Nat) (p1owner : Int) (h : Hp) (R : Value → Hp → Prop) (hp : frames_Table_GiveAll.P p0tb p0to p1owner h R) : CallsH Try.prog 22 [.pointer (some ⟨p0tb, p0to, none⟩), .int .i64 p1owner] h R :=
  calls_of_body calls_ok Try.func22 (args := [.ptr p0tb p0to, .int .i64 p1owner]) (by rw [frames_Table_GiveAll.eq]; exact hp)
/-! ### warderref10_Table_Take: function 23 -/
def warderref10_Table_Take.hints : Hints := { loops := [(4, [0, 1, 2], [(8, (.one (.int .i64)))]), (8, [0, 1, 2, 8], [(9, (.one .bool)), (10, (.one (.int .i64)))]), (13, [0, 1, 2, 8], [(11, (.one (.int .i64)))])], cuts := [], orders := [] }
def warderref10_Table_Take.P (p0tb p0to : Nat) (p1who : Int) (p2n : Int) (h : Hp) (R : Value → Hp → Prop) : Prop :=
  CallsH Try.prog 31 [.int .i64 p1who] h fun r1 h1 => ∃ owner2 : Bool, r1 = .bool owner2 ∧ ((!owner2) = true → (R (.tuple #[.int .i64 (-1), .int .i64 11]) h1)) ∧ ((!owner2) = false → (∃ I3 : Int → Hp →
  Prop, ∃ m4 : Int → Hp → Nat, I3 0 h1 ∧ ∀ atx5 : Int, ∀ h2 : Hp, I3 atx5 h2 → ∃ Ownersa6 : Option Addr, ∃ Ownersl7 : Nat, ∃ Ownersc8 : Nat, cellAt h2 p0tb p0to = some (.slice Ownersa6 Ownersl7 Ownersc8) ∧
  ((decide ((IntKind.wrap .i64 (atx5 + p2n)) ≤ ((Ownersl7 : Nat) : Int))) = true → (∃ I9 : Bool → Int → Hp → Prop, ∃ m10 : Bool → Int → Hp → Nat, I9 true 0 h2 ∧ ∀ free11 : Bool, ∀ i12 : Int, ∀ h3 : Hp, I9 free11 i12 h3 →
  ((decide (i12 < p2n)) = true → (((free11) = true → (∃ Ownersa13 : Option Addr, ∃ Ownersl14 : Nat, ∃ Ownersc15 : Nat, cellAt h3 p0tb p0to = some (.slice Ownersa13 Ownersl14 Ownersc15) ∧ (0 : Int) ≤ (IntKind.wrap .i64 (atx5 + i12)) ∧
  (IntKind.wrap .i64 (atx5 + i12)) < ((Ownersl14 : Nat) : Int) ∧ ∃ b16 : Nat, ∃ o17 : Nat, Ownersa13 = some ⟨b16, o17, none⟩ ∧ ∃ x18 : Int, cellAt h3 b16 (o17 + (IntKind.wrap .i64 (atx5 + i12)).toNat * 1) = some (.int .i64 x18) ∧
  I9 (x18 == 0) (IntKind.wrap .i64 (i12 + 1)) h3 ∧ m10 (x18 == 0) (IntKind.wrap .i64 (i12 + 1)) h3 < m10 free11 i12 h3)) ∧ ((free11) = false → (I9 false (IntKind.wrap .i64 (i12 + 1)) h3 ∧ m10 false (IntKind.wrap .i64 (i12 + 1)) h3 < m10 free11 i12 h3)))) ∧
  ((decide (i12 < p2n)) = false → (((free11) = true → (∃ I19 : Int → Hp → Prop, ∃ m20 : Int → Hp → Nat, I19 0 h3 ∧ ∀ i21 : Int, ∀ h4 : Hp, I19 i21 h4 → ((decide (i21 < p2n)) = true → (∃ Ownersa22 : Option Addr, ∃ Ownersl23 : Nat, ∃ Ownersc24 : Nat, cellAt h4 p0tb p0to = some (.slice Ownersa22 Ownersl23 Ownersc24) ∧
  (0 : Int) ≤ (IntKind.wrap .i64 (atx5 + i21)) ∧ (IntKind.wrap .i64 (atx5 + i21)) < ((Ownersl23 : Nat) : Int) ∧ ∃ b25 : Nat, ∃ o26 : Nat, Ownersa22 = some ⟨b25, o26, none⟩ ∧ truly true ∧ ∃ T27 : TypeId, ∃ l28 : List Value, bk h4 b25 = some (blk T27 l28) ∧
  (o26 + (IntKind.wrap .i64 (atx5 + i21)).toNat * 1) + 1 ≤ l28.length ∧ ∀ h5 : Hp, h5 = upd h4 b25 T27 (writeAt l28 (o26 + (IntKind.wrap .i64 (atx5 + i21)).toNat * 1) [.int .i64 p1who]) → I19 (IntKind.wrap .i64 (i21 + 1)) h5 ∧
  m20 (IntKind.wrap .i64 (i21 + 1)) h5 < m20 i21 h4)) ∧ ((decide (i21 < p2n)) = false → (R (.tuple #[.int .i64 atx5, .int .i64 0]) h4)))) ∧ ((free11) = false → (I3 (IntKind.wrap .i64 (atx5 + p2n)) h3 ∧
  m4 (IntKind.wrap .i64 (atx5 + p2n)) h3 < m4 atx5 h2)))))) ∧ ((decide ((IntKind.wrap .i64 (atx5 + p2n)) ≤ ((Ownersl7 : Nat) : Int))) = false → (R (.tuple #[.int .i64 (-1), .int .i64 15]) h2))))
theorem warderref10_Table_Take.eq (p0tb p0to : Nat) (p1who : Int) (p2n : Int) (h : Hp) (R : Value → Hp → Prop) : evBody Try.prog calls warderref10_Table_Take.hints Try.f23 [.ptr p0tb p0to, .int .i64 p1who, .int .i64 p2n] h R = warderref10_Table_Take.P p0tb p0to p1who p2n h R := by kernel_rfl
theorem warderref10_Table_Take.calls (p0tb p0to : Nat) (p1who : Int) (p2n : Int) (h : Hp) (R : Value → Hp → Prop) (hp : warderref10_Table_Take.P p0tb p0to p1who p2n h R) : CallsH Try.prog 23 [.pointer (some ⟨p0tb, p0to, none⟩), .int .i64 p1who, .int .i64 p2n] h R :=
  calls_of_body calls_ok Try.func23 (args := [.ptr p0tb p0to, .int .i64 p1who, .int .i64 p2n]) (by rw [warderref10_Table_Take.eq]; exact hp)
/-! ### warderref10_Table_Move: function 24 -/
def warderref10_Table_Move.hints : Hints := { loops := [], cuts := [(3, [0, 1, 2, 3], [])], orders := [] }
def warderref10_Table_Move.P (p0tb p0to : Nat) (p1frame : Int) (p2from : Int) (p3to : Int) (h : Hp) (R : Value → Hp → Prop) : Prop :=
  ∃ I1 : Hp → Prop, (((decide (p1frame < 0)) = true → (R (.int .i64 11) h)) ∧ ((decide (p1frame < 0)) = false → (∃ Ownersa2 : Option Addr, ∃ Ownersl3 : Nat, ∃ Ownersc4 : Nat, cellAt h p0tb p0to = some (.slice Ownersa2 Ownersl3 Ownersc4) ∧
  ((decide (p1frame ≥ ((Ownersl3 : Nat) : Int))) = true → (R (.int .i64 11) h)) ∧ ((decide (p1frame ≥ ((Ownersl3 : Nat) : Int))) = false → (CallsH Try.prog 31 [.int .i64 p2from] h fun r5 h1 => ∃ owner6 : Bool, r5 = .bool owner6 ∧
  ((!owner6) = true → (R (.int .i64 11) h1)) ∧ ((!owner6) = false → (((p3to != 0) = true → (CallsH Try.prog 31 [.int .i64 p3to] h1 fun r7 h2 => ∃ owner8 : Bool, r7 = .bool owner8 ∧ ((!owner8) = true →
  (R (.int .i64 11) h2)) ∧ ((!owner8) = false → (I1 h2)))) ∧ ((p3to != 0) = false → (I1 h1))))))))) ∧ ∀ h3 : Hp, I1 h3 → ∃ Ownersa9 : Option Addr, ∃ Ownersl10 : Nat, ∃ Ownersc11 : Nat, cellAt h3 p0tb p0to = some (.slice Ownersa9 Ownersl10 Ownersc11) ∧
  (0 : Int) ≤ p1frame ∧ p1frame < ((Ownersl10 : Nat) : Int) ∧ ∃ b12 : Nat, ∃ o13 : Nat, Ownersa9 = some ⟨b12, o13, none⟩ ∧ ∃ x14 : Int, cellAt h3 b12 (o13 + p1frame.toNat * 1) = some (.int .i64 x14) ∧
  ((x14 != p2from) = true → (R (.int .i64 16) h3)) ∧ ((x14 != p2from) = false → (∃ Ownersa15 : Option Addr, ∃ Ownersl16 : Nat, ∃ Ownersc17 : Nat, cellAt h3 p0tb p0to = some (.slice Ownersa15 Ownersl16 Ownersc17) ∧
  (0 : Int) ≤ p1frame ∧ p1frame < ((Ownersl16 : Nat) : Int) ∧ ∃ b18 : Nat, ∃ o19 : Nat, Ownersa15 = some ⟨b18, o19, none⟩ ∧ truly true ∧ ∃ T20 : TypeId, ∃ l21 : List Value, bk h3 b18 = some (blk T20 l21) ∧
  (o19 + p1frame.toNat * 1) + 1 ≤ l21.length ∧ ∀ h4 : Hp, h4 = upd h3 b18 T20 (writeAt l21 (o19 + p1frame.toNat * 1) [.int .i64 p3to]) → R (.int .i64 0) h4))
theorem warderref10_Table_Move.eq (p0tb p0to : Nat) (p1frame : Int) (p2from : Int) (p3to : Int) (h : Hp) (R : Value → Hp → Prop) : evBody Try.prog calls warderref10_Table_Move.hints Try.f24 [.ptr p0tb p0to, .int .i64 p1frame, .int .i64 p2from, .int .i64 p3to] h R = warderref10_Table_Move.P p0tb p0to p1frame p2from p3to h R := by kernel_rfl
theorem warderref10_Table_Move.calls (p0tb p0to : Nat) (p1frame : Int) (p2from : Int) (p3to : Int) (h : Hp) (R : Value → Hp → Prop) (hp : warderref10_Table_Move.P p0tb p0to p1frame p2from p3to h R) : CallsH Try.prog 24 [.pointer (some ⟨p0tb, p0to, none⟩), .int .i64 p1frame, .int .i64 p2from, .int .i64 p3to] h R :=
  calls_of_body calls_ok Try.func24 (args := [.ptr p0tb p0to, .int .i64 p1frame, .int .i64 p2from, .int .i64 p3to]) (by rw [warderref10_Table_Move.eq]; exact hp)
/-! ### slices_Clip: function 25 -/
def slices_Clip.hints : Hints := { loops := [], cuts := [], orders := [] }
def slices_Clip.P (p0sa : Option Addr) (p0sl : Nat) (p0sc : Nat) (h : Hp) (R : Value → Hp → Prop) : Prop :=
  ((true : Bool) = true → (true : Bool) = true) ∧ (0 : Int) ≤ (0 : Int) ∧ (0 : Int) ≤ ((p0sl : Nat) : Int) ∧ ((p0sl : Nat) : Int) ≤ ((p0sl : Nat) : Int) ∧ ((p0sl : Nat) : Int) ≤ ((p0sc : Nat) : Int) ∧
  R (.slice (sliceBase p0sa ((0 : Int)).toNat (((p0sl : Nat) : Int)).toNat 1) ((((p0sl : Nat) : Int)).toNat - ((0 : Int)).toNat) ((((p0sl : Nat) : Int)).toNat - ((0 : Int)).toNat)) h
theorem slices_Clip.eq (p0sa : Option Addr) (p0sl : Nat) (p0sc : Nat) (h : Hp) (R : Value → Hp → Prop) : evBody Try.prog calls slices_Clip.hints Try.f25 [.slice p0sa p0sl p0sc] h R = slices_Clip.P p0sa p0sl p0sc h R := by kernel_rfl
theorem slices_Clip.calls (p0sa : Option Addr) (p0sl : Nat) (p0sc : Nat) (h : Hp) (R : Value → Hp → Prop) (hp : slices_Clip.P p0sa p0sl p0sc h R) : CallsH Try.prog 25 [.slice p0sa p0sl p0sc] h R :=
  calls_of_body calls_ok Try.func25 (args := [.slice p0sa p0sl p0sc]) (by rw [slices_Clip.eq]; exact hp)
/-! ### frames_some: function 26 -/
def frames_some.hints : Hints := { loops := [], cuts := [], orders := [] }
def frames_some.P (p0owner : Int) (h : Hp) (R : Value → Hp → Prop) : Prop :=
  ((decide (p0owner ≥ 1)) = true → (R (.bool (decide (p0owner ≤ 9))) h)) ∧ ((decide (p0owner ≥ 1)) = false → (R (.bool false) h))
theorem frames_some.eq (p0owner : Int) (h : Hp) (R : Value → Hp → Prop) : evBody Try.prog calls frames_some.hints Try.f26 [.int .i64 p0owner] h R = frames_some.P p0owner h R := by kernel_rfl
theorem frames_some.calls (p0owner : Int) (h : Hp) (R : Value → Hp → Prop) (hp : frames_some.P p0owner h R) : CallsH Try.prog 26 [.int .i64 p0owner] h R :=
  calls_of_body calls_ok Try.func26 (args := [.int .i64 p0owner]) (by rw [frames_some.eq]; exact hp)
/-! ### frames_Table_there: function 27 -/
def frames_Table_there.hints : Hints := { loops := [], cuts := [], orders := [] }
def frames_Table_there.P (p0tb p0to : Nat) (p1frame : Int) (h : Hp) (R : Value → Hp → Prop) : Prop :=
  ((decide (p1frame ≥ 0)) = true → (∃ ownersa1 : Option Addr, ∃ ownersl2 : Nat, ∃ ownersc3 : Nat, cellAt h p0tb p0to = some (.slice ownersa1 ownersl2 ownersc3) ∧ R (.bool (decide (p1frame < ((ownersl2 : Nat) : Int)))) h)) ∧
  ((decide (p1frame ≥ 0)) = false → (R (.bool false) h))
theorem frames_Table_there.eq (p0tb p0to : Nat) (p1frame : Int) (h : Hp) (R : Value → Hp → Prop) : evBody Try.prog calls frames_Table_there.hints Try.f27 [.ptr p0tb p0to, .int .i64 p1frame] h R = frames_Table_there.P p0tb p0to p1frame h R := by kernel_rfl
theorem frames_Table_there.calls (p0tb p0to : Nat) (p1frame : Int) (h : Hp) (R : Value → Hp → Prop) (hp : frames_Table_there.P p0tb p0to p1frame h R) : CallsH Try.prog 27 [.pointer (some ⟨p0tb, p0to, none⟩), .int .i64 p1frame] h R :=
  calls_of_body calls_ok Try.func27 (args := [.ptr p0tb p0to, .int .i64 p1frame]) (by rw [frames_Table_there.eq]; exact hp)
/-! ### frames_Table_take: function 28 -/
def frames_Table_take.hints : Hints := { loops := [(4, [0, 1, 2], [(8, (.one (.int .i64)))]), (7, [0, 1, 2, 8, 35, 36], [(37, (.one (.int .i64)))]), (12, [0, 1, 8, 44], [(45, (.one (.int .i64)))])], cuts := [], orders := [] }
def frames_Table_take.P (p0tb p0to : Nat) (p1owner : Int) (p2n : Int) (h : Hp) (R : Value → Hp → Prop) : Prop :=
  CallsH Try.prog 26 [.int .i64 p1owner] h fun r1 h1 => ∃ some2 : Bool, r1 = .bool some2 ∧ ((!some2) = true → (R (.tuple #[.int .i64 (-1), .int .i64 11]) h1)) ∧ ((!some2) = false → (∃ I3 : Int → Hp → Prop, ∃ m4 : Int →
  Hp → Nat, I3 0 h1 ∧ ∀ atx5 : Int, ∀ h2 : Hp, I3 atx5 h2 → ∃ ownersa6 : Option Addr, ∃ ownersl7 : Nat, ∃ ownersc8 : Nat, cellAt h2 p0tb p0to = some (.slice ownersa6 ownersl7 ownersc8) ∧ ((decide ((IntKind.wrap .i64 (atx5 + p2n)) ≤ ((ownersl7 : Nat) : Int))) = true →
  (∃ ownersa9 : Option Addr, ∃ ownersl10 : Nat, ∃ ownersc11 : Nat, cellAt h2 p0tb p0to = some (.slice ownersa9 ownersl10 ownersc11) ∧ ((false : Bool) = true → (true : Bool) = true) ∧ (0 : Int) ≤ atx5 ∧
  atx5 ≤ (IntKind.wrap .i64 (atx5 + p2n)) ∧ (IntKind.wrap .i64 (atx5 + p2n)) ≤ ((ownersc11 : Nat) : Int) ∧ ((ownersc11 : Nat) : Int) ≤ ((ownersc11 : Nat) : Int) ∧ ∃ I12 : Int → Hp → Prop, ∃ m13 : Int →
  Hp → Nat, I12 0 h2 ∧ ∀ x14 : Int, ∀ h3 : Hp, I12 x14 h3 → ((decide (x14 < ((((IntKind.wrap .i64 (atx5 + p2n))).toNat - (atx5).toNat : Nat) : Int))) = true → ((0 : Int) ≤ x14 ∧ x14 < ((((IntKind.wrap .i64 (atx5 + p2n))).toNat - (atx5).toNat : Nat) : Int) ∧
  ∃ b15 : Nat, ∃ o16 : Nat, sliceBase ownersa9 (atx5).toNat (((ownersc11 : Nat) : Int)).toNat 1 = some ⟨b15, o16, none⟩ ∧ ∃ x17 : Int, cellAt h3 b15 (o16 + x14.toNat * 1) = some (.int .i64 x17) ∧ ((x17 != 0) = true →
  (I3 (IntKind.wrap .i64 (atx5 + p2n)) h3 ∧ m4 (IntKind.wrap .i64 (atx5 + p2n)) h3 < m4 atx5 h2)) ∧ ((x17 != 0) = false → (I12 (IntKind.wrap .i64 (x14 + 1)) h3 ∧ m13 (IntKind.wrap .i64 (x14 + 1)) h3 < m13 x14 h3)))) ∧
  ((decide (x14 < ((((IntKind.wrap .i64 (atx5 + p2n))).toNat - (atx5).toNat : Nat) : Int))) = false → (∃ I18 : Int → Hp → Prop, ∃ m19 : Int → Hp → Nat, I18 0 h3 ∧ ∀ x20 : Int, ∀ h4 : Hp, I18 x20 h4 → ((decide (x20 < p2n)) = true →
  (CallsH Try.prog 30 [.pointer (some ⟨p0tb, p0to, none⟩), .int .i64 (IntKind.wrap .i64 (atx5 + x20)), .int .i64 p1owner] h4 fun r21 h5 => r21 = .tuple #[] ∧ I18 (IntKind.wrap .i64 (x20 + 1)) h5 ∧ m19 (IntKind.wrap .i64 (x20 + 1)) h5 < m19 x20 h4)) ∧
  ((decide (x20 < p2n)) = false → (R (.tuple #[.int .i64 atx5, .int .i64 0]) h4)))))) ∧ ((decide ((IntKind.wrap .i64 (atx5 + p2n)) ≤ ((ownersl7 : Nat) : Int))) = false → (R (.tuple #[.int .i64 (-1), .int .i64 15]) h2))))
theorem frames_Table_take.eq (p0tb p0to : Nat) (p1owner : Int) (p2n : Int) (h : Hp) (R : Value → Hp → Prop) : evBody Try.prog calls frames_Table_take.hints Try.f28 [.ptr p0tb p0to, .int .i64 p1owner, .int .i64 p2n] h R = frames_Table_take.P p0tb p0to p1owner p2n h R := by kernel_rfl
theorem frames_Table_take.calls (p0tb p0to : Nat) (p1owner : Int) (p2n : Int) (h : Hp) (R : Value → Hp → Prop) (hp : frames_Table_take.P p0tb p0to p1owner p2n h R) : CallsH Try.prog 28 [.pointer (some ⟨p0tb, p0to, none⟩), .int .i64 p1owner, .int .i64 p2n] h R :=
  calls_of_body calls_ok Try.func28 (args := [.ptr p0tb p0to, .int .i64 p1owner, .int .i64 p2n]) (by rw [frames_Table_take.eq]; exact hp)
/-! ### frames_Table_move: function 29 -/
def frames_Table_move.hints : Hints := { loops := [], cuts := [(2, [0, 1, 2, 3], [(9, (.one .bool))])], orders := [] }
def frames_Table_move.P (p0tb p0to : Nat) (p1frame : Int) (p2from : Int) (p3to : Int) (h : Hp) (R : Value → Hp → Prop) : Prop :=
  ∃ I1 : Bool → Hp → Prop, (CallsH Try.prog 27 [.pointer (some ⟨p0tb, p0to, none⟩), .int .i64 p1frame] h fun r2 h1 => ∃ there3 : Bool, r2 = .bool there3 ∧ ((!there3) = true → (I1 true h1)) ∧ ((!there3) = false →
  (CallsH Try.prog 26 [.int .i64 p2from] h1 fun r4 h2 => ∃ some5 : Bool, r4 = .bool some5 ∧ I1 (!some5) h2))) ∧ ∀ x6 : Bool, ∀ h3 : Hp, I1 x6 h3 → ((x6) = true → (R (.int .i64 11) h3)) ∧ ((x6) = false →
  (∃ ownersa7 : Option Addr, ∃ ownersl8 : Nat, ∃ ownersc9 : Nat, cellAt h3 p0tb p0to = some (.slice ownersa7 ownersl8 ownersc9) ∧ (0 : Int) ≤ p1frame ∧ p1frame < ((ownersl8 : Nat) : Int) ∧ ∃ b10 : Nat, ∃ o11 : Nat, ownersa7 = some ⟨b10, o11, none⟩ ∧
  ∃ x12 : Int, cellAt h3 b10 (o11 + p1frame.toNat * 1) = some (.int .i64 x12) ∧ ((x12 != p2from) = true → (R (.int .i64 16) h3)) ∧ ((x12 != p2from) = false → (CallsH Try.prog 30 [.pointer (some ⟨p0tb, p0to, none⟩), .int .i64 p1frame, .int .i64 p3to] h3 fun r13 h4 => r13 = .tuple #[] ∧
  R (.int .i64 0) h4))))
theorem frames_Table_move.eq (p0tb p0to : Nat) (p1frame : Int) (p2from : Int) (p3to : Int) (h : Hp) (R : Value → Hp → Prop) : evBody Try.prog calls frames_Table_move.hints Try.f29 [.ptr p0tb p0to, .int .i64 p1frame, .int .i64 p2from, .int .i64 p3to] h R = frames_Table_move.P p0tb p0to p1frame p2from p3to h R := by kernel_rfl
theorem frames_Table_move.calls (p0tb p0to : Nat) (p1frame : Int) (p2from : Int) (p3to : Int) (h : Hp) (R : Value → Hp → Prop) (hp : frames_Table_move.P p0tb p0to p1frame p2from p3to h R) : CallsH Try.prog 29 [.pointer (some ⟨p0tb, p0to, none⟩), .int .i64 p1frame, .int .i64 p2from, .int .i64 p3to] h R :=
  calls_of_body calls_ok Try.func29 (args := [.ptr p0tb p0to, .int .i64 p1frame, .int .i64 p2from, .int .i64 p3to]) (by rw [frames_Table_move.eq]; exact hp)
/-! ### frames_Table_set: function 30 -/
def frames_Table_set.hints : Hints := { loops := [], cuts := [], orders := [(0, [0, 0, 2, 6, 14, 0, 62, 126, 1, 257, 1023, 2047, 4095, 1, 8193, 32767, 65535], [0, 1, 2, 3, 4, 5, 6, 7, 8, 9, 10, 11, 12, 13, 14, 15, 16]), (1, [0, 0, 1, 5, 15, 31, 63, 1, 129, 511, 1023], [0, 1, 2, 3, 4, 5, 6, 7, 8, 9, 10])] }
def frames_Table_set.P (p0tb p0to : Nat) (p1frame : Int) (p2owner : Int) (h : Hp) (R : Value → Hp → Prop) : Prop :=
  ∃ ownersa1 : Option Addr, ∃ ownersl2 : Nat, ∃ ownersc3 : Nat, cellAt h p0tb p0to = some (.slice ownersa1 ownersl2 ownersc3) ∧ (0 : Int) ≤ p1frame ∧ p1frame < ((ownersl2 : Nat) : Int) ∧ ∃ b4 : Nat, ∃ o5 : Nat, ownersa1 = some ⟨b4, o5, none⟩ ∧
  ∃ x6 : Int, cellAt h b4 (o5 + p1frame.toNat * 1) = some (.int .i64 x6) ∧ (0 : Int) ≤ x6 ∧ x6 < ((10 : Nat) : Int) ∧ ∃ x7 : Int, cellAt h p0tb (p0to + 1 + x6.toNat * 1) = some (.int .i64 x7) ∧ (0 : Int) ≤ x6 ∧
  x6 < ((10 : Nat) : Int) ∧ truly true ∧ ∃ T8 : TypeId, ∃ l9 : List Value, bk h p0tb = some (blk T8 l9) ∧ (p0to + 1 + x6.toNat * 1) + 1 ≤ l9.length ∧ ∀ h1 : Hp, h1 = upd h p0tb T8 (writeAt l9 (p0to + 1 + x6.toNat * 1) [.int .i64 (IntKind.wrap .i64 (x7 - 1))]) →
  (0 : Int) ≤ p2owner ∧ p2owner < ((10 : Nat) : Int) ∧ ∃ x10 : Int, cellAt h1 p0tb (p0to + 1 + p2owner.toNat * 1) = some (.int .i64 x10) ∧ (0 : Int) ≤ p2owner ∧ p2owner < ((10 : Nat) : Int) ∧ truly true ∧
  ∃ T11 : TypeId, ∃ l12 : List Value, bk h1 p0tb = some (blk T11 l12) ∧ (p0to + 1 + p2owner.toNat * 1) + 1 ≤ l12.length ∧ ∀ h2 : Hp, h2 = upd h1 p0tb T11 (writeAt l12 (p0to + 1 + p2owner.toNat * 1) [.int .i64 (IntKind.wrap .i64 (x10 + 1))]) →
  ∃ ownersa13 : Option Addr, ∃ ownersl14 : Nat, ∃ ownersc15 : Nat, cellAt h2 p0tb p0to = some (.slice ownersa13 ownersl14 ownersc15) ∧ (0 : Int) ≤ p1frame ∧ p1frame < ((ownersl14 : Nat) : Int) ∧ ∃ b16 : Nat, ∃ o17 : Nat, ownersa13 = some ⟨b16, o17, none⟩ ∧
  truly true ∧ ∃ T18 : TypeId, ∃ l19 : List Value, bk h2 b16 = some (blk T18 l19) ∧ (o17 + p1frame.toNat * 1) + 1 ≤ l19.length ∧ ∀ h3 : Hp, h3 = upd h2 b16 T18 (writeAt l19 (o17 + p1frame.toNat * 1) [.int .i64 p2owner]) →
  R (.tuple #[]) h3
theorem frames_Table_set.eq (p0tb p0to : Nat) (p1frame : Int) (p2owner : Int) (h : Hp) (R : Value → Hp → Prop) : evBody Try.prog calls frames_Table_set.hints Try.f30 [.ptr p0tb p0to, .int .i64 p1frame, .int .i64 p2owner] h R = frames_Table_set.P p0tb p0to p1frame p2owner h R := by kernel_rfl
theorem frames_Table_set.calls (p0tb p0to : Nat) (p1frame : Int) (p2owner : Int) (h : Hp) (R : Value → Hp → Prop) (hp : frames_Table_set.P p0tb p0to p1frame p2owner h R) : CallsH Try.prog 30 [.pointer (some ⟨p0tb, p0to, none⟩), .int .i64 p1frame, .int .i64 p2owner] h R :=
  calls_of_body calls_ok Try.func30 (args := [.ptr p0tb p0to, .int .i64 p1frame, .int .i64 p2owner]) (by rw [frames_Table_set.eq]; exact hp)
/-! ### warderref10_owner: function 31 -/
def warderref10_owner.hints : Hints := { loops := [], cuts := [], orders := [] }
def warderref10_owner.P (p0n : Int) (h : Hp) (R : Value → Hp → Prop) : Prop :=
  ((decide (p0n ≥ 1)) = true → (R (.bool (decide (p0n ≤ 9))) h)) ∧ ((decide (p0n ≥ 1)) = false → (R (.bool false) h))
theorem warderref10_owner.eq (p0n : Int) (h : Hp) (R : Value → Hp → Prop) : evBody Try.prog calls warderref10_owner.hints Try.f31 [.int .i64 p0n] h R = warderref10_owner.P p0n h R := by kernel_rfl
theorem warderref10_owner.calls (p0n : Int) (h : Hp) (R : Value → Hp → Prop) (hp : warderref10_owner.P p0n h R) : CallsH Try.prog 31 [.int .i64 p0n] h R :=
  calls_of_body calls_ok Try.func31 (args := [.int .i64 p0n]) (by rw [warderref10_owner.eq]; exact hp)
end Go.Proofs.Ytafnhohibpmlaaa
