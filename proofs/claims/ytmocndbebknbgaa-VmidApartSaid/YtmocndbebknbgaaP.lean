/-
  Printed by this repo's own wip/tools/pr.py: what each function owes, as a proposition over heaps, read out of its body by the core.
-/
import Derived.Test.YtmocndbebknbgaaProg
import Derived.Test.YtmocndbebknbgaaWdFn
import Derived.KernelRfl
namespace Go.Proofs.Ytmocndbebknbgaa
open Go Go.Wd
set_option linter.unusedVariables false
set_option maxRecDepth 100000
def calls : Known := ⟨fun f => [7, 8, 9, 10, 11, 12, 13, 14, 15, 16, 17, 18, 19, 20, 21, 22, 23, 24, 27].any (Nat.beq f), fun f => [].any (Nat.beq f)⟩
theorem calls_ok : CallsOk Try.prog calls := by
  intro f hf
  simp only [calls, List.any_cons, List.any_nil, Bool.or_eq_true, Bool.or_false] at hf
  rcases hf with hf | hf | hf | hf | hf | hf | hf | hf | hf | hf | hf | hf | hf | hf | hf | hf | hf | hf | hf
  · obtain rfl := Nat.eq_of_beq_eq_true hf; exact Try.call7
  · obtain rfl := Nat.eq_of_beq_eq_true hf; exact Try.call8
  · obtain rfl := Nat.eq_of_beq_eq_true hf; exact Try.call9
  · obtain rfl := Nat.eq_of_beq_eq_true hf; exact Try.call10
  · obtain rfl := Nat.eq_of_beq_eq_true hf; exact Try.call11
  · obtain rfl := Nat.eq_of_beq_eq_true hf; exact Try.call12
  · obtain rfl := Nat.eq_of_beq_eq_true hf; exact Try.call13
  · obtain rfl := Nat.eq_of_beq_eq_true hf; exact Try.call14
  · obtain rfl := Nat.eq_of_beq_eq_true hf; exact Try.call15
  · obtain rfl := Nat.eq_of_beq_eq_true hf; exact Try.call16
  · obtain rfl := Nat.eq_of_beq_eq_true hf; exact Try.call17
  · obtain rfl := Nat.eq_of_beq_eq_true hf; exact Try.call18
  · obtain rfl := Nat.eq_of_beq_eq_true hf; exact Try.call19
  · obtain rfl := Nat.eq_of_beq_eq_true hf; exact Try.call20
  · obtain rfl := Nat.eq_of_beq_eq_true hf; exact Try.call21
  · obtain rfl := Nat.eq_of_beq_eq_true hf; exact Try.call22
  · obtain rfl := Nat.eq_of_beq_eq_true hf; exact Try.call23
  · obtain rfl := Nat.eq_of_beq_eq_true hf; exact Try.call24
  · obtain rfl := Nat.eq_of_beq_eq_true hf; exact Try.call27
/-! ### warderlaw13_VmidCalls: function 3 -/
def warderlaw13_VmidCalls.hints : Hints := { loops := [(12, [0, 1, 2, 7, 9], [(10, (.one (.int .i64)))]), (31, [0, 1, 2, 7, 9, 10, 15], [(16, (.one .slice)), (17, (.one (.int .i64)))])], cuts := [(8, [0, 1, 2, 7, 8], []), (10, [0, 1, 2, 7], []), (26, [0, 1, 2, 7, 9, 10], []), (28, [0, 1, 2, 7, 9, 10, 15], [(109, (.one .bool))]), (29, [0, 1, 2, 7, 9, 10], [(15, (.one (.int .i64)))])], orders := [(21, [0, 0, 0, 6, 14, 30, 63, 0, 0, 0, 768, 1792, 3840, 8191, 16383], (.leaf [0, 1, 2, 3, 4, 5, 7, 8, 9, 10, 11, 12, 6, 13, 14]))] }
def warderlaw13_VmidCalls.P (p0most : Int) (p1callsa : Option Addr) (p1callsl : Nat) (p1callsc : Nat) (p2n : Int) (h : Hp) (R : Value → Hp → Prop) : Prop :=
  CallsH Try.prog 7 [] h fun r1 h1 => ∃ alive2 : Bool, r1 = .bool alive2 ∧ ((!alive2) = true → (R (.bool false) h1)) ∧ ((!alive2) = false → (((decide (((p1callsl : Nat) : Int) > 300)) = true → (R (.bool true) h1)) ∧
  ((decide (((p1callsl : Nat) : Int) > 300)) = false → (CallsH Try.prog 8 [.int .i64 p0most] h1 fun r3 h2 => ∃ New4 : Option Addr, ∃ New5 : Int, r3 = .tuple #[.pointer New4, .int .i64 New5] ∧ ∃ I6 : Hp →
  Prop, (((decide (p0most < 1)) = true → (((New5 == 11) = true → (R (.bool (notIf true New4.isNone)) h2)) ∧ ((New5 == 11) = false → (R (.bool false) h2)))) ∧ ((decide (p0most < 1)) = false → (((decide (p0most > 255)) = true →
  (((New5 == 11) = true → (R (.bool (notIf true New4.isNone)) h2)) ∧ ((New5 == 11) = false → (R (.bool false) h2)))) ∧ ((decide (p0most > 255)) = false → (I6 h2))))) ∧ ∀ h3 : Hp, I6 h3 → ∃ I7 : Hp → Prop, (((New5 != 0) = true →
  (R (.bool false) h3)) ∧ ((New5 != 0) = false → (((notIf true New4.isNone) = true → (R (.bool false) h3)) ∧ ((notIf true New4.isNone) = false → (I7 h3))))) ∧ ∀ h4 : Hp, I7 h4 → CallsH Try.prog 9 [.int .i64 p0most] h4 fun r8 h5 => ∃ New9 : Option Addr, r8 = .pointer New9 ∧
  ∃ I10 : Int → Hp → Prop, ∃ m11 : Int → Hp → Nat, I10 0 h5 ∧ ∀ i12 : Int, ∀ h6 : Hp, I10 i12 h6 → ((decide (i12 < ((p1callsl : Nat) : Int))) = true → (∃ I13 : Hp → Prop, ((0 : Int) ≤ i12 ∧ i12 < ((p1callsl : Nat) : Int) ∧
  ∃ b14 : Nat, ∃ o15 : Nat, (p1callsa : Option Addr) = some ⟨b14, o15, none⟩ ∧ ∃ What16 : Int, cellAt h6 b14 (o15 + i12.toNat * 2) = some (.int .i64 What16) ∧ ((What16 == 0) = true → (CallsH Try.prog 10 [.pointer New4] h6 fun r17 h7 => ∃ Take18 : Int, ∃ Take19 : Int, r17 = .tuple #[.int .i64 Take18, .int .i64 Take19] ∧
  CallsH Try.prog 11 [.pointer New9] h7 fun r20 h8 => ∃ Take21 : Int, ∃ Take22 : Int, r20 = .tuple #[.int .i64 Take21, .int .i64 Take22] ∧ ((Take18 != Take21) = true → (R (.bool false) h8)) ∧ ((Take18 != Take21) = false →
  (((Take19 != Take22) = true → (R (.bool false) h8)) ∧ ((Take19 != Take22) = false → (I13 h8)))))) ∧ ((What16 == 0) = false → (((What16 == 1) = true → ((0 : Int) ≤ i12 ∧ i12 < ((p1callsl : Nat) : Int) ∧
  ∃ b23 : Nat, ∃ o24 : Nat, (p1callsa : Option Addr) = some ⟨b23, o24, none⟩ ∧ ∃ N25 : Int, cellAt h6 b23 (o24 + i12.toNat * 2 + 1) = some (.int .i64 N25) ∧ (0 : Int) ≤ i12 ∧ i12 < ((p1callsl : Nat) : Int) ∧
  ∃ b26 : Nat, ∃ o27 : Nat, (p1callsa : Option Addr) = some ⟨b26, o27, none⟩ ∧ ∃ N28 : Int, cellAt h6 b26 (o27 + i12.toNat * 2 + 1) = some (.int .i64 N28) ∧ CallsH Try.prog 12 [.pointer New4, .int .i64 N25] h6 fun r29 h9 => ∃ Give30 : Int, r29 = .int .i64 Give30 ∧
  cellAt h9 b26 (o27 + i12.toNat * 2 + 1) = some (.int .i64 N28) ∧ CallsH Try.prog 13 [.pointer New9, .int .i64 N28] h9 fun r31 h10 => ∃ Give32 : Int, r31 = .int .i64 Give32 ∧ ((Give30 != Give32) = true →
  (R (.bool false) h10)) ∧ ((Give30 != Give32) = false → (I13 h10)))) ∧ ((What16 == 1) = false → (((What16 == 2) = true → (CallsH Try.prog 14 [.pointer New4] h6 fun r33 h11 => ∃ Dropped34 : Int, r33 = .int .i64 Dropped34 ∧
  CallsH Try.prog 15 [.pointer New9] h11 fun r35 h12 => ∃ Dropped36 : Int, r35 = .int .i64 Dropped36 ∧ ((Dropped34 != Dropped36) = true → (R (.bool false) h12)) ∧ ((Dropped34 != Dropped36) = false → (I13 h12)))) ∧
  ((What16 == 2) = false → (I13 h6))))))) ∧ ∀ h13 : Hp, I13 h13 → ∃ I37 : Int → Hp → Prop, (∃ I38 : Bool → Hp → Prop, (((decide (p2n ≥ 1)) = true → (I38 (decide (p2n ≤ p0most)) h13)) ∧ ((decide (p2n ≥ 1)) = false →
  (I38 false h13))) ∧ ∀ x39 : Bool, ∀ h14 : Hp, I38 x39 h14 → ((x39) = true → (∃ b40 : Nat, ∃ o41 : Nat, New9 = some ⟨b40, o41, none⟩ ∧ ∃ Statesa42 : Option Addr, ∃ Statesl43 : Nat, ∃ Statesc44 : Nat, cellAt h14 b40 o41 = some (.slice Statesa42 Statesl43 Statesc44) ∧
  (0 : Int) ≤ (IntKind.wrap .i64 (p2n - 1)) ∧ (IntKind.wrap .i64 (p2n - 1)) < ((Statesl43 : Nat) : Int) ∧ ∃ b45 : Nat, ∃ o46 : Nat, (Statesa42 : Option Addr) = some ⟨b45, o46, none⟩ ∧ ∃ x47 : Int, cellAt h14 b45 (o46 + (IntKind.wrap .i64 (p2n - 1)).toNat * 1) = some (.int .i64 x47) ∧
  I37 x47 h14)) ∧ ((x39) = false → (I37 (-1) h14))) ∧ ∀ want48 : Int, ∀ h15 : Hp, I37 want48 h15 → ∀ h16 : Hp, h16 = new h15 (blk 3 []) → ∃ I49 : Option Addr → Nat → Nat → Int → Hp → Prop, ∃ m50 : Option Addr →
  Nat → Nat → Int → Hp → Nat, I49 (some ⟨sz h15, 0, none⟩) 0 0 0 h16 ∧ ∀ takena51 : Option Addr, ∀ takenl52 : Nat, ∀ takenc53 : Nat, ∀ k54 : Int, ∀ h17 : Hp, I49 takena51 takenl52 takenc53 k54 h17 → ((decide (k54 < p0most)) = true →
  (∃ b55 : Nat, ∃ o56 : Nat, New9 = some ⟨b55, o56, none⟩ ∧ ∃ Statesa57 : Option Addr, ∃ Statesl58 : Nat, ∃ Statesc59 : Nat, cellAt h17 b55 o56 = some (.slice Statesa57 Statesl58 Statesc59) ∧ (0 : Int) ≤ k54 ∧
  k54 < ((Statesl58 : Nat) : Int) ∧ ∃ b60 : Nat, ∃ o61 : Nat, (Statesa57 : Option Addr) = some ⟨b60, o61, none⟩ ∧ ∃ x62 : Int, cellAt h17 b60 (o61 + k54.toNat * 1) = some (.int .i64 x62) ∧ ((x62 == 1) = true →
  (∀ h18 : Hp, h18 = new h17 (blk 3 [.int .i64 (IntKind.wrap .i64 (k54 + 1))]) → appendN h18 3 1 8 [.int .i64 0] takena51 takenl52 takenc53 (some ⟨sz h17, 0, none⟩) 1 fun a63 l64 c65 h19 => I49 a63 l64 c65 (IntKind.wrap .i64 (k54 + 1)) h19 ∧
  m50 a63 l64 c65 (IntKind.wrap .i64 (k54 + 1)) h19 < m50 takena51 takenl52 takenc53 k54 h17)) ∧ ((x62 == 1) = false → (I49 takena51 takenl52 takenc53 (IntKind.wrap .i64 (k54 + 1)) h17 ∧ m50 takena51 takenl52 takenc53 (IntKind.wrap .i64 (k54 + 1)) h17 < m50 takena51 takenl52 takenc53 k54 h17)))) ∧
  ((decide (k54 < p0most)) = false → (CallsH Try.prog 16 [.pointer New4, .int .i64 p2n] h17 fun r66 h20 => ∃ State67 : Int, r66 = .int .i64 State67 ∧ ((State67 != want48) = true → (R (.bool false) h20)) ∧
  ((State67 != want48) = false → (CallsH Try.prog 18 [.pointer New4] h20 fun r68 h21 => ∃ Takena69 : Option Addr, ∃ Takenl70 : Nat, ∃ Takenc71 : Nat, r68 = .slice Takena69 Takenl70 Takenc71 ∧ CallsH Try.prog 17 [.slice Takena69 Takenl70 Takenc71, .slice takena51 takenl52 takenc53] h21 fun r72 h22 => ∃ SameInts73 : Bool, r72 = .bool SameInts73 ∧
  ((!SameInts73) = true → (R (.bool false) h22)) ∧ ((!SameInts73) = false → (I10 (IntKind.wrap .i64 (i12 + 1)) h22 ∧ m11 (IntKind.wrap .i64 (i12 + 1)) h22 < m11 i12 h6)))))))) ∧ ((decide (i12 < ((p1callsl : Nat) : Int))) = false →
  (R (.bool true) h6))))))
theorem warderlaw13_VmidCalls.eq (p0most : Int) (p1callsa : Option Addr) (p1callsl : Nat) (p1callsc : Nat) (p2n : Int) (h : Hp) (R : Value → Hp → Prop) : evBody Try.prog calls warderlaw13_VmidCalls.hints Try.f3 [.int .i64 p0most, .slice p1callsa p1callsl p1callsc, .int .i64 p2n] h R = warderlaw13_VmidCalls.P p0most p1callsa p1callsl p1callsc p2n h R := by kernel_rfl
theorem warderlaw13_VmidCalls.calls (p0most : Int) (p1callsa : Option Addr) (p1callsl : Nat) (p1callsc : Nat) (p2n : Int) (h : Hp) (R : Value → Hp → Prop) (hp : warderlaw13_VmidCalls.P p0most p1callsa p1callsl p1callsc p2n h R) : CallsH Try.prog 3 [.int .i64 p0most, .slice p1callsa p1callsl p1callsc, .int .i64 p2n] h R :=
  calls_of_body calls_ok Try.func3 (args := [.int .i64 p0most, .slice p1callsa p1callsl p1callsc, .int .i64 p2n]) (by rw [warderlaw13_VmidCalls.eq]; exact hp)
/-! ### warderlaw13_VmidAll: function 4 -/
def warderlaw13_VmidAll.hints : Hints := { loops := [(9, [0, 1, 5], [(7, (.one (.int .i64)))]), (16, [0, 1, 5], [(10, (.one (.int .i64))), (11, (.one (.int .i64)))]), (27, [5, 10], [(15, (.one (.int .i64)))])], cuts := [(5, [0, 1], []), (8, [0, 1, 5], []), (24, [0, 5, 10, 13], [(14, (.one (.int .i64)))]), (26, [5, 10], [])], orders := [] }
def warderlaw13_VmidAll.P (p0most : Int) (p1backa : Option Addr) (p1backl : Nat) (p1backc : Nat) (h : Hp) (R : Value → Hp → Prop) : Prop :=
  CallsH Try.prog 7 [] h fun r1 h1 => ∃ alive2 : Bool, r1 = .bool alive2 ∧ ((!alive2) = true → (R (.bool false) h1)) ∧ ((!alive2) = false → (∃ I3 : Hp → Prop, (((decide (p0most < 1)) = true → (R (.bool true) h1)) ∧
  ((decide (p0most < 1)) = false → (((decide (p0most > 255)) = true → (R (.bool true) h1)) ∧ ((decide (p0most > 255)) = false → (((decide (((p1backl : Nat) : Int) > 300)) = true → (R (.bool true) h1)) ∧
  ((decide (((p1backl : Nat) : Int) > 300)) = false → (I3 h1))))))) ∧ ∀ h2 : Hp, I3 h2 → CallsH Try.prog 8 [.int .i64 p0most] h2 fun r4 h3 => ∃ New5 : Option Addr, ∃ New6 : Int, r4 = .tuple #[.pointer New5, .int .i64 New6] ∧
  ∃ I7 : Hp → Prop, (((New6 != 0) = true → (R (.bool false) h3)) ∧ ((New6 != 0) = false → (((notIf true New5.isNone) = true → (R (.bool false) h3)) ∧ ((notIf true New5.isNone) = false → (I7 h3))))) ∧ ∀ h4 : Hp, I7 h4 →
  ∃ I8 : Int → Hp → Prop, ∃ m9 : Int → Hp → Nat, I8 1 h4 ∧ ∀ i10 : Int, ∀ h5 : Hp, I8 i10 h5 → ((decide (i10 ≤ p0most)) = true → (CallsH Try.prog 10 [.pointer New5] h5 fun r11 h6 => ∃ Take12 : Int, ∃ Take13 : Int, r11 = .tuple #[.int .i64 Take12, .int .i64 Take13] ∧
  ((Take13 != 0) = true → (R (.bool false) h6)) ∧ ((Take13 != 0) = false → (((Take12 != i10) = true → (R (.bool false) h6)) ∧ ((Take12 != i10) = false → (I8 (IntKind.wrap .i64 (i10 + 1)) h6 ∧ m9 (IntKind.wrap .i64 (i10 + 1)) h6 < m9 i10 h5)))))) ∧
  ((decide (i10 ≤ p0most)) = false → (∃ I14 : Int → Int → Hp → Prop, ∃ m15 : Int → Int → Hp → Nat, I14 0 0 h5 ∧ ∀ given16 : Int, ∀ i17 : Int, ∀ h7 : Hp, I14 given16 i17 h7 → ((decide (i17 < ((p1backl : Nat) : Int))) = true →
  ((0 : Int) ≤ i17 ∧ i17 < ((p1backl : Nat) : Int) ∧ ∃ b18 : Nat, ∃ o19 : Nat, (p1backa : Option Addr) = some ⟨b18, o19, none⟩ ∧ ∃ x20 : Int, cellAt h7 b18 (o19 + i17.toNat * 1) = some (.int .i64 x20) ∧
  CallsH Try.prog 12 [.pointer New5, .int .i64 x20] h7 fun r21 h8 => ∃ Give22 : Int, r21 = .int .i64 Give22 ∧ ((Give22 == 0) = true → (I14 (IntKind.wrap .i64 (given16 + 1)) (IntKind.wrap .i64 (i17 + 1)) h8 ∧
  m15 (IntKind.wrap .i64 (given16 + 1)) (IntKind.wrap .i64 (i17 + 1)) h8 < m15 given16 i17 h7)) ∧ ((Give22 == 0) = false → (I14 given16 (IntKind.wrap .i64 (i17 + 1)) h8 ∧ m15 given16 (IntKind.wrap .i64 (i17 + 1)) h8 < m15 given16 i17 h7)))) ∧
  ((decide (i17 < ((p1backl : Nat) : Int))) = false → (CallsH Try.prog 10 [.pointer New5] h7 fun r23 h9 => ∃ Take24 : Int, ∃ Take25 : Int, r23 = .tuple #[.int .i64 Take24, .int .i64 Take25] ∧ ∃ I26 : Int →
  Hp → Prop, (((decide (given16 > 0)) = true → (I26 17 h9)) ∧ ((decide (given16 > 0)) = false → (I26 15 h9))) ∧ ∀ want27 : Int, ∀ h10 : Hp, I26 want27 h10 → ∃ I28 : Hp → Prop, (((Take25 != want27) = true →
  (R (.bool false) h10)) ∧ ((Take25 != want27) = false → (CallsH Try.prog 18 [.pointer New5] h10 fun r29 h11 => ∃ Takena30 : Option Addr, ∃ Takenl31 : Nat, ∃ Takenc32 : Nat, r29 = .slice Takena30 Takenl31 Takenc32 ∧
  ((((Takenl31 : Nat) : Int) != (IntKind.wrap .i64 (p0most - given16))) = true → (R (.bool false) h11)) ∧ ((((Takenl31 : Nat) : Int) != (IntKind.wrap .i64 (p0most - given16))) = false → (CallsH Try.prog 14 [.pointer New5] h11 fun r33 h12 => ∃ Dropped34 : Int, r33 = .int .i64 Dropped34 ∧
  ((Dropped34 != given16) = true → (R (.bool false) h12)) ∧ ((Dropped34 != given16) = false → (I28 h12))))))) ∧ ∀ h13 : Hp, I28 h13 → ∃ I35 : Int → Hp → Prop, ∃ m36 : Int → Hp → Nat, I35 0 h13 ∧ ∀ i37 : Int, ∀ h14 : Hp, I35 i37 h14 →
  ((decide (i37 < given16)) = true → (CallsH Try.prog 10 [.pointer New5] h14 fun r38 h15 => ∃ Take39 : Int, ∃ Take40 : Int, r38 = .tuple #[.int .i64 Take39, .int .i64 Take40] ∧ ((Take40 != 0) = true →
  (R (.bool false) h15)) ∧ ((Take40 != 0) = false → (I35 (IntKind.wrap .i64 (i37 + 1)) h15 ∧ m36 (IntKind.wrap .i64 (i37 + 1)) h15 < m36 i37 h14)))) ∧ ((decide (i37 < given16)) = false → (CallsH Try.prog 10 [.pointer New5] h14 fun r41 h16 => ∃ Take42 : Int, ∃ Take43 : Int, r41 = .tuple #[.int .i64 Take42, .int .i64 Take43] ∧
  R (.bool (Take43 == 15)) h16))))))))
theorem warderlaw13_VmidAll.eq (p0most : Int) (p1backa : Option Addr) (p1backl : Nat) (p1backc : Nat) (h : Hp) (R : Value → Hp → Prop) : evBody Try.prog calls warderlaw13_VmidAll.hints Try.f4 [.int .i64 p0most, .slice p1backa p1backl p1backc] h R = warderlaw13_VmidAll.P p0most p1backa p1backl p1backc h R := by kernel_rfl
theorem warderlaw13_VmidAll.calls (p0most : Int) (p1backa : Option Addr) (p1backl : Nat) (p1backc : Nat) (h : Hp) (R : Value → Hp → Prop) (hp : warderlaw13_VmidAll.P p0most p1backa p1backl p1backc h R) : CallsH Try.prog 4 [.int .i64 p0most, .slice p1backa p1backl p1backc] h R :=
  calls_of_body calls_ok Try.func4 (args := [.int .i64 p0most, .slice p1backa p1backl p1backc]) (by rw [warderlaw13_VmidAll.eq]; exact hp)
/-! ### warderlaw13_VmidStale: function 5 -/
def warderlaw13_VmidStale.hints : Hints := { loops := [(9, [0, 1, 5], [(7, (.one (.int .i64)))]), (13, [0, 1, 5, 7], [(8, (.one .slice)), (9, (.one (.int .i64)))]), (24, [0, 1, 5, 7, 8], [(10, (.one (.int .i64)))])], cuts := [(5, [0, 1], []), (8, [0, 1, 5], []), (23, [0, 1, 5, 7, 8], [])], orders := [] }
def warderlaw13_VmidStale.P (p0most : Int) (p1callsa : Option Addr) (p1callsl : Nat) (p1callsc : Nat) (h : Hp) (R : Value → Hp → Prop) : Prop :=
  CallsH Try.prog 7 [] h fun r1 h1 => ∃ alive2 : Bool, r1 = .bool alive2 ∧ ((!alive2) = true → (R (.bool false) h1)) ∧ ((!alive2) = false → (∃ I3 : Hp → Prop, (((decide (((p1callsl : Nat) : Int) > 100)) = true →
  (R (.bool true) h1)) ∧ ((decide (((p1callsl : Nat) : Int) > 100)) = false → (((decide (p0most < 1)) = true → (R (.bool true) h1)) ∧ ((decide (p0most < 1)) = false → (((decide (p0most > 255)) = true →
  (R (.bool true) h1)) ∧ ((decide (p0most > 255)) = false → (I3 h1))))))) ∧ ∀ h2 : Hp, I3 h2 → CallsH Try.prog 8 [.int .i64 p0most] h2 fun r4 h3 => ∃ New5 : Option Addr, ∃ New6 : Int, r4 = .tuple #[.pointer New5, .int .i64 New6] ∧
  ∃ I7 : Hp → Prop, (((New6 != 0) = true → (R (.bool false) h3)) ∧ ((New6 != 0) = false → (((notIf true New5.isNone) = true → (R (.bool false) h3)) ∧ ((notIf true New5.isNone) = false → (I7 h3))))) ∧ ∀ h4 : Hp, I7 h4 →
  ∃ I8 : Int → Hp → Prop, ∃ m9 : Int → Hp → Nat, I8 0 h4 ∧ ∀ i10 : Int, ∀ h5 : Hp, I8 i10 h5 → ((decide (i10 < ((p1callsl : Nat) : Int))) = true → (∀ h6 : Hp, h6 = new h5 (blk 3 []) → ∃ I11 : Option Addr →
  Nat → Nat → Int → Hp → Prop, ∃ m12 : Option Addr → Nat → Nat → Int → Hp → Nat, I11 (some ⟨sz h5, 0, none⟩) 0 0 1 h6 ∧ ∀ beforea13 : Option Addr, ∀ beforel14 : Nat, ∀ beforec15 : Nat, ∀ n16 : Int, ∀ h7 : Hp, I11 beforea13 beforel14 beforec15 n16 h7 →
  ((decide (n16 ≤ p0most)) = true → (CallsH Try.prog 16 [.pointer New5, .int .i64 n16] h7 fun r17 h8 => ∃ State18 : Int, r17 = .int .i64 State18 ∧ ∀ h9 : Hp, h9 = new h8 (blk 3 [.int .i64 State18]) → appendN h9 3 1 8 [.int .i64 0] beforea13 beforel14 beforec15 (some ⟨sz h8, 0, none⟩) 1 fun a19 l20 c21 h10 => I11 a19 l20 c21 (IntKind.wrap .i64 (n16 + 1)) h10 ∧
  m12 a19 l20 c21 (IntKind.wrap .i64 (n16 + 1)) h10 < m12 beforea13 beforel14 beforec15 n16 h7)) ∧ ((decide (n16 ≤ p0most)) = false → (∃ I22 : Hp → Prop, ((0 : Int) ≤ i10 ∧ i10 < ((p1callsl : Nat) : Int) ∧
  ∃ b23 : Nat, ∃ o24 : Nat, (p1callsa : Option Addr) = some ⟨b23, o24, none⟩ ∧ ∃ What25 : Int, cellAt h7 b23 (o24 + i10.toNat * 2) = some (.int .i64 What25) ∧ ((What25 == 0) = true → (CallsH Try.prog 10 [.pointer New5] h7 fun r26 h11 => ∃ Take27 : Int, ∃ Take28 : Int, r26 = .tuple #[.int .i64 Take27, .int .i64 Take28] ∧
  I22 h11)) ∧ ((What25 == 0) = false → (((What25 == 1) = true → ((0 : Int) ≤ i10 ∧ i10 < ((p1callsl : Nat) : Int) ∧ ∃ b29 : Nat, ∃ o30 : Nat, (p1callsa : Option Addr) = some ⟨b29, o30, none⟩ ∧ ∃ N31 : Int, cellAt h7 b29 (o30 + i10.toNat * 2 + 1) = some (.int .i64 N31) ∧
  CallsH Try.prog 12 [.pointer New5, .int .i64 N31] h7 fun r32 h12 => ∃ Give33 : Int, r32 = .int .i64 Give33 ∧ I22 h12)) ∧ ((What25 == 1) = false → (((What25 == 2) = true → (CallsH Try.prog 14 [.pointer New5] h7 fun r34 h13 => ∃ Dropped35 : Int, r34 = .int .i64 Dropped35 ∧
  I22 h13)) ∧ ((What25 == 2) = false → (I22 h7))))))) ∧ ∀ h14 : Hp, I22 h14 → ∃ I36 : Int → Hp → Prop, ∃ m37 : Int → Hp → Nat, I36 1 h14 ∧ ∀ n38 : Int, ∀ h15 : Hp, I36 n38 h15 → ((decide (n38 ≤ p0most)) = true →
  ((0 : Int) ≤ (IntKind.wrap .i64 (n38 - 1)) ∧ (IntKind.wrap .i64 (n38 - 1)) < ((beforel14 : Nat) : Int) ∧ ∃ b39 : Nat, ∃ o40 : Nat, (beforea13 : Option Addr) = some ⟨b39, o40, none⟩ ∧ ∃ x41 : Int, cellAt h15 b39 (o40 + (IntKind.wrap .i64 (n38 - 1)).toNat * 1) = some (.int .i64 x41) ∧
  CallsH Try.prog 16 [.pointer New5, .int .i64 n38] h15 fun r42 h16 => ∃ State43 : Int, r42 = .int .i64 State43 ∧ ((decide (State43 < 0)) = true → (R (.bool false) h16)) ∧ ((decide (State43 < 0)) = false →
  (((decide (State43 > 2)) = true → (R (.bool false) h16)) ∧ ((decide (State43 > 2)) = false → (((State43 != x41) = true → ((0 : Int) ≤ i10 ∧ i10 < ((p1callsl : Nat) : Int) ∧ ∃ b44 : Nat, ∃ o45 : Nat, (p1callsa : Option Addr) = some ⟨b44, o45, none⟩ ∧
  ∃ What46 : Int, cellAt h16 b44 (o45 + i10.toNat * 2) = some (.int .i64 What46) ∧ ((decide (What46 < 0)) = true → (R (.bool false) h16)) ∧ ((decide (What46 < 0)) = false → ((0 : Int) ≤ i10 ∧ i10 < ((p1callsl : Nat) : Int) ∧
  ∃ b47 : Nat, ∃ o48 : Nat, (p1callsa : Option Addr) = some ⟨b47, o48, none⟩ ∧ ∃ What49 : Int, cellAt h16 b47 (o48 + i10.toNat * 2) = some (.int .i64 What49) ∧ ((decide (What49 > 2)) = true → (R (.bool false) h16)) ∧
  ((decide (What49 > 2)) = false → ((0 : Int) ≤ i10 ∧ i10 < ((p1callsl : Nat) : Int) ∧ ∃ b50 : Nat, ∃ o51 : Nat, (p1callsa : Option Addr) = some ⟨b50, o51, none⟩ ∧ ∃ What52 : Int, cellAt h16 b50 (o51 + i10.toNat * 2) = some (.int .i64 What52) ∧
  ((x41 != What52) = true → (R (.bool false) h16)) ∧ ((x41 != What52) = false → (3 ≠ (0 : Int) ∧ ((State43 != (Int.tmod (IntKind.wrap .i64 (x41 + 1)) 3)) = true → (R (.bool false) h16)) ∧ ((State43 != (Int.tmod (IntKind.wrap .i64 (x41 + 1)) 3)) = false →
  (I36 (IntKind.wrap .i64 (n38 + 1)) h16 ∧ m37 (IntKind.wrap .i64 (n38 + 1)) h16 < m37 n38 h15)))))))))) ∧ ((State43 != x41) = false → (I36 (IntKind.wrap .i64 (n38 + 1)) h16 ∧ m37 (IntKind.wrap .i64 (n38 + 1)) h16 < m37 n38 h15)))))))) ∧
  ((decide (n38 ≤ p0most)) = false → (I8 (IntKind.wrap .i64 (i10 + 1)) h15 ∧ m9 (IntKind.wrap .i64 (i10 + 1)) h15 < m9 i10 h5)))))) ∧ ((decide (i10 < ((p1callsl : Nat) : Int))) = false → (R (.bool true) h5))))
theorem warderlaw13_VmidStale.eq (p0most : Int) (p1callsa : Option Addr) (p1callsl : Nat) (p1callsc : Nat) (h : Hp) (R : Value → Hp → Prop) : evBody Try.prog calls warderlaw13_VmidStale.hints Try.f5 [.int .i64 p0most, .slice p1callsa p1callsl p1callsc] h R = warderlaw13_VmidStale.P p0most p1callsa p1callsl p1callsc h R := by kernel_rfl
theorem warderlaw13_VmidStale.calls (p0most : Int) (p1callsa : Option Addr) (p1callsl : Nat) (p1callsc : Nat) (h : Hp) (R : Value → Hp → Prop) (hp : warderlaw13_VmidStale.P p0most p1callsa p1callsl p1callsc h R) : CallsH Try.prog 5 [.int .i64 p0most, .slice p1callsa p1callsl p1callsc] h R :=
  calls_of_body calls_ok Try.func5 (args := [.int .i64 p0most, .slice p1callsa p1callsl p1callsc]) (by rw [warderlaw13_VmidStale.eq]; exact hp)
/-! ### warderlaw13_VmidApart: function 6 -/
def warderlaw13_VmidApart.hints : Hints := { loops := [(10, [1, 5, 7], [(9, (.one (.int .i64)))]), (20, [1, 5, 7, 9, 10, 12], [(13, (.one (.int .i64)))])], cuts := [(5, [0, 1], []), (9, [1, 5, 7], [])], orders := [] }
def warderlaw13_VmidApart.P (p0most : Int) (p1callsa : Option Addr) (p1callsl : Nat) (p1callsc : Nat) (h : Hp) (R : Value → Hp → Prop) : Prop :=
  CallsH Try.prog 7 [] h fun r1 h1 => ∃ alive2 : Bool, r1 = .bool alive2 ∧ ((!alive2) = true → (R (.bool false) h1)) ∧ ((!alive2) = false → (∃ I3 : Hp → Prop, (((decide (((p1callsl : Nat) : Int) > 100)) = true →
  (R (.bool true) h1)) ∧ ((decide (((p1callsl : Nat) : Int) > 100)) = false → (((decide (p0most < 1)) = true → (R (.bool true) h1)) ∧ ((decide (p0most < 1)) = false → (((decide (p0most > 255)) = true →
  (R (.bool true) h1)) ∧ ((decide (p0most > 255)) = false → (I3 h1))))))) ∧ ∀ h2 : Hp, I3 h2 → CallsH Try.prog 8 [.int .i64 p0most] h2 fun r4 h3 => ∃ New5 : Option Addr, ∃ New6 : Int, r4 = .tuple #[.pointer New5, .int .i64 New6] ∧
  CallsH Try.prog 19 [.int .i64 16] h3 fun r7 h4 => ∃ New8 : Option Addr, ∃ New9 : Int, r7 = .tuple #[.pointer New8, .int .i64 New9] ∧ ∃ I10 : Hp → Prop, (((New6 != 0) = true → (R (.bool false) h4)) ∧
  ((New6 != 0) = false → (((New9 != 0) = true → (R (.bool false) h4)) ∧ ((New9 != 0) = false → (((notIf true New5.isNone) = true → (R (.bool false) h4)) ∧ ((notIf true New5.isNone) = false → (((notIf true New8.isNone) = true →
  (R (.bool false) h4)) ∧ ((notIf true New8.isNone) = false → (I10 h4))))))))) ∧ ∀ h5 : Hp, I10 h5 → ∃ I11 : Int → Hp → Prop, ∃ m12 : Int → Hp → Nat, I11 0 h5 ∧ ∀ i13 : Int, ∀ h6 : Hp, I11 i13 h6 → ((decide (i13 < ((p1callsl : Nat) : Int))) = true →
  ((0 : Int) ≤ i13 ∧ i13 < ((p1callsl : Nat) : Int) ∧ ∃ b14 : Nat, ∃ o15 : Nat, (p1callsa : Option Addr) = some ⟨b14, o15, none⟩ ∧ ∃ What16 : Int, cellAt h6 b14 (o15 + i13.toNat * 2) = some (.int .i64 What16) ∧
  ((What16 == 0) = true → (CallsH Try.prog 10 [.pointer New5] h6 fun r17 h7 => ∃ Take18 : Int, ∃ Take19 : Int, r17 = .tuple #[.int .i64 Take18, .int .i64 Take19] ∧ ((Take19 != 0) = true → (((Take18 != 0) = true →
  (R (.bool false) h7)) ∧ ((Take18 != 0) = false → (I11 (IntKind.wrap .i64 (i13 + 1)) h7 ∧ m12 (IntKind.wrap .i64 (i13 + 1)) h7 < m12 i13 h6)))) ∧ ((Take19 != 0) = false → (CallsH Try.prog 20 [.pointer New8] h7 fun r20 h8 => ∃ Lista21 : Option Addr, ∃ Listl22 : Nat, ∃ Listc23 : Nat, r20 = .slice Lista21 Listl22 Listc23 ∧
  ∃ I24 : Int → Hp → Prop, ∃ m25 : Int → Hp → Nat, I24 0 h8 ∧ ∀ k26 : Int, ∀ h9 : Hp, I24 k26 h9 → ((decide (k26 < ((Listl22 : Nat) : Int))) = true → ((0 : Int) ≤ k26 ∧ k26 < ((Listl22 : Nat) : Int) ∧
  ∃ b27 : Nat, ∃ o28 : Nat, (Lista21 : Option Addr) = some ⟨b27, o28, none⟩ ∧ ∃ Vmid29 : Int, cellAt h9 b27 (o28 + k26.toNat * 5) = some (.int .i64 Vmid29) ∧ ((Vmid29 == Take18) = true → (R (.bool false) h9)) ∧
  ((Vmid29 == Take18) = false → (I24 (IntKind.wrap .i64 (k26 + 1)) h9 ∧ m25 (IntKind.wrap .i64 (k26 + 1)) h9 < m25 k26 h9)))) ∧ ((decide (k26 < ((Listl22 : Nat) : Int))) = false → (CallsH Try.prog 21 [.pointer New8, .agg #[.int .i64 Take18, .int .i64 (bandV .i64 i13 15), .int .i64 i13, .bool false, .bool false]] h9 fun r30 h10 => r30 = .tuple #[] ∧
  I11 (IntKind.wrap .i64 (i13 + 1)) h10 ∧ m12 (IntKind.wrap .i64 (i13 + 1)) h10 < m12 i13 h6)))))) ∧ ((What16 == 0) = false → (((What16 == 1) = true → ((0 : Int) ≤ i13 ∧ i13 < ((p1callsl : Nat) : Int) ∧
  ∃ b31 : Nat, ∃ o32 : Nat, (p1callsa : Option Addr) = some ⟨b31, o32, none⟩ ∧ ∃ N33 : Int, cellAt h6 b31 (o32 + i13.toNat * 2 + 1) = some (.int .i64 N33) ∧ CallsH Try.prog 12 [.pointer New5, .int .i64 N33] h6 fun r34 h11 => ∃ Give35 : Int, r34 = .int .i64 Give35 ∧
  I11 (IntKind.wrap .i64 (i13 + 1)) h11 ∧ m12 (IntKind.wrap .i64 (i13 + 1)) h11 < m12 i13 h6)) ∧ ((What16 == 1) = false → (((What16 == 2) = true → (CallsH Try.prog 14 [.pointer New5] h6 fun r36 h12 => ∃ Dropped37 : Int, r36 = .int .i64 Dropped37 ∧
  CallsH Try.prog 22 [.pointer New8] h12 fun r38 h13 => r38 = .tuple #[] ∧ I11 (IntKind.wrap .i64 (i13 + 1)) h13 ∧ m12 (IntKind.wrap .i64 (i13 + 1)) h13 < m12 i13 h6)) ∧ ((What16 == 2) = false → (I11 (IntKind.wrap .i64 (i13 + 1)) h6 ∧
  m12 (IntKind.wrap .i64 (i13 + 1)) h6 < m12 i13 h6)))))))) ∧ ((decide (i13 < ((p1callsl : Nat) : Int))) = false → (R (.bool true) h6))))
theorem warderlaw13_VmidApart.eq (p0most : Int) (p1callsa : Option Addr) (p1callsl : Nat) (p1callsc : Nat) (h : Hp) (R : Value → Hp → Prop) : evBody Try.prog calls warderlaw13_VmidApart.hints Try.f6 [.int .i64 p0most, .slice p1callsa p1callsl p1callsc] h R = warderlaw13_VmidApart.P p0most p1callsa p1callsl p1callsc h R := by kernel_rfl
theorem warderlaw13_VmidApart.calls (p0most : Int) (p1callsa : Option Addr) (p1callsl : Nat) (p1callsc : Nat) (h : Hp) (R : Value → Hp → Prop) (hp : warderlaw13_VmidApart.P p0most p1callsa p1callsl p1callsc h R) : CallsH Try.prog 6 [.int .i64 p0most, .slice p1callsa p1callsl p1callsc] h R :=
  calls_of_body calls_ok Try.func6 (args := [.int .i64 p0most, .slice p1callsa p1callsl p1callsc]) (by rw [warderlaw13_VmidApart.eq]; exact hp)
/-! ### warderlaw13_alive: function 7 -/
def warderlaw13_alive.hints : Hints := { loops := [], cuts := [(4, [1], [])], orders := [] }
def warderlaw13_alive.P  (h : Hp) (R : Value → Hp → Prop) : Prop :=
  CallsH Try.prog 8 [.int .i64 1] h fun r1 h1 => ∃ New2 : Option Addr, ∃ New3 : Int, r1 = .tuple #[.pointer New2, .int .i64 New3] ∧ ∃ I4 : Hp → Prop, (((New3 != 0) = true → (R (.bool false) h1)) ∧ ((New3 != 0) = false →
  (((notIf true New2.isNone) = true → (R (.bool false) h1)) ∧ ((notIf true New2.isNone) = false → (I4 h1))))) ∧ ∀ h2 : Hp, I4 h2 → CallsH Try.prog 10 [.pointer New2] h2 fun r5 h3 => ∃ Take6 : Int, ∃ Take7 : Int, r5 = .tuple #[.int .i64 Take6, .int .i64 Take7] ∧
  CallsH Try.prog 10 [.pointer New2] h3 fun r8 h4 => ∃ Take9 : Int, ∃ Take10 : Int, r8 = .tuple #[.int .i64 Take9, .int .i64 Take10] ∧ CallsH Try.prog 12 [.pointer New2, .int .i64 1] h4 fun r11 h5 => ∃ Give12 : Int, r11 = .int .i64 Give12 ∧
  CallsH Try.prog 10 [.pointer New2] h5 fun r13 h6 => ∃ Take14 : Int, ∃ Take15 : Int, r13 = .tuple #[.int .i64 Take14, .int .i64 Take15] ∧ CallsH Try.prog 14 [.pointer New2] h6 fun r16 h7 => ∃ Dropped17 : Int, r16 = .int .i64 Dropped17 ∧
  CallsH Try.prog 10 [.pointer New2] h7 fun r18 h8 => ∃ Take19 : Int, ∃ Take20 : Int, r18 = .tuple #[.int .i64 Take19, .int .i64 Take20] ∧ ((Take6 == 1) = true → (((Take7 == 0) = true → (((Take10 == 15) = true →
  (((Give12 == 0) = true → (((Take15 == 17) = true → (((Dropped17 == 1) = true → (((Take19 == 1) = true → (((Take20 == 0) = true → (CallsH Try.prog 16 [.pointer New2, .int .i64 1] h8 fun r21 h9 => ∃ State22 : Int, r21 = .int .i64 State22 ∧
  ((State22 == 1) = true → (CallsH Try.prog 16 [.pointer New2, .int .i64 2] h9 fun r23 h10 => ∃ State24 : Int, r23 = .int .i64 State24 ∧ ((State24 == (-1)) = true → (CallsH Try.prog 18 [.pointer New2] h10 fun r25 h11 => ∃ Takena26 : Option Addr, ∃ Takenl27 : Nat, ∃ Takenc28 : Nat, r25 = .slice Takena26 Takenl27 Takenc28 ∧
  ∀ h12 : Hp, h12 = new h11 (blk 3 [.int .i64 1]) → CallsH Try.prog 17 [.slice Takena26 Takenl27 Takenc28, .slice (some ⟨sz h11, 0, none⟩) 1 1] h12 fun r29 h13 => ∃ SameInts30 : Bool, r29 = .bool SameInts30 ∧
  R (.bool SameInts30) h13)) ∧ ((State24 == (-1)) = false → (R (.bool false) h10)))) ∧ ((State22 == 1) = false → (R (.bool false) h9)))) ∧ ((Take20 == 0) = false → (R (.bool false) h8)))) ∧ ((Take19 == 1) = false →
  (R (.bool false) h8)))) ∧ ((Dropped17 == 1) = false → (R (.bool false) h8)))) ∧ ((Take15 == 17) = false → (R (.bool false) h8)))) ∧ ((Give12 == 0) = false → (R (.bool false) h8)))) ∧ ((Take10 == 15) = false →
  (R (.bool false) h8)))) ∧ ((Take7 == 0) = false → (R (.bool false) h8)))) ∧ ((Take6 == 1) = false → (R (.bool false) h8))
theorem warderlaw13_alive.eq  (h : Hp) (R : Value → Hp → Prop) : evBody Try.prog calls warderlaw13_alive.hints Try.f7 [] h R = warderlaw13_alive.P  h R := by kernel_rfl
theorem warderlaw13_alive.calls  (h : Hp) (R : Value → Hp → Prop) (hp : warderlaw13_alive.P  h R) : CallsH Try.prog 7 [] h R :=
  calls_of_body calls_ok Try.func7 (args := []) (by rw [warderlaw13_alive.eq]; exact hp)
/-! ### vmid_New: function 8 -/
def vmid_New.hints : Hints := { loops := [], cuts := [], orders := [] }
def vmid_New.P (p0most : Int) (h : Hp) (R : Value → Hp → Prop) : Prop :=
  ((decide (p0most < 1)) = true → (R (.tuple #[.pointer none, .int .i64 11]) h)) ∧ ((decide (p0most < 1)) = false → (((decide (p0most > 255)) = true → (R (.tuple #[.pointer none, .int .i64 11]) h)) ∧ ((decide (p0most > 255)) = false →
  ((0 : Int) ≤ p0most ∧ p0most ≤ p0most ∧ p0most ≤ 140737488355328 ∧ ((8 : Nat) : Int) * p0most ≤ 281474976710656 ∧ (1 : Nat) = 1 ∧ ∀ h1 : Hp, h1 = new h (blk 3 (zeros [.int .i64 0] p0most.toNat)) → ∀ h2 : Hp, h2 = new h1 (blk 54 [.slice (some ⟨sz h, 0, none⟩) p0most.toNat p0most.toNat]) →
  R (.tuple #[.pointer (some ⟨(sz h1), 0, none⟩), .int .i64 0]) h2))))
theorem vmid_New.eq (p0most : Int) (h : Hp) (R : Value → Hp → Prop) : evBody Try.prog calls vmid_New.hints Try.f8 [.int .i64 p0most] h R = vmid_New.P p0most h R := by kernel_rfl
theorem vmid_New.calls (p0most : Int) (h : Hp) (R : Value → Hp → Prop) (hp : vmid_New.P p0most h R) : CallsH Try.prog 8 [.int .i64 p0most] h R :=
  calls_of_body calls_ok Try.func8 (args := [.int .i64 p0most]) (by rw [vmid_New.eq]; exact hp)
/-! ### warderref13_New: function 9 -/
def warderref13_New.hints : Hints := { loops := [], cuts := [], orders := [] }
def warderref13_New.P (p0most : Int) (h : Hp) (R : Value → Hp → Prop) : Prop :=
  (0 : Int) ≤ p0most ∧ p0most ≤ p0most ∧ p0most ≤ 140737488355328 ∧ ((8 : Nat) : Int) * p0most ≤ 281474976710656 ∧ (1 : Nat) = 1 ∧ ∀ h1 : Hp, h1 = new h (blk 3 (zeros [.int .i64 0] p0most.toNat)) → ∀ h2 : Hp, h2 = new h1 (blk 38 [.slice (some ⟨sz h, 0, none⟩) p0most.toNat p0most.toNat]) →
  R (.pointer (some ⟨(sz h1), 0, none⟩)) h2
theorem warderref13_New.eq (p0most : Int) (h : Hp) (R : Value → Hp → Prop) : evBody Try.prog calls warderref13_New.hints Try.f9 [.int .i64 p0most] h R = warderref13_New.P p0most h R := by kernel_rfl
theorem warderref13_New.calls (p0most : Int) (h : Hp) (R : Value → Hp → Prop) (hp : warderref13_New.P p0most h R) : CallsH Try.prog 9 [.int .i64 p0most] h R :=
  calls_of_body calls_ok Try.func9 (args := [.int .i64 p0most]) (by rw [warderref13_New.eq]; exact hp)
/-! ### vmid_Pool_Take: function 10 -/
def vmid_Pool_Take.hints : Hints := { loops := [], cuts := [], orders := [] }
def vmid_Pool_Take.P (p0pb p0po : Nat) (h : Hp) (R : Value → Hp → Prop) : Prop :=
  ∃ statesa1 : Option Addr, ∃ statesl2 : Nat, ∃ statesc3 : Nat, cellAt h p0pb p0po = some (.slice statesa1 statesl2 statesc3) ∧ CallsH Try.prog 23 [.slice statesa1 statesl2 statesc3, .int .i64 0] h fun r4 h1 => ∃ Index5 : Int, r4 = .int .i64 Index5 ∧
  ((decide (Index5 ≥ 0)) = true → (∃ statesa6 : Option Addr, ∃ statesl7 : Nat, ∃ statesc8 : Nat, cellAt h1 p0pb p0po = some (.slice statesa6 statesl7 statesc8) ∧ (0 : Int) ≤ Index5 ∧ Index5 < ((statesl7 : Nat) : Int) ∧
  ∃ b9 : Nat, ∃ o10 : Nat, (statesa6 : Option Addr) = some ⟨b9, o10, none⟩ ∧ truly true ∧ ∃ T11 : TypeId, ∃ l12 : List Value, bk h1 b9 = some (blk T11 l12) ∧ (o10 + Index5.toNat * 1) + 1 ≤ l12.length ∧
  ∀ h2 : Hp, h2 = upd h1 b9 T11 (writeAt l12 (o10 + Index5.toNat * 1) [.int .i64 1]) → R (.tuple #[.int .i64 (IntKind.wrap .i64 (Index5 + 1)), .int .i64 0]) h2)) ∧ ((decide (Index5 ≥ 0)) = false → (∃ statesa13 : Option Addr, ∃ statesl14 : Nat, ∃ statesc15 : Nat, cellAt h1 p0pb p0po = some (.slice statesa13 statesl14 statesc15) ∧
  CallsH Try.prog 24 [.slice statesa13 statesl14 statesc15, .int .i64 2] h1 fun r16 h3 => ∃ Contains17 : Bool, r16 = .bool Contains17 ∧ ((Contains17) = true → (R (.tuple #[.int .i64 0, .int .i64 17]) h3)) ∧
  ((Contains17) = false → (R (.tuple #[.int .i64 0, .int .i64 15]) h3))))
theorem vmid_Pool_Take.eq (p0pb p0po : Nat) (h : Hp) (R : Value → Hp → Prop) : evBody Try.prog calls vmid_Pool_Take.hints Try.f10 [.ptr p0pb p0po] h R = vmid_Pool_Take.P p0pb p0po h R := by kernel_rfl
theorem vmid_Pool_Take.calls (p0pb p0po : Nat) (h : Hp) (R : Value → Hp → Prop) (hp : vmid_Pool_Take.P p0pb p0po h R) : CallsH Try.prog 10 [.pointer (some ⟨p0pb, p0po, none⟩)] h R :=
  calls_of_body calls_ok Try.func10 (args := [.ptr p0pb p0po]) (by rw [vmid_Pool_Take.eq]; exact hp)
/-! ### warderref13_Pool_Take: function 11 -/
def warderref13_Pool_Take.hints : Hints := { loops := [(3, [0], [(4, (.one .bool)), (5, (.one (.int .i64)))])], cuts := [], orders := [] }
def warderref13_Pool_Take.P (p0pb p0po : Nat) (h : Hp) (R : Value → Hp → Prop) : Prop :=
  ∃ I1 : Bool → Int → Hp → Prop, ∃ m2 : Bool → Int → Hp → Nat, I1 false 0 h ∧ ∀ stale3 : Bool, ∀ i4 : Int, ∀ h1 : Hp, I1 stale3 i4 h1 → ∃ Statesa5 : Option Addr, ∃ Statesl6 : Nat, ∃ Statesc7 : Nat, cellAt h1 p0pb p0po = some (.slice Statesa5 Statesl6 Statesc7) ∧
  ((decide (i4 < ((Statesl6 : Nat) : Int))) = true → (∃ Statesa8 : Option Addr, ∃ Statesl9 : Nat, ∃ Statesc10 : Nat, cellAt h1 p0pb p0po = some (.slice Statesa8 Statesl9 Statesc10) ∧ (0 : Int) ≤ i4 ∧ i4 < ((Statesl9 : Nat) : Int) ∧
  ∃ b11 : Nat, ∃ o12 : Nat, (Statesa8 : Option Addr) = some ⟨b11, o12, none⟩ ∧ ∃ x13 : Int, cellAt h1 b11 (o12 + i4.toNat * 1) = some (.int .i64 x13) ∧ ((x13 == 0) = true → (∃ Statesa14 : Option Addr, ∃ Statesl15 : Nat, ∃ Statesc16 : Nat, cellAt h1 p0pb p0po = some (.slice Statesa14 Statesl15 Statesc16) ∧
  (0 : Int) ≤ i4 ∧ i4 < ((Statesl15 : Nat) : Int) ∧ ∃ b17 : Nat, ∃ o18 : Nat, (Statesa14 : Option Addr) = some ⟨b17, o18, none⟩ ∧ truly true ∧ ∃ T19 : TypeId, ∃ l20 : List Value, bk h1 b17 = some (blk T19 l20) ∧
  (o18 + i4.toNat * 1) + 1 ≤ l20.length ∧ ∀ h2 : Hp, h2 = upd h1 b17 T19 (writeAt l20 (o18 + i4.toNat * 1) [.int .i64 1]) → R (.tuple #[.int .i64 (IntKind.wrap .i64 (i4 + 1)), .int .i64 0]) h2)) ∧ ((x13 == 0) = false →
  (((stale3) = true → (I1 true (IntKind.wrap .i64 (i4 + 1)) h1 ∧ m2 true (IntKind.wrap .i64 (i4 + 1)) h1 < m2 stale3 i4 h1)) ∧ ((stale3) = false → (∃ Statesa21 : Option Addr, ∃ Statesl22 : Nat, ∃ Statesc23 : Nat, cellAt h1 p0pb p0po = some (.slice Statesa21 Statesl22 Statesc23) ∧
  (0 : Int) ≤ i4 ∧ i4 < ((Statesl22 : Nat) : Int) ∧ ∃ b24 : Nat, ∃ o25 : Nat, (Statesa21 : Option Addr) = some ⟨b24, o25, none⟩ ∧ ∃ x26 : Int, cellAt h1 b24 (o25 + i4.toNat * 1) = some (.int .i64 x26) ∧
  I1 (x26 == 2) (IntKind.wrap .i64 (i4 + 1)) h1 ∧ m2 (x26 == 2) (IntKind.wrap .i64 (i4 + 1)) h1 < m2 stale3 i4 h1)))))) ∧ ((decide (i4 < ((Statesl6 : Nat) : Int))) = false → (((stale3) = true → (R (.tuple #[.int .i64 0, .int .i64 17]) h1)) ∧
  ((stale3) = false → (R (.tuple #[.int .i64 0, .int .i64 15]) h1))))
theorem warderref13_Pool_Take.eq (p0pb p0po : Nat) (h : Hp) (R : Value → Hp → Prop) : evBody Try.prog calls warderref13_Pool_Take.hints Try.f11 [.ptr p0pb p0po] h R = warderref13_Pool_Take.P p0pb p0po h R := by kernel_rfl
theorem warderref13_Pool_Take.calls (p0pb p0po : Nat) (h : Hp) (R : Value → Hp → Prop) (hp : warderref13_Pool_Take.P p0pb p0po h R) : CallsH Try.prog 11 [.pointer (some ⟨p0pb, p0po, none⟩)] h R :=
  calls_of_body calls_ok Try.func11 (args := [.ptr p0pb p0po]) (by rw [warderref13_Pool_Take.eq]; exact hp)
/-! ### vmid_Pool_Give: function 12 -/
def vmid_Pool_Give.hints : Hints := { loops := [], cuts := [], orders := [] }
def vmid_Pool_Give.P (p0pb p0po : Nat) (p1vmid : Int) (h : Hp) (R : Value → Hp → Prop) : Prop :=
  CallsH Try.prog 16 [.pointer (some ⟨p0pb, p0po, none⟩), .int .i64 p1vmid] h fun r1 h1 => ∃ State2 : Int, r1 = .int .i64 State2 ∧ ((State2 == (-1)) = true → (R (.int .i64 11) h1)) ∧ ((State2 == (-1)) = false →
  (((State2 == 1) = true → (∃ statesa3 : Option Addr, ∃ statesl4 : Nat, ∃ statesc5 : Nat, cellAt h1 p0pb p0po = some (.slice statesa3 statesl4 statesc5) ∧ (0 : Int) ≤ (IntKind.wrap .i64 (p1vmid - 1)) ∧
  (IntKind.wrap .i64 (p1vmid - 1)) < ((statesl4 : Nat) : Int) ∧ ∃ b6 : Nat, ∃ o7 : Nat, (statesa3 : Option Addr) = some ⟨b6, o7, none⟩ ∧ truly true ∧ ∃ T8 : TypeId, ∃ l9 : List Value, bk h1 b6 = some (blk T8 l9) ∧
  (o7 + (IntKind.wrap .i64 (p1vmid - 1)).toNat * 1) + 1 ≤ l9.length ∧ ∀ h2 : Hp, h2 = upd h1 b6 T8 (writeAt l9 (o7 + (IntKind.wrap .i64 (p1vmid - 1)).toNat * 1) [.int .i64 2]) → R (.int .i64 0) h2)) ∧
  ((State2 == 1) = false → (R (.int .i64 12) h1))))
theorem vmid_Pool_Give.eq (p0pb p0po : Nat) (p1vmid : Int) (h : Hp) (R : Value → Hp → Prop) : evBody Try.prog calls vmid_Pool_Give.hints Try.f12 [.ptr p0pb p0po, .int .i64 p1vmid] h R = vmid_Pool_Give.P p0pb p0po p1vmid h R := by kernel_rfl
theorem vmid_Pool_Give.calls (p0pb p0po : Nat) (p1vmid : Int) (h : Hp) (R : Value → Hp → Prop) (hp : vmid_Pool_Give.P p0pb p0po p1vmid h R) : CallsH Try.prog 12 [.pointer (some ⟨p0pb, p0po, none⟩), .int .i64 p1vmid] h R :=
  calls_of_body calls_ok Try.func12 (args := [.ptr p0pb p0po, .int .i64 p1vmid]) (by rw [vmid_Pool_Give.eq]; exact hp)
/-! ### warderref13_Pool_Give: function 13 -/
def warderref13_Pool_Give.hints : Hints := { loops := [], cuts := [(3, [0, 1], [])], orders := [] }
def warderref13_Pool_Give.P (p0pb p0po : Nat) (p1n : Int) (h : Hp) (R : Value → Hp → Prop) : Prop :=
  ∃ I1 : Hp → Prop, (((decide (p1n < 1)) = true → (R (.int .i64 11) h)) ∧ ((decide (p1n < 1)) = false → (∃ Statesa2 : Option Addr, ∃ Statesl3 : Nat, ∃ Statesc4 : Nat, cellAt h p0pb p0po = some (.slice Statesa2 Statesl3 Statesc4) ∧
  ((decide (p1n > ((Statesl3 : Nat) : Int))) = true → (R (.int .i64 11) h)) ∧ ((decide (p1n > ((Statesl3 : Nat) : Int))) = false → (I1 h))))) ∧ ∀ h1 : Hp, I1 h1 → ∃ Statesa5 : Option Addr, ∃ Statesl6 : Nat, ∃ Statesc7 : Nat, cellAt h1 p0pb p0po = some (.slice Statesa5 Statesl6 Statesc7) ∧
  (0 : Int) ≤ (IntKind.wrap .i64 (p1n - 1)) ∧ (IntKind.wrap .i64 (p1n - 1)) < ((Statesl6 : Nat) : Int) ∧ ∃ b8 : Nat, ∃ o9 : Nat, (Statesa5 : Option Addr) = some ⟨b8, o9, none⟩ ∧ ∃ x10 : Int, cellAt h1 b8 (o9 + (IntKind.wrap .i64 (p1n - 1)).toNat * 1) = some (.int .i64 x10) ∧
  ((x10 != 1) = true → (R (.int .i64 12) h1)) ∧ ((x10 != 1) = false → (∃ Statesa11 : Option Addr, ∃ Statesl12 : Nat, ∃ Statesc13 : Nat, cellAt h1 p0pb p0po = some (.slice Statesa11 Statesl12 Statesc13) ∧
  (0 : Int) ≤ (IntKind.wrap .i64 (p1n - 1)) ∧ (IntKind.wrap .i64 (p1n - 1)) < ((Statesl12 : Nat) : Int) ∧ ∃ b14 : Nat, ∃ o15 : Nat, (Statesa11 : Option Addr) = some ⟨b14, o15, none⟩ ∧ truly true ∧ ∃ T16 : TypeId, ∃ l17 : List Value, bk h1 b14 = some (blk T16 l17) ∧
  (o15 + (IntKind.wrap .i64 (p1n - 1)).toNat * 1) + 1 ≤ l17.length ∧ ∀ h2 : Hp, h2 = upd h1 b14 T16 (writeAt l17 (o15 + (IntKind.wrap .i64 (p1n - 1)).toNat * 1) [.int .i64 2]) → R (.int .i64 0) h2))
theorem warderref13_Pool_Give.eq (p0pb p0po : Nat) (p1n : Int) (h : Hp) (R : Value → Hp → Prop) : evBody Try.prog calls warderref13_Pool_Give.hints Try.f13 [.ptr p0pb p0po, .int .i64 p1n] h R = warderref13_Pool_Give.P p0pb p0po p1n h R := by kernel_rfl
theorem warderref13_Pool_Give.calls (p0pb p0po : Nat) (p1n : Int) (h : Hp) (R : Value → Hp → Prop) (hp : warderref13_Pool_Give.P p0pb p0po p1n h R) : CallsH Try.prog 13 [.pointer (some ⟨p0pb, p0po, none⟩), .int .i64 p1n] h R :=
  calls_of_body calls_ok Try.func13 (args := [.ptr p0pb p0po, .int .i64 p1n]) (by rw [warderref13_Pool_Give.eq]; exact hp)
/-! ### warderref13_Pool_Dropped: function 15 -/
def warderref13_Pool_Dropped.hints : Hints := { loops := [(3, [0], [(3, (.one (.int .i64))), (4, (.one (.int .i64)))])], cuts := [], orders := [] }
def warderref13_Pool_Dropped.P (p0pb p0po : Nat) (h : Hp) (R : Value → Hp → Prop) : Prop :=
  ∃ I1 : Int → Int → Hp → Prop, ∃ m2 : Int → Int → Hp → Nat, I1 0 0 h ∧ ∀ n3 : Int, ∀ i4 : Int, ∀ h1 : Hp, I1 n3 i4 h1 → ∃ Statesa5 : Option Addr, ∃ Statesl6 : Nat, ∃ Statesc7 : Nat, cellAt h1 p0pb p0po = some (.slice Statesa5 Statesl6 Statesc7) ∧
  ((decide (i4 < ((Statesl6 : Nat) : Int))) = true → (∃ Statesa8 : Option Addr, ∃ Statesl9 : Nat, ∃ Statesc10 : Nat, cellAt h1 p0pb p0po = some (.slice Statesa8 Statesl9 Statesc10) ∧ (0 : Int) ≤ i4 ∧ i4 < ((Statesl9 : Nat) : Int) ∧
  ∃ b11 : Nat, ∃ o12 : Nat, (Statesa8 : Option Addr) = some ⟨b11, o12, none⟩ ∧ ∃ x13 : Int, cellAt h1 b11 (o12 + i4.toNat * 1) = some (.int .i64 x13) ∧ ((x13 == 2) = true → (∃ Statesa14 : Option Addr, ∃ Statesl15 : Nat, ∃ Statesc16 : Nat, cellAt h1 p0pb p0po = some (.slice Statesa14 Statesl15 Statesc16) ∧
  (0 : Int) ≤ i4 ∧ i4 < ((Statesl15 : Nat) : Int) ∧ ∃ b17 : Nat, ∃ o18 : Nat, (Statesa14 : Option Addr) = some ⟨b17, o18, none⟩ ∧ truly true ∧ ∃ T19 : TypeId, ∃ l20 : List Value, bk h1 b17 = some (blk T19 l20) ∧
  (o18 + i4.toNat * 1) + 1 ≤ l20.length ∧ ∀ h2 : Hp, h2 = upd h1 b17 T19 (writeAt l20 (o18 + i4.toNat * 1) [.int .i64 0]) → I1 (IntKind.wrap .i64 (n3 + 1)) (IntKind.wrap .i64 (i4 + 1)) h2 ∧ m2 (IntKind.wrap .i64 (n3 + 1)) (IntKind.wrap .i64 (i4 + 1)) h2 < m2 n3 i4 h1)) ∧
  ((x13 == 2) = false → (I1 n3 (IntKind.wrap .i64 (i4 + 1)) h1 ∧ m2 n3 (IntKind.wrap .i64 (i4 + 1)) h1 < m2 n3 i4 h1)))) ∧ ((decide (i4 < ((Statesl6 : Nat) : Int))) = false → (R (.int .i64 n3) h1))
theorem warderref13_Pool_Dropped.eq (p0pb p0po : Nat) (h : Hp) (R : Value → Hp → Prop) : evBody Try.prog calls warderref13_Pool_Dropped.hints Try.f15 [.ptr p0pb p0po] h R = warderref13_Pool_Dropped.P p0pb p0po h R := by kernel_rfl
theorem warderref13_Pool_Dropped.calls (p0pb p0po : Nat) (h : Hp) (R : Value → Hp → Prop) (hp : warderref13_Pool_Dropped.P p0pb p0po h R) : CallsH Try.prog 15 [.pointer (some ⟨p0pb, p0po, none⟩)] h R :=
  calls_of_body calls_ok Try.func15 (args := [.ptr p0pb p0po]) (by rw [warderref13_Pool_Dropped.eq]; exact hp)
/-! ### vmid_Pool_State: function 16 -/
def vmid_Pool_State.hints : Hints := { loops := [], cuts := [(3, [0, 1], [])], orders := [] }
def vmid_Pool_State.P (p0pb p0po : Nat) (p1vmid : Int) (h : Hp) (R : Value → Hp → Prop) : Prop :=
  ∃ I1 : Hp → Prop, (((decide (p1vmid < 1)) = true → (R (.int .i64 (-1)) h)) ∧ ((decide (p1vmid < 1)) = false → (∃ statesa2 : Option Addr, ∃ statesl3 : Nat, ∃ statesc4 : Nat, cellAt h p0pb p0po = some (.slice statesa2 statesl3 statesc4) ∧
  ((decide (p1vmid > ((statesl3 : Nat) : Int))) = true → (R (.int .i64 (-1)) h)) ∧ ((decide (p1vmid > ((statesl3 : Nat) : Int))) = false → (I1 h))))) ∧ ∀ h1 : Hp, I1 h1 → ∃ statesa5 : Option Addr, ∃ statesl6 : Nat, ∃ statesc7 : Nat, cellAt h1 p0pb p0po = some (.slice statesa5 statesl6 statesc7) ∧
  (0 : Int) ≤ (IntKind.wrap .i64 (p1vmid - 1)) ∧ (IntKind.wrap .i64 (p1vmid - 1)) < ((statesl6 : Nat) : Int) ∧ ∃ b8 : Nat, ∃ o9 : Nat, (statesa5 : Option Addr) = some ⟨b8, o9, none⟩ ∧ ∃ x10 : Int, cellAt h1 b8 (o9 + (IntKind.wrap .i64 (p1vmid - 1)).toNat * 1) = some (.int .i64 x10) ∧
  R (.int .i64 x10) h1
theorem vmid_Pool_State.eq (p0pb p0po : Nat) (p1vmid : Int) (h : Hp) (R : Value → Hp → Prop) : evBody Try.prog calls vmid_Pool_State.hints Try.f16 [.ptr p0pb p0po, .int .i64 p1vmid] h R = vmid_Pool_State.P p0pb p0po p1vmid h R := by kernel_rfl
theorem vmid_Pool_State.calls (p0pb p0po : Nat) (p1vmid : Int) (h : Hp) (R : Value → Hp → Prop) (hp : vmid_Pool_State.P p0pb p0po p1vmid h R) : CallsH Try.prog 16 [.pointer (some ⟨p0pb, p0po, none⟩), .int .i64 p1vmid] h R :=
  calls_of_body calls_ok Try.func16 (args := [.ptr p0pb p0po, .int .i64 p1vmid]) (by rw [vmid_Pool_State.eq]; exact hp)
/-! ### warderref00_SameInts: function 17 -/
def warderref00_SameInts.hints : Hints := { loops := [(4, [0, 1], [(5, (.one (.int .i64)))])], cuts := [], orders := [(6, [0, 0, 3, 7, 0, 0, 48, 112, 255], (.leaf [0, 1, 2, 3, 4, 5, 6, 7, 8]))] }
def warderref00_SameInts.P (p0aa : Option Addr) (p0al : Nat) (p0ac : Nat) (p1ba : Option Addr) (p1bl : Nat) (p1bc : Nat) (h : Hp) (R : Value → Hp → Prop) : Prop :=
  ((((p0al : Nat) : Int) != ((p1bl : Nat) : Int)) = true → (R (.bool false) h)) ∧ ((((p0al : Nat) : Int) != ((p1bl : Nat) : Int)) = false → (∃ I1 : Int → Hp → Prop, ∃ m2 : Int → Hp → Nat, I1 0 h ∧ ∀ i3 : Int, ∀ h1 : Hp, I1 i3 h1 →
  ((decide (i3 < ((p0al : Nat) : Int))) = true → ((0 : Int) ≤ i3 ∧ i3 < ((p0al : Nat) : Int) ∧ ∃ b4 : Nat, ∃ o5 : Nat, (p0aa : Option Addr) = some ⟨b4, o5, none⟩ ∧ ∃ x6 : Int, cellAt h1 b4 (o5 + i3.toNat * 1) = some (.int .i64 x6) ∧
  (0 : Int) ≤ i3 ∧ i3 < ((p1bl : Nat) : Int) ∧ ∃ b7 : Nat, ∃ o8 : Nat, (p1ba : Option Addr) = some ⟨b7, o8, none⟩ ∧ ∃ x9 : Int, cellAt h1 b7 (o8 + i3.toNat * 1) = some (.int .i64 x9) ∧ ((x6 != x9) = true →
  (R (.bool false) h1)) ∧ ((x6 != x9) = false → (I1 (IntKind.wrap .i64 (i3 + 1)) h1 ∧ m2 (IntKind.wrap .i64 (i3 + 1)) h1 < m2 i3 h1)))) ∧ ((decide (i3 < ((p0al : Nat) : Int))) = false → (R (.bool true) h1))))
theorem warderref00_SameInts.eq (p0aa : Option Addr) (p0al : Nat) (p0ac : Nat) (p1ba : Option Addr) (p1bl : Nat) (p1bc : Nat) (h : Hp) (R : Value → Hp → Prop) : evBody Try.prog calls warderref00_SameInts.hints Try.f17 [.slice p0aa p0al p0ac, .slice p1ba p1bl p1bc] h R = warderref00_SameInts.P p0aa p0al p0ac p1ba p1bl p1bc h R := by kernel_rfl
theorem warderref00_SameInts.calls (p0aa : Option Addr) (p0al : Nat) (p0ac : Nat) (p1ba : Option Addr) (p1bl : Nat) (p1bc : Nat) (h : Hp) (R : Value → Hp → Prop) (hp : warderref00_SameInts.P p0aa p0al p0ac p1ba p1bl p1bc h R) : CallsH Try.prog 17 [.slice p0aa p0al p0ac, .slice p1ba p1bl p1bc] h R :=
  calls_of_body calls_ok Try.func17 (args := [.slice p0aa p0al p0ac, .slice p1ba p1bl p1bc]) (by rw [warderref00_SameInts.eq]; exact hp)
/-! ### tlb_New: function 19 -/
def tlb_New.hints : Hints := { loops := [], cuts := [], orders := [] }
def tlb_New.P (p0room : Int) (h : Hp) (R : Value → Hp → Prop) : Prop :=
  ((decide (p0room < 1)) = true → (R (.tuple #[.pointer none, .int .i64 11]) h)) ∧ ((decide (p0room < 1)) = false → (((decide (p0room > 64)) = true → (R (.tuple #[.pointer none, .int .i64 11]) h)) ∧ ((decide (p0room > 64)) = false →
  ((0 : Int) ≤ p0room ∧ p0room ≤ p0room ∧ p0room ≤ 140737488355328 ∧ ((8 : Nat) : Int) * p0room ≤ 281474976710656 ∧ (1 : Nat) = 1 ∧ ∀ h1 : Hp, h1 = new h (blk 64 (zeros [.pointer none] p0room.toNat)) →
  ∀ h2 : Hp, h2 = new h1 (.map ⟨[]⟩ 0) → ∀ h3 : Hp, h3 = new h2 (blk 63 [.slice (some ⟨sz h, 0, none⟩) p0room.toNat p0room.toNat, .map (some (sz h1)), .int .i64 0]) → R (.tuple #[.pointer (some ⟨(sz h2), 0, none⟩), .int .i64 0]) h3))))
theorem tlb_New.eq (p0room : Int) (h : Hp) (R : Value → Hp → Prop) : evBody Try.prog calls tlb_New.hints Try.f19 [.int .i64 p0room] h R = tlb_New.P p0room h R := by kernel_rfl
theorem tlb_New.calls (p0room : Int) (h : Hp) (R : Value → Hp → Prop) (hp : tlb_New.P p0room h R) : CallsH Try.prog 19 [.int .i64 p0room] h R :=
  calls_of_body calls_ok Try.func19 (args := [.int .i64 p0room]) (by rw [tlb_New.eq]; exact hp)
/-! ### tlb_Tlb_List: function 20 -/
def tlb_Tlb_List.hints : Hints := { loops := [(3, [9, 10], [(3, (.one .slice)), (11, (.one (.int .i64)))])], cuts := [], orders := [] }
def tlb_Tlb_List.P (p0tb p0to : Nat) (h : Hp) (R : Value → Hp → Prop) : Prop :=
  ∃ placesa1 : Option Addr, ∃ placesl2 : Nat, ∃ placesc3 : Nat, cellAt h p0tb p0to = some (.slice placesa1 placesl2 placesc3) ∧ ∃ I4 : Option Addr → Nat → Nat → Int → Hp → Prop, ∃ m5 : Option Addr → Nat →
  Nat → Int → Hp → Nat, I4 none 0 0 0 h ∧ ∀ outa6 : Option Addr, ∀ outl7 : Nat, ∀ outc8 : Nat, ∀ x9 : Int, ∀ h1 : Hp, I4 outa6 outl7 outc8 x9 h1 → ((decide (x9 < ((placesl2 : Nat) : Int))) = true → ((0 : Int) ≤ x9 ∧
  x9 < ((placesl2 : Nat) : Int) ∧ ∃ b10 : Nat, ∃ o11 : Nat, (placesa1 : Option Addr) = some ⟨b10, o11, none⟩ ∧ ∃ x12 : Option Addr, cellAt h1 b10 (o11 + x9.toNat * 1) = some (.pointer x12) ∧ ((notIf false x12.isNone) = true →
  (∃ b13 : Nat, ∃ o14 : Nat, x12 = some ⟨b13, o14, none⟩ ∧ ∃ x15 : Int, cellAt h1 b13 (o14 + 0) = some (.int .i64 x15) ∧ ∃ x16 : Int, cellAt h1 b13 (o14 + 1) = some (.int .i64 x16) ∧ ∃ x17 : Int, cellAt h1 b13 (o14 + 2) = some (.int .i64 x17) ∧
  ∃ x18 : Bool, cellAt h1 b13 (o14 + 3) = some (.bool x18) ∧ ∃ x19 : Bool, cellAt h1 b13 (o14 + 4) = some (.bool x19) ∧ ∀ h2 : Hp, h2 = new h1 (blk 51 [.int .i64 x15, .int .i64 x16, .int .i64 x17, .bool x18, .bool x19]) →
  appendN h2 51 5 32 [.int .i64 0, .int .i64 0, .int .i64 0, .bool false, .bool false] outa6 outl7 outc8 (some ⟨sz h1, 0, none⟩) 1 fun a20 l21 c22 h3 => I4 a20 l21 c22 (IntKind.wrap .i64 (x9 + 1)) h3 ∧
  m5 a20 l21 c22 (IntKind.wrap .i64 (x9 + 1)) h3 < m5 outa6 outl7 outc8 x9 h1)) ∧ ((notIf false x12.isNone) = false → (I4 outa6 outl7 outc8 (IntKind.wrap .i64 (x9 + 1)) h1 ∧ m5 outa6 outl7 outc8 (IntKind.wrap .i64 (x9 + 1)) h1 < m5 outa6 outl7 outc8 x9 h1)))) ∧
  ((decide (x9 < ((placesl2 : Nat) : Int))) = false → (R (.slice outa6 outl7 outc8) h1))
theorem tlb_Tlb_List.eq (p0tb p0to : Nat) (h : Hp) (R : Value → Hp → Prop) : evBody Try.prog calls tlb_Tlb_List.hints Try.f20 [.ptr p0tb p0to] h R = tlb_Tlb_List.P p0tb p0to h R := by kernel_rfl
theorem tlb_Tlb_List.calls (p0tb p0to : Nat) (h : Hp) (R : Value → Hp → Prop) (hp : tlb_Tlb_List.P p0tb p0to h R) : CallsH Try.prog 20 [.pointer (some ⟨p0tb, p0to, none⟩)] h R :=
  calls_of_body calls_ok Try.func20 (args := [.ptr p0tb p0to]) (by rw [tlb_Tlb_List.eq]; exact hp)
/-! ### tlb_Tlb_Fill: function 21 -/
def tlb_Tlb_Fill.hints : Hints := { loops := [], cuts := [(7, [0, 3, 4], [(5, (.one (.int .i64)))])], orders := [(2, [0, 1, 3, 7, 0, 31, 63, 127, 127, 255, 1023], (.leaf [0, 1, 2, 3, 4, 5, 6, 7, 8, 9, 10])), (5, [0, 0, 2, 6, 14, 30, 0, 64, 192, 448, 960, 2046, 4095, 8191, 16383], (.leaf [0, 1, 2, 3, 4, 5, 6, 7, 8, 9, 10, 11, 12, 13, 14])), (7, [0, 1, 3, 7, 0, 0, 32, 96, 224, 0, 0, 511, 2559, 7167, 15359, 32767], (.leaf [0, 1, 2, 3, 4, 5, 6, 7, 8, 9, 10, 11, 12, 13, 14, 15]))] }
def tlb_Tlb_Fill.P (p0tb p0to : Nat) (p1s_0 : Int) (p1s_1 : Int) (p1s_2 : Int) (p1s_3 : Bool) (p1s_4 : Bool) (h : Hp) (R : Value → Hp → Prop) : Prop :=
  ∀ h1 : Hp, h1 = new h (blk 51 [.int .i64 p1s_0, .int .i64 p1s_1, .int .i64 p1s_2, .bool p1s_3, .bool p1s_4]) → ∃ Vmid1 : Int, cellAt h1 (sz h) 0 = some (.int .i64 Vmid1) ∧ ∃ Page2 : Int, cellAt h1 (sz h) 1 = some (.int .i64 Page2) ∧
  ∀ h2 : Hp, h2 = new h1 (blk 66 [.int .i64 0, .int .i64 0]) → truly true ∧ ∃ T3 : TypeId, ∃ l4 : List Value, bk h2 (sz h1) = some (blk T3 l4) ∧ 0 + 2 ≤ l4.length ∧ ∀ h3 : Hp, h3 = upd h2 (sz h1) T3 (writeAt l4 0 [.int .i64 Vmid1, .int .i64 Page2]) →
  ∃ index5 : Option Nat, cellAt h3 p0tb (p0to + 1) = some (.map index5) ∧ ∃ x6 : Int, cellAt h3 (sz h1) (0 + 0) = some (.int .i64 x6) ∧ ∃ x7 : Int, cellAt h3 (sz h1) (0 + 1) = some (.int .i64 x7) ∧ ∃ q8 : Option Value, lookIs true [.int .i64, .int .i64] h3 index5 [.int .i64 x6, .int .i64 x7] q8 ∧
  ∃ x9 : Int, .int .i64 x9 = q8.getD (.int .i64 0) ∧ ∃ I10 : Int → Hp → Prop, (((!q8.isSome) = true → (∃ next11 : Int, cellAt h3 p0tb (p0to + 2) = some (.int .i64 next11) ∧ ∃ next12 : Int, cellAt h3 p0tb (p0to + 2) = some (.int .i64 next12) ∧
  ∃ placesa13 : Option Addr, ∃ placesl14 : Nat, ∃ placesc15 : Nat, cellAt h3 p0tb p0to = some (.slice placesa13 placesl14 placesc15) ∧ ((placesl14 : Nat) : Int) ≠ (0 : Int) ∧ truly true ∧ ∃ T16 : TypeId, ∃ l17 : List Value, bk h3 p0tb = some (blk T16 l17) ∧
  (p0to + 2) + 1 ≤ l17.length ∧ ∀ h4 : Hp, h4 = upd h3 p0tb T16 (writeAt l17 (p0to + 2) [.int .i64 (Int.tmod (IntKind.wrap .i64 (next12 + 1)) ((placesl14 : Nat) : Int))]) → CallsH Try.prog 27 [.pointer (some ⟨p0tb, p0to, none⟩), .int .i64 next11] h4 fun r18 h5 => r18 = .tuple #[] ∧
  I10 next11 h5)) ∧ ((!q8.isSome) = false → (I10 x9 h3))) ∧ ∀ atx19 : Int, ∀ h6 : Hp, I10 atx19 h6 → ∃ placesa20 : Option Addr, ∃ placesl21 : Nat, ∃ placesc22 : Nat, cellAt h6 p0tb p0to = some (.slice placesa20 placesl21 placesc22) ∧
  ∃ index23 : Option Nat, cellAt h6 p0tb (p0to + 1) = some (.map index23) ∧ ∃ x24 : Int, cellAt h6 (sz h1) (0 + 0) = some (.int .i64 x24) ∧ ∃ x25 : Int, cellAt h6 (sz h1) (0 + 1) = some (.int .i64 x25) ∧
  (0 : Int) ≤ atx19 ∧ atx19 < ((placesl21 : Nat) : Int) ∧ ∃ b26 : Nat, ∃ o27 : Nat, (placesa20 : Option Addr) = some ⟨b26, o27, none⟩ ∧ truly true ∧ ∃ T28 : TypeId, ∃ l29 : List Value, bk h6 b26 = some (blk T28 l29) ∧
  (o27 + atx19.toNat * 1) + 1 ≤ l29.length ∧ ∀ h7 : Hp, h7 = upd h6 b26 T28 (writeAt l29 (o27 + atx19.toNat * 1) [.pointer (some ⟨(sz h), 0, none⟩)]) → cellAt h7 (sz h1) (0 + 0) = some (.int .i64 x24) ∧
  cellAt h7 (sz h1) (0 + 1) = some (.int .i64 x25) ∧ ∃ r30 : Nat, ∃ es31 : List MapEntry, ∃ c32 : Nat, ∃ q33 : Option (Nat × Value), index23 = some r30 ∧ bk h7 r30 = some (.map ⟨es31⟩ c32) ∧ lookM true [.int .i64, .int .i64] [.int .i64 x24, .int .i64 x25] es31 0 = some q33 ∧
  ∀ h8 : Hp, h8 = updO h7 r30 (.map ⟨(entM es31 c32 q33 (.agg #[.int .i64 x24, .int .i64 x25]) (.int .i64 0)).1⟩ (entM es31 c32 q33 (.agg #[.int .i64 x24, .int .i64 x25]) (.int .i64 0)).2) → ∃ r34 : Nat, ∃ es35 : List MapEntry, ∃ c36 : Nat, ∃ i37 : Nat, index23 = some r34 ∧
  bk h8 r34 = some (.map ⟨es35⟩ c36) ∧ es35.findIdx? (fun e => (e.born : Int) == ((entS es31 c32 q33 : Nat) : Int)) = some i37 ∧ ∀ h9 : Hp, h9 = updO h8 r34 (.map ⟨es35.modify i37 fun e => { e with val := .int .i64 atx19 }⟩ c36) →
  R (.tuple #[]) h9
theorem tlb_Tlb_Fill.eq (p0tb p0to : Nat) (p1s_0 : Int) (p1s_1 : Int) (p1s_2 : Int) (p1s_3 : Bool) (p1s_4 : Bool) (h : Hp) (R : Value → Hp → Prop) : evBody Try.prog calls tlb_Tlb_Fill.hints Try.f21 [.ptr p0tb p0to, .agg [.int .i64 p1s_0, .int .i64 p1s_1, .int .i64 p1s_2, .bool p1s_3, .bool p1s_4]] h R = tlb_Tlb_Fill.P p0tb p0to p1s_0 p1s_1 p1s_2 p1s_3 p1s_4 h R := by kernel_rfl
theorem tlb_Tlb_Fill.calls (p0tb p0to : Nat) (p1s_0 : Int) (p1s_1 : Int) (p1s_2 : Int) (p1s_3 : Bool) (p1s_4 : Bool) (h : Hp) (R : Value → Hp → Prop) (hp : tlb_Tlb_Fill.P p0tb p0to p1s_0 p1s_1 p1s_2 p1s_3 p1s_4 h R) : CallsH Try.prog 21 [.pointer (some ⟨p0tb, p0to, none⟩), .agg #[.int .i64 p1s_0, .int .i64 p1s_1, .int .i64 p1s_2, .bool p1s_3, .bool p1s_4]] h R :=
  calls_of_body calls_ok Try.func21 (args := [.ptr p0tb p0to, .agg [.int .i64 p1s_0, .int .i64 p1s_1, .int .i64 p1s_2, .bool p1s_3, .bool p1s_4]]) (by rw [tlb_Tlb_Fill.eq]; exact hp)
/-! ### tlb_Tlb_Clear: function 22 -/
def tlb_Tlb_Clear.hints : Hints := { loops := [], cuts := [], orders := [] }
def tlb_Tlb_Clear.P (p0tb p0to : Nat) (h : Hp) (R : Value → Hp → Prop) : Prop :=
  ∃ placesa1 : Option Addr, ∃ placesl2 : Nat, ∃ placesc3 : Nat, cellAt h p0tb p0to = some (.slice placesa1 placesl2 placesc3) ∧ (placesl2 = 0 → ∃ index8 : Option Nat, cellAt h p0tb (p0to + 1) = some (.map index8) ∧
  ∃ r9 : Nat, ∃ es10 : List MapEntry, ∃ c11 : Nat, index8 = some r9 ∧ bk h r9 = some (.map ⟨es10⟩ c11) ∧ ∀ h2 : Hp, h2 = updO h r9 (.map ⟨[]⟩ c11) → truly true ∧ ∃ T12 : TypeId, ∃ l13 : List Value, bk h2 p0tb = some (blk T12 l13) ∧
  (p0to + 2) + 1 ≤ l13.length ∧ ∀ h3 : Hp, h3 = upd h2 p0tb T12 (writeAt l13 (p0to + 2) [.int .i64 0]) → R (.tuple #[]) h3) ∧ (0 < placesl2 → ∃ b4 : Nat, ∃ o5 : Nat, ∃ T6 : TypeId, ∃ l7 : List Value, placesa1 = some ⟨b4, o5, none⟩ ∧
  bk h b4 = some (blk T6 l7) ∧ o5 + placesl2 * 1 ≤ l7.length ∧ ∀ h1 : Hp, h1 = upd h b4 T6 (writeAt l7 o5 (zeros [.pointer none] placesl2)) → ∃ index14 : Option Nat, cellAt h1 p0tb (p0to + 1) = some (.map index14) ∧
  ∃ r15 : Nat, ∃ es16 : List MapEntry, ∃ c17 : Nat, index14 = some r15 ∧ bk h1 r15 = some (.map ⟨es16⟩ c17) ∧ ∀ h4 : Hp, h4 = updO h1 r15 (.map ⟨[]⟩ c17) → truly true ∧ ∃ T18 : TypeId, ∃ l19 : List Value, bk h4 p0tb = some (blk T18 l19) ∧
  (p0to + 2) + 1 ≤ l19.length ∧ ∀ h5 : Hp, h5 = upd h4 p0tb T18 (writeAt l19 (p0to + 2) [.int .i64 0]) → R (.tuple #[]) h5)
theorem tlb_Tlb_Clear.eq (p0tb p0to : Nat) (h : Hp) (R : Value → Hp → Prop) : evBody Try.prog calls tlb_Tlb_Clear.hints Try.f22 [.ptr p0tb p0to] h R = tlb_Tlb_Clear.P p0tb p0to h R := by kernel_rfl
theorem tlb_Tlb_Clear.calls (p0tb p0to : Nat) (h : Hp) (R : Value → Hp → Prop) (hp : tlb_Tlb_Clear.P p0tb p0to h R) : CallsH Try.prog 22 [.pointer (some ⟨p0tb, p0to, none⟩)] h R :=
  calls_of_body calls_ok Try.func22 (args := [.ptr p0tb p0to]) (by rw [tlb_Tlb_Clear.eq]; exact hp)
/-! ### slices_Index: function 23 -/
def slices_Index.hints : Hints := { loops := [(2, [0, 1, 7], [(8, (.one (.int .i64)))])], cuts := [], orders := [] }
def slices_Index.P (p0sa : Option Addr) (p0sl : Nat) (p0sc : Nat) (p1v : Int) (h : Hp) (R : Value → Hp → Prop) : Prop :=
  ∃ I1 : Int → Hp → Prop, ∃ m2 : Int → Hp → Nat, I1 0 h ∧ ∀ x3 : Int, ∀ h1 : Hp, I1 x3 h1 → ((decide (x3 < ((p0sl : Nat) : Int))) = true → ((0 : Int) ≤ x3 ∧ x3 < ((p0sl : Nat) : Int) ∧ ∃ b4 : Nat, ∃ o5 : Nat, (p0sa : Option Addr) = some ⟨b4, o5, none⟩ ∧
  ∃ x6 : Int, cellAt h1 b4 (o5 + x3.toNat * 1) = some (.int .i64 x6) ∧ ((p1v == x6) = true → (R (.int .i64 x3) h1)) ∧ ((p1v == x6) = false → (I1 (IntKind.wrap .i64 (x3 + 1)) h1 ∧ m2 (IntKind.wrap .i64 (x3 + 1)) h1 < m2 x3 h1)))) ∧
  ((decide (x3 < ((p0sl : Nat) : Int))) = false → (R (.int .i64 (-1)) h1))
theorem slices_Index.eq (p0sa : Option Addr) (p0sl : Nat) (p0sc : Nat) (p1v : Int) (h : Hp) (R : Value → Hp → Prop) : evBody Try.prog calls slices_Index.hints Try.f23 [.slice p0sa p0sl p0sc, .int .i64 p1v] h R = slices_Index.P p0sa p0sl p0sc p1v h R := by kernel_rfl
theorem slices_Index.calls (p0sa : Option Addr) (p0sl : Nat) (p0sc : Nat) (p1v : Int) (h : Hp) (R : Value → Hp → Prop) (hp : slices_Index.P p0sa p0sl p0sc p1v h R) : CallsH Try.prog 23 [.slice p0sa p0sl p0sc, .int .i64 p1v] h R :=
  calls_of_body calls_ok Try.func23 (args := [.slice p0sa p0sl p0sc, .int .i64 p1v]) (by rw [slices_Index.eq]; exact hp)
/-! ### slices_Contains: function 24 -/
def slices_Contains.hints : Hints := { loops := [], cuts := [], orders := [] }
def slices_Contains.P (p0sa : Option Addr) (p0sl : Nat) (p0sc : Nat) (p1v : Int) (h : Hp) (R : Value → Hp → Prop) : Prop :=
  CallsH Try.prog 23 [.slice p0sa p0sl p0sc, .int .i64 p1v] h fun r1 h1 => ∃ Index2 : Int, r1 = .int .i64 Index2 ∧ R (.bool (decide (Index2 ≥ 0))) h1
theorem slices_Contains.eq (p0sa : Option Addr) (p0sl : Nat) (p0sc : Nat) (p1v : Int) (h : Hp) (R : Value → Hp → Prop) : evBody Try.prog calls slices_Contains.hints Try.f24 [.slice p0sa p0sl p0sc, .int .i64 p1v] h R = slices_Contains.P p0sa p0sl p0sc p1v h R := by kernel_rfl
theorem slices_Contains.calls (p0sa : Option Addr) (p0sl : Nat) (p0sc : Nat) (p1v : Int) (h : Hp) (R : Value → Hp → Prop) (hp : slices_Contains.P p0sa p0sl p0sc p1v h R) : CallsH Try.prog 24 [.slice p0sa p0sl p0sc, .int .i64 p1v] h R :=
  calls_of_body calls_ok Try.func24 (args := [.slice p0sa p0sl p0sc, .int .i64 p1v]) (by rw [slices_Contains.eq]; exact hp)
/-! ### vmid_Pool_each: function 25 -/
def vmid_Pool_each.hints : Hints := { loops := [], cuts := [], orders := [] }
def vmid_Pool_each.P (p0pb p0po : Nat) (p1state : Int) (h : Hp) (R : Value → Hp → Prop) : Prop :=
  ∀ h1 : Hp, h1 = new h (blk 24 [.pointer (some ⟨p0pb, p0po, none⟩)]) → ∀ h2 : Hp, h2 = new h1 (blk 3 [.int .i64 p1state]) → R (.func (.func 28) #[] #[.pointer (some ⟨(sz h), 0, none⟩), .pointer (some ⟨(sz h1), 0, none⟩)]) h2
theorem vmid_Pool_each.eq (p0pb p0po : Nat) (p1state : Int) (h : Hp) (R : Value → Hp → Prop) : evBody Try.prog calls vmid_Pool_each.hints Try.f25 [.ptr p0pb p0po, .int .i64 p1state] h R = vmid_Pool_each.P p0pb p0po p1state h R := by kernel_rfl
theorem vmid_Pool_each.calls (p0pb p0po : Nat) (p1state : Int) (h : Hp) (R : Value → Hp → Prop) (hp : vmid_Pool_each.P p0pb p0po p1state h R) : CallsH Try.prog 25 [.pointer (some ⟨p0pb, p0po, none⟩), .int .i64 p1state] h R :=
  calls_of_body calls_ok Try.func25 (args := [.ptr p0pb p0po, .int .i64 p1state]) (by rw [vmid_Pool_each.eq]; exact hp)
/-! ### tlb_Tlb_free: function 27 -/
def tlb_Tlb_free.hints : Hints := { loops := [], cuts := [], orders := [(2, [0, 1, 3, 7, 0, 16, 48, 112, 0, 256, 768, 1792, 4080, 8191], (.leaf [0, 1, 2, 3, 4, 5, 6, 7, 8, 9, 10, 11, 12, 13]))] }
def tlb_Tlb_free.P (p0tb p0to : Nat) (p1at : Int) (h : Hp) (R : Value → Hp → Prop) : Prop :=
  ∃ placesa1 : Option Addr, ∃ placesl2 : Nat, ∃ placesc3 : Nat, cellAt h p0tb p0to = some (.slice placesa1 placesl2 placesc3) ∧ (0 : Int) ≤ p1at ∧ p1at < ((placesl2 : Nat) : Int) ∧ ∃ b4 : Nat, ∃ o5 : Nat, (placesa1 : Option Addr) = some ⟨b4, o5, none⟩ ∧
  ∃ x6 : Option Addr, cellAt h b4 (o5 + p1at.toNat * 1) = some (.pointer x6) ∧ ((notIf false x6.isNone) = true → (∃ index7 : Option Nat, cellAt h p0tb (p0to + 1) = some (.map index7) ∧ ∃ b8 : Nat, ∃ o9 : Nat, x6 = some ⟨b8, o9, none⟩ ∧
  ∃ Vmid10 : Int, cellAt h b8 o9 = some (.int .i64 Vmid10) ∧ ∃ b11 : Nat, ∃ o12 : Nat, x6 = some ⟨b11, o12, none⟩ ∧ ∃ Page13 : Int, cellAt h b11 (o12 + 1) = some (.int .i64 Page13) ∧ ∃ r14 : Nat, ∃ es15 : List MapEntry, ∃ c16 : Nat, ∃ q17 : Option (Nat × Value), index7 = some r14 ∧
  bk h r14 = some (.map ⟨es15⟩ c16) ∧ lookM true [.int .i64, .int .i64] [.int .i64 Vmid10, .int .i64 Page13] es15 0 = some q17 ∧ ∀ h1 : Hp, h1 = updO h r14 (.map ⟨dropM es15 q17⟩ c16) → ∃ placesa18 : Option Addr, ∃ placesl19 : Nat, ∃ placesc20 : Nat, cellAt h1 p0tb p0to = some (.slice placesa18 placesl19 placesc20) ∧
  (0 : Int) ≤ p1at ∧ p1at < ((placesl19 : Nat) : Int) ∧ ∃ b21 : Nat, ∃ o22 : Nat, (placesa18 : Option Addr) = some ⟨b21, o22, none⟩ ∧ truly true ∧ ∃ T23 : TypeId, ∃ l24 : List Value, bk h1 b21 = some (blk T23 l24) ∧
  (o22 + p1at.toNat * 1) + 1 ≤ l24.length ∧ ∀ h2 : Hp, h2 = upd h1 b21 T23 (writeAt l24 (o22 + p1at.toNat * 1) [.pointer none]) → R (.tuple #[]) h2)) ∧ ((notIf false x6.isNone) = false → (R (.tuple #[]) h))
theorem tlb_Tlb_free.eq (p0tb p0to : Nat) (p1at : Int) (h : Hp) (R : Value → Hp → Prop) : evBody Try.prog calls tlb_Tlb_free.hints Try.f27 [.ptr p0tb p0to, .int .i64 p1at] h R = tlb_Tlb_free.P p0tb p0to p1at h R := by kernel_rfl
theorem tlb_Tlb_free.calls (p0tb p0to : Nat) (p1at : Int) (h : Hp) (R : Value → Hp → Prop) (hp : tlb_Tlb_free.P p0tb p0to p1at h R) : CallsH Try.prog 27 [.pointer (some ⟨p0tb, p0to, none⟩), .int .i64 p1at] h R :=
  calls_of_body calls_ok Try.func27 (args := [.ptr p0tb p0to, .int .i64 p1at]) (by rw [tlb_Tlb_free.eq]; exact hp)
end Go.Proofs.Ytmocndbebknbgaa
