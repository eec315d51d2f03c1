/-
  Printed by this repo's own wip/tools/pr.py: what each function owes, as a proposition over heaps, read out of its body by the core.
-/
import Derived.Test.YtgajaoophcljnaaProg
import Derived.Test.YtgajaoophcljnaaWdFn
import Derived.KernelRfl
namespace Go.Proofs.Ytgajaoophcljnaa
open Go Go.Wd
set_option linter.unusedVariables false
set_option maxRecDepth 100000
def calls : Nat → Bool := fun f => [7, 8, 9, 10, 11, 12, 13, 14, 15, 16, 17, 18, 19, 20, 21].any (Nat.beq f)
theorem calls_ok : CallsOk Try.prog calls := by
  intro f hf
  simp only [calls, List.any_cons, List.any_nil, Bool.or_eq_true, Bool.or_false] at hf
  rcases hf with hf | hf | hf | hf | hf | hf | hf | hf | hf | hf | hf | hf | hf | hf | hf
  · obtain rfl := Nat.eq_of_beq_eq_true hf; exact Try.call7
  · obtain rfl := Nat.eq_of_beq_eq_true hf; exact Try.call8
  · obtain rfl := Nat.eq_of_beq_eq_true hf; exact Try.call9
  · obtain rfl := Nat.eq_of_beq_eq_true hf; exact Try.call10
  · obtain rfl := Nat.eq_of_beq_eq_true hf; exact Try.call11
  · obtain rfl := Nat.eq_of_beq_eq_true hf; exact Try.call12
  · obtain rfl := Nat.eq_of_beq_eq_true hf; exact Try.call13
  · obtain rfl := Nat.eq_of_beq_eq_true hf; exact Try.call14
  · obtain rfl := Nat.eq_of_beq_eq_true hf; exact Try.call15
  · obtain rfl := Nat.eq_of_beq_eq_true hf; exact Try.call16
  · obtain rfl := Nat.eq_of_beq_eq_true hf; exact Try.call17
  · obtain rfl := Nat.eq_of_beq_eq_true hf; exact Try.call18
  · obtain rfl := Nat.eq_of_beq_eq_true hf; exact Try.call19
  · obtain rfl := Nat.eq_of_beq_eq_true hf; exact Try.call20
  · obtain rfl := Nat.eq_of_beq_eq_true hf; exact Try.call21
/-! ### warderlaw16_RefillLater: function 3 -/
def warderlaw16_RefillLater.hints : Hints := { loops := [(10, [0, 1, 5, 7], [(9, (.one (.int .i64)))]), (18, [0, 5, 7, 10], [(11, (.one (.int .u64))), (12, (.one (.int .u64))), (13, (.one (.int .i64)))])], cuts := [], orders := [(12, [0, 0, 0, 6, 14, 30, 0, 0, 192, 448, 960, 2047, 0, 0, 0, 24576, 57344, 122880, 0, 0, 786432, 1835008, 3932160, 8388607, 16777215], [0, 1, 2, 3, 4, 5, 6, 7, 8, 9, 10, 12, 13, 14, 15, 16, 17, 18, 19, 20, 21, 22, 11, 23, 24])] }
def warderlaw16_RefillLater.P (p0room : Int) (p1callsa : Option Addr) (p1callsl : Nat) (p1callsc : Nat) (h : Hp) (R : Value → Hp → Prop) : Prop :=
  CallsH Try.prog 7 [] h fun r1 h1 => ∃ alive2 : Bool, r1 = .bool alive2 ∧ ((!alive2) = true → (R (.bool false) h1)) ∧ ((!alive2) = false → (((decide (((p1callsl : Nat) : Int) > 16)) = true → (R (.bool true) h1)) ∧
  ((decide (((p1callsl : Nat) : Int) > 16)) = false → (((decide (p0room < 1)) = true → (R (.bool true) h1)) ∧ ((decide (p0room < 1)) = false → (((decide (p0room > 16)) = true → (R (.bool true) h1)) ∧ ((decide (p0room > 16)) = false →
  (CallsH Try.prog 8 [.int .i64 p0room] h1 fun r3 h2 => ∃ New4 : Option Addr, ∃ New5 : Int, r3 = .tuple #[.pointer New4, .int .i64 New5] ∧ CallsH Try.prog 8 [.int .i64 16] h2 fun r6 h3 => ∃ New7 : Option Addr, ∃ New8 : Int, r6 = .tuple #[.pointer New7, .int .i64 New8] ∧
  ((New5 != 0) = true → (R (.bool false) h3)) ∧ ((New5 != 0) = false → (((New8 != 0) = true → (R (.bool false) h3)) ∧ ((New8 != 0) = false → (((notIf true New4.isNone) = true → (R (.bool false) h3)) ∧
  ((notIf true New4.isNone) = false → (((notIf true New7.isNone) = true → (R (.bool false) h3)) ∧ ((notIf true New7.isNone) = false → (∃ I9 : Int → Hp → Prop, ∃ m10 : Int → Hp → Nat, I9 0 h3 ∧ ∀ i11 : Int, ∀ h4 : Hp, I9 i11 h4 →
  ((decide (i11 < ((p1callsl : Nat) : Int))) = true → ((0 : Int) ≤ i11 ∧ i11 < ((p1callsl : Nat) : Int) ∧ ∃ b12 : Nat, ∃ o13 : Nat, p1callsa = some ⟨b12, o13, none⟩ ∧ ∃ At14 : Int, cellAt h4 b12 (o13 + i11.toNat * 3 + 1) = some (.int .u64 At14) ∧
  (0 : Int) ≤ i11 ∧ i11 < ((p1callsl : Nat) : Int) ∧ ∃ b15 : Nat, ∃ o16 : Nat, p1callsa = some ⟨b15, o16, none⟩ ∧ ∃ Amount17 : Int, cellAt h4 b15 (o16 + i11.toNat * 3 + 2) = some (.int .u64 Amount17) ∧
  (0 : Int) ≤ i11 ∧ i11 < ((p1callsl : Nat) : Int) ∧ ∃ b18 : Nat, ∃ o19 : Nat, p1callsa = some ⟨b18, o19, none⟩ ∧ ∃ At20 : Int, cellAt h4 b18 (o19 + i11.toNat * 3 + 1) = some (.int .u64 At20) ∧ (0 : Int) ≤ i11 ∧
  i11 < ((p1callsl : Nat) : Int) ∧ ∃ b21 : Nat, ∃ o22 : Nat, p1callsa = some ⟨b21, o22, none⟩ ∧ ∃ Amount23 : Int, cellAt h4 b21 (o22 + i11.toNat * 3 + 2) = some (.int .u64 Amount23) ∧ CallsH Try.prog 9 [.pointer New4, .int .u64 At14, .int .u64 Amount17] h4 fun r24 h5 => ∃ Push25 : Int, r24 = .int .i64 Push25 ∧
  cellAt h5 b18 (o19 + i11.toNat * 3 + 1) = some (.int .u64 At20) ∧ cellAt h5 b21 (o22 + i11.toNat * 3 + 2) = some (.int .u64 Amount23) ∧ CallsH Try.prog 9 [.pointer New7, .int .u64 At20, .int .u64 Amount23] h5 fun r26 h6 => ∃ Push27 : Int, r26 = .int .i64 Push27 ∧
  ((Push25 != Push27) = true → (R (.bool false) h6)) ∧ ((Push25 != Push27) = false → (I9 (IntKind.wrap .i64 (i11 + 1)) h6 ∧ m10 (IntKind.wrap .i64 (i11 + 1)) h6 < m10 i11 h4)))) ∧ ((decide (i11 < ((p1callsl : Nat) : Int))) = false →
  (CallsH Try.prog 10 [.pointer New7] h4 fun r28 h7 => ∃ Lista29 : Option Addr, ∃ Listl30 : Nat, ∃ Listc31 : Nat, r28 = .slice Lista29 Listl30 Listc31 ∧ ∃ I32 : Int → Int → Int → Hp → Prop, ∃ m33 : Int →
  Int → Int → Hp → Nat, I32 0 0 0 h7 ∧ ∀ a34 : Int, ∀ b35 : Int, ∀ i36 : Int, ∀ h8 : Hp, I32 a34 b35 i36 h8 → ((decide (i36 < ((Listl30 : Nat) : Int))) = true → ((0 : Int) ≤ i36 ∧ i36 < ((Listl30 : Nat) : Int) ∧
  ∃ b37 : Nat, ∃ o38 : Nat, Lista29 = some ⟨b37, o38, none⟩ ∧ ∃ At39 : Int, cellAt h8 b37 (o38 + i36.toNat * 2) = some (.int .u64 At39) ∧ CallsH Try.prog 11 [.pointer New4, .int .u64 At39] h8 fun r40 h9 => ∃ Take41 : Int, r40 = .int .u64 Take41 ∧
  (0 : Int) ≤ i36 ∧ i36 < ((Listl30 : Nat) : Int) ∧ ∃ b42 : Nat, ∃ o43 : Nat, Lista29 = some ⟨b42, o43, none⟩ ∧ ∃ At44 : Int, cellAt h9 b42 (o43 + i36.toNat * 2) = some (.int .u64 At44) ∧ CallsH Try.prog 11 [.pointer New7, .int .u64 At44] h9 fun r45 h10 => ∃ Take46 : Int, r45 = .int .u64 Take46 ∧
  ((decide ((IntKind.wrap .u64 (a34 + Take41)) > (IntKind.wrap .u64 (b35 + Take46)))) = true → (R (.bool false) h10)) ∧ ((decide ((IntKind.wrap .u64 (a34 + Take41)) > (IntKind.wrap .u64 (b35 + Take46)))) = false →
  (I32 (IntKind.wrap .u64 (a34 + Take41)) (IntKind.wrap .u64 (b35 + Take46)) (IntKind.wrap .i64 (i36 + 1)) h10 ∧ m33 (IntKind.wrap .u64 (a34 + Take41)) (IntKind.wrap .u64 (b35 + Take46)) (IntKind.wrap .i64 (i36 + 1)) h10 < m33 a34 b35 i36 h8)))) ∧
  ((decide (i36 < ((Listl30 : Nat) : Int))) = false → (((a34 == b35) = true → (CallsH Try.prog 10 [.pointer New4] h8 fun r47 h11 => ∃ Lista48 : Option Addr, ∃ Listl49 : Nat, ∃ Listc50 : Nat, r47 = .slice Lista48 Listl49 Listc50 ∧
  ((((Listl49 : Nat) : Int) == 0) = true → (CallsH Try.prog 10 [.pointer New4] h11 fun r51 h12 => ∃ Lista52 : Option Addr, ∃ Listl53 : Nat, ∃ Listc54 : Nat, r51 = .slice Lista52 Listl53 Listc54 ∧ R (.bool (decide (((Listl53 : Nat) : Int) ≤ p0room))) h12)) ∧
  ((((Listl49 : Nat) : Int) == 0) = false → (R (.bool false) h11)))) ∧ ((a34 == b35) = false → (R (.bool false) h8))))))))))))))))))))))
theorem warderlaw16_RefillLater.eq (p0room : Int) (p1callsa : Option Addr) (p1callsl : Nat) (p1callsc : Nat) (h : Hp) (R : Value → Hp → Prop) : evBody Try.prog calls warderlaw16_RefillLater.hints Try.f3 [.int .i64 p0room, .slice p1callsa p1callsl p1callsc] h R = warderlaw16_RefillLater.P p0room p1callsa p1callsl p1callsc h R := by kernel_rfl
theorem warderlaw16_RefillLater.calls (p0room : Int) (p1callsa : Option Addr) (p1callsl : Nat) (p1callsc : Nat) (h : Hp) (R : Value → Hp → Prop) (hp : warderlaw16_RefillLater.P p0room p1callsa p1callsl p1callsc h R) : CallsH Try.prog 3 [.int .i64 p0room, .slice p1callsa p1callsl p1callsc] h R :=
  calls_of_body calls_ok Try.func3 (args := [.int .i64 p0room, .slice p1callsa p1callsl p1callsc]) (by rw [warderlaw16_RefillLater.eq]; exact hp)
/-! ### warderlaw16_RefillSums: function 4 -/
def warderlaw16_RefillSums.hints : Hints := { loops := [(12, [1, 2, 7], [(9, (.one .slice)), (10, (.one .slice)), (11, (.one (.int .u64))), (12, (.one (.int .i64)))]), (21, [2, 7, 9, 10, 11], [(13, (.one (.int .u64))), (14, (.one (.int .u64))), (15, (.one (.int .i64)))]), (27, [2, 7, 9, 10, 11, 13, 14, 15], [(16, (.one (.int .u64))), (17, (.one (.int .i64)))])], cuts := [], orders := [(14, [0, 0, 0, 6, 14, 30, 0, 0, 192, 448, 960, 2047, 4095], [0, 1, 2, 3, 4, 5, 6, 7, 8, 9, 10, 11, 12])] }
def warderlaw16_RefillSums.P (p0room : Int) (p1callsa : Option Addr) (p1callsl : Nat) (p1callsc : Nat) (p2looksa : Option Addr) (p2looksl : Nat) (p2looksc : Nat) (h : Hp) (R : Value → Hp → Prop) : Prop :=
  CallsH Try.prog 7 [] h fun r1 h1 => ∃ alive2 : Bool, r1 = .bool alive2 ∧ ((!alive2) = true → (R (.bool false) h1)) ∧ ((!alive2) = false → (((decide (((p1callsl : Nat) : Int) > 60)) = true → (R (.bool true) h1)) ∧
  ((decide (((p1callsl : Nat) : Int) > 60)) = false → (((decide (((p2looksl : Nat) : Int) > 60)) = true → (R (.bool true) h1)) ∧ ((decide (((p2looksl : Nat) : Int) > 60)) = false → (((decide (p0room < 1)) = true →
  (R (.bool true) h1)) ∧ ((decide (p0room < 1)) = false → (((decide (p0room > 16)) = true → (R (.bool true) h1)) ∧ ((decide (p0room > 16)) = false → (CallsH Try.prog 8 [.int .i64 p0room] h1 fun r3 h2 => ∃ New4 : Option Addr, ∃ New5 : Int, r3 = .tuple #[.pointer New4, .int .i64 New5] ∧
  ((New5 != 0) = true → (R (.bool false) h2)) ∧ ((New5 != 0) = false → (((notIf true New4.isNone) = true → (R (.bool false) h2)) ∧ ((notIf true New4.isNone) = false → (∀ h3 : Hp, h3 = new h2 (blk 29 []) →
  ∀ h4 : Hp, h4 = new h3 (blk 29 []) → ∃ I6 : Option Addr → Nat → Nat → Option Addr → Nat → Nat → Int → Int → Hp → Prop, ∃ m7 : Option Addr → Nat → Nat → Option Addr → Nat → Nat → Int → Int → Hp → Nat, I6 (some ⟨sz h2, 0, none⟩) 0 0 (some ⟨sz h3, 0, none⟩) 0 0 0 0 h4 ∧
  ∀ timesa8 : Option Addr, ∀ timesl9 : Nat, ∀ timesc10 : Nat, ∀ amountsa11 : Option Addr, ∀ amountsl12 : Nat, ∀ amountsc13 : Nat, ∀ sum14 : Int, ∀ i15 : Int, ∀ h5 : Hp, I6 timesa8 timesl9 timesc10 amountsa11 amountsl12 amountsc13 sum14 i15 h5 →
  ((decide (i15 < ((p1callsl : Nat) : Int))) = true → ((0 : Int) ≤ i15 ∧ i15 < ((p1callsl : Nat) : Int) ∧ ∃ b16 : Nat, ∃ o17 : Nat, p1callsa = some ⟨b16, o17, none⟩ ∧ ∃ At18 : Int, cellAt h5 b16 (o17 + i15.toNat * 3 + 1) = some (.int .u64 At18) ∧
  (0 : Int) ≤ i15 ∧ i15 < ((p1callsl : Nat) : Int) ∧ ∃ b19 : Nat, ∃ o20 : Nat, p1callsa = some ⟨b19, o20, none⟩ ∧ ∃ Amount21 : Int, cellAt h5 b19 (o20 + i15.toNat * 3 + 2) = some (.int .u64 Amount21) ∧
  CallsH Try.prog 9 [.pointer New4, .int .u64 At18, .int .u64 Amount21] h5 fun r22 h6 => ∃ Push23 : Int, r22 = .int .i64 Push23 ∧ ((Push23 == 0) = true → ((0 : Int) ≤ i15 ∧ i15 < ((p1callsl : Nat) : Int) ∧
  ∃ b24 : Nat, ∃ o25 : Nat, p1callsa = some ⟨b24, o25, none⟩ ∧ ∃ At26 : Int, cellAt h6 b24 (o25 + i15.toNat * 3 + 1) = some (.int .u64 At26) ∧ ∀ h7 : Hp, h7 = new h6 (blk 29 [.int .u64 At26]) → appendN h7 29 1 8 [.int .u64 0] timesa8 timesl9 timesc10 (some ⟨sz h6, 0, none⟩) 1 fun a27 l28 c29 h8 => (0 : Int) ≤ i15 ∧
  i15 < ((p1callsl : Nat) : Int) ∧ ∃ b30 : Nat, ∃ o31 : Nat, p1callsa = some ⟨b30, o31, none⟩ ∧ ∃ Amount32 : Int, cellAt h8 b30 (o31 + i15.toNat * 3 + 2) = some (.int .u64 Amount32) ∧ ∀ h9 : Hp, h9 = new h8 (blk 29 [.int .u64 Amount32]) →
  appendN h9 29 1 8 [.int .u64 0] amountsa11 amountsl12 amountsc13 (some ⟨sz h8, 0, none⟩) 1 fun a33 l34 c35 h10 => (0 : Int) ≤ i15 ∧ i15 < ((p1callsl : Nat) : Int) ∧ ∃ b36 : Nat, ∃ o37 : Nat, p1callsa = some ⟨b36, o37, none⟩ ∧
  ∃ Amount38 : Int, cellAt h10 b36 (o37 + i15.toNat * 3 + 2) = some (.int .u64 Amount38) ∧ I6 a27 l28 c29 a33 l34 c35 (IntKind.wrap .u64 (sum14 + Amount38)) (IntKind.wrap .i64 (i15 + 1)) h10 ∧ m7 a27 l28 c29 a33 l34 c35 (IntKind.wrap .u64 (sum14 + Amount38)) (IntKind.wrap .i64 (i15 + 1)) h10 < m7 timesa8 timesl9 timesc10 amountsa11 amountsl12 amountsc13 sum14 i15 h5)) ∧
  ((Push23 == 0) = false → (I6 timesa8 timesl9 timesc10 amountsa11 amountsl12 amountsc13 sum14 (IntKind.wrap .i64 (i15 + 1)) h6 ∧ m7 timesa8 timesl9 timesc10 amountsa11 amountsl12 amountsc13 sum14 (IntKind.wrap .i64 (i15 + 1)) h6 < m7 timesa8 timesl9 timesc10 amountsa11 amountsl12 amountsc13 sum14 i15 h5)))) ∧
  ((decide (i15 < ((p1callsl : Nat) : Int))) = false → (∃ I39 : Int → Int → Int → Hp → Prop, ∃ m40 : Int → Int → Int → Hp → Nat, I39 0 0 0 h5 ∧ ∀ taken41 : Int, ∀ latest42 : Int, ∀ i43 : Int, ∀ h11 : Hp, I39 taken41 latest42 i43 h11 →
  ((decide (i43 < ((p2looksl : Nat) : Int))) = true → ((0 : Int) ≤ i43 ∧ i43 < ((p2looksl : Nat) : Int) ∧ ∃ b44 : Nat, ∃ o45 : Nat, p2looksa = some ⟨b44, o45, none⟩ ∧ ∃ x46 : Int, cellAt h11 b44 (o45 + i43.toNat * 1) = some (.int .u64 x46) ∧
  (0 : Int) ≤ i43 ∧ i43 < ((p2looksl : Nat) : Int) ∧ ∃ b47 : Nat, ∃ o48 : Nat, p2looksa = some ⟨b47, o48, none⟩ ∧ ∃ x49 : Int, cellAt h11 b47 (o48 + i43.toNat * 1) = some (.int .u64 x49) ∧ CallsH Try.prog 11 [.pointer New4, .int .u64 x49] h11 fun r50 h12 => ∃ Take51 : Int, r50 = .int .u64 Take51 ∧
  ∃ I52 : Int → Int → Hp → Prop, ∃ m53 : Int → Int → Hp → Nat, I52 0 0 h12 ∧ ∀ due54 : Int, ∀ k55 : Int, ∀ h13 : Hp, I52 due54 k55 h13 → ((decide (k55 < ((timesl9 : Nat) : Int))) = true → ((0 : Int) ≤ k55 ∧
  k55 < ((timesl9 : Nat) : Int) ∧ ∃ b56 : Nat, ∃ o57 : Nat, timesa8 = some ⟨b56, o57, none⟩ ∧ ∃ x58 : Int, cellAt h13 b56 (o57 + k55.toNat * 1) = some (.int .u64 x58) ∧ ((decide (x58 ≤ (maxI latest42 x46))) = true →
  ((0 : Int) ≤ k55 ∧ k55 < ((amountsl12 : Nat) : Int) ∧ ∃ b59 : Nat, ∃ o60 : Nat, amountsa11 = some ⟨b59, o60, none⟩ ∧ ∃ x61 : Int, cellAt h13 b59 (o60 + k55.toNat * 1) = some (.int .u64 x61) ∧ I52 (IntKind.wrap .u64 (due54 + x61)) (IntKind.wrap .i64 (k55 + 1)) h13 ∧
  m53 (IntKind.wrap .u64 (due54 + x61)) (IntKind.wrap .i64 (k55 + 1)) h13 < m53 due54 k55 h13)) ∧ ((decide (x58 ≤ (maxI latest42 x46))) = false → (I52 due54 (IntKind.wrap .i64 (k55 + 1)) h13 ∧ m53 due54 (IntKind.wrap .i64 (k55 + 1)) h13 < m53 due54 k55 h13)))) ∧
  ((decide (k55 < ((timesl9 : Nat) : Int))) = false → (((decide ((IntKind.wrap .u64 (taken41 + Take51)) > due54)) = true → (R (.bool false) h13)) ∧ ((decide ((IntKind.wrap .u64 (taken41 + Take51)) > due54)) = false →
  (CallsH Try.prog 12 [.pointer New4] h13 fun r62 h14 => ∃ Total63 : Int, r62 = .int .u64 Total63 ∧ ((Total63 != (IntKind.wrap .u64 (sum14 - (IntKind.wrap .u64 (taken41 + Take51))))) = true → (R (.bool false) h14)) ∧
  ((Total63 != (IntKind.wrap .u64 (sum14 - (IntKind.wrap .u64 (taken41 + Take51))))) = false → (I39 (IntKind.wrap .u64 (taken41 + Take51)) (maxI latest42 x46) (IntKind.wrap .i64 (i43 + 1)) h14 ∧ m40 (IntKind.wrap .u64 (taken41 + Take51)) (maxI latest42 x46) (IntKind.wrap .i64 (i43 + 1)) h14 < m40 taken41 latest42 i43 h11)))))))) ∧
  ((decide (i43 < ((p2looksl : Nat) : Int))) = false → (CallsH Try.prog 11 [.pointer New4, .int .u64 4611686018427387904] h11 fun r64 h15 => ∃ Take65 : Int, r64 = .int .u64 Take65 ∧ (((IntKind.wrap .u64 (taken41 + Take65)) == sum14) = true →
  (CallsH Try.prog 12 [.pointer New4] h15 fun r66 h16 => ∃ Total67 : Int, r66 = .int .u64 Total67 ∧ ((Total67 == 0) = true → (CallsH Try.prog 10 [.pointer New4] h16 fun r68 h17 => ∃ Lista69 : Option Addr, ∃ Listl70 : Nat, ∃ Listc71 : Nat, r68 = .slice Lista69 Listl70 Listc71 ∧
  R (.bool (((Listl70 : Nat) : Int) == 0)) h17)) ∧ ((Total67 == 0) = false → (R (.bool false) h16)))) ∧ (((IntKind.wrap .u64 (taken41 + Take65)) == sum14) = false → (R (.bool false) h15))))))))))))))))))))
theorem warderlaw16_RefillSums.eq (p0room : Int) (p1callsa : Option Addr) (p1callsl : Nat) (p1callsc : Nat) (p2looksa : Option Addr) (p2looksl : Nat) (p2looksc : Nat) (h : Hp) (R : Value → Hp → Prop) : evBody Try.prog calls warderlaw16_RefillSums.hints Try.f4 [.int .i64 p0room, .slice p1callsa p1callsl p1callsc, .slice p2looksa p2looksl p2looksc] h R = warderlaw16_RefillSums.P p0room p1callsa p1callsl p1callsc p2looksa p2looksl p2looksc h R := by kernel_rfl
theorem warderlaw16_RefillSums.calls (p0room : Int) (p1callsa : Option Addr) (p1callsl : Nat) (p1callsc : Nat) (p2looksa : Option Addr) (p2looksl : Nat) (p2looksc : Nat) (h : Hp) (R : Value → Hp → Prop) (hp : warderlaw16_RefillSums.P p0room p1callsa p1callsl p1callsc p2looksa p2looksl p2looksc h R) : CallsH Try.prog 4 [.int .i64 p0room, .slice p1callsa p1callsl p1callsc, .slice p2looksa p2looksl p2looksc] h R :=
  calls_of_body calls_ok Try.func4 (args := [.int .i64 p0room, .slice p1callsa p1callsl p1callsc, .slice p2looksa p2looksl p2looksc]) (by rw [warderlaw16_RefillSums.eq]; exact hp)
/-! ### warderlaw16_RefillOne: function 5 -/
def warderlaw16_RefillOne.hints : Hints := { loops := [(11, [0, 3], [(5, (.one (.int .u64))), (6, (.one (.int .u64))), (7, (.one (.int .i64)))])], cuts := [], orders := [(13, [0, 0, 0, 6, 14, 30, 0, 0, 192, 448, 960, 2047, 4095], [0, 1, 2, 3, 4, 5, 6, 7, 8, 9, 10, 11, 12])] }
def warderlaw16_RefillOne.P (p0callsa : Option Addr) (p0callsl : Nat) (p0callsc : Nat) (h : Hp) (R : Value → Hp → Prop) : Prop :=
  CallsH Try.prog 7 [] h fun r1 h1 => ∃ alive2 : Bool, r1 = .bool alive2 ∧ ((!alive2) = true → (R (.bool false) h1)) ∧ ((!alive2) = false → (((decide (((p0callsl : Nat) : Int) > 60)) = true → (R (.bool true) h1)) ∧
  ((decide (((p0callsl : Nat) : Int) > 60)) = false → (CallsH Try.prog 8 [.int .i64 1] h1 fun r3 h2 => ∃ New4 : Option Addr, ∃ New5 : Int, r3 = .tuple #[.pointer New4, .int .i64 New5] ∧ ((New5 != 0) = true →
  (R (.bool false) h2)) ∧ ((New5 != 0) = false → (((notIf true New4.isNone) = true → (R (.bool false) h2)) ∧ ((notIf true New4.isNone) = false → (∃ I6 : Int → Int → Int → Hp → Prop, ∃ m7 : Int → Int →
  Int → Hp → Nat, I6 0 0 0 h2 ∧ ∀ sum8 : Int, ∀ last9 : Int, ∀ i10 : Int, ∀ h3 : Hp, I6 sum8 last9 i10 h3 → ((decide (i10 < ((p0callsl : Nat) : Int))) = true → ((0 : Int) ≤ i10 ∧ i10 < ((p0callsl : Nat) : Int) ∧
  ∃ b11 : Nat, ∃ o12 : Nat, p0callsa = some ⟨b11, o12, none⟩ ∧ ∃ At13 : Int, cellAt h3 b11 (o12 + i10.toNat * 3 + 1) = some (.int .u64 At13) ∧ (0 : Int) ≤ i10 ∧ i10 < ((p0callsl : Nat) : Int) ∧ ∃ b14 : Nat, ∃ o15 : Nat, p0callsa = some ⟨b14, o15, none⟩ ∧
  ∃ Amount16 : Int, cellAt h3 b14 (o15 + i10.toNat * 3 + 2) = some (.int .u64 Amount16) ∧ CallsH Try.prog 9 [.pointer New4, .int .u64 At13, .int .u64 Amount16] h3 fun r17 h4 => ∃ Push18 : Int, r17 = .int .i64 Push18 ∧
  ((Push18 == 0) = true → ((0 : Int) ≤ i10 ∧ i10 < ((p0callsl : Nat) : Int) ∧ ∃ b19 : Nat, ∃ o20 : Nat, p0callsa = some ⟨b19, o20, none⟩ ∧ ∃ At21 : Int, cellAt h4 b19 (o20 + i10.toNat * 3 + 1) = some (.int .u64 At21) ∧
  ((decide (At21 < last9)) = true → (R (.bool false) h4)) ∧ ((decide (At21 < last9)) = false → ((0 : Int) ≤ i10 ∧ i10 < ((p0callsl : Nat) : Int) ∧ ∃ b22 : Nat, ∃ o23 : Nat, p0callsa = some ⟨b22, o23, none⟩ ∧
  ∃ Amount24 : Int, cellAt h4 b22 (o23 + i10.toNat * 3 + 2) = some (.int .u64 Amount24) ∧ (0 : Int) ≤ i10 ∧ i10 < ((p0callsl : Nat) : Int) ∧ ∃ b25 : Nat, ∃ o26 : Nat, p0callsa = some ⟨b25, o26, none⟩ ∧
  ∃ At27 : Int, cellAt h4 b25 (o26 + i10.toNat * 3 + 1) = some (.int .u64 At27) ∧ I6 (IntKind.wrap .u64 (sum8 + Amount24)) At27 (IntKind.wrap .i64 (i10 + 1)) h4 ∧ m7 (IntKind.wrap .u64 (sum8 + Amount24)) At27 (IntKind.wrap .i64 (i10 + 1)) h4 < m7 sum8 last9 i10 h3)))) ∧
  ((Push18 == 0) = false → (I6 sum8 last9 (IntKind.wrap .i64 (i10 + 1)) h4 ∧ m7 sum8 last9 (IntKind.wrap .i64 (i10 + 1)) h4 < m7 sum8 last9 i10 h3)))) ∧ ((decide (i10 < ((p0callsl : Nat) : Int))) = false →
  (CallsH Try.prog 10 [.pointer New4] h3 fun r28 h5 => ∃ Lista29 : Option Addr, ∃ Listl30 : Nat, ∃ Listc31 : Nat, r28 = .slice Lista29 Listl30 Listc31 ∧ ((sum8 == 0) = true → (R (.bool (((Listl30 : Nat) : Int) == 0)) h5)) ∧
  ((sum8 == 0) = false → (((((Listl30 : Nat) : Int) == 1) = true → ((0 : Int) ≤ 0 ∧ (0 : Int) < ((Listl30 : Nat) : Int) ∧ ∃ b32 : Nat, ∃ o33 : Nat, Lista29 = some ⟨b32, o33, none⟩ ∧ ∃ x34 : Int, cellAt h5 b32 (o33 + (0 : Int).toNat * 2 + 0) = some (.int .u64 x34) ∧
  ∃ x35 : Int, cellAt h5 b32 (o33 + (0 : Int).toNat * 2 + 1) = some (.int .u64 x35) ∧ ((notIf true ((x34 == last9) && ((x35 == sum8) && true))) = true → (((last9 == 0) = true → (CallsH Try.prog 11 [.pointer New4, .int .u64 last9] h5 fun r36 h6 => ∃ Take37 : Int, r36 = .int .u64 Take37 ∧
  R (.bool (Take37 == sum8)) h6)) ∧ ((last9 == 0) = false → (CallsH Try.prog 11 [.pointer New4, .int .u64 (IntKind.wrap .u64 (last9 - 1))] h5 fun r38 h7 => ∃ Take39 : Int, r38 = .int .u64 Take39 ∧ ((Take39 == 0) = true →
  (CallsH Try.prog 11 [.pointer New4, .int .u64 last9] h7 fun r40 h8 => ∃ Take41 : Int, r40 = .int .u64 Take41 ∧ R (.bool (Take41 == sum8)) h8)) ∧ ((Take39 == 0) = false → (R (.bool false) h7)))))) ∧ ((notIf true ((x34 == last9) && ((x35 == sum8) && true))) = false →
  (R (.bool false) h5)))) ∧ ((((Listl30 : Nat) : Int) == 1) = false → (R (.bool false) h5))))))))))))))
theorem warderlaw16_RefillOne.eq (p0callsa : Option Addr) (p0callsl : Nat) (p0callsc : Nat) (h : Hp) (R : Value → Hp → Prop) : evBody Try.prog calls warderlaw16_RefillOne.hints Try.f5 [.slice p0callsa p0callsl p0callsc] h R = warderlaw16_RefillOne.P p0callsa p0callsl p0callsc h R := by kernel_rfl
theorem warderlaw16_RefillOne.calls (p0callsa : Option Addr) (p0callsl : Nat) (p0callsc : Nat) (h : Hp) (R : Value → Hp → Prop) (hp : warderlaw16_RefillOne.P p0callsa p0callsl p0callsc h R) : CallsH Try.prog 5 [.slice p0callsa p0callsl p0callsc] h R :=
  calls_of_body calls_ok Try.func5 (args := [.slice p0callsa p0callsl p0callsc]) (by rw [warderlaw16_RefillOne.eq]; exact hp)
/-! ### warderlaw16_RefillCalls: function 6 -/
def warderlaw16_RefillCalls.hints : Hints := { loops := [(12, [1, 5, 7], [(8, (.one (.int .i64)))])], cuts := [(25, [1, 5, 7, 8], [])], orders := [(17, [0, 0, 2, 0, 8, 31, 0, 0, 128, 0, 512, 2047, 4095], [0, 1, 2, 3, 4, 6, 7, 8, 9, 10, 5, 11, 12]), (20, [0, 0, 2, 7, 0, 0, 32, 127, 255], [0, 1, 2, 4, 5, 6, 3, 7, 8]), (26, [0, 0, 2, 6, 14, 30, 62, 127, 255, 511, 1023, 2047, 2047, 6143, 14335, 30719, 63487, 129023, 260095, 524287, 1048575, 2097151, 4194303, 8388607, 16777215, 33554431, 67108863, 134217727, 268435455, 536870911, 1073741823, 2147483647, 4294967295, 2147483647, 17179869183, 34359738367, 68719476735, 137438953471, 274877906943, 549755813887, 274877906943, 1374389534719, 3573412790271, 7971459301375, 17592186044415, 35184372088831, 70368744177663], [0, 1, 2, 3, 4, 5, 6, 7, 8, 9, 10, 11, 12, 13, 14, 15, 16, 17, 18, 19, 20, 21, 22, 23, 24, 25, 26, 27, 28, 29, 30, 31, 33, 32, 34, 35, 36, 37, 38, 40, 41, 42, 43, 39, 44, 45, 46])] }
def warderlaw16_RefillCalls.P (p0room : Int) (p1callsa : Option Addr) (p1callsl : Nat) (p1callsc : Nat) (h : Hp) (R : Value → Hp → Prop) : Prop :=
  CallsH Try.prog 7 [] h fun r1 h1 => ∃ alive2 : Bool, r1 = .bool alive2 ∧ ((!alive2) = true → (R (.bool false) h1)) ∧ ((!alive2) = false → (((decide (((p1callsl : Nat) : Int) > 200)) = true → (R (.bool true) h1)) ∧
  ((decide (((p1callsl : Nat) : Int) > 200)) = false → (CallsH Try.prog 8 [.int .i64 p0room] h1 fun r3 h2 => ∃ New4 : Option Addr, ∃ New5 : Int, r3 = .tuple #[.pointer New4, .int .i64 New5] ∧ ((decide (p0room < 1)) = true →
  (((New5 == 11) = true → (R (.bool (notIf true New4.isNone)) h2)) ∧ ((New5 == 11) = false → (R (.bool false) h2)))) ∧ ((decide (p0room < 1)) = false → (((decide (p0room > 16)) = true → (((New5 == 11) = true →
  (R (.bool (notIf true New4.isNone)) h2)) ∧ ((New5 == 11) = false → (R (.bool false) h2)))) ∧ ((decide (p0room > 16)) = false → (((New5 != 0) = true → (R (.bool false) h2)) ∧ ((New5 != 0) = false → (((notIf true New4.isNone) = true →
  (R (.bool false) h2)) ∧ ((notIf true New4.isNone) = false → (∀ h3 : Hp, h3 = new h2 (blk 45 [.int .i64 p0room, .slice none 0 0]) → ∃ I6 : Int → Hp → Prop, ∃ m7 : Int → Hp → Nat, I6 0 h3 ∧ ∀ i8 : Int, ∀ h4 : Hp, I6 i8 h4 →
  ((decide (i8 < ((p1callsl : Nat) : Int))) = true → ((0 : Int) ≤ i8 ∧ i8 < ((p1callsl : Nat) : Int) ∧ ∃ b9 : Nat, ∃ o10 : Nat, p1callsa = some ⟨b9, o10, none⟩ ∧ ∃ x11 : Int, cellAt h4 b9 (o10 + i8.toNat * 3 + 0) = some (.int .i64 x11) ∧
  ∃ x12 : Int, cellAt h4 b9 (o10 + i8.toNat * 3 + 1) = some (.int .u64 x12) ∧ ∃ x13 : Int, cellAt h4 b9 (o10 + i8.toNat * 3 + 2) = some (.int .u64 x13) ∧ ∀ h5 : Hp, h5 = new h4 (blk 31 [.int .i64 0, .int .u64 0, .int .u64 0]) →
  (true = true) ∧ ∃ T14 : TypeId, ∃ l15 : List Value, bk h5 (sz h4) = some (blk T14 l15) ∧ 0 + 3 ≤ l15.length ∧ ∀ h6 : Hp, h6 = upd h5 (sz h4) T14 (writeAt l15 0 [.int .i64 x11, .int .u64 x12, .int .u64 x13]) →
  ∃ I16 : Hp → Prop, (∃ What17 : Int, cellAt h6 (sz h4) 0 = some (.int .i64 What17) ∧ ((What17 == 0) = true → (∃ At18 : Int, cellAt h6 (sz h4) 1 = some (.int .u64 At18) ∧ ∃ Amount19 : Int, cellAt h6 (sz h4) 2 = some (.int .u64 Amount19) ∧
  ∃ At20 : Int, cellAt h6 (sz h4) 1 = some (.int .u64 At20) ∧ ∃ Amount21 : Int, cellAt h6 (sz h4) 2 = some (.int .u64 Amount21) ∧ CallsH Try.prog 9 [.pointer New4, .int .u64 At18, .int .u64 Amount19] h6 fun r22 h7 => ∃ Push23 : Int, r22 = .int .i64 Push23 ∧
  cellAt h7 (sz h4) 1 = some (.int .u64 At20) ∧ cellAt h7 (sz h4) 2 = some (.int .u64 Amount21) ∧ CallsH Try.prog 13 [.pointer (some ⟨(sz h2), 0, none⟩), .int .u64 At20, .int .u64 Amount21] h7 fun r24 h8 => ∃ Push25 : Int, r24 = .int .i64 Push25 ∧
  ((Push23 != Push25) = true → (R (.bool false) h8)) ∧ ((Push23 != Push25) = false → (I16 h8)))) ∧ ((What17 == 0) = false → (((What17 == 1) = true → (∃ At26 : Int, cellAt h6 (sz h4) 1 = some (.int .u64 At26) ∧
  ∃ At27 : Int, cellAt h6 (sz h4) 1 = some (.int .u64 At27) ∧ CallsH Try.prog 11 [.pointer New4, .int .u64 At26] h6 fun r28 h9 => ∃ Take29 : Int, r28 = .int .u64 Take29 ∧ cellAt h9 (sz h4) 1 = some (.int .u64 At27) ∧
  CallsH Try.prog 14 [.pointer (some ⟨(sz h2), 0, none⟩), .int .u64 At27] h9 fun r30 h10 => ∃ Take31 : Int, r30 = .int .u64 Take31 ∧ ((Take29 != Take31) = true → (R (.bool false) h10)) ∧ ((Take29 != Take31) = false →
  (I16 h10)))) ∧ ((What17 == 1) = false → (((What17 == 2) = true → (CallsH Try.prog 15 [.pointer New4] h6 fun r32 h11 => r32 = .tuple #[] ∧ (true = true) ∧ ∃ T33 : TypeId, ∃ l34 : List Value, bk h11 (sz h2) = some (blk T33 l34) ∧
  1 + 1 ≤ l34.length ∧ ∀ h12 : Hp, h12 = upd h11 (sz h2) T33 (writeAt l34 1 [.slice none 0 0]) → I16 h12)) ∧ ((What17 == 2) = false → (I16 h6))))))) ∧ ∀ h13 : Hp, I16 h13 → CallsH Try.prog 16 [.pointer New4] h13 fun r35 h14 => ∃ Next36 : Int, ∃ Next37 : Bool, r35 = .tuple #[.int .u64 Next36, .bool Next37] ∧
  ∃ Lista38 : Option Addr, ∃ Listl39 : Nat, ∃ Listc40 : Nat, cellAt h14 (sz h2) 1 = some (.slice Lista38 Listl39 Listc40) ∧ ((notIf false (Next37 == (decide (((Listl39 : Nat) : Int) > 0)))) = true → (R (.bool false) h14)) ∧
  ((notIf false (Next37 == (decide (((Listl39 : Nat) : Int) > 0)))) = false → (((Next37) = true → (∃ Lista41 : Option Addr, ∃ Listl42 : Nat, ∃ Listc43 : Nat, cellAt h14 (sz h2) 1 = some (.slice Lista41 Listl42 Listc43) ∧
  (0 : Int) ≤ 0 ∧ (0 : Int) < ((Listl42 : Nat) : Int) ∧ ∃ b44 : Nat, ∃ o45 : Nat, Lista41 = some ⟨b44, o45, none⟩ ∧ ∃ At46 : Int, cellAt h14 b44 (o45 + (0 : Int).toNat * 2) = some (.int .u64 At46) ∧ ((Next36 != At46) = true →
  (R (.bool false) h14)) ∧ ((Next36 != At46) = false → (((!Next37) = true → (((Next36 != 0) = true → (R (.bool false) h14)) ∧ ((Next36 != 0) = false → (CallsH Try.prog 12 [.pointer New4] h14 fun r47 h15 => ∃ Total48 : Int, r47 = .int .u64 Total48 ∧
  CallsH Try.prog 17 [.pointer (some ⟨(sz h2), 0, none⟩)] h15 fun r49 h16 => ∃ Total50 : Int, r49 = .int .u64 Total50 ∧ ((Total48 != Total50) = true → (R (.bool false) h16)) ∧ ((Total48 != Total50) = false →
  (∃ Lista51 : Option Addr, ∃ Listl52 : Nat, ∃ Listc53 : Nat, cellAt h16 (sz h2) 1 = some (.slice Lista51 Listl52 Listc53) ∧ CallsH Try.prog 10 [.pointer New4] h16 fun r54 h17 => ∃ Lista55 : Option Addr, ∃ Listl56 : Nat, ∃ Listc57 : Nat, r54 = .slice Lista55 Listl56 Listc57 ∧
  cellAt h17 (sz h2) 1 = some (.slice Lista51 Listl52 Listc53) ∧ CallsH Try.prog 18 [.slice Lista55 Listl56 Listc57, .slice Lista51 Listl52 Listc53] h17 fun r58 h18 => ∃ same59 : Bool, r58 = .bool same59 ∧
  ((!same59) = true → (R (.bool false) h18)) ∧ ((!same59) = false → (I6 (IntKind.wrap .i64 (i8 + 1)) h18 ∧ m7 (IntKind.wrap .i64 (i8 + 1)) h18 < m7 i8 h4)))))))) ∧ ((!Next37) = false → (CallsH Try.prog 12 [.pointer New4] h14 fun r60 h19 => ∃ Total61 : Int, r60 = .int .u64 Total61 ∧
  CallsH Try.prog 17 [.pointer (some ⟨(sz h2), 0, none⟩)] h19 fun r62 h20 => ∃ Total63 : Int, r62 = .int .u64 Total63 ∧ ((Total61 != Total63) = true → (R (.bool false) h20)) ∧ ((Total61 != Total63) = false →
  (∃ Lista64 : Option Addr, ∃ Listl65 : Nat, ∃ Listc66 : Nat, cellAt h20 (sz h2) 1 = some (.slice Lista64 Listl65 Listc66) ∧ CallsH Try.prog 10 [.pointer New4] h20 fun r67 h21 => ∃ Lista68 : Option Addr, ∃ Listl69 : Nat, ∃ Listc70 : Nat, r67 = .slice Lista68 Listl69 Listc70 ∧
  cellAt h21 (sz h2) 1 = some (.slice Lista64 Listl65 Listc66) ∧ CallsH Try.prog 18 [.slice Lista68 Listl69 Listc70, .slice Lista64 Listl65 Listc66] h21 fun r71 h22 => ∃ same72 : Bool, r71 = .bool same72 ∧
  ((!same72) = true → (R (.bool false) h22)) ∧ ((!same72) = false → (I6 (IntKind.wrap .i64 (i8 + 1)) h22 ∧ m7 (IntKind.wrap .i64 (i8 + 1)) h22 < m7 i8 h4)))))))))) ∧ ((Next37) = false → (((!Next37) = true →
  (((Next36 != 0) = true → (R (.bool false) h14)) ∧ ((Next36 != 0) = false → (CallsH Try.prog 12 [.pointer New4] h14 fun r73 h23 => ∃ Total74 : Int, r73 = .int .u64 Total74 ∧ CallsH Try.prog 17 [.pointer (some ⟨(sz h2), 0, none⟩)] h23 fun r75 h24 => ∃ Total76 : Int, r75 = .int .u64 Total76 ∧
  ((Total74 != Total76) = true → (R (.bool false) h24)) ∧ ((Total74 != Total76) = false → (∃ Lista77 : Option Addr, ∃ Listl78 : Nat, ∃ Listc79 : Nat, cellAt h24 (sz h2) 1 = some (.slice Lista77 Listl78 Listc79) ∧
  CallsH Try.prog 10 [.pointer New4] h24 fun r80 h25 => ∃ Lista81 : Option Addr, ∃ Listl82 : Nat, ∃ Listc83 : Nat, r80 = .slice Lista81 Listl82 Listc83 ∧ cellAt h25 (sz h2) 1 = some (.slice Lista77 Listl78 Listc79) ∧
  CallsH Try.prog 18 [.slice Lista81 Listl82 Listc83, .slice Lista77 Listl78 Listc79] h25 fun r84 h26 => ∃ same85 : Bool, r84 = .bool same85 ∧ ((!same85) = true → (R (.bool false) h26)) ∧ ((!same85) = false →
  (I6 (IntKind.wrap .i64 (i8 + 1)) h26 ∧ m7 (IntKind.wrap .i64 (i8 + 1)) h26 < m7 i8 h4)))))))) ∧ ((!Next37) = false → (CallsH Try.prog 12 [.pointer New4] h14 fun r86 h27 => ∃ Total87 : Int, r86 = .int .u64 Total87 ∧
  CallsH Try.prog 17 [.pointer (some ⟨(sz h2), 0, none⟩)] h27 fun r88 h28 => ∃ Total89 : Int, r88 = .int .u64 Total89 ∧ ((Total87 != Total89) = true → (R (.bool false) h28)) ∧ ((Total87 != Total89) = false →
  (∃ Lista90 : Option Addr, ∃ Listl91 : Nat, ∃ Listc92 : Nat, cellAt h28 (sz h2) 1 = some (.slice Lista90 Listl91 Listc92) ∧ CallsH Try.prog 10 [.pointer New4] h28 fun r93 h29 => ∃ Lista94 : Option Addr, ∃ Listl95 : Nat, ∃ Listc96 : Nat, r93 = .slice Lista94 Listl95 Listc96 ∧
  cellAt h29 (sz h2) 1 = some (.slice Lista90 Listl91 Listc92) ∧ CallsH Try.prog 18 [.slice Lista94 Listl95 Listc96, .slice Lista90 Listl91 Listc92] h29 fun r97 h30 => ∃ same98 : Bool, r97 = .bool same98 ∧
  ((!same98) = true → (R (.bool false) h30)) ∧ ((!same98) = false → (I6 (IntKind.wrap .i64 (i8 + 1)) h30 ∧ m7 (IntKind.wrap .i64 (i8 + 1)) h30 < m7 i8 h4)))))))))))) ∧ ((decide (i8 < ((p1callsl : Nat) : Int))) = false →
  (R (.bool true) h4))))))))))))))
theorem warderlaw16_RefillCalls.eq (p0room : Int) (p1callsa : Option Addr) (p1callsl : Nat) (p1callsc : Nat) (h : Hp) (R : Value → Hp → Prop) : evBody Try.prog calls warderlaw16_RefillCalls.hints Try.f6 [.int .i64 p0room, .slice p1callsa p1callsl p1callsc] h R = warderlaw16_RefillCalls.P p0room p1callsa p1callsl p1callsc h R := by kernel_rfl
theorem warderlaw16_RefillCalls.calls (p0room : Int) (p1callsa : Option Addr) (p1callsl : Nat) (p1callsc : Nat) (h : Hp) (R : Value → Hp → Prop) (hp : warderlaw16_RefillCalls.P p0room p1callsa p1callsl p1callsc h R) : CallsH Try.prog 6 [.int .i64 p0room, .slice p1callsa p1callsl p1callsc] h R :=
  calls_of_body calls_ok Try.func6 (args := [.int .i64 p0room, .slice p1callsa p1callsl p1callsc]) (by rw [warderlaw16_RefillCalls.eq]; exact hp)
/-! ### warderlaw16_alive: function 7 -/
def warderlaw16_alive.hints : Hints := { loops := [], cuts := [], orders := [] }
def warderlaw16_alive.P  (h : Hp) (R : Value → Hp → Prop) : Prop :=
  CallsH Try.prog 8 [.int .i64 1] h fun r1 h1 => ∃ New2 : Option Addr, ∃ New3 : Int, r1 = .tuple #[.pointer New2, .int .i64 New3] ∧ ((New3 != 0) = true → (R (.bool false) h1)) ∧ ((New3 != 0) = false →
  (((notIf true New2.isNone) = true → (R (.bool false) h1)) ∧ ((notIf true New2.isNone) = false → (CallsH Try.prog 9 [.pointer New2, .int .u64 5, .int .u64 2] h1 fun r4 h2 => ∃ Push5 : Int, r4 = .int .i64 Push5 ∧
  CallsH Try.prog 9 [.pointer New2, .int .u64 9, .int .u64 3] h2 fun r6 h3 => ∃ Push7 : Int, r6 = .int .i64 Push7 ∧ CallsH Try.prog 9 [.pointer New2, .int .u64 8, .int .u64 1] h3 fun r8 h4 => ∃ Push9 : Int, r8 = .int .i64 Push9 ∧
  CallsH Try.prog 10 [.pointer New2] h4 fun r10 h5 => ∃ Lista11 : Option Addr, ∃ Listl12 : Nat, ∃ Listc13 : Nat, r10 = .slice Lista11 Listl12 Listc13 ∧ CallsH Try.prog 11 [.pointer New2, .int .u64 8] h5 fun r14 h6 => ∃ Take15 : Int, r14 = .int .u64 Take15 ∧
  CallsH Try.prog 11 [.pointer New2, .int .u64 9] h6 fun r16 h7 => ∃ Take17 : Int, r16 = .int .u64 Take17 ∧ ((Push5 == 0) = true → (((Push7 == 0) = true → (((Push9 == 11) = true → (((((Listl12 : Nat) : Int) == 1) = true →
  ((0 : Int) ≤ 0 ∧ (0 : Int) < ((Listl12 : Nat) : Int) ∧ ∃ b18 : Nat, ∃ o19 : Nat, Lista11 = some ⟨b18, o19, none⟩ ∧ ∃ x20 : Int, cellAt h7 b18 (o19 + (0 : Int).toNat * 2 + 0) = some (.int .u64 x20) ∧
  ∃ x21 : Int, cellAt h7 b18 (o19 + (0 : Int).toNat * 2 + 1) = some (.int .u64 x21) ∧ ((notIf true ((x20 == 9) && ((x21 == 5) && true))) = true → (((Take15 == 0) = true → (((Take17 == 5) = true → (CallsH Try.prog 12 [.pointer New2] h7 fun r22 h8 => ∃ Total23 : Int, r22 = .int .u64 Total23 ∧
  R (.bool (Total23 == 0)) h8)) ∧ ((Take17 == 5) = false → (R (.bool false) h7)))) ∧ ((Take15 == 0) = false → (R (.bool false) h7)))) ∧ ((notIf true ((x20 == 9) && ((x21 == 5) && true))) = false → (R (.bool false) h7)))) ∧
  ((((Listl12 : Nat) : Int) == 1) = false → (R (.bool false) h7)))) ∧ ((Push9 == 11) = false → (R (.bool false) h7)))) ∧ ((Push7 == 0) = false → (R (.bool false) h7)))) ∧ ((Push5 == 0) = false → (R (.bool false) h7))))))
theorem warderlaw16_alive.eq  (h : Hp) (R : Value → Hp → Prop) : evBody Try.prog calls warderlaw16_alive.hints Try.f7 [] h R = warderlaw16_alive.P  h R := by kernel_rfl
theorem warderlaw16_alive.calls  (h : Hp) (R : Value → Hp → Prop) (hp : warderlaw16_alive.P  h R) : CallsH Try.prog 7 [] h R :=
  calls_of_body calls_ok Try.func7 (args := []) (by rw [warderlaw16_alive.eq]; exact hp)
/-! ### refill_New: function 8 -/
def refill_New.hints : Hints := { loops := [], cuts := [], orders := [] }
def refill_New.P (p0room : Int) (h : Hp) (R : Value → Hp → Prop) : Prop :=
  ((decide (p0room < 1)) = true → (R (.tuple #[.pointer none, .int .i64 11]) h)) ∧ ((decide (p0room < 1)) = false → (((decide (p0room > 16)) = true → (R (.tuple #[.pointer none, .int .i64 11]) h)) ∧ ((decide (p0room > 16)) = false →
  ((0 : Int) ≤ p0room ∧ p0room ≤ p0room ∧ p0room ≤ 140737488355328 ∧ ((16 : Nat) : Int) * p0room ≤ 281474976710656 ∧ (2 : Nat) = 2 ∧ ∀ h1 : Hp, h1 = new h (blk 36 (zeros [.int .u64 0, .int .u64 0] p0room.toNat)) →
  ∀ h2 : Hp, h2 = new h1 (blk 51 [.slice (some ⟨sz h, 0, none⟩) p0room.toNat p0room.toNat, .int .i64 0, .int .i64 0, .int .u64 0]) → R (.tuple #[.pointer (some ⟨(sz h1), 0, none⟩), .int .i64 0]) h2))))
theorem refill_New.eq (p0room : Int) (h : Hp) (R : Value → Hp → Prop) : evBody Try.prog calls refill_New.hints Try.f8 [.int .i64 p0room] h R = refill_New.P p0room h R := by kernel_rfl
theorem refill_New.calls (p0room : Int) (h : Hp) (R : Value → Hp → Prop) (hp : refill_New.P p0room h R) : CallsH Try.prog 8 [.int .i64 p0room] h R :=
  calls_of_body calls_ok Try.func8 (args := [.int .i64 p0room]) (by rw [refill_New.eq]; exact hp)
/-! ### refill_Row_Push: function 9 -/
def refill_Row_Push.hints : Hints := { loops := [], cuts := [], orders := [(7, [0, 1, 3, 7, 15, 31, 63, 7, 135, 391, 903, 1927, 4095, 8191, 16383, 32767, 65535, 131071, 16383, 524287, 1048575, 2097151], [0, 1, 2, 3, 4, 5, 6, 7, 8, 9, 10, 11, 12, 13, 14, 15, 16, 17, 18, 19, 20, 21])] }
def refill_Row_Push.P (p0qb p0qo : Nat) (p1at : Int) (p2amount : Int) (h : Hp) (R : Value → Hp → Prop) : Prop :=
  CallsH Try.prog 19 [.pointer (some ⟨p0qb, p0qo, none⟩)] h fun r1 h1 => ∃ last2 : Option Addr, r1 = .pointer last2 ∧ ((p2amount == 0) = true → (R (.int .i64 11) h1)) ∧ ((p2amount == 0) = false → (((decide (p2amount > 4611686018427387904)) = true →
  (R (.int .i64 11) h1)) ∧ ((decide (p2amount > 4611686018427387904)) = false → (((decide (p1at > 4611686018427387904)) = true → (R (.int .i64 11) h1)) ∧ ((decide (p1at > 4611686018427387904)) = false →
  (((notIf false last2.isNone) = true → (∃ b3 : Nat, ∃ o4 : Nat, last2 = some ⟨b3, o4, none⟩ ∧ ∃ At5 : Int, cellAt h1 b3 o4 = some (.int .u64 At5) ∧ ((decide (p1at < At5)) = true → (R (.int .i64 11) h1)) ∧
  ((decide (p1at < At5)) = false → (∃ total6 : Int, cellAt h1 p0qb (p0qo + 3) = some (.int .u64 total6) ∧ ((decide (p2amount > (IntKind.wrap .u64 (4611686018427387904 - total6)))) = true → (R (.int .i64 14) h1)) ∧
  ((decide (p2amount > (IntKind.wrap .u64 (4611686018427387904 - total6)))) = false → (∃ total7 : Int, cellAt h1 p0qb (p0qo + 3) = some (.int .u64 total7) ∧ (true = true) ∧ ∃ T8 : TypeId, ∃ l9 : List Value, bk h1 p0qb = some (blk T8 l9) ∧
  (p0qo + 3) + 1 ≤ l9.length ∧ ∀ h2 : Hp, h2 = upd h1 p0qb T8 (writeAt l9 (p0qo + 3) [.int .u64 (IntKind.wrap .u64 (total7 + p2amount))]) → ((notIf false last2.isNone) = true → (∃ count10 : Int, cellAt h2 p0qb (p0qo + 2) = some (.int .i64 count10) ∧
  ∃ ringa11 : Option Addr, ∃ ringl12 : Nat, ∃ ringc13 : Nat, cellAt h2 p0qb p0qo = some (.slice ringa11 ringl12 ringc13) ∧ ((count10 == ((ringl12 : Nat) : Int)) = true → (∃ b14 : Nat, ∃ o15 : Nat, last2 = some ⟨b14, o15, none⟩ ∧
  ∃ Amount16 : Int, cellAt h2 b14 (o15 + 1) = some (.int .u64 Amount16) ∧ ∃ b17 : Nat, ∃ o18 : Nat, last2 = some ⟨b17, o18, none⟩ ∧ (true = true) ∧ ∃ T19 : TypeId, ∃ l20 : List Value, bk h2 b17 = some (blk T19 l20) ∧
  o18 + 1 ≤ l20.length ∧ ∀ h3 : Hp, h3 = upd h2 b17 T19 (writeAt l20 o18 [.int .u64 p1at]) → ∃ b21 : Nat, ∃ o22 : Nat, last2 = some ⟨b21, o22, none⟩ ∧ (true = true) ∧ ∃ T23 : TypeId, ∃ l24 : List Value, bk h3 b21 = some (blk T23 l24) ∧
  (o22 + 1) + 1 ≤ l24.length ∧ ∀ h4 : Hp, h4 = upd h3 b21 T23 (writeAt l24 (o22 + 1) [.int .u64 (IntKind.wrap .u64 (Amount16 + p2amount))]) → R (.int .i64 0) h4)) ∧ ((count10 == ((ringl12 : Nat) : Int)) = false →
  (∃ b25 : Nat, ∃ o26 : Nat, last2 = some ⟨b25, o26, none⟩ ∧ ∃ At27 : Int, cellAt h2 b25 o26 = some (.int .u64 At27) ∧ ((At27 == p1at) = true → (∃ b28 : Nat, ∃ o29 : Nat, last2 = some ⟨b28, o29, none⟩ ∧
  ∃ Amount30 : Int, cellAt h2 b28 (o29 + 1) = some (.int .u64 Amount30) ∧ ∃ b31 : Nat, ∃ o32 : Nat, last2 = some ⟨b31, o32, none⟩ ∧ (true = true) ∧ ∃ T33 : TypeId, ∃ l34 : List Value, bk h2 b31 = some (blk T33 l34) ∧
  o32 + 1 ≤ l34.length ∧ ∀ h5 : Hp, h5 = upd h2 b31 T33 (writeAt l34 o32 [.int .u64 p1at]) → ∃ b35 : Nat, ∃ o36 : Nat, last2 = some ⟨b35, o36, none⟩ ∧ (true = true) ∧ ∃ T37 : TypeId, ∃ l38 : List Value, bk h5 b35 = some (blk T37 l38) ∧
  (o36 + 1) + 1 ≤ l38.length ∧ ∀ h6 : Hp, h6 = upd h5 b35 T37 (writeAt l38 (o36 + 1) [.int .u64 (IntKind.wrap .u64 (Amount30 + p2amount))]) → R (.int .i64 0) h6)) ∧ ((At27 == p1at) = false → (∃ count39 : Int, cellAt h2 p0qb (p0qo + 2) = some (.int .i64 count39) ∧
  (true = true) ∧ ∃ T40 : TypeId, ∃ l41 : List Value, bk h2 p0qb = some (blk T40 l41) ∧ (p0qo + 2) + 1 ≤ l41.length ∧ ∀ h7 : Hp, h7 = upd h2 p0qb T40 (writeAt l41 (p0qo + 2) [.int .i64 (IntKind.wrap .i64 (count39 + 1))]) →
  CallsH Try.prog 19 [.pointer (some ⟨p0qb, p0qo, none⟩)] h7 fun r42 h8 => ∃ last43 : Option Addr, r42 = .pointer last43 ∧ ∃ b44 : Nat, ∃ o45 : Nat, last43 = some ⟨b44, o45, none⟩ ∧ (true = true) ∧ ∃ T46 : TypeId, ∃ l47 : List Value, bk h8 b44 = some (blk T46 l47) ∧
  o45 + 2 ≤ l47.length ∧ ∀ h9 : Hp, h9 = upd h8 b44 T46 (writeAt l47 o45 [.int .u64 p1at, .int .u64 p2amount]) → R (.int .i64 0) h9)))))) ∧ ((notIf false last2.isNone) = false → (∃ count48 : Int, cellAt h2 p0qb (p0qo + 2) = some (.int .i64 count48) ∧
  (true = true) ∧ ∃ T49 : TypeId, ∃ l50 : List Value, bk h2 p0qb = some (blk T49 l50) ∧ (p0qo + 2) + 1 ≤ l50.length ∧ ∀ h10 : Hp, h10 = upd h2 p0qb T49 (writeAt l50 (p0qo + 2) [.int .i64 (IntKind.wrap .i64 (count48 + 1))]) →
  CallsH Try.prog 19 [.pointer (some ⟨p0qb, p0qo, none⟩)] h10 fun r51 h11 => ∃ last52 : Option Addr, r51 = .pointer last52 ∧ ∃ b53 : Nat, ∃ o54 : Nat, last52 = some ⟨b53, o54, none⟩ ∧ (true = true) ∧ ∃ T55 : TypeId, ∃ l56 : List Value, bk h11 b53 = some (blk T55 l56) ∧
  o54 + 2 ≤ l56.length ∧ ∀ h12 : Hp, h12 = upd h11 b53 T55 (writeAt l56 o54 [.int .u64 p1at, .int .u64 p2amount]) → R (.int .i64 0) h12)))))))) ∧ ((notIf false last2.isNone) = false → (∃ total57 : Int, cellAt h1 p0qb (p0qo + 3) = some (.int .u64 total57) ∧
  ((decide (p2amount > (IntKind.wrap .u64 (4611686018427387904 - total57)))) = true → (R (.int .i64 14) h1)) ∧ ((decide (p2amount > (IntKind.wrap .u64 (4611686018427387904 - total57)))) = false → (∃ total58 : Int, cellAt h1 p0qb (p0qo + 3) = some (.int .u64 total58) ∧
  (true = true) ∧ ∃ T59 : TypeId, ∃ l60 : List Value, bk h1 p0qb = some (blk T59 l60) ∧ (p0qo + 3) + 1 ≤ l60.length ∧ ∀ h13 : Hp, h13 = upd h1 p0qb T59 (writeAt l60 (p0qo + 3) [.int .u64 (IntKind.wrap .u64 (total58 + p2amount))]) →
  ((notIf false last2.isNone) = true → (∃ count61 : Int, cellAt h13 p0qb (p0qo + 2) = some (.int .i64 count61) ∧ ∃ ringa62 : Option Addr, ∃ ringl63 : Nat, ∃ ringc64 : Nat, cellAt h13 p0qb p0qo = some (.slice ringa62 ringl63 ringc64) ∧
  ((count61 == ((ringl63 : Nat) : Int)) = true → (∃ b65 : Nat, ∃ o66 : Nat, last2 = some ⟨b65, o66, none⟩ ∧ ∃ Amount67 : Int, cellAt h13 b65 (o66 + 1) = some (.int .u64 Amount67) ∧ ∃ b68 : Nat, ∃ o69 : Nat, last2 = some ⟨b68, o69, none⟩ ∧
  (true = true) ∧ ∃ T70 : TypeId, ∃ l71 : List Value, bk h13 b68 = some (blk T70 l71) ∧ o69 + 1 ≤ l71.length ∧ ∀ h14 : Hp, h14 = upd h13 b68 T70 (writeAt l71 o69 [.int .u64 p1at]) → ∃ b72 : Nat, ∃ o73 : Nat, last2 = some ⟨b72, o73, none⟩ ∧
  (true = true) ∧ ∃ T74 : TypeId, ∃ l75 : List Value, bk h14 b72 = some (blk T74 l75) ∧ (o73 + 1) + 1 ≤ l75.length ∧ ∀ h15 : Hp, h15 = upd h14 b72 T74 (writeAt l75 (o73 + 1) [.int .u64 (IntKind.wrap .u64 (Amount67 + p2amount))]) →
  R (.int .i64 0) h15)) ∧ ((count61 == ((ringl63 : Nat) : Int)) = false → (∃ b76 : Nat, ∃ o77 : Nat, last2 = some ⟨b76, o77, none⟩ ∧ ∃ At78 : Int, cellAt h13 b76 o77 = some (.int .u64 At78) ∧ ((At78 == p1at) = true →
  (∃ b79 : Nat, ∃ o80 : Nat, last2 = some ⟨b79, o80, none⟩ ∧ ∃ Amount81 : Int, cellAt h13 b79 (o80 + 1) = some (.int .u64 Amount81) ∧ ∃ b82 : Nat, ∃ o83 : Nat, last2 = some ⟨b82, o83, none⟩ ∧ (true = true) ∧
  ∃ T84 : TypeId, ∃ l85 : List Value, bk h13 b82 = some (blk T84 l85) ∧ o83 + 1 ≤ l85.length ∧ ∀ h16 : Hp, h16 = upd h13 b82 T84 (writeAt l85 o83 [.int .u64 p1at]) → ∃ b86 : Nat, ∃ o87 : Nat, last2 = some ⟨b86, o87, none⟩ ∧
  (true = true) ∧ ∃ T88 : TypeId, ∃ l89 : List Value, bk h16 b86 = some (blk T88 l89) ∧ (o87 + 1) + 1 ≤ l89.length ∧ ∀ h17 : Hp, h17 = upd h16 b86 T88 (writeAt l89 (o87 + 1) [.int .u64 (IntKind.wrap .u64 (Amount81 + p2amount))]) →
  R (.int .i64 0) h17)) ∧ ((At78 == p1at) = false → (∃ count90 : Int, cellAt h13 p0qb (p0qo + 2) = some (.int .i64 count90) ∧ (true = true) ∧ ∃ T91 : TypeId, ∃ l92 : List Value, bk h13 p0qb = some (blk T91 l92) ∧
  (p0qo + 2) + 1 ≤ l92.length ∧ ∀ h18 : Hp, h18 = upd h13 p0qb T91 (writeAt l92 (p0qo + 2) [.int .i64 (IntKind.wrap .i64 (count90 + 1))]) → CallsH Try.prog 19 [.pointer (some ⟨p0qb, p0qo, none⟩)] h18 fun r93 h19 => ∃ last94 : Option Addr, r93 = .pointer last94 ∧
  ∃ b95 : Nat, ∃ o96 : Nat, last94 = some ⟨b95, o96, none⟩ ∧ (true = true) ∧ ∃ T97 : TypeId, ∃ l98 : List Value, bk h19 b95 = some (blk T97 l98) ∧ o96 + 2 ≤ l98.length ∧ ∀ h20 : Hp, h20 = upd h19 b95 T97 (writeAt l98 o96 [.int .u64 p1at, .int .u64 p2amount]) →
  R (.int .i64 0) h20)))))) ∧ ((notIf false last2.isNone) = false → (∃ count99 : Int, cellAt h13 p0qb (p0qo + 2) = some (.int .i64 count99) ∧ (true = true) ∧ ∃ T100 : TypeId, ∃ l101 : List Value, bk h13 p0qb = some (blk T100 l101) ∧
  (p0qo + 2) + 1 ≤ l101.length ∧ ∀ h21 : Hp, h21 = upd h13 p0qb T100 (writeAt l101 (p0qo + 2) [.int .i64 (IntKind.wrap .i64 (count99 + 1))]) → CallsH Try.prog 19 [.pointer (some ⟨p0qb, p0qo, none⟩)] h21 fun r102 h22 => ∃ last103 : Option Addr, r102 = .pointer last103 ∧
  ∃ b104 : Nat, ∃ o105 : Nat, last103 = some ⟨b104, o105, none⟩ ∧ (true = true) ∧ ∃ T106 : TypeId, ∃ l107 : List Value, bk h22 b104 = some (blk T106 l107) ∧ o105 + 2 ≤ l107.length ∧ ∀ h23 : Hp, h23 = upd h22 b104 T106 (writeAt l107 o105 [.int .u64 p1at, .int .u64 p2amount]) →
  R (.int .i64 0) h23))))))))))))
theorem refill_Row_Push.eq (p0qb p0qo : Nat) (p1at : Int) (p2amount : Int) (h : Hp) (R : Value → Hp → Prop) : evBody Try.prog calls refill_Row_Push.hints Try.f9 [.ptr p0qb p0qo, .int .u64 p1at, .int .u64 p2amount] h R = refill_Row_Push.P p0qb p0qo p1at p2amount h R := by kernel_rfl
theorem refill_Row_Push.calls (p0qb p0qo : Nat) (p1at : Int) (p2amount : Int) (h : Hp) (R : Value → Hp → Prop) (hp : refill_Row_Push.P p0qb p0qo p1at p2amount h R) : CallsH Try.prog 9 [.pointer (some ⟨p0qb, p0qo, none⟩), .int .u64 p1at, .int .u64 p2amount] h R :=
  calls_of_body calls_ok Try.func9 (args := [.ptr p0qb p0qo, .int .u64 p1at, .int .u64 p2amount]) (by rw [refill_Row_Push.eq]; exact hp)
/-! ### refill_Row_List: function 10 -/
def refill_Row_List.hints : Hints := { loops := [(3, [0, 8], [(3, (.one .slice)), (9, (.one (.int .i64)))])], cuts := [], orders := [] }
def refill_Row_List.P (p0qb p0qo : Nat) (h : Hp) (R : Value → Hp → Prop) : Prop :=
  ∃ count1 : Int, cellAt h p0qb (p0qo + 2) = some (.int .i64 count1) ∧ ∃ I2 : Option Addr → Nat → Nat → Int → Hp → Prop, ∃ m3 : Option Addr → Nat → Nat → Int → Hp → Nat, I2 none 0 0 0 h ∧ ∀ outa4 : Option Addr, ∀ outl5 : Nat, ∀ outc6 : Nat, ∀ x7 : Int, ∀ h1 : Hp, I2 outa4 outl5 outc6 x7 h1 →
  ((decide (x7 < count1)) = true → (CallsH Try.prog 20 [.pointer (some ⟨p0qb, p0qo, none⟩), .int .i64 x7] h1 fun r8 h2 => ∃ atx9 : Option Addr, r8 = .pointer atx9 ∧ ∃ b10 : Nat, ∃ o11 : Nat, atx9 = some ⟨b10, o11, none⟩ ∧
  ∃ x12 : Int, cellAt h2 b10 (o11 + 0) = some (.int .u64 x12) ∧ ∃ x13 : Int, cellAt h2 b10 (o11 + 1) = some (.int .u64 x13) ∧ ∀ h3 : Hp, h3 = new h2 (blk 36 [.int .u64 x12, .int .u64 x13]) → appendN h3 36 2 16 [.int .u64 0, .int .u64 0] outa4 outl5 outc6 (some ⟨sz h2, 0, none⟩) 1 fun a14 l15 c16 h4 => I2 a14 l15 c16 (IntKind.wrap .i64 (x7 + 1)) h4 ∧
  m3 a14 l15 c16 (IntKind.wrap .i64 (x7 + 1)) h4 < m3 outa4 outl5 outc6 x7 h1)) ∧ ((decide (x7 < count1)) = false → (CallsH Try.prog 21 [.slice outa4 outl5 outc6] h1 fun r17 h5 => ∃ Clipa18 : Option Addr, ∃ Clipl19 : Nat, ∃ Clipc20 : Nat, r17 = .slice Clipa18 Clipl19 Clipc20 ∧
  R (.slice Clipa18 Clipl19 Clipc20) h5))
theorem refill_Row_List.eq (p0qb p0qo : Nat) (h : Hp) (R : Value → Hp → Prop) : evBody Try.prog calls refill_Row_List.hints Try.f10 [.ptr p0qb p0qo] h R = refill_Row_List.P p0qb p0qo h R := by kernel_rfl
theorem refill_Row_List.calls (p0qb p0qo : Nat) (h : Hp) (R : Value → Hp → Prop) (hp : refill_Row_List.P p0qb p0qo h R) : CallsH Try.prog 10 [.pointer (some ⟨p0qb, p0qo, none⟩)] h R :=
  calls_of_body calls_ok Try.func10 (args := [.ptr p0qb p0qo]) (by rw [refill_Row_List.eq]; exact hp)
/-! ### refill_Row_Take: function 11 -/
def refill_Row_Take.hints : Hints := { loops := [(2, [0, 1], [(5, (.one (.int .u64)))])], cuts := [], orders := [(4, [0, 0, 2, 6, 14, 30, 0, 64, 192, 448, 960, 2046, 4095, 8191, 16383], [0, 1, 2, 3, 4, 5, 6, 7, 8, 9, 10, 11, 12, 13, 14])] }
def refill_Row_Take.P (p0qb p0qo : Nat) (p1now : Int) (h : Hp) (R : Value → Hp → Prop) : Prop :=
  ∃ I1 : Int → Hp → Prop, ∃ m2 : Int → Hp → Nat, I1 0 h ∧ ∀ out3 : Int, ∀ h1 : Hp, I1 out3 h1 → ∃ count4 : Int, cellAt h1 p0qb (p0qo + 2) = some (.int .i64 count4) ∧ ((decide (count4 > 0)) = true → (CallsH Try.prog 20 [.pointer (some ⟨p0qb, p0qo, none⟩), .int .i64 0] h1 fun r5 h2 => ∃ atx6 : Option Addr, r5 = .pointer atx6 ∧
  ∃ b7 : Nat, ∃ o8 : Nat, atx6 = some ⟨b7, o8, none⟩ ∧ ∃ At9 : Int, cellAt h2 b7 o8 = some (.int .u64 At9) ∧ ((decide (At9 ≤ p1now)) = true → (CallsH Try.prog 20 [.pointer (some ⟨p0qb, p0qo, none⟩), .int .i64 0] h2 fun r10 h3 => ∃ atx11 : Option Addr, r10 = .pointer atx11 ∧
  ∃ b12 : Nat, ∃ o13 : Nat, atx11 = some ⟨b12, o13, none⟩ ∧ ∃ Amount14 : Int, cellAt h3 b12 (o13 + 1) = some (.int .u64 Amount14) ∧ ∃ first15 : Int, cellAt h3 p0qb (p0qo + 1) = some (.int .i64 first15) ∧
  ∃ ringa16 : Option Addr, ∃ ringl17 : Nat, ∃ ringc18 : Nat, cellAt h3 p0qb p0qo = some (.slice ringa16 ringl17 ringc18) ∧ ((ringl17 : Nat) : Int) ≠ 0 ∧ (true = true) ∧ ∃ T19 : TypeId, ∃ l20 : List Value, bk h3 p0qb = some (blk T19 l20) ∧
  (p0qo + 1) + 1 ≤ l20.length ∧ ∀ h4 : Hp, h4 = upd h3 p0qb T19 (writeAt l20 (p0qo + 1) [.int .i64 (Int.tmod (IntKind.wrap .i64 (first15 + 1)) ((ringl17 : Nat) : Int))]) → ∃ count21 : Int, cellAt h4 p0qb (p0qo + 2) = some (.int .i64 count21) ∧
  (true = true) ∧ ∃ T22 : TypeId, ∃ l23 : List Value, bk h4 p0qb = some (blk T22 l23) ∧ (p0qo + 2) + 1 ≤ l23.length ∧ ∀ h5 : Hp, h5 = upd h4 p0qb T22 (writeAt l23 (p0qo + 2) [.int .i64 (IntKind.wrap .i64 (count21 - 1))]) →
  I1 (IntKind.wrap .u64 (out3 + Amount14)) h5 ∧ m2 (IntKind.wrap .u64 (out3 + Amount14)) h5 < m2 out3 h1)) ∧ ((decide (At9 ≤ p1now)) = false → (∃ total24 : Int, cellAt h2 p0qb (p0qo + 3) = some (.int .u64 total24) ∧
  (true = true) ∧ ∃ T25 : TypeId, ∃ l26 : List Value, bk h2 p0qb = some (blk T25 l26) ∧ (p0qo + 3) + 1 ≤ l26.length ∧ ∀ h6 : Hp, h6 = upd h2 p0qb T25 (writeAt l26 (p0qo + 3) [.int .u64 (IntKind.wrap .u64 (total24 - out3))]) →
  R (.int .u64 out3) h6)))) ∧ ((decide (count4 > 0)) = false → (∃ total27 : Int, cellAt h1 p0qb (p0qo + 3) = some (.int .u64 total27) ∧ (true = true) ∧ ∃ T28 : TypeId, ∃ l29 : List Value, bk h1 p0qb = some (blk T28 l29) ∧
  (p0qo + 3) + 1 ≤ l29.length ∧ ∀ h7 : Hp, h7 = upd h1 p0qb T28 (writeAt l29 (p0qo + 3) [.int .u64 (IntKind.wrap .u64 (total27 - out3))]) → R (.int .u64 out3) h7))
theorem refill_Row_Take.eq (p0qb p0qo : Nat) (p1now : Int) (h : Hp) (R : Value → Hp → Prop) : evBody Try.prog calls refill_Row_Take.hints Try.f11 [.ptr p0qb p0qo, .int .u64 p1now] h R = refill_Row_Take.P p0qb p0qo p1now h R := by kernel_rfl
theorem refill_Row_Take.calls (p0qb p0qo : Nat) (p1now : Int) (h : Hp) (R : Value → Hp → Prop) (hp : refill_Row_Take.P p0qb p0qo p1now h R) : CallsH Try.prog 11 [.pointer (some ⟨p0qb, p0qo, none⟩), .int .u64 p1now] h R :=
  calls_of_body calls_ok Try.func11 (args := [.ptr p0qb p0qo, .int .u64 p1now]) (by rw [refill_Row_Take.eq]; exact hp)
/-! ### refill_Row_Total: function 12 -/
def refill_Row_Total.hints : Hints := { loops := [], cuts := [], orders := [] }
def refill_Row_Total.P (p0qb p0qo : Nat) (h : Hp) (R : Value → Hp → Prop) : Prop :=
  ∃ total1 : Int, cellAt h p0qb (p0qo + 3) = some (.int .u64 total1) ∧ R (.int .u64 total1) h
theorem refill_Row_Total.eq (p0qb p0qo : Nat) (h : Hp) (R : Value → Hp → Prop) : evBody Try.prog calls refill_Row_Total.hints Try.f12 [.ptr p0qb p0qo] h R = refill_Row_Total.P p0qb p0qo h R := by kernel_rfl
theorem refill_Row_Total.calls (p0qb p0qo : Nat) (h : Hp) (R : Value → Hp → Prop) (hp : refill_Row_Total.P p0qb p0qo h R) : CallsH Try.prog 12 [.pointer (some ⟨p0qb, p0qo, none⟩)] h R :=
  calls_of_body calls_ok Try.func12 (args := [.ptr p0qb p0qo]) (by rw [refill_Row_Total.eq]; exact hp)
/-! ### warderref16_Row_Push: function 13 -/
def warderref16_Row_Push.hints : Hints := { loops := [], cuts := [], orders := [(7, [0, 1, 3, 7, 0, 16, 0, 0, 128, 384, 896, 0, 2048, 8064, 16256, 32640, 0, 130944, 262080, 524287, 1048575], [0, 1, 2, 3, 4, 5, 6, 7, 8, 9, 10, 11, 12, 13, 14, 15, 16, 17, 18, 19, 20])] }
def warderref16_Row_Push.P (p0qb p0qo : Nat) (p1at : Int) (p2amount : Int) (h : Hp) (R : Value → Hp → Prop) : Prop :=
  ∃ Lista1 : Option Addr, ∃ Listl2 : Nat, ∃ Listc3 : Nat, cellAt h p0qb (p0qo + 1) = some (.slice Lista1 Listl2 Listc3) ∧ ((p2amount == 0) = true → (R (.int .i64 11) h)) ∧ ((p2amount == 0) = false → (((decide (p2amount > 4611686018427387904)) = true →
  (R (.int .i64 11) h)) ∧ ((decide (p2amount > 4611686018427387904)) = false → (((decide (p1at > 4611686018427387904)) = true → (R (.int .i64 11) h)) ∧ ((decide (p1at > 4611686018427387904)) = false →
  (((decide (((Listl2 : Nat) : Int) > 0)) = true → (∃ Lista4 : Option Addr, ∃ Listl5 : Nat, ∃ Listc6 : Nat, cellAt h p0qb (p0qo + 1) = some (.slice Lista4 Listl5 Listc6) ∧ (0 : Int) ≤ (IntKind.wrap .i64 (((Listl2 : Nat) : Int) - 1)) ∧
  (IntKind.wrap .i64 (((Listl2 : Nat) : Int) - 1)) < ((Listl5 : Nat) : Int) ∧ ∃ b7 : Nat, ∃ o8 : Nat, Lista4 = some ⟨b7, o8, none⟩ ∧ ∃ At9 : Int, cellAt h b7 (o8 + (IntKind.wrap .i64 (((Listl2 : Nat) : Int) - 1)).toNat * 2) = some (.int .u64 At9) ∧
  ((decide (p1at < At9)) = true → (R (.int .i64 11) h)) ∧ ((decide (p1at < At9)) = false → (CallsH Try.prog 17 [.pointer (some ⟨p0qb, p0qo, none⟩)] h fun r10 h1 => ∃ Total11 : Int, r10 = .int .u64 Total11 ∧
  ((decide ((IntKind.wrap .u64 (Total11 + p2amount)) > 4611686018427387904)) = true → (R (.int .i64 14) h1)) ∧ ((decide ((IntKind.wrap .u64 (Total11 + p2amount)) > 4611686018427387904)) = false → (∃ Room12 : Int, cellAt h1 p0qb p0qo = some (.int .i64 Room12) ∧
  ((((Listl2 : Nat) : Int) == Room12) = true → (∃ Lista13 : Option Addr, ∃ Listl14 : Nat, ∃ Listc15 : Nat, cellAt h1 p0qb (p0qo + 1) = some (.slice Lista13 Listl14 Listc15) ∧ ∃ Lista16 : Option Addr, ∃ Listl17 : Nat, ∃ Listc18 : Nat, cellAt h1 p0qb (p0qo + 1) = some (.slice Lista16 Listl17 Listc18) ∧
  (0 : Int) ≤ (IntKind.wrap .i64 (((Listl2 : Nat) : Int) - 1)) ∧ (IntKind.wrap .i64 (((Listl2 : Nat) : Int) - 1)) < ((Listl17 : Nat) : Int) ∧ ∃ b19 : Nat, ∃ o20 : Nat, Lista16 = some ⟨b19, o20, none⟩ ∧
  ∃ Amount21 : Int, cellAt h1 b19 (o20 + (IntKind.wrap .i64 (((Listl2 : Nat) : Int) - 1)).toNat * 2 + 1) = some (.int .u64 Amount21) ∧ (0 : Int) ≤ (IntKind.wrap .i64 (((Listl2 : Nat) : Int) - 1)) ∧ (IntKind.wrap .i64 (((Listl2 : Nat) : Int) - 1)) < ((Listl14 : Nat) : Int) ∧
  ∃ b22 : Nat, ∃ o23 : Nat, Lista13 = some ⟨b22, o23, none⟩ ∧ (true = true) ∧ ∃ T24 : TypeId, ∃ l25 : List Value, bk h1 b22 = some (blk T24 l25) ∧ (o23 + (IntKind.wrap .i64 (((Listl2 : Nat) : Int) - 1)).toNat * 2) + 2 ≤ l25.length ∧
  ∀ h2 : Hp, h2 = upd h1 b22 T24 (writeAt l25 (o23 + (IntKind.wrap .i64 (((Listl2 : Nat) : Int) - 1)).toNat * 2) [.int .u64 p1at, .int .u64 (IntKind.wrap .u64 (Amount21 + p2amount))]) → R (.int .i64 0) h2)) ∧
  ((((Listl2 : Nat) : Int) == Room12) = false → (((decide (((Listl2 : Nat) : Int) > 0)) = true → (∃ Lista26 : Option Addr, ∃ Listl27 : Nat, ∃ Listc28 : Nat, cellAt h1 p0qb (p0qo + 1) = some (.slice Lista26 Listl27 Listc28) ∧
  (0 : Int) ≤ (IntKind.wrap .i64 (((Listl2 : Nat) : Int) - 1)) ∧ (IntKind.wrap .i64 (((Listl2 : Nat) : Int) - 1)) < ((Listl27 : Nat) : Int) ∧ ∃ b29 : Nat, ∃ o30 : Nat, Lista26 = some ⟨b29, o30, none⟩ ∧
  ∃ At31 : Int, cellAt h1 b29 (o30 + (IntKind.wrap .i64 (((Listl2 : Nat) : Int) - 1)).toNat * 2) = some (.int .u64 At31) ∧ ((At31 == p1at) = true → (∃ Lista32 : Option Addr, ∃ Listl33 : Nat, ∃ Listc34 : Nat, cellAt h1 p0qb (p0qo + 1) = some (.slice Lista32 Listl33 Listc34) ∧
  ∃ Lista35 : Option Addr, ∃ Listl36 : Nat, ∃ Listc37 : Nat, cellAt h1 p0qb (p0qo + 1) = some (.slice Lista35 Listl36 Listc37) ∧ (0 : Int) ≤ (IntKind.wrap .i64 (((Listl2 : Nat) : Int) - 1)) ∧ (IntKind.wrap .i64 (((Listl2 : Nat) : Int) - 1)) < ((Listl36 : Nat) : Int) ∧
  ∃ b38 : Nat, ∃ o39 : Nat, Lista35 = some ⟨b38, o39, none⟩ ∧ ∃ Amount40 : Int, cellAt h1 b38 (o39 + (IntKind.wrap .i64 (((Listl2 : Nat) : Int) - 1)).toNat * 2 + 1) = some (.int .u64 Amount40) ∧ (0 : Int) ≤ (IntKind.wrap .i64 (((Listl2 : Nat) : Int) - 1)) ∧
  (IntKind.wrap .i64 (((Listl2 : Nat) : Int) - 1)) < ((Listl33 : Nat) : Int) ∧ ∃ b41 : Nat, ∃ o42 : Nat, Lista32 = some ⟨b41, o42, none⟩ ∧ (true = true) ∧ ∃ T43 : TypeId, ∃ l44 : List Value, bk h1 b41 = some (blk T43 l44) ∧
  (o42 + (IntKind.wrap .i64 (((Listl2 : Nat) : Int) - 1)).toNat * 2) + 2 ≤ l44.length ∧ ∀ h3 : Hp, h3 = upd h1 b41 T43 (writeAt l44 (o42 + (IntKind.wrap .i64 (((Listl2 : Nat) : Int) - 1)).toNat * 2) [.int .u64 p1at, .int .u64 (IntKind.wrap .u64 (Amount40 + p2amount))]) →
  R (.int .i64 0) h3)) ∧ ((At31 == p1at) = false → (∃ Lista45 : Option Addr, ∃ Listl46 : Nat, ∃ Listc47 : Nat, cellAt h1 p0qb (p0qo + 1) = some (.slice Lista45 Listl46 Listc47) ∧ ∀ h4 : Hp, h4 = new h1 (blk 48 [.int .u64 p1at, .int .u64 p2amount]) →
  appendN h4 48 2 16 [.int .u64 0, .int .u64 0] Lista45 Listl46 Listc47 (some ⟨sz h1, 0, none⟩) 1 fun a48 l49 c50 h5 => (true = true) ∧ ∃ T51 : TypeId, ∃ l52 : List Value, bk h5 p0qb = some (blk T51 l52) ∧
  (p0qo + 1) + 1 ≤ l52.length ∧ ∀ h6 : Hp, h6 = upd h5 p0qb T51 (writeAt l52 (p0qo + 1) [.slice a48 l49 c50]) → R (.int .i64 0) h6)))) ∧ ((decide (((Listl2 : Nat) : Int) > 0)) = false → (∃ Lista53 : Option Addr, ∃ Listl54 : Nat, ∃ Listc55 : Nat, cellAt h1 p0qb (p0qo + 1) = some (.slice Lista53 Listl54 Listc55) ∧
  ∀ h7 : Hp, h7 = new h1 (blk 48 [.int .u64 p1at, .int .u64 p2amount]) → appendN h7 48 2 16 [.int .u64 0, .int .u64 0] Lista53 Listl54 Listc55 (some ⟨sz h1, 0, none⟩) 1 fun a56 l57 c58 h8 => (true = true) ∧
  ∃ T59 : TypeId, ∃ l60 : List Value, bk h8 p0qb = some (blk T59 l60) ∧ (p0qo + 1) + 1 ≤ l60.length ∧ ∀ h9 : Hp, h9 = upd h8 p0qb T59 (writeAt l60 (p0qo + 1) [.slice a56 l57 c58]) → R (.int .i64 0) h9)))))))))) ∧
  ((decide (((Listl2 : Nat) : Int) > 0)) = false → (CallsH Try.prog 17 [.pointer (some ⟨p0qb, p0qo, none⟩)] h fun r61 h10 => ∃ Total62 : Int, r61 = .int .u64 Total62 ∧ ((decide ((IntKind.wrap .u64 (Total62 + p2amount)) > 4611686018427387904)) = true →
  (R (.int .i64 14) h10)) ∧ ((decide ((IntKind.wrap .u64 (Total62 + p2amount)) > 4611686018427387904)) = false → (∃ Room63 : Int, cellAt h10 p0qb p0qo = some (.int .i64 Room63) ∧ ((((Listl2 : Nat) : Int) == Room63) = true →
  (∃ Lista64 : Option Addr, ∃ Listl65 : Nat, ∃ Listc66 : Nat, cellAt h10 p0qb (p0qo + 1) = some (.slice Lista64 Listl65 Listc66) ∧ ∃ Lista67 : Option Addr, ∃ Listl68 : Nat, ∃ Listc69 : Nat, cellAt h10 p0qb (p0qo + 1) = some (.slice Lista67 Listl68 Listc69) ∧
  (0 : Int) ≤ (IntKind.wrap .i64 (((Listl2 : Nat) : Int) - 1)) ∧ (IntKind.wrap .i64 (((Listl2 : Nat) : Int) - 1)) < ((Listl68 : Nat) : Int) ∧ ∃ b70 : Nat, ∃ o71 : Nat, Lista67 = some ⟨b70, o71, none⟩ ∧
  ∃ Amount72 : Int, cellAt h10 b70 (o71 + (IntKind.wrap .i64 (((Listl2 : Nat) : Int) - 1)).toNat * 2 + 1) = some (.int .u64 Amount72) ∧ (0 : Int) ≤ (IntKind.wrap .i64 (((Listl2 : Nat) : Int) - 1)) ∧ (IntKind.wrap .i64 (((Listl2 : Nat) : Int) - 1)) < ((Listl65 : Nat) : Int) ∧
  ∃ b73 : Nat, ∃ o74 : Nat, Lista64 = some ⟨b73, o74, none⟩ ∧ (true = true) ∧ ∃ T75 : TypeId, ∃ l76 : List Value, bk h10 b73 = some (blk T75 l76) ∧ (o74 + (IntKind.wrap .i64 (((Listl2 : Nat) : Int) - 1)).toNat * 2) + 2 ≤ l76.length ∧
  ∀ h11 : Hp, h11 = upd h10 b73 T75 (writeAt l76 (o74 + (IntKind.wrap .i64 (((Listl2 : Nat) : Int) - 1)).toNat * 2) [.int .u64 p1at, .int .u64 (IntKind.wrap .u64 (Amount72 + p2amount))]) → R (.int .i64 0) h11)) ∧
  ((((Listl2 : Nat) : Int) == Room63) = false → (((decide (((Listl2 : Nat) : Int) > 0)) = true → (∃ Lista77 : Option Addr, ∃ Listl78 : Nat, ∃ Listc79 : Nat, cellAt h10 p0qb (p0qo + 1) = some (.slice Lista77 Listl78 Listc79) ∧
  (0 : Int) ≤ (IntKind.wrap .i64 (((Listl2 : Nat) : Int) - 1)) ∧ (IntKind.wrap .i64 (((Listl2 : Nat) : Int) - 1)) < ((Listl78 : Nat) : Int) ∧ ∃ b80 : Nat, ∃ o81 : Nat, Lista77 = some ⟨b80, o81, none⟩ ∧
  ∃ At82 : Int, cellAt h10 b80 (o81 + (IntKind.wrap .i64 (((Listl2 : Nat) : Int) - 1)).toNat * 2) = some (.int .u64 At82) ∧ ((At82 == p1at) = true → (∃ Lista83 : Option Addr, ∃ Listl84 : Nat, ∃ Listc85 : Nat, cellAt h10 p0qb (p0qo + 1) = some (.slice Lista83 Listl84 Listc85) ∧
  ∃ Lista86 : Option Addr, ∃ Listl87 : Nat, ∃ Listc88 : Nat, cellAt h10 p0qb (p0qo + 1) = some (.slice Lista86 Listl87 Listc88) ∧ (0 : Int) ≤ (IntKind.wrap .i64 (((Listl2 : Nat) : Int) - 1)) ∧ (IntKind.wrap .i64 (((Listl2 : Nat) : Int) - 1)) < ((Listl87 : Nat) : Int) ∧
  ∃ b89 : Nat, ∃ o90 : Nat, Lista86 = some ⟨b89, o90, none⟩ ∧ ∃ Amount91 : Int, cellAt h10 b89 (o90 + (IntKind.wrap .i64 (((Listl2 : Nat) : Int) - 1)).toNat * 2 + 1) = some (.int .u64 Amount91) ∧ (0 : Int) ≤ (IntKind.wrap .i64 (((Listl2 : Nat) : Int) - 1)) ∧
  (IntKind.wrap .i64 (((Listl2 : Nat) : Int) - 1)) < ((Listl84 : Nat) : Int) ∧ ∃ b92 : Nat, ∃ o93 : Nat, Lista83 = some ⟨b92, o93, none⟩ ∧ (true = true) ∧ ∃ T94 : TypeId, ∃ l95 : List Value, bk h10 b92 = some (blk T94 l95) ∧
  (o93 + (IntKind.wrap .i64 (((Listl2 : Nat) : Int) - 1)).toNat * 2) + 2 ≤ l95.length ∧ ∀ h12 : Hp, h12 = upd h10 b92 T94 (writeAt l95 (o93 + (IntKind.wrap .i64 (((Listl2 : Nat) : Int) - 1)).toNat * 2) [.int .u64 p1at, .int .u64 (IntKind.wrap .u64 (Amount91 + p2amount))]) →
  R (.int .i64 0) h12)) ∧ ((At82 == p1at) = false → (∃ Lista96 : Option Addr, ∃ Listl97 : Nat, ∃ Listc98 : Nat, cellAt h10 p0qb (p0qo + 1) = some (.slice Lista96 Listl97 Listc98) ∧ ∀ h13 : Hp, h13 = new h10 (blk 48 [.int .u64 p1at, .int .u64 p2amount]) →
  appendN h13 48 2 16 [.int .u64 0, .int .u64 0] Lista96 Listl97 Listc98 (some ⟨sz h10, 0, none⟩) 1 fun a99 l100 c101 h14 => (true = true) ∧ ∃ T102 : TypeId, ∃ l103 : List Value, bk h14 p0qb = some (blk T102 l103) ∧
  (p0qo + 1) + 1 ≤ l103.length ∧ ∀ h15 : Hp, h15 = upd h14 p0qb T102 (writeAt l103 (p0qo + 1) [.slice a99 l100 c101]) → R (.int .i64 0) h15)))) ∧ ((decide (((Listl2 : Nat) : Int) > 0)) = false → (∃ Lista104 : Option Addr, ∃ Listl105 : Nat, ∃ Listc106 : Nat, cellAt h10 p0qb (p0qo + 1) = some (.slice Lista104 Listl105 Listc106) ∧
  ∀ h16 : Hp, h16 = new h10 (blk 48 [.int .u64 p1at, .int .u64 p2amount]) → appendN h16 48 2 16 [.int .u64 0, .int .u64 0] Lista104 Listl105 Listc106 (some ⟨sz h10, 0, none⟩) 1 fun a107 l108 c109 h17 => (true = true) ∧
  ∃ T110 : TypeId, ∃ l111 : List Value, bk h17 p0qb = some (blk T110 l111) ∧ (p0qo + 1) + 1 ≤ l111.length ∧ ∀ h18 : Hp, h18 = upd h17 p0qb T110 (writeAt l111 (p0qo + 1) [.slice a107 l108 c109]) → R (.int .i64 0) h18))))))))))))))
theorem warderref16_Row_Push.eq (p0qb p0qo : Nat) (p1at : Int) (p2amount : Int) (h : Hp) (R : Value → Hp → Prop) : evBody Try.prog calls warderref16_Row_Push.hints Try.f13 [.ptr p0qb p0qo, .int .u64 p1at, .int .u64 p2amount] h R = warderref16_Row_Push.P p0qb p0qo p1at p2amount h R := by kernel_rfl
theorem warderref16_Row_Push.calls (p0qb p0qo : Nat) (p1at : Int) (p2amount : Int) (h : Hp) (R : Value → Hp → Prop) (hp : warderref16_Row_Push.P p0qb p0qo p1at p2amount h R) : CallsH Try.prog 13 [.pointer (some ⟨p0qb, p0qo, none⟩), .int .u64 p1at, .int .u64 p2amount] h R :=
  calls_of_body calls_ok Try.func13 (args := [.ptr p0qb p0qo, .int .u64 p1at, .int .u64 p2amount]) (by rw [warderref16_Row_Push.eq]; exact hp)
/-! ### warderref16_Row_Take: function 14 -/
def warderref16_Row_Take.hints : Hints := { loops := [(4, [0, 1], [(5, (.one (.int .u64))), (6, (.one .slice)), (7, (.one (.int .i64)))])], cuts := [], orders := [] }
def warderref16_Row_Take.P (p0qb p0qo : Nat) (p1now : Int) (h : Hp) (R : Value → Hp → Prop) : Prop :=
  ∀ h1 : Hp, h1 = new h (blk 48 []) → ∃ I1 : Int → Option Addr → Nat → Nat → Int → Hp → Prop, ∃ m2 : Int → Option Addr → Nat → Nat → Int → Hp → Nat, I1 0 (some ⟨sz h, 0, none⟩) 0 0 0 h1 ∧ ∀ n3 : Int, ∀ lefta4 : Option Addr, ∀ leftl5 : Nat, ∀ leftc6 : Nat, ∀ i7 : Int, ∀ h2 : Hp, I1 n3 lefta4 leftl5 leftc6 i7 h2 →
  ∃ Lista8 : Option Addr, ∃ Listl9 : Nat, ∃ Listc10 : Nat, cellAt h2 p0qb (p0qo + 1) = some (.slice Lista8 Listl9 Listc10) ∧ ((decide (i7 < ((Listl9 : Nat) : Int))) = true → (∃ Lista11 : Option Addr, ∃ Listl12 : Nat, ∃ Listc13 : Nat, cellAt h2 p0qb (p0qo + 1) = some (.slice Lista11 Listl12 Listc13) ∧
  (0 : Int) ≤ i7 ∧ i7 < ((Listl12 : Nat) : Int) ∧ ∃ b14 : Nat, ∃ o15 : Nat, Lista11 = some ⟨b14, o15, none⟩ ∧ ∃ At16 : Int, cellAt h2 b14 (o15 + i7.toNat * 2) = some (.int .u64 At16) ∧ ((decide (At16 ≤ p1now)) = true →
  (∃ Lista17 : Option Addr, ∃ Listl18 : Nat, ∃ Listc19 : Nat, cellAt h2 p0qb (p0qo + 1) = some (.slice Lista17 Listl18 Listc19) ∧ (0 : Int) ≤ i7 ∧ i7 < ((Listl18 : Nat) : Int) ∧ ∃ b20 : Nat, ∃ o21 : Nat, Lista17 = some ⟨b20, o21, none⟩ ∧
  ∃ Amount22 : Int, cellAt h2 b20 (o21 + i7.toNat * 2 + 1) = some (.int .u64 Amount22) ∧ I1 (IntKind.wrap .u64 (n3 + Amount22)) lefta4 leftl5 leftc6 (IntKind.wrap .i64 (i7 + 1)) h2 ∧ m2 (IntKind.wrap .u64 (n3 + Amount22)) lefta4 leftl5 leftc6 (IntKind.wrap .i64 (i7 + 1)) h2 < m2 n3 lefta4 leftl5 leftc6 i7 h2)) ∧
  ((decide (At16 ≤ p1now)) = false → (∃ Lista23 : Option Addr, ∃ Listl24 : Nat, ∃ Listc25 : Nat, cellAt h2 p0qb (p0qo + 1) = some (.slice Lista23 Listl24 Listc25) ∧ (0 : Int) ≤ i7 ∧ i7 < ((Listl24 : Nat) : Int) ∧
  ∃ b26 : Nat, ∃ o27 : Nat, Lista23 = some ⟨b26, o27, none⟩ ∧ ∃ x28 : Int, cellAt h2 b26 (o27 + i7.toNat * 2 + 0) = some (.int .u64 x28) ∧ ∃ x29 : Int, cellAt h2 b26 (o27 + i7.toNat * 2 + 1) = some (.int .u64 x29) ∧
  ∀ h3 : Hp, h3 = new h2 (blk 48 [.int .u64 x28, .int .u64 x29]) → appendN h3 48 2 16 [.int .u64 0, .int .u64 0] lefta4 leftl5 leftc6 (some ⟨sz h2, 0, none⟩) 1 fun a30 l31 c32 h4 => I1 n3 a30 l31 c32 (IntKind.wrap .i64 (i7 + 1)) h4 ∧
  m2 n3 a30 l31 c32 (IntKind.wrap .i64 (i7 + 1)) h4 < m2 n3 lefta4 leftl5 leftc6 i7 h2)))) ∧ ((decide (i7 < ((Listl9 : Nat) : Int))) = false → ((true = true) ∧ ∃ T33 : TypeId, ∃ l34 : List Value, bk h2 p0qb = some (blk T33 l34) ∧
  (p0qo + 1) + 1 ≤ l34.length ∧ ∀ h5 : Hp, h5 = upd h2 p0qb T33 (writeAt l34 (p0qo + 1) [.slice lefta4 leftl5 leftc6]) → R (.int .u64 n3) h5))
theorem warderref16_Row_Take.eq (p0qb p0qo : Nat) (p1now : Int) (h : Hp) (R : Value → Hp → Prop) : evBody Try.prog calls warderref16_Row_Take.hints Try.f14 [.ptr p0qb p0qo, .int .u64 p1now] h R = warderref16_Row_Take.P p0qb p0qo p1now h R := by kernel_rfl
theorem warderref16_Row_Take.calls (p0qb p0qo : Nat) (p1now : Int) (h : Hp) (R : Value → Hp → Prop) (hp : warderref16_Row_Take.P p0qb p0qo p1now h R) : CallsH Try.prog 14 [.pointer (some ⟨p0qb, p0qo, none⟩), .int .u64 p1now] h R :=
  calls_of_body calls_ok Try.func14 (args := [.ptr p0qb p0qo, .int .u64 p1now]) (by rw [warderref16_Row_Take.eq]; exact hp)
/-! ### refill_Row_Clear: function 15 -/
def refill_Row_Clear.hints : Hints := { loops := [], cuts := [], orders := [] }
def refill_Row_Clear.P (p0qb p0qo : Nat) (h : Hp) (R : Value → Hp → Prop) : Prop :=
  (true = true) ∧ ∃ T1 : TypeId, ∃ l2 : List Value, bk h p0qb = some (blk T1 l2) ∧ (p0qo + 1) + 1 ≤ l2.length ∧ ∀ h1 : Hp, h1 = upd h p0qb T1 (writeAt l2 (p0qo + 1) [.int .i64 0]) → (true = true) ∧ ∃ T3 : TypeId, ∃ l4 : List Value, bk h1 p0qb = some (blk T3 l4) ∧
  (p0qo + 2) + 1 ≤ l4.length ∧ ∀ h2 : Hp, h2 = upd h1 p0qb T3 (writeAt l4 (p0qo + 2) [.int .i64 0]) → (true = true) ∧ ∃ T5 : TypeId, ∃ l6 : List Value, bk h2 p0qb = some (blk T5 l6) ∧ (p0qo + 3) + 1 ≤ l6.length ∧
  ∀ h3 : Hp, h3 = upd h2 p0qb T5 (writeAt l6 (p0qo + 3) [.int .u64 0]) → R (.tuple #[]) h3
theorem refill_Row_Clear.eq (p0qb p0qo : Nat) (h : Hp) (R : Value → Hp → Prop) : evBody Try.prog calls refill_Row_Clear.hints Try.f15 [.ptr p0qb p0qo] h R = refill_Row_Clear.P p0qb p0qo h R := by kernel_rfl
theorem refill_Row_Clear.calls (p0qb p0qo : Nat) (h : Hp) (R : Value → Hp → Prop) (hp : refill_Row_Clear.P p0qb p0qo h R) : CallsH Try.prog 15 [.pointer (some ⟨p0qb, p0qo, none⟩)] h R :=
  calls_of_body calls_ok Try.func15 (args := [.ptr p0qb p0qo]) (by rw [refill_Row_Clear.eq]; exact hp)
/-! ### refill_Row_Next: function 16 -/
def refill_Row_Next.hints : Hints := { loops := [], cuts := [], orders := [] }
def refill_Row_Next.P (p0qb p0qo : Nat) (h : Hp) (R : Value → Hp → Prop) : Prop :=
  ∃ count1 : Int, cellAt h p0qb (p0qo + 2) = some (.int .i64 count1) ∧ ((count1 == 0) = true → (R (.tuple #[.int .u64 0, .bool false]) h)) ∧ ((count1 == 0) = false → (CallsH Try.prog 20 [.pointer (some ⟨p0qb, p0qo, none⟩), .int .i64 0] h fun r2 h1 => ∃ atx3 : Option Addr, r2 = .pointer atx3 ∧
  ∃ b4 : Nat, ∃ o5 : Nat, atx3 = some ⟨b4, o5, none⟩ ∧ ∃ At6 : Int, cellAt h1 b4 o5 = some (.int .u64 At6) ∧ R (.tuple #[.int .u64 At6, .bool true]) h1))
theorem refill_Row_Next.eq (p0qb p0qo : Nat) (h : Hp) (R : Value → Hp → Prop) : evBody Try.prog calls refill_Row_Next.hints Try.f16 [.ptr p0qb p0qo] h R = refill_Row_Next.P p0qb p0qo h R := by kernel_rfl
theorem refill_Row_Next.calls (p0qb p0qo : Nat) (h : Hp) (R : Value → Hp → Prop) (hp : refill_Row_Next.P p0qb p0qo h R) : CallsH Try.prog 16 [.pointer (some ⟨p0qb, p0qo, none⟩)] h R :=
  calls_of_body calls_ok Try.func16 (args := [.ptr p0qb p0qo]) (by rw [refill_Row_Next.eq]; exact hp)
/-! ### warderref16_Row_Total: function 17 -/
def warderref16_Row_Total.hints : Hints := { loops := [(3, [0], [(3, (.one (.int .u64))), (4, (.one (.int .i64)))])], cuts := [], orders := [] }
def warderref16_Row_Total.P (p0qb p0qo : Nat) (h : Hp) (R : Value → Hp → Prop) : Prop :=
  ∃ I1 : Int → Int → Hp → Prop, ∃ m2 : Int → Int → Hp → Nat, I1 0 0 h ∧ ∀ n3 : Int, ∀ i4 : Int, ∀ h1 : Hp, I1 n3 i4 h1 → ∃ Lista5 : Option Addr, ∃ Listl6 : Nat, ∃ Listc7 : Nat, cellAt h1 p0qb (p0qo + 1) = some (.slice Lista5 Listl6 Listc7) ∧
  ((decide (i4 < ((Listl6 : Nat) : Int))) = true → (∃ Lista8 : Option Addr, ∃ Listl9 : Nat, ∃ Listc10 : Nat, cellAt h1 p0qb (p0qo + 1) = some (.slice Lista8 Listl9 Listc10) ∧ (0 : Int) ≤ i4 ∧ i4 < ((Listl9 : Nat) : Int) ∧
  ∃ b11 : Nat, ∃ o12 : Nat, Lista8 = some ⟨b11, o12, none⟩ ∧ ∃ Amount13 : Int, cellAt h1 b11 (o12 + i4.toNat * 2 + 1) = some (.int .u64 Amount13) ∧ I1 (IntKind.wrap .u64 (n3 + Amount13)) (IntKind.wrap .i64 (i4 + 1)) h1 ∧
  m2 (IntKind.wrap .u64 (n3 + Amount13)) (IntKind.wrap .i64 (i4 + 1)) h1 < m2 n3 i4 h1)) ∧ ((decide (i4 < ((Listl6 : Nat) : Int))) = false → (R (.int .u64 n3) h1))
theorem warderref16_Row_Total.eq (p0qb p0qo : Nat) (h : Hp) (R : Value → Hp → Prop) : evBody Try.prog calls warderref16_Row_Total.hints Try.f17 [.ptr p0qb p0qo] h R = warderref16_Row_Total.P p0qb p0qo h R := by kernel_rfl
theorem warderref16_Row_Total.calls (p0qb p0qo : Nat) (h : Hp) (R : Value → Hp → Prop) (hp : warderref16_Row_Total.P p0qb p0qo h R) : CallsH Try.prog 17 [.pointer (some ⟨p0qb, p0qo, none⟩)] h R :=
  calls_of_body calls_ok Try.func17 (args := [.ptr p0qb p0qo]) (by rw [warderref16_Row_Total.eq]; exact hp)
/-! ### warderlaw16_same: function 18 -/
def warderlaw16_same.hints : Hints := { loops := [(4, [0, 1], [(5, (.one (.int .i64)))])], cuts := [], orders := [(6, [0, 0, 3, 7, 15, 0, 0, 96, 224, 480, 1023, 2047, 4095, 4095, 16383, 32767, 65535, 4095, 4095, 397311, 921599, 1970175, 4194303, 8388607], [0, 1, 2, 3, 4, 5, 6, 7, 8, 9, 10, 11, 12, 13, 14, 15, 16, 17, 18, 19, 20, 21, 22, 23])] }
def warderlaw16_same.P (p0aa : Option Addr) (p0al : Nat) (p0ac : Nat) (p1ba : Option Addr) (p1bl : Nat) (p1bc : Nat) (h : Hp) (R : Value → Hp → Prop) : Prop :=
  ((((p0al : Nat) : Int) != ((p1bl : Nat) : Int)) = true → (R (.bool false) h)) ∧ ((((p0al : Nat) : Int) != ((p1bl : Nat) : Int)) = false → (∃ I1 : Int → Hp → Prop, ∃ m2 : Int → Hp → Nat, I1 0 h ∧ ∀ i3 : Int, ∀ h1 : Hp, I1 i3 h1 →
  ((decide (i3 < ((p0al : Nat) : Int))) = true → ((0 : Int) ≤ i3 ∧ i3 < ((p0al : Nat) : Int) ∧ ∃ b4 : Nat, ∃ o5 : Nat, p0aa = some ⟨b4, o5, none⟩ ∧ ∃ At6 : Int, cellAt h1 b4 (o5 + i3.toNat * 2) = some (.int .u64 At6) ∧
  (0 : Int) ≤ i3 ∧ i3 < ((p1bl : Nat) : Int) ∧ ∃ b7 : Nat, ∃ o8 : Nat, p1ba = some ⟨b7, o8, none⟩ ∧ ∃ At9 : Int, cellAt h1 b7 (o8 + i3.toNat * 2) = some (.int .u64 At9) ∧ ((At6 != At9) = true → (R (.bool false) h1)) ∧
  ((At6 != At9) = false → ((0 : Int) ≤ i3 ∧ i3 < ((p0al : Nat) : Int) ∧ ∃ b10 : Nat, ∃ o11 : Nat, p0aa = some ⟨b10, o11, none⟩ ∧ ∃ Amount12 : Int, cellAt h1 b10 (o11 + i3.toNat * 2 + 1) = some (.int .u64 Amount12) ∧
  (0 : Int) ≤ i3 ∧ i3 < ((p1bl : Nat) : Int) ∧ ∃ b13 : Nat, ∃ o14 : Nat, p1ba = some ⟨b13, o14, none⟩ ∧ ∃ Amount15 : Int, cellAt h1 b13 (o14 + i3.toNat * 2 + 1) = some (.int .u64 Amount15) ∧ ((Amount12 != Amount15) = true →
  (R (.bool false) h1)) ∧ ((Amount12 != Amount15) = false → (I1 (IntKind.wrap .i64 (i3 + 1)) h1 ∧ m2 (IntKind.wrap .i64 (i3 + 1)) h1 < m2 i3 h1)))))) ∧ ((decide (i3 < ((p0al : Nat) : Int))) = false → (R (.bool true) h1))))
theorem warderlaw16_same.eq (p0aa : Option Addr) (p0al : Nat) (p0ac : Nat) (p1ba : Option Addr) (p1bl : Nat) (p1bc : Nat) (h : Hp) (R : Value → Hp → Prop) : evBody Try.prog calls warderlaw16_same.hints Try.f18 [.slice p0aa p0al p0ac, .slice p1ba p1bl p1bc] h R = warderlaw16_same.P p0aa p0al p0ac p1ba p1bl p1bc h R := by kernel_rfl
theorem warderlaw16_same.calls (p0aa : Option Addr) (p0al : Nat) (p0ac : Nat) (p1ba : Option Addr) (p1bl : Nat) (p1bc : Nat) (h : Hp) (R : Value → Hp → Prop) (hp : warderlaw16_same.P p0aa p0al p0ac p1ba p1bl p1bc h R) : CallsH Try.prog 18 [.slice p0aa p0al p0ac, .slice p1ba p1bl p1bc] h R :=
  calls_of_body calls_ok Try.func18 (args := [.slice p0aa p0al p0ac, .slice p1ba p1bl p1bc]) (by rw [warderlaw16_same.eq]; exact hp)
/-! ### refill_Row_last: function 19 -/
def refill_Row_last.hints : Hints := { loops := [], cuts := [], orders := [] }
def refill_Row_last.P (p0qb p0qo : Nat) (h : Hp) (R : Value → Hp → Prop) : Prop :=
  ∃ count1 : Int, cellAt h p0qb (p0qo + 2) = some (.int .i64 count1) ∧ ((count1 == 0) = true → (R (.pointer none) h)) ∧ ((count1 == 0) = false → (∃ count2 : Int, cellAt h p0qb (p0qo + 2) = some (.int .i64 count2) ∧
  CallsH Try.prog 20 [.pointer (some ⟨p0qb, p0qo, none⟩), .int .i64 (IntKind.wrap .i64 (count2 - 1))] h fun r3 h1 => ∃ atx4 : Option Addr, r3 = .pointer atx4 ∧ R (.pointer atx4) h1))
theorem refill_Row_last.eq (p0qb p0qo : Nat) (h : Hp) (R : Value → Hp → Prop) : evBody Try.prog calls refill_Row_last.hints Try.f19 [.ptr p0qb p0qo] h R = refill_Row_last.P p0qb p0qo h R := by kernel_rfl
theorem refill_Row_last.calls (p0qb p0qo : Nat) (h : Hp) (R : Value → Hp → Prop) (hp : refill_Row_last.P p0qb p0qo h R) : CallsH Try.prog 19 [.pointer (some ⟨p0qb, p0qo, none⟩)] h R :=
  calls_of_body calls_ok Try.func19 (args := [.ptr p0qb p0qo]) (by rw [refill_Row_last.eq]; exact hp)
/-! ### refill_Row_at: function 20 -/
def refill_Row_at.hints : Hints := { loops := [], cuts := [], orders := [(1, [0, 1, 3, 7, 0, 16, 48, 112, 0, 496, 0, 1024, 3072, 7168, 15360, 32752, 65535, 131071], [0, 1, 2, 3, 4, 5, 6, 7, 8, 9, 10, 11, 12, 13, 14, 15, 16, 17])] }
def refill_Row_at.P (p0qb p0qo : Nat) (p1k : Int) (h : Hp) (R : Value → Hp → Prop) : Prop :=
  ∃ ringa1 : Option Addr, ∃ ringl2 : Nat, ∃ ringc3 : Nat, cellAt h p0qb p0qo = some (.slice ringa1 ringl2 ringc3) ∧ ∃ first4 : Int, cellAt h p0qb (p0qo + 1) = some (.int .i64 first4) ∧ ∃ ringa5 : Option Addr, ∃ ringl6 : Nat, ∃ ringc7 : Nat, cellAt h p0qb p0qo = some (.slice ringa5 ringl6 ringc7) ∧
  ((ringl6 : Nat) : Int) ≠ 0 ∧ (0 : Int) ≤ (Int.tmod (IntKind.wrap .i64 (first4 + p1k)) ((ringl6 : Nat) : Int)) ∧ (Int.tmod (IntKind.wrap .i64 (first4 + p1k)) ((ringl6 : Nat) : Int)) < ((ringl2 : Nat) : Int) ∧
  ∃ b8 : Nat, ∃ o9 : Nat, ringa1 = some ⟨b8, o9, none⟩ ∧ R (.pointer (some ⟨b8, o9 + (Int.tmod (IntKind.wrap .i64 (first4 + p1k)) ((ringl6 : Nat) : Int)).toNat * 2, none⟩)) h
theorem refill_Row_at.eq (p0qb p0qo : Nat) (p1k : Int) (h : Hp) (R : Value → Hp → Prop) : evBody Try.prog calls refill_Row_at.hints Try.f20 [.ptr p0qb p0qo, .int .i64 p1k] h R = refill_Row_at.P p0qb p0qo p1k h R := by kernel_rfl
theorem refill_Row_at.calls (p0qb p0qo : Nat) (p1k : Int) (h : Hp) (R : Value → Hp → Prop) (hp : refill_Row_at.P p0qb p0qo p1k h R) : CallsH Try.prog 20 [.pointer (some ⟨p0qb, p0qo, none⟩), .int .i64 p1k] h R :=
  calls_of_body calls_ok Try.func20 (args := [.ptr p0qb p0qo, .int .i64 p1k]) (by rw [refill_Row_at.eq]; exact hp)
/-! ### slices_Clip: function 21 -/
def slices_Clip.hints : Hints := { loops := [], cuts := [], orders := [] }
def slices_Clip.P (p0sa : Option Addr) (p0sl : Nat) (p0sc : Nat) (h : Hp) (R : Value → Hp → Prop) : Prop :=
  ((true : Bool) = true → (true : Bool) = true) ∧ (0 : Int) ≤ (0 : Int) ∧ (0 : Int) ≤ ((p0sl : Nat) : Int) ∧ ((p0sl : Nat) : Int) ≤ ((p0sl : Nat) : Int) ∧ ((p0sl : Nat) : Int) ≤ ((p0sc : Nat) : Int) ∧
  R (.slice (sliceBase p0sa ((0 : Int)).toNat (((p0sl : Nat) : Int)).toNat 2) ((((p0sl : Nat) : Int)).toNat - ((0 : Int)).toNat) ((((p0sl : Nat) : Int)).toNat - ((0 : Int)).toNat)) h
theorem slices_Clip.eq (p0sa : Option Addr) (p0sl : Nat) (p0sc : Nat) (h : Hp) (R : Value → Hp → Prop) : evBody Try.prog calls slices_Clip.hints Try.f21 [.slice p0sa p0sl p0sc] h R = slices_Clip.P p0sa p0sl p0sc h R := by kernel_rfl
theorem slices_Clip.calls (p0sa : Option Addr) (p0sl : Nat) (p0sc : Nat) (h : Hp) (R : Value → Hp → Prop) (hp : slices_Clip.P p0sa p0sl p0sc h R) : CallsH Try.prog 21 [.slice p0sa p0sl p0sc] h R :=
  calls_of_body calls_ok Try.func21 (args := [.slice p0sa p0sl p0sc]) (by rw [slices_Clip.eq]; exact hp)
end Go.Proofs.Ytgajaoophcljnaa
