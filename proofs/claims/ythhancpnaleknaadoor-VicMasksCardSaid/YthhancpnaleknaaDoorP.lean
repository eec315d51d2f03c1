/-
  Printed by this repo's own wip/tools/pr.py: what each function owes, as a proposition over heaps, read out of its body by the core.
-/
import Derived.Test.YthhancpnaleknaaDoorProg
import Derived.Test.YthhancpnaleknaaDoorWdFn
import Derived.KernelRfl
namespace Go.Proofs.YthhancpnaleknaaDoor
open Go Go.Wd
set_option linter.unusedVariables false
set_option maxRecDepth 100000
def calls : Nat → Bool := fun f => [7, 8, 9, 10, 11, 12, 13, 14, 15, 16, 17, 18, 19, 20, 21, 22, 23, 24, 25, 26, 27, 28, 29, 30].any (Nat.beq f)
theorem calls_ok : CallsOk Tryd.prog calls := by
  intro f hf
  simp only [calls, List.any_cons, List.any_nil, Bool.or_eq_true, Bool.or_false] at hf
  rcases hf with hf | hf | hf | hf | hf | hf | hf | hf | hf | hf | hf | hf | hf | hf | hf | hf | hf | hf | hf | hf | hf | hf | hf | hf
  · obtain rfl := Nat.eq_of_beq_eq_true hf; exact Tryd.call7
  · obtain rfl := Nat.eq_of_beq_eq_true hf; exact Tryd.call8
  · obtain rfl := Nat.eq_of_beq_eq_true hf; exact Tryd.call9
  · obtain rfl := Nat.eq_of_beq_eq_true hf; exact Tryd.call10
  · obtain rfl := Nat.eq_of_beq_eq_true hf; exact Tryd.call11
  · obtain rfl := Nat.eq_of_beq_eq_true hf; exact Tryd.call12
  · obtain rfl := Nat.eq_of_beq_eq_true hf; exact Tryd.call13
  · obtain rfl := Nat.eq_of_beq_eq_true hf; exact Tryd.call14
  · obtain rfl := Nat.eq_of_beq_eq_true hf; exact Tryd.call15
  · obtain rfl := Nat.eq_of_beq_eq_true hf; exact Tryd.call16
  · obtain rfl := Nat.eq_of_beq_eq_true hf; exact Tryd.call17
  · obtain rfl := Nat.eq_of_beq_eq_true hf; exact Tryd.call18
  · obtain rfl := Nat.eq_of_beq_eq_true hf; exact Tryd.call19
  · obtain rfl := Nat.eq_of_beq_eq_true hf; exact Tryd.call20
  · obtain rfl := Nat.eq_of_beq_eq_true hf; exact Tryd.call21
  · obtain rfl := Nat.eq_of_beq_eq_true hf; exact Tryd.call22
  · obtain rfl := Nat.eq_of_beq_eq_true hf; exact Tryd.call23
  · obtain rfl := Nat.eq_of_beq_eq_true hf; exact Tryd.call24
  · obtain rfl := Nat.eq_of_beq_eq_true hf; exact Tryd.call25
  · obtain rfl := Nat.eq_of_beq_eq_true hf; exact Tryd.call26
  · obtain rfl := Nat.eq_of_beq_eq_true hf; exact Tryd.call27
  · obtain rfl := Nat.eq_of_beq_eq_true hf; exact Tryd.call28
  · obtain rfl := Nat.eq_of_beq_eq_true hf; exact Tryd.call29
  · obtain rfl := Nat.eq_of_beq_eq_true hf; exact Tryd.call30
/-! ### warderlaw20_VicStack: function 3 -/
def warderlaw20_VicStack.hints : Hints := { loops := [(7, [0, 1, 5], [(6, (.one (.int .i64)))]), (16, [0, 1, 5], [(7, (.one .slice)), (8, (.one (.int .i64))), (9, (.one (.int .i64)))]), (30, [5, 7], [(15, (.one (.int .i64)))])], cuts := [(5, [0, 1], []), (11, [0, 1, 5, 6], []), (20, [0, 1, 5, 7, 9, 10], []), (24, [0, 1, 5, 7, 9, 10], [])], orders := [] }
def warderlaw20_VicStack.P (p0ordera : Option Addr) (p0orderl : Nat) (p0orderc : Nat) (p1prioritiesa : Option Addr) (p1prioritiesl : Nat) (p1prioritiesc : Nat) (h : Hp) (R : Value → Hp → Prop) : Prop :=
  CallsH Tryd.prog 7 [] h fun r1 h1 => ∃ alive2 : Bool, r1 = .bool alive2 ∧ ((!alive2) = true → (R (.bool false) h1)) ∧ ((!alive2) = false → (∃ I3 : Hp → Prop, (((decide (((p0orderl : Nat) : Int) > 16)) = true →
  (R (.bool true) h1)) ∧ ((decide (((p0orderl : Nat) : Int) > 16)) = false → (((((p1prioritiesl : Nat) : Int) != 16) = true → (R (.bool true) h1)) ∧ ((((p1prioritiesl : Nat) : Int) != 16) = false → (I3 h1))))) ∧
  ∀ h2 : Hp, I3 h2 → CallsH Tryd.prog 8 [] h2 fun r4 h3 => ∃ New5 : Option Addr, r4 = .pointer New5 ∧ ∃ I6 : Int → Hp → Prop, ∃ m7 : Int → Hp → Nat, I6 0 h3 ∧ ∀ n8 : Int, ∀ h4 : Hp, I6 n8 h4 → ((decide (n8 < 16)) = true →
  (∃ I9 : Hp → Prop, ((0 : Int) ≤ n8 ∧ n8 < ((p1prioritiesl : Nat) : Int) ∧ ∃ b10 : Nat, ∃ o11 : Nat, p1prioritiesa = some ⟨b10, o11, none⟩ ∧ ∃ x12 : Int, cellAt h4 b10 (o11 + n8.toNat * 1) = some (.int .i64 x12) ∧
  ((decide (x12 < 0)) = true → (R (.bool true) h4)) ∧ ((decide (x12 < 0)) = false → ((0 : Int) ≤ n8 ∧ n8 < ((p1prioritiesl : Nat) : Int) ∧ ∃ b13 : Nat, ∃ o14 : Nat, p1prioritiesa = some ⟨b13, o14, none⟩ ∧
  ∃ x15 : Int, cellAt h4 b13 (o14 + n8.toNat * 1) = some (.int .i64 x15) ∧ ((decide (x15 > 15)) = true → (R (.bool true) h4)) ∧ ((decide (x15 > 15)) = false → (I9 h4))))) ∧ ∀ h5 : Hp, I9 h5 → CallsH Tryd.prog 9 [.pointer New5, .int .i64 n8, .bool true] h5 fun r16 h6 => ∃ Enable17 : Int, r16 = .int .i64 Enable17 ∧
  (0 : Int) ≤ n8 ∧ n8 < ((p1prioritiesl : Nat) : Int) ∧ ∃ b18 : Nat, ∃ o19 : Nat, p1prioritiesa = some ⟨b18, o19, none⟩ ∧ ∃ x20 : Int, cellAt h6 b18 (o19 + n8.toNat * 1) = some (.int .i64 x20) ∧ CallsH Tryd.prog 10 [.pointer New5, .int .i64 n8, .int .i64 x20] h6 fun r21 h7 => ∃ Prioritize22 : Int, r21 = .int .i64 Prioritize22 ∧
  I6 (IntKind.wrap .i64 (n8 + 1)) h7 ∧ m7 (IntKind.wrap .i64 (n8 + 1)) h7 < m7 n8 h4)) ∧ ((decide (n8 < 16)) = false → (∀ h8 : Hp, h8 = new h4 (blk 3 []) → ∃ I23 : Option Addr → Nat → Nat → Int → Int →
  Hp → Prop, ∃ m24 : Option Addr → Nat → Nat → Int → Int → Hp → Nat, I23 (some ⟨sz h4, 0, none⟩) 0 0 16 0 h8 ∧ ∀ takena25 : Option Addr, ∀ takenl26 : Nat, ∀ takenc27 : Nat, ∀ least28 : Int, ∀ i29 : Int, ∀ h9 : Hp, I23 takena25 takenl26 takenc27 least28 i29 h9 →
  ((decide (i29 < ((p0orderl : Nat) : Int))) = true → ((0 : Int) ≤ i29 ∧ i29 < ((p0orderl : Nat) : Int) ∧ ∃ b30 : Nat, ∃ o31 : Nat, p0ordera = some ⟨b30, o31, none⟩ ∧ ∃ x32 : Int, cellAt h9 b30 (o31 + i29.toNat * 1) = some (.int .i64 x32) ∧
  ∃ I33 : Hp → Prop, (((decide (x32 < 0)) = true → (I23 takena25 takenl26 takenc27 least28 (IntKind.wrap .i64 (i29 + 1)) h9 ∧ m24 takena25 takenl26 takenc27 least28 (IntKind.wrap .i64 (i29 + 1)) h9 < m24 takena25 takenl26 takenc27 least28 i29 h9)) ∧
  ((decide (x32 < 0)) = false → (((decide (x32 > 15)) = true → (I23 takena25 takenl26 takenc27 least28 (IntKind.wrap .i64 (i29 + 1)) h9 ∧ m24 takena25 takenl26 takenc27 least28 (IntKind.wrap .i64 (i29 + 1)) h9 < m24 takena25 takenl26 takenc27 least28 i29 h9)) ∧
  ((decide (x32 > 15)) = false → (CallsH Tryd.prog 11 [.pointer New5, .int .i64 x32] h9 fun r34 h10 => ∃ Get35 : Bool, ∃ Get36 : Bool, ∃ Get37 : Bool, ∃ Get38 : Int, r34 = .agg #[.bool Get35, .bool Get36, .bool Get37, .int .i64 Get38] ∧
  ((Get37) = true → (I23 takena25 takenl26 takenc27 least28 (IntKind.wrap .i64 (i29 + 1)) h10 ∧ m24 takena25 takenl26 takenc27 least28 (IntKind.wrap .i64 (i29 + 1)) h10 < m24 takena25 takenl26 takenc27 least28 i29 h9)) ∧
  ((Get37) = false → ((0 : Int) ≤ x32 ∧ x32 < ((p1prioritiesl : Nat) : Int) ∧ ∃ b39 : Nat, ∃ o40 : Nat, p1prioritiesa = some ⟨b39, o40, none⟩ ∧ ∃ x41 : Int, cellAt h10 b39 (o40 + x32.toNat * 1) = some (.int .i64 x41) ∧
  ((decide (x41 ≥ least28)) = true → (I23 takena25 takenl26 takenc27 least28 (IntKind.wrap .i64 (i29 + 1)) h10 ∧ m24 takena25 takenl26 takenc27 least28 (IntKind.wrap .i64 (i29 + 1)) h10 < m24 takena25 takenl26 takenc27 least28 i29 h9)) ∧
  ((decide (x41 ≥ least28)) = false → (I33 h10))))))))) ∧ ∀ h11 : Hp, I33 h11 → CallsH Tryd.prog 12 [.pointer New5, .int .i64 x32] h11 fun r42 h12 => ∃ Raise43 : Bool, r42 = .bool Raise43 ∧ CallsH Tryd.prog 13 [.pointer New5] h12 fun r44 h13 => ∃ Take45 : Int, ∃ Take46 : Bool, r44 = .tuple #[.int .i64 Take45, .bool Take46] ∧
  ∃ I47 : Hp → Prop, (((!Take46) = true → (R (.bool false) h13)) ∧ ((!Take46) = false → (((Take45 != x32) = true → (R (.bool false) h13)) ∧ ((Take45 != x32) = false → (I47 h13))))) ∧ ∀ h14 : Hp, I47 h14 →
  ∀ h15 : Hp, h15 = new h14 (blk 3 [.int .i64 x32]) → appendN h15 3 1 8 [.int .i64 0] takena25 takenl26 takenc27 (some ⟨sz h14, 0, none⟩) 1 fun a48 l49 c50 h16 => (0 : Int) ≤ x32 ∧ x32 < ((p1prioritiesl : Nat) : Int) ∧
  ∃ b51 : Nat, ∃ o52 : Nat, p1prioritiesa = some ⟨b51, o52, none⟩ ∧ ∃ x53 : Int, cellAt h16 b51 (o52 + x32.toNat * 1) = some (.int .i64 x53) ∧ CallsH Tryd.prog 13 [.pointer New5] h16 fun r54 h17 => ∃ Take55 : Int, ∃ Take56 : Bool, r54 = .tuple #[.int .i64 Take55, .bool Take56] ∧
  ((Take56) = true → (R (.bool false) h17)) ∧ ((Take56) = false → (I23 a48 l49 c50 x53 (IntKind.wrap .i64 (i29 + 1)) h17 ∧ m24 a48 l49 c50 x53 (IntKind.wrap .i64 (i29 + 1)) h17 < m24 takena25 takenl26 takenc27 least28 i29 h9)))) ∧
  ((decide (i29 < ((p0orderl : Nat) : Int))) = false → (∃ I57 : Int → Hp → Prop, ∃ m58 : Int → Hp → Nat, I57 0 h9 ∧ ∀ i59 : Int, ∀ h18 : Hp, I57 i59 h18 → ((decide (i59 < ((takenl26 : Nat) : Int))) = true →
  ((0 : Int) ≤ i59 ∧ i59 < ((takenl26 : Nat) : Int) ∧ ∃ b60 : Nat, ∃ o61 : Nat, takena25 = some ⟨b60, o61, none⟩ ∧ ∃ x62 : Int, cellAt h18 b60 (o61 + i59.toNat * 1) = some (.int .i64 x62) ∧ CallsH Tryd.prog 14 [.pointer New5, .int .i64 x62] h18 fun r63 h19 => ∃ End64 : Int, r63 = .int .i64 End64 ∧
  ((End64 != 0) = true → (R (.bool false) h19)) ∧ ((End64 != 0) = false → (I57 (IntKind.wrap .i64 (i59 + 1)) h19 ∧ m58 (IntKind.wrap .i64 (i59 + 1)) h19 < m58 i59 h18)))) ∧ ((decide (i59 < ((takenl26 : Nat) : Int))) = false →
  (CallsH Tryd.prog 15 [.pointer New5] h18 fun r65 h20 => ∃ Next66 : Int, ∃ Next67 : Bool, r65 = .tuple #[.int .i64 Next66, .bool Next67] ∧ ((!Next67) = true → (CallsH Tryd.prog 16 [.pointer New5] h20 fun r68 h21 => ∃ Word69 : Int, r68 = .int .u32 Word69 ∧
  R (.bool (Word69 == 0)) h21)) ∧ ((!Next67) = false → (R (.bool false) h20))))))))))
theorem warderlaw20_VicStack.eq (p0ordera : Option Addr) (p0orderl : Nat) (p0orderc : Nat) (p1prioritiesa : Option Addr) (p1prioritiesl : Nat) (p1prioritiesc : Nat) (h : Hp) (R : Value → Hp → Prop) : evBody Tryd.prog calls warderlaw20_VicStack.hints Tryd.f3 [.slice p0ordera p0orderl p0orderc, .slice p1prioritiesa p1prioritiesl p1prioritiesc] h R = warderlaw20_VicStack.P p0ordera p0orderl p0orderc p1prioritiesa p1prioritiesl p1prioritiesc h R := by kernel_rfl
theorem warderlaw20_VicStack.calls (p0ordera : Option Addr) (p0orderl : Nat) (p0orderc : Nat) (p1prioritiesa : Option Addr) (p1prioritiesl : Nat) (p1prioritiesc : Nat) (h : Hp) (R : Value → Hp → Prop) (hp : warderlaw20_VicStack.P p0ordera p0orderl p0orderc p1prioritiesa p1prioritiesl p1prioritiesc h R) : CallsH Tryd.prog 3 [.slice p0ordera p0orderl p0orderc, .slice p1prioritiesa p1prioritiesl p1prioritiesc] h R :=
  calls_of_body calls_ok Tryd.func3 (args := [.slice p0ordera p0orderl p0orderc, .slice p1prioritiesa p1prioritiesl p1prioritiesc]) (by rw [warderlaw20_VicStack.eq]; exact hp)
/-! ### warderlaw20_VicCalls: function 4 -/
def warderlaw20_VicCalls.hints : Hints := { loops := [(8, [0, 3, 4], [(5, (.one (.int .i64)))]), (16, [0, 3, 4, 5, 6, 7, 8], [(9, (.one (.int .u32))), (10, (.one (.int .i64)))])], cuts := [(23, [0, 3, 4, 5, 6, 7, 8, 10, 11], [(9, (.one (.int .u32)))])], orders := [(25, [0, 0, 3, 7, 0, 31], [0, 1, 4, 2, 3, 5]), (27, [0, 0, 3, 7, 15, 15, 47, 127, 255, 511, 1023, 2047, 1023, 8191, 16383, 32767, 65535, 131071, 65535, 327679, 851967, 1900543, 4194303, 8388607], [0, 1, 2, 3, 4, 5, 6, 7, 8, 9, 10, 12, 11, 13, 14, 15, 16, 18, 19, 20, 21, 17, 22, 23])] }
def warderlaw20_VicCalls.P (p0callsa : Option Addr) (p0callsl : Nat) (p0callsc : Nat) (h : Hp) (R : Value → Hp → Prop) : Prop :=
  CallsH Tryd.prog 7 [] h fun r1 h1 => ∃ alive2 : Bool, r1 = .bool alive2 ∧ ((!alive2) = true → (R (.bool false) h1)) ∧ ((!alive2) = false → (((decide (((p0callsl : Nat) : Int) > 200)) = true → (R (.bool true) h1)) ∧
  ((decide (((p0callsl : Nat) : Int) > 200)) = false → (CallsH Tryd.prog 8 [] h1 fun r3 h2 => ∃ New4 : Option Addr, r3 = .pointer New4 ∧ CallsH Tryd.prog 17 [] h2 fun r5 h3 => ∃ New6 : Option Addr, r5 = .pointer New6 ∧
  ∃ I7 : Int → Hp → Prop, ∃ m8 : Int → Hp → Nat, I7 0 h3 ∧ ∀ i9 : Int, ∀ h4 : Hp, I7 i9 h4 → ((decide (i9 < ((p0callsl : Nat) : Int))) = true → ((0 : Int) ≤ i9 ∧ i9 < ((p0callsl : Nat) : Int) ∧ ∃ b10 : Nat, ∃ o11 : Nat, p0callsa = some ⟨b10, o11, none⟩ ∧
  ∃ x12 : Int, cellAt h4 b10 (o11 + i9.toNat * 4 + 0) = some (.int .i64 x12) ∧ ∃ x13 : Int, cellAt h4 b10 (o11 + i9.toNat * 4 + 1) = some (.int .i64 x13) ∧ ∃ x14 : Int, cellAt h4 b10 (o11 + i9.toNat * 4 + 2) = some (.int .i64 x14) ∧
  ∃ x15 : Bool, cellAt h4 b10 (o11 + i9.toNat * 4 + 3) = some (.bool x15) ∧ CallsH Tryd.prog 18 [.pointer New4, .pointer New6, .agg #[.int .i64 x12, .int .i64 x13, .int .i64 x14, .bool x15]] h4 fun r16 h5 => ∃ told17 : Bool, r16 = .bool told17 ∧
  ((!told17) = true → (R (.bool false) h5)) ∧ ((!told17) = false → (CallsH Tryd.prog 15 [.pointer New4] h5 fun r18 h6 => ∃ Next19 : Int, ∃ Next20 : Bool, r18 = .tuple #[.int .i64 Next19, .bool Next20] ∧
  CallsH Tryd.prog 19 [.pointer New6] h6 fun r21 h7 => ∃ Next22 : Int, r21 = .int .i64 Next22 ∧ ∃ I23 : Int → Int → Hp → Prop, ∃ m24 : Int → Int → Hp → Nat, I23 0 (-1) h7 ∧ ∀ w25 : Int, ∀ k26 : Int, ∀ h8 : Hp, I23 w25 k26 h8 →
  ((decide (k26 ≤ 16)) = true → (∀ h9 : Hp, h9 = new h8 (blk 46 [.bool false, .bool false, .bool false, .int .i64 0]) → truly true ∧ ∃ T27 : TypeId, ∃ l28 : List Value, bk h9 (sz h8) = some (blk T27 l28) ∧
  0 + 4 ≤ l28.length ∧ ∀ h10 : Hp, h10 = upd h9 (sz h8) T27 (writeAt l28 0 [.bool false, .bool false, .bool false, .int .i64 0]) → CallsH Tryd.prog 20 [.int .i64 k26] h10 fun r29 h11 => ∃ There30 : Bool, r29 = .bool There30 ∧
  ((There30) = true → (∃ b31 : Nat, ∃ o32 : Nat, New6 = some ⟨b31, o32, none⟩ ∧ ∃ Linesa33 : Option Addr, ∃ Linesl34 : Nat, ∃ Linesc35 : Nat, cellAt h11 b31 o32 = some (.slice Linesa33 Linesl34 Linesc35) ∧
  (0 : Int) ≤ k26 ∧ k26 < ((Linesl34 : Nat) : Int) ∧ ∃ b36 : Nat, ∃ o37 : Nat, Linesa33 = some ⟨b36, o37, none⟩ ∧ ∃ x38 : Bool, cellAt h11 b36 (o37 + k26.toNat * 4 + 0) = some (.bool x38) ∧ ∃ x39 : Bool, cellAt h11 b36 (o37 + k26.toNat * 4 + 1) = some (.bool x39) ∧
  ∃ x40 : Bool, cellAt h11 b36 (o37 + k26.toNat * 4 + 2) = some (.bool x40) ∧ ∃ x41 : Int, cellAt h11 b36 (o37 + k26.toNat * 4 + 3) = some (.int .i64 x41) ∧ truly true ∧ ∃ T42 : TypeId, ∃ l43 : List Value, bk h11 (sz h8) = some (blk T42 l43) ∧
  0 + 4 ≤ l43.length ∧ ∀ h12 : Hp, h12 = upd h11 (sz h8) T42 (writeAt l43 0 [.bool x38, .bool x39, .bool x40, .int .i64 x41]) → ∃ I44 : Int → Hp → Prop, (∃ Pending45 : Bool, cellAt h12 (sz h8) 1 = some (.bool Pending45) ∧
  ((Pending45) = true → ((0 : Int) ≤ (IntKind.wrap .u64 k26) ∧ I44 (borV .u32 w25 (shlV .u32 1 (IntKind.wrap .u64 k26))) h12)) ∧ ((Pending45) = false → (I44 w25 h12))) ∧ ∀ w46 : Int, ∀ h13 : Hp, I44 w46 h13 →
  ∃ Active47 : Bool, cellAt h13 (sz h8) 2 = some (.bool Active47) ∧ ((Active47) = true → ((0 : Int) ≤ (IntKind.wrap .u64 (IntKind.wrap .i64 (16 + k26))) ∧ ∃ x48 : Bool, cellAt h13 (sz h8) (0 + 0) = some (.bool x48) ∧
  ∃ x49 : Bool, cellAt h13 (sz h8) (0 + 1) = some (.bool x49) ∧ ∃ x50 : Bool, cellAt h13 (sz h8) (0 + 2) = some (.bool x50) ∧ ∃ x51 : Int, cellAt h13 (sz h8) (0 + 3) = some (.int .i64 x51) ∧ CallsH Tryd.prog 11 [.pointer New4, .int .i64 k26] h13 fun r52 h14 => ∃ Get53 : Bool, ∃ Get54 : Bool, ∃ Get55 : Bool, ∃ Get56 : Int, r52 = .agg #[.bool Get53, .bool Get54, .bool Get55, .int .i64 Get56] ∧
  cellAt h14 (sz h8) (0 + 0) = some (.bool x48) ∧ cellAt h14 (sz h8) (0 + 1) = some (.bool x49) ∧ cellAt h14 (sz h8) (0 + 2) = some (.bool x50) ∧ cellAt h14 (sz h8) (0 + 3) = some (.int .i64 x51) ∧ CallsH Tryd.prog 21 [.agg #[.bool Get53, .bool Get54, .bool Get55, .int .i64 Get56]] h14 fun r57 h15 => ∃ ofx58 : Bool, ∃ ofx59 : Bool, ∃ ofx60 : Bool, ∃ ofx61 : Int, r57 = .agg #[.bool ofx58, .bool ofx59, .bool ofx60, .int .i64 ofx61] ∧
  cellAt h15 (sz h8) (0 + 0) = some (.bool x48) ∧ cellAt h15 (sz h8) (0 + 1) = some (.bool x49) ∧ cellAt h15 (sz h8) (0 + 2) = some (.bool x50) ∧ cellAt h15 (sz h8) (0 + 3) = some (.int .i64 x51) ∧ ((notIf false (((ofx58 : Bool) == x48) && (((ofx59 : Bool) == x49) && (((ofx60 : Bool) == x50) && ((ofx61 == x51) && true))))) = true →
  (R (.bool false) h15)) ∧ ((notIf false (((ofx58 : Bool) == x48) && (((ofx59 : Bool) == x49) && (((ofx60 : Bool) == x50) && ((ofx61 == x51) && true))))) = false → (I23 (borV .u32 w46 (shlV .u32 1 (IntKind.wrap .u64 (IntKind.wrap .i64 (16 + k26))))) (IntKind.wrap .i64 (k26 + 1)) h15 ∧
  m24 (borV .u32 w46 (shlV .u32 1 (IntKind.wrap .u64 (IntKind.wrap .i64 (16 + k26))))) (IntKind.wrap .i64 (k26 + 1)) h15 < m24 w25 k26 h8)))) ∧ ((Active47) = false → (∃ x62 : Bool, cellAt h13 (sz h8) (0 + 0) = some (.bool x62) ∧
  ∃ x63 : Bool, cellAt h13 (sz h8) (0 + 1) = some (.bool x63) ∧ ∃ x64 : Bool, cellAt h13 (sz h8) (0 + 2) = some (.bool x64) ∧ ∃ x65 : Int, cellAt h13 (sz h8) (0 + 3) = some (.int .i64 x65) ∧ CallsH Tryd.prog 11 [.pointer New4, .int .i64 k26] h13 fun r66 h16 => ∃ Get67 : Bool, ∃ Get68 : Bool, ∃ Get69 : Bool, ∃ Get70 : Int, r66 = .agg #[.bool Get67, .bool Get68, .bool Get69, .int .i64 Get70] ∧
  cellAt h16 (sz h8) (0 + 0) = some (.bool x62) ∧ cellAt h16 (sz h8) (0 + 1) = some (.bool x63) ∧ cellAt h16 (sz h8) (0 + 2) = some (.bool x64) ∧ cellAt h16 (sz h8) (0 + 3) = some (.int .i64 x65) ∧ CallsH Tryd.prog 21 [.agg #[.bool Get67, .bool Get68, .bool Get69, .int .i64 Get70]] h16 fun r71 h17 => ∃ ofx72 : Bool, ∃ ofx73 : Bool, ∃ ofx74 : Bool, ∃ ofx75 : Int, r71 = .agg #[.bool ofx72, .bool ofx73, .bool ofx74, .int .i64 ofx75] ∧
  cellAt h17 (sz h8) (0 + 0) = some (.bool x62) ∧ cellAt h17 (sz h8) (0 + 1) = some (.bool x63) ∧ cellAt h17 (sz h8) (0 + 2) = some (.bool x64) ∧ cellAt h17 (sz h8) (0 + 3) = some (.int .i64 x65) ∧ ((notIf false (((ofx72 : Bool) == x62) && (((ofx73 : Bool) == x63) && (((ofx74 : Bool) == x64) && ((ofx75 == x65) && true))))) = true →
  (R (.bool false) h17)) ∧ ((notIf false (((ofx72 : Bool) == x62) && (((ofx73 : Bool) == x63) && (((ofx74 : Bool) == x64) && ((ofx75 == x65) && true))))) = false → (I23 w46 (IntKind.wrap .i64 (k26 + 1)) h17 ∧
  m24 w46 (IntKind.wrap .i64 (k26 + 1)) h17 < m24 w25 k26 h8)))))) ∧ ((There30) = false → (∃ x76 : Bool, cellAt h11 (sz h8) (0 + 0) = some (.bool x76) ∧ ∃ x77 : Bool, cellAt h11 (sz h8) (0 + 1) = some (.bool x77) ∧
  ∃ x78 : Bool, cellAt h11 (sz h8) (0 + 2) = some (.bool x78) ∧ ∃ x79 : Int, cellAt h11 (sz h8) (0 + 3) = some (.int .i64 x79) ∧ CallsH Tryd.prog 11 [.pointer New4, .int .i64 k26] h11 fun r80 h18 => ∃ Get81 : Bool, ∃ Get82 : Bool, ∃ Get83 : Bool, ∃ Get84 : Int, r80 = .agg #[.bool Get81, .bool Get82, .bool Get83, .int .i64 Get84] ∧
  cellAt h18 (sz h8) (0 + 0) = some (.bool x76) ∧ cellAt h18 (sz h8) (0 + 1) = some (.bool x77) ∧ cellAt h18 (sz h8) (0 + 2) = some (.bool x78) ∧ cellAt h18 (sz h8) (0 + 3) = some (.int .i64 x79) ∧ CallsH Tryd.prog 21 [.agg #[.bool Get81, .bool Get82, .bool Get83, .int .i64 Get84]] h18 fun r85 h19 => ∃ ofx86 : Bool, ∃ ofx87 : Bool, ∃ ofx88 : Bool, ∃ ofx89 : Int, r85 = .agg #[.bool ofx86, .bool ofx87, .bool ofx88, .int .i64 ofx89] ∧
  cellAt h19 (sz h8) (0 + 0) = some (.bool x76) ∧ cellAt h19 (sz h8) (0 + 1) = some (.bool x77) ∧ cellAt h19 (sz h8) (0 + 2) = some (.bool x78) ∧ cellAt h19 (sz h8) (0 + 3) = some (.int .i64 x79) ∧ ((notIf false (((ofx86 : Bool) == x76) && (((ofx87 : Bool) == x77) && (((ofx88 : Bool) == x78) && ((ofx89 == x79) && true))))) = true →
  (R (.bool false) h19)) ∧ ((notIf false (((ofx86 : Bool) == x76) && (((ofx87 : Bool) == x77) && (((ofx88 : Bool) == x78) && ((ofx89 == x79) && true))))) = false → (I23 w25 (IntKind.wrap .i64 (k26 + 1)) h19 ∧
  m24 w25 (IntKind.wrap .i64 (k26 + 1)) h19 < m24 w25 k26 h8)))))) ∧ ((decide (k26 ≤ 16)) = false → (((Next19 != Next22) = true → (R (.bool false) h8)) ∧ ((Next19 != Next22) = false → (((notIf false (Next20 == (decide (Next22 ≥ 0)))) = true →
  (R (.bool false) h8)) ∧ ((notIf false (Next20 == (decide (Next22 ≥ 0)))) = false → (CallsH Tryd.prog 16 [.pointer New4] h8 fun r90 h20 => ∃ Word91 : Int, r90 = .int .u32 Word91 ∧ ((Word91 != w25) = true →
  (R (.bool false) h20)) ∧ ((Word91 != w25) = false → (∃ b92 : Nat, ∃ o93 : Nat, New6 = some ⟨b92, o93, none⟩ ∧ ∃ Mask94 : Int, cellAt h20 b92 (o93 + 1) = some (.int .i64 Mask94) ∧ CallsH Tryd.prog 22 [.pointer New4] h20 fun r95 h21 => ∃ Masked96 : Int, r95 = .int .i64 Masked96 ∧
  cellAt h21 b92 (o93 + 1) = some (.int .i64 Mask94) ∧ ((Masked96 != Mask94) = true → (R (.bool false) h21)) ∧ ((Masked96 != Mask94) = false → (I7 (IntKind.wrap .i64 (i9 + 1)) h21 ∧ m8 (IntKind.wrap .i64 (i9 + 1)) h21 < m8 i9 h4)))))))))))))) ∧
  ((decide (i9 < ((p0callsl : Nat) : Int))) = false → (R (.bool true) h4))))))
theorem warderlaw20_VicCalls.eq (p0callsa : Option Addr) (p0callsl : Nat) (p0callsc : Nat) (h : Hp) (R : Value → Hp → Prop) : evBody Tryd.prog calls warderlaw20_VicCalls.hints Tryd.f4 [.slice p0callsa p0callsl p0callsc] h R = warderlaw20_VicCalls.P p0callsa p0callsl p0callsc h R := by kernel_rfl
theorem warderlaw20_VicCalls.calls (p0callsa : Option Addr) (p0callsl : Nat) (p0callsc : Nat) (h : Hp) (R : Value → Hp → Prop) (hp : warderlaw20_VicCalls.P p0callsa p0callsl p0callsc h R) : CallsH Tryd.prog 4 [.slice p0callsa p0callsl p0callsc] h R :=
  calls_of_body calls_ok Tryd.func4 (args := [.slice p0callsa p0callsl p0callsc]) (by rw [warderlaw20_VicCalls.eq]; exact hp)
/-! ### warderlaw20_VicNests: function 5 -/
def warderlaw20_VicNests.hints : Hints := { loops := [(8, [0, 3, 4], [(5, (.one (.int .i64)))]), (13, [0, 3, 4, 5], [(6, (.one (.int .i64))), (7, (.one (.int .i64)))]), (24, [3], [(10, (.one (.int .i64)))]), (29, [3], [(11, (.one (.int .i64))), (12, (.one (.int .i64)))]), (37, [3], [(15, (.one (.int .i64)))])], cuts := [(20, [0, 3, 4, 5], []), (36, [3], [])], orders := [] }
def warderlaw20_VicNests.P (p0callsa : Option Addr) (p0callsl : Nat) (p0callsc : Nat) (h : Hp) (R : Value → Hp → Prop) : Prop :=
  CallsH Tryd.prog 7 [] h fun r1 h1 => ∃ alive2 : Bool, r1 = .bool alive2 ∧ ((!alive2) = true → (R (.bool false) h1)) ∧ ((!alive2) = false → (((decide (((p0callsl : Nat) : Int) > 100)) = true → (R (.bool true) h1)) ∧
  ((decide (((p0callsl : Nat) : Int) > 100)) = false → (CallsH Tryd.prog 8 [] h1 fun r3 h2 => ∃ New4 : Option Addr, r3 = .pointer New4 ∧ CallsH Tryd.prog 17 [] h2 fun r5 h3 => ∃ New6 : Option Addr, r5 = .pointer New6 ∧
  ∃ I7 : Int → Hp → Prop, ∃ m8 : Int → Hp → Nat, I7 0 h3 ∧ ∀ i9 : Int, ∀ h4 : Hp, I7 i9 h4 → ((decide (i9 < ((p0callsl : Nat) : Int))) = true → (∃ I10 : Hp → Prop, ((0 : Int) ≤ i9 ∧ i9 < ((p0callsl : Nat) : Int) ∧
  ∃ b11 : Nat, ∃ o12 : Nat, p0callsa = some ⟨b11, o12, none⟩ ∧ ∃ What13 : Int, cellAt h4 b11 (o12 + i9.toNat * 4) = some (.int .i64 What13) ∧ ((What13 == 5) = true → (∃ I14 : Int → Int → Hp → Prop, ∃ m15 : Int →
  Int → Hp → Nat, I14 16 0 h4 ∧ ∀ least16 : Int, ∀ k17 : Int, ∀ h5 : Hp, I14 least16 k17 h5 → ((decide (k17 < 16)) = true → (CallsH Tryd.prog 11 [.pointer New4, .int .i64 k17] h5 fun r18 h6 => ∃ Get19 : Bool, ∃ Get20 : Bool, ∃ Get21 : Bool, ∃ Get22 : Int, r18 = .agg #[.bool Get19, .bool Get20, .bool Get21, .int .i64 Get22] ∧
  ((Get21) = true → (CallsH Tryd.prog 11 [.pointer New4, .int .i64 k17] h6 fun r23 h7 => ∃ Get24 : Bool, ∃ Get25 : Bool, ∃ Get26 : Bool, ∃ Get27 : Int, r23 = .agg #[.bool Get24, .bool Get25, .bool Get26, .int .i64 Get27] ∧
  I14 (minI least16 Get27) (IntKind.wrap .i64 (k17 + 1)) h7 ∧ m15 (minI least16 Get27) (IntKind.wrap .i64 (k17 + 1)) h7 < m15 least16 k17 h5)) ∧ ((Get21) = false → (I14 least16 (IntKind.wrap .i64 (k17 + 1)) h6 ∧
  m15 least16 (IntKind.wrap .i64 (k17 + 1)) h6 < m15 least16 k17 h5)))) ∧ ((decide (k17 < 16)) = false → (CallsH Tryd.prog 15 [.pointer New4] h5 fun r28 h8 => ∃ Next29 : Int, ∃ Next30 : Bool, r28 = .tuple #[.int .i64 Next29, .bool Next30] ∧
  ((Next30) = true → (CallsH Tryd.prog 11 [.pointer New4, .int .i64 Next29] h8 fun r31 h9 => ∃ Get32 : Bool, ∃ Get33 : Bool, ∃ Get34 : Bool, ∃ Get35 : Int, r31 = .agg #[.bool Get32, .bool Get33, .bool Get34, .int .i64 Get35] ∧
  ((decide (Get35 ≥ least16)) = true → (R (.bool false) h9)) ∧ ((decide (Get35 ≥ least16)) = false → (CallsH Tryd.prog 11 [.pointer New4, .int .i64 Next29] h9 fun r36 h10 => ∃ Get37 : Bool, ∃ Get38 : Bool, ∃ Get39 : Bool, ∃ Get40 : Int, r36 = .agg #[.bool Get37, .bool Get38, .bool Get39, .int .i64 Get40] ∧
  CallsH Tryd.prog 22 [.pointer New4] h10 fun r41 h11 => ∃ Masked42 : Int, r41 = .int .i64 Masked42 ∧ ((decide (Get40 ≥ Masked42)) = true → (R (.bool false) h11)) ∧ ((decide (Get40 ≥ Masked42)) = false →
  (CallsH Tryd.prog 11 [.pointer New4, .int .i64 Next29] h11 fun r43 h12 => ∃ Get44 : Bool, ∃ Get45 : Bool, ∃ Get46 : Bool, ∃ Get47 : Int, r43 = .agg #[.bool Get44, .bool Get45, .bool Get46, .int .i64 Get47] ∧
  ((!Get44) = true → (R (.bool false) h12)) ∧ ((!Get44) = false → (CallsH Tryd.prog 11 [.pointer New4, .int .i64 Next29] h12 fun r48 h13 => ∃ Get49 : Bool, ∃ Get50 : Bool, ∃ Get51 : Bool, ∃ Get52 : Int, r48 = .agg #[.bool Get49, .bool Get50, .bool Get51, .int .i64 Get52] ∧
  ((!Get50) = true → (R (.bool false) h13)) ∧ ((!Get50) = false → (CallsH Tryd.prog 11 [.pointer New4, .int .i64 Next29] h13 fun r53 h14 => ∃ Get54 : Bool, ∃ Get55 : Bool, ∃ Get56 : Bool, ∃ Get57 : Int, r53 = .agg #[.bool Get54, .bool Get55, .bool Get56, .int .i64 Get57] ∧
  ((Get56) = true → (R (.bool false) h14)) ∧ ((Get56) = false → (I10 h14)))))))))))) ∧ ((Next30) = false → (I10 h8)))))) ∧ ((What13 == 5) = false → (I10 h4))) ∧ ∀ h15 : Hp, I10 h15 → (0 : Int) ≤ i9 ∧ i9 < ((p0callsl : Nat) : Int) ∧
  ∃ b58 : Nat, ∃ o59 : Nat, p0callsa = some ⟨b58, o59, none⟩ ∧ ∃ x60 : Int, cellAt h15 b58 (o59 + i9.toNat * 4 + 0) = some (.int .i64 x60) ∧ ∃ x61 : Int, cellAt h15 b58 (o59 + i9.toNat * 4 + 1) = some (.int .i64 x61) ∧
  ∃ x62 : Int, cellAt h15 b58 (o59 + i9.toNat * 4 + 2) = some (.int .i64 x62) ∧ ∃ x63 : Bool, cellAt h15 b58 (o59 + i9.toNat * 4 + 3) = some (.bool x63) ∧ CallsH Tryd.prog 18 [.pointer New4, .pointer New6, .agg #[.int .i64 x60, .int .i64 x61, .int .i64 x62, .bool x63]] h15 fun r64 h16 => ∃ told65 : Bool, r64 = .bool told65 ∧
  ((!told65) = true → (R (.bool false) h16)) ∧ ((!told65) = false → (I7 (IntKind.wrap .i64 (i9 + 1)) h16 ∧ m8 (IntKind.wrap .i64 (i9 + 1)) h16 < m8 i9 h4)))) ∧ ((decide (i9 < ((p0callsl : Nat) : Int))) = false →
  (CallsH Tryd.prog 23 [.pointer New4, .int .i64 16] h4 fun r66 h17 => ∃ Mask67 : Int, r66 = .int .i64 Mask67 ∧ ∃ I68 : Int → Hp → Prop, ∃ m69 : Int → Hp → Nat, I68 0 h17 ∧ ∀ k70 : Int, ∀ h18 : Hp, I68 k70 h18 →
  ((decide (k70 < 16)) = true → (CallsH Tryd.prog 14 [.pointer New4, .int .i64 k70] h18 fun r71 h19 => ∃ End72 : Int, r71 = .int .i64 End72 ∧ I68 (IntKind.wrap .i64 (k70 + 1)) h19 ∧ m69 (IntKind.wrap .i64 (k70 + 1)) h19 < m69 k70 h18)) ∧
  ((decide (k70 < 16)) = false → (∃ I73 : Hp → Prop, (∃ I74 : Int → Int → Hp → Prop, ∃ m75 : Int → Int → Hp → Nat, I74 (-1) 0 h18 ∧ ∀ last76 : Int, ∀ k77 : Int, ∀ h20 : Hp, I74 last76 k77 h20 → ((decide (k77 < 17)) = true →
  (CallsH Tryd.prog 13 [.pointer New4] h20 fun r78 h21 => ∃ Take79 : Int, ∃ Take80 : Bool, r78 = .tuple #[.int .i64 Take79, .bool Take80] ∧ ((!Take80) = true → (I73 h21)) ∧ ((!Take80) = false → (((k77 == 16) = true →
  (R (.bool false) h21)) ∧ ((k77 == 16) = false → (CallsH Tryd.prog 11 [.pointer New4, .int .i64 Take79] h21 fun r81 h22 => ∃ Get82 : Bool, ∃ Get83 : Bool, ∃ Get84 : Bool, ∃ Get85 : Int, r81 = .agg #[.bool Get82, .bool Get83, .bool Get84, .int .i64 Get85] ∧
  ((decide (Get85 < last76)) = true → (R (.bool false) h22)) ∧ ((decide (Get85 < last76)) = false → (CallsH Tryd.prog 14 [.pointer New4, .int .i64 Take79] h22 fun r86 h23 => ∃ End87 : Int, r86 = .int .i64 End87 ∧
  ((End87 != 0) = true → (R (.bool false) h23)) ∧ ((End87 != 0) = false → (CallsH Tryd.prog 11 [.pointer New4, .int .i64 Take79] h23 fun r88 h24 => ∃ Get89 : Bool, ∃ Get90 : Bool, ∃ Get91 : Bool, ∃ Get92 : Int, r88 = .agg #[.bool Get89, .bool Get90, .bool Get91, .int .i64 Get92] ∧
  I74 Get92 (IntKind.wrap .i64 (k77 + 1)) h24 ∧ m75 Get92 (IntKind.wrap .i64 (k77 + 1)) h24 < m75 last76 k77 h20)))))))))) ∧ ((decide (k77 < 17)) = false → (I73 h20))) ∧ ∀ h25 : Hp, I73 h25 → ∃ I93 : Int →
  Hp → Prop, ∃ m94 : Int → Hp → Nat, I93 0 h25 ∧ ∀ k95 : Int, ∀ h26 : Hp, I93 k95 h26 → ((decide (k95 < 16)) = true → (CallsH Tryd.prog 11 [.pointer New4, .int .i64 k95] h26 fun r96 h27 => ∃ Get97 : Bool, ∃ Get98 : Bool, ∃ Get99 : Bool, ∃ Get100 : Int, r96 = .agg #[.bool Get97, .bool Get98, .bool Get99, .int .i64 Get100] ∧
  ∀ h28 : Hp, h28 = new h27 (blk 30 [.bool false, .bool false, .bool false, .int .i64 0]) → truly true ∧ ∃ T101 : TypeId, ∃ l102 : List Value, bk h28 (sz h27) = some (blk T101 l102) ∧ 0 + 4 ≤ l102.length ∧
  ∀ h29 : Hp, h29 = upd h28 (sz h27) T101 (writeAt l102 0 [.bool Get97, .bool Get98, .bool Get99, .int .i64 Get100]) → ∃ Active103 : Bool, cellAt h29 (sz h27) 2 = some (.bool Active103) ∧ ((Active103) = true →
  (R (.bool false) h29)) ∧ ((Active103) = false → (∃ Pending104 : Bool, cellAt h29 (sz h27) 1 = some (.bool Pending104) ∧ ((Pending104) = true → (∃ Enabled105 : Bool, cellAt h29 (sz h27) 0 = some (.bool Enabled105) ∧
  ((Enabled105) = true → (R (.bool false) h29)) ∧ ((Enabled105) = false → (I93 (IntKind.wrap .i64 (k95 + 1)) h29 ∧ m94 (IntKind.wrap .i64 (k95 + 1)) h29 < m94 k95 h26)))) ∧ ((Pending104) = false → (I93 (IntKind.wrap .i64 (k95 + 1)) h29 ∧
  m94 (IntKind.wrap .i64 (k95 + 1)) h29 < m94 k95 h26)))))) ∧ ((decide (k95 < 16)) = false → (R (.bool true) h26))))))))))
theorem warderlaw20_VicNests.eq (p0callsa : Option Addr) (p0callsl : Nat) (p0callsc : Nat) (h : Hp) (R : Value → Hp → Prop) : evBody Tryd.prog calls warderlaw20_VicNests.hints Tryd.f5 [.slice p0callsa p0callsl p0callsc] h R = warderlaw20_VicNests.P p0callsa p0callsl p0callsc h R := by kernel_rfl
theorem warderlaw20_VicNests.calls (p0callsa : Option Addr) (p0callsl : Nat) (p0callsc : Nat) (h : Hp) (R : Value → Hp → Prop) (hp : warderlaw20_VicNests.P p0callsa p0callsl p0callsc h R) : CallsH Tryd.prog 5 [.slice p0callsa p0callsl p0callsc] h R :=
  calls_of_body calls_ok Tryd.func5 (args := [.slice p0callsa p0callsl p0callsc]) (by rw [warderlaw20_VicNests.eq]; exact hp)
/-! ### warderlaw20_VicMasks: function 6 -/
def warderlaw20_VicMasks.hints : Hints := { loops := [(8, [0, 1, 5, 6], [(7, (.one (.int .i64)))])], cuts := [(17, [1, 5, 8, 9, 10], [(50, (.one .bool))]), (18, [1, 5, 8, 9, 10], []), (21, [1, 5, 8, 9, 11, 12], [])], orders := [] }
def warderlaw20_VicMasks.P (p0callsa : Option Addr) (p0callsl : Nat) (p0callsc : Nat) (p1mask : Int) (h : Hp) (R : Value → Hp → Prop) : Prop :=
  CallsH Tryd.prog 7 [] h fun r1 h1 => ∃ alive2 : Bool, r1 = .bool alive2 ∧ ((!alive2) = true → (R (.bool false) h1)) ∧ ((!alive2) = false → (((decide (((p0callsl : Nat) : Int) > 100)) = true → (R (.bool true) h1)) ∧
  ((decide (((p0callsl : Nat) : Int) > 100)) = false → (CallsH Tryd.prog 8 [] h1 fun r3 h2 => ∃ New4 : Option Addr, r3 = .pointer New4 ∧ CallsH Tryd.prog 17 [] h2 fun r5 h3 => ∃ New6 : Option Addr, r5 = .pointer New6 ∧
  ∃ I7 : Int → Hp → Prop, ∃ m8 : Int → Hp → Nat, I7 0 h3 ∧ ∀ i9 : Int, ∀ h4 : Hp, I7 i9 h4 → ((decide (i9 < ((p0callsl : Nat) : Int))) = true → ((0 : Int) ≤ i9 ∧ i9 < ((p0callsl : Nat) : Int) ∧ ∃ b10 : Nat, ∃ o11 : Nat, p0callsa = some ⟨b10, o11, none⟩ ∧
  ∃ x12 : Int, cellAt h4 b10 (o11 + i9.toNat * 4 + 0) = some (.int .i64 x12) ∧ ∃ x13 : Int, cellAt h4 b10 (o11 + i9.toNat * 4 + 1) = some (.int .i64 x13) ∧ ∃ x14 : Int, cellAt h4 b10 (o11 + i9.toNat * 4 + 2) = some (.int .i64 x14) ∧
  ∃ x15 : Bool, cellAt h4 b10 (o11 + i9.toNat * 4 + 3) = some (.bool x15) ∧ CallsH Tryd.prog 18 [.pointer New4, .pointer New6, .agg #[.int .i64 x12, .int .i64 x13, .int .i64 x14, .bool x15]] h4 fun r16 h5 => ∃ told17 : Bool, r16 = .bool told17 ∧
  ((!told17) = true → (R (.bool false) h5)) ∧ ((!told17) = false → (I7 (IntKind.wrap .i64 (i9 + 1)) h5 ∧ m8 (IntKind.wrap .i64 (i9 + 1)) h5 < m8 i9 h4)))) ∧ ((decide (i9 < ((p0callsl : Nat) : Int))) = false →
  (CallsH Tryd.prog 23 [.pointer New4, .int .i64 16] h4 fun r18 h6 => ∃ Mask19 : Int, r18 = .int .i64 Mask19 ∧ ((Mask19 != 0) = true → (R (.bool false) h6)) ∧ ((Mask19 != 0) = false → (CallsH Tryd.prog 15 [.pointer New4] h6 fun r20 h7 => ∃ Next21 : Int, ∃ Next22 : Bool, r20 = .tuple #[.int .i64 Next21, .bool Next22] ∧
  CallsH Tryd.prog 23 [.pointer New4, .int .i64 p1mask] h7 fun r23 h8 => ∃ Mask24 : Int, r23 = .int .i64 Mask24 ∧ ∃ I25 : Hp → Prop, (∃ I26 : Bool → Hp → Prop, (((decide (p1mask < 0)) = true → (I26 true h8)) ∧
  ((decide (p1mask < 0)) = false → (I26 (decide (p1mask > 16)) h8))) ∧ ∀ x27 : Bool, ∀ h9 : Hp, I26 x27 h9 → ((x27) = true → (((Mask24 == 11) = true → (CallsH Tryd.prog 22 [.pointer New4] h9 fun r28 h10 => ∃ Masked29 : Int, r28 = .int .i64 Masked29 ∧
  R (.bool (Masked29 == 16)) h10)) ∧ ((Mask24 == 11) = false → (R (.bool false) h9)))) ∧ ((x27) = false → (I25 h9))) ∧ ∀ h11 : Hp, I25 h11 → CallsH Tryd.prog 15 [.pointer New4] h11 fun r30 h12 => ∃ Next31 : Int, ∃ Next32 : Bool, r30 = .tuple #[.int .i64 Next31, .bool Next32] ∧
  ∃ I33 : Hp → Prop, (((Mask24 != 0) = true → (R (.bool false) h12)) ∧ ((Mask24 != 0) = false → (CallsH Tryd.prog 22 [.pointer New4] h12 fun r34 h13 => ∃ Masked35 : Int, r34 = .int .i64 Masked35 ∧ ((Masked35 != p1mask) = true →
  (R (.bool false) h13)) ∧ ((Masked35 != p1mask) = false → (I33 h13))))) ∧ ∀ h14 : Hp, I33 h14 → ((!Next22) = true → (((!Next32) = true → (R (.bool (Next31 == (-1))) h14)) ∧ ((!Next32) = false → (R (.bool false) h14)))) ∧
  ((!Next22) = false → (CallsH Tryd.prog 11 [.pointer New4, .int .i64 Next21] h14 fun r36 h15 => ∃ Get37 : Bool, ∃ Get38 : Bool, ∃ Get39 : Bool, ∃ Get40 : Int, r36 = .agg #[.bool Get37, .bool Get38, .bool Get39, .int .i64 Get40] ∧
  ((decide (Get40 ≥ p1mask)) = true → (((!Next32) = true → (R (.bool (Next31 == (-1))) h15)) ∧ ((!Next32) = false → (R (.bool false) h15)))) ∧ ((decide (Get40 ≥ p1mask)) = false → (((Next32) = true → (R (.bool (Next31 == Next21)) h15)) ∧
  ((Next32) = false → (R (.bool false) h15))))))))))))))
theorem warderlaw20_VicMasks.eq (p0callsa : Option Addr) (p0callsl : Nat) (p0callsc : Nat) (p1mask : Int) (h : Hp) (R : Value → Hp → Prop) : evBody Tryd.prog calls warderlaw20_VicMasks.hints Tryd.f6 [.slice p0callsa p0callsl p0callsc, .int .i64 p1mask] h R = warderlaw20_VicMasks.P p0callsa p0callsl p0callsc p1mask h R := by kernel_rfl
theorem warderlaw20_VicMasks.calls (p0callsa : Option Addr) (p0callsl : Nat) (p0callsc : Nat) (p1mask : Int) (h : Hp) (R : Value → Hp → Prop) (hp : warderlaw20_VicMasks.P p0callsa p0callsl p0callsc p1mask h R) : CallsH Tryd.prog 6 [.slice p0callsa p0callsl p0callsc, .int .i64 p1mask] h R :=
  calls_of_body calls_ok Tryd.func6 (args := [.slice p0callsa p0callsl p0callsc, .int .i64 p1mask]) (by rw [warderlaw20_VicMasks.eq]; exact hp)
/-! ### warderlaw20_alive: function 7 -/
def warderlaw20_alive.hints : Hints := { loops := [], cuts := [], orders := [] }
def warderlaw20_alive.P  (h : Hp) (R : Value → Hp → Prop) : Prop :=
  CallsH Tryd.prog 8 [] h fun r1 h1 => ∃ New2 : Option Addr, r1 = .pointer New2 ∧ ((notIf true New2.isNone) = true → (R (.bool false) h1)) ∧ ((notIf true New2.isNone) = false → (CallsH Tryd.prog 9 [.pointer New2, .int .i64 3, .bool true] h1 fun r3 h2 => ∃ Enable4 : Int, r3 = .int .i64 Enable4 ∧
  CallsH Tryd.prog 12 [.pointer New2, .int .i64 3] h2 fun r5 h3 => ∃ Raise6 : Bool, r5 = .bool Raise6 ∧ CallsH Tryd.prog 12 [.pointer New2, .int .i64 3] h3 fun r7 h4 => ∃ Raise8 : Bool, r7 = .bool Raise8 ∧
  CallsH Tryd.prog 13 [.pointer New2] h4 fun r9 h5 => ∃ Take10 : Int, ∃ Take11 : Bool, r9 = .tuple #[.int .i64 Take10, .bool Take11] ∧ CallsH Tryd.prog 12 [.pointer New2, .int .i64 3] h5 fun r12 h6 => ∃ Raise13 : Bool, r12 = .bool Raise13 ∧
  CallsH Tryd.prog 13 [.pointer New2] h6 fun r14 h7 => ∃ Take15 : Int, ∃ Take16 : Bool, r14 = .tuple #[.int .i64 Take15, .bool Take16] ∧ CallsH Tryd.prog 16 [.pointer New2] h7 fun r17 h8 => ∃ Word18 : Int, r17 = .int .u32 Word18 ∧
  CallsH Tryd.prog 14 [.pointer New2, .int .i64 3] h8 fun r19 h9 => ∃ End20 : Int, r19 = .int .i64 End20 ∧ CallsH Tryd.prog 15 [.pointer New2] h9 fun r21 h10 => ∃ Next22 : Int, ∃ Next23 : Bool, r21 = .tuple #[.int .i64 Next22, .bool Next23] ∧
  ((Enable4 == 0) = true → (((Raise6) = true → (((!Raise8) = true → (((Take11) = true → (((Take10 == 3) = true → (((!Take16) = true → (((Word18 == 524296) = true → (((End20 == 0) = true → (((Next23) = true →
  (((Next22 == 3) = true → (CallsH Tryd.prog 11 [.pointer New2, .int .i64 3] h10 fun r24 h11 => ∃ Get25 : Bool, ∃ Get26 : Bool, ∃ Get27 : Bool, ∃ Get28 : Int, r24 = .agg #[.bool Get25, .bool Get26, .bool Get27, .int .i64 Get28] ∧
  ((notIf true (((Get25 : Bool) == true) && (((Get26 : Bool) == true) && (((Get27 : Bool) == false) && ((Get28 == 8) && true))))) = true → (CallsH Tryd.prog 22 [.pointer New2] h11 fun r29 h12 => ∃ Masked30 : Int, r29 = .int .i64 Masked30 ∧
  ((Masked30 == 16) = true → (CallsH Tryd.prog 23 [.pointer New2, .int .i64 17] h12 fun r31 h13 => ∃ Mask32 : Int, r31 = .int .i64 Mask32 ∧ R (.bool (Mask32 == 11)) h13)) ∧ ((Masked30 == 16) = false → (R (.bool false) h12)))) ∧
  ((notIf true (((Get25 : Bool) == true) && (((Get26 : Bool) == true) && (((Get27 : Bool) == false) && ((Get28 == 8) && true))))) = false → (R (.bool false) h11)))) ∧ ((Next22 == 3) = false → (R (.bool false) h10)))) ∧
  ((Next23) = false → (R (.bool false) h10)))) ∧ ((End20 == 0) = false → (R (.bool false) h10)))) ∧ ((Word18 == 524296) = false → (R (.bool false) h10)))) ∧ ((!Take16) = false → (R (.bool false) h10)))) ∧
  ((Take10 == 3) = false → (R (.bool false) h10)))) ∧ ((Take11) = false → (R (.bool false) h10)))) ∧ ((!Raise8) = false → (R (.bool false) h10)))) ∧ ((Raise6) = false → (R (.bool false) h10)))) ∧ ((Enable4 == 0) = false →
  (R (.bool false) h10))))
theorem warderlaw20_alive.eq  (h : Hp) (R : Value → Hp → Prop) : evBody Tryd.prog calls warderlaw20_alive.hints Tryd.f7 [] h R = warderlaw20_alive.P  h R := by kernel_rfl
theorem warderlaw20_alive.calls  (h : Hp) (R : Value → Hp → Prop) (hp : warderlaw20_alive.P  h R) : CallsH Tryd.prog 7 [] h R :=
  calls_of_body calls_ok Tryd.func7 (args := []) (by rw [warderlaw20_alive.eq]; exact hp)
/-! ### vic_New: function 8 -/
def vic_New.hints : Hints := { loops := [(3, [1], [(5, (.one (.int .i64)))])], cuts := [], orders := [] }
def vic_New.P  (h : Hp) (R : Value → Hp → Prop) : Prop :=
  ∀ h1 : Hp, h1 = new h (blk 58 [.int .u16 0, .int .u16 0, .int .u16 0, .int .i64 0, .int .i64 0, .int .i64 0, .int .i64 0, .int .i64 0, .int .i64 0, .int .i64 0, .int .i64 0, .int .i64 0, .int .i64 0, .int .i64 0, .int .i64 0, .int .i64 0, .int .i64 0, .int .i64 0, .int .i64 0, .int .i64 16]) →
  ∃ I1 : Int → Hp → Prop, ∃ m2 : Int → Hp → Nat, I1 0 h1 ∧ ∀ x3 : Int, ∀ h2 : Hp, I1 x3 h2 → ((decide (x3 < 16)) = true → ((0 : Int) ≤ x3 ∧ x3 < ((16 : Nat) : Int) ∧ truly true ∧ ∃ T4 : TypeId, ∃ l5 : List Value, bk h2 (sz h) = some (blk T4 l5) ∧
  (3 + x3.toNat * 1) + 1 ≤ l5.length ∧ ∀ h3 : Hp, h3 = upd h2 (sz h) T4 (writeAt l5 (3 + x3.toNat * 1) [.int .i64 8]) → I1 (IntKind.wrap .i64 (x3 + 1)) h3 ∧ m2 (IntKind.wrap .i64 (x3 + 1)) h3 < m2 x3 h2)) ∧
  ((decide (x3 < 16)) = false → (R (.pointer (some ⟨(sz h), 0, none⟩)) h2))
theorem vic_New.eq  (h : Hp) (R : Value → Hp → Prop) : evBody Tryd.prog calls vic_New.hints Tryd.f8 [] h R = vic_New.P  h R := by kernel_rfl
theorem vic_New.calls  (h : Hp) (R : Value → Hp → Prop) (hp : vic_New.P  h R) : CallsH Tryd.prog 8 [] h R :=
  calls_of_body calls_ok Tryd.func8 (args := []) (by rw [vic_New.eq]; exact hp)
/-! ### vic_Vic_Enable: function 9 -/
def vic_Vic_Enable.hints : Hints := { loops := [], cuts := [], orders := [] }
def vic_Vic_Enable.P (p0vb p0vo : Nat) (p1line : Int) (p2on : Bool) (h : Hp) (R : Value → Hp → Prop) : Prop :=
  CallsH Tryd.prog 24 [.int .i64 p1line] h fun r1 h1 => ∃ there2 : Bool, r1 = .bool there2 ∧ ((!there2) = true → (R (.int .i64 11) h1)) ∧ ((!there2) = false → (CallsH Tryd.prog 25 [.pointer (some ⟨p0vb, p0vo, none⟩), .int .i64 p1line, .bool p2on] h1 fun r3 h2 => r3 = .tuple #[] ∧
  R (.int .i64 0) h2))
theorem vic_Vic_Enable.eq (p0vb p0vo : Nat) (p1line : Int) (p2on : Bool) (h : Hp) (R : Value → Hp → Prop) : evBody Tryd.prog calls vic_Vic_Enable.hints Tryd.f9 [.ptr p0vb p0vo, .int .i64 p1line, .bool p2on] h R = vic_Vic_Enable.P p0vb p0vo p1line p2on h R := by kernel_rfl
theorem vic_Vic_Enable.calls (p0vb p0vo : Nat) (p1line : Int) (p2on : Bool) (h : Hp) (R : Value → Hp → Prop) (hp : vic_Vic_Enable.P p0vb p0vo p1line p2on h R) : CallsH Tryd.prog 9 [.pointer (some ⟨p0vb, p0vo, none⟩), .int .i64 p1line, .bool p2on] h R :=
  calls_of_body calls_ok Tryd.func9 (args := [.ptr p0vb p0vo, .int .i64 p1line, .bool p2on]) (by rw [vic_Vic_Enable.eq]; exact hp)
/-! ### vic_Vic_Prioritize: function 10 -/
def vic_Vic_Prioritize.hints : Hints := { loops := [], cuts := [(3, [0, 1, 2], [])], orders := [] }
def vic_Vic_Prioritize.P (p0vb p0vo : Nat) (p1line : Int) (p2priority : Int) (h : Hp) (R : Value → Hp → Prop) : Prop :=
  ∃ I1 : Hp → Prop, (CallsH Tryd.prog 24 [.int .i64 p1line] h fun r2 h1 => ∃ there3 : Bool, r2 = .bool there3 ∧ ((!there3) = true → (R (.int .i64 11) h1)) ∧ ((!there3) = false → (((decide (p2priority < 0)) = true →
  (R (.int .i64 11) h1)) ∧ ((decide (p2priority < 0)) = false → (((decide (p2priority > 15)) = true → (R (.int .i64 11) h1)) ∧ ((decide (p2priority > 15)) = false → (I1 h1))))))) ∧ ∀ h2 : Hp, I1 h2 → (0 : Int) ≤ p1line ∧
  p1line < ((16 : Nat) : Int) ∧ truly true ∧ ∃ T4 : TypeId, ∃ l5 : List Value, bk h2 p0vb = some (blk T4 l5) ∧ (p0vo + 3 + p1line.toNat * 1) + 1 ≤ l5.length ∧ ∀ h3 : Hp, h3 = upd h2 p0vb T4 (writeAt l5 (p0vo + 3 + p1line.toNat * 1) [.int .i64 p2priority]) →
  R (.int .i64 0) h3
theorem vic_Vic_Prioritize.eq (p0vb p0vo : Nat) (p1line : Int) (p2priority : Int) (h : Hp) (R : Value → Hp → Prop) : evBody Tryd.prog calls vic_Vic_Prioritize.hints Tryd.f10 [.ptr p0vb p0vo, .int .i64 p1line, .int .i64 p2priority] h R = vic_Vic_Prioritize.P p0vb p0vo p1line p2priority h R := by kernel_rfl
theorem vic_Vic_Prioritize.calls (p0vb p0vo : Nat) (p1line : Int) (p2priority : Int) (h : Hp) (R : Value → Hp → Prop) (hp : vic_Vic_Prioritize.P p0vb p0vo p1line p2priority h R) : CallsH Tryd.prog 10 [.pointer (some ⟨p0vb, p0vo, none⟩), .int .i64 p1line, .int .i64 p2priority] h R :=
  calls_of_body calls_ok Tryd.func10 (args := [.ptr p0vb p0vo, .int .i64 p1line, .int .i64 p2priority]) (by rw [vic_Vic_Prioritize.eq]; exact hp)
/-! ### vic_Vic_Get: function 11 -/
def vic_Vic_Get.hints : Hints := { loops := [], cuts := [], orders := [(3, [0, 1, 3, 7, 0, 31, 0, 64, 192, 448, 0, 2047, 0, 4096, 12288, 28672, 0, 131071, 0, 0, 262144, 1310720, 3932160, 8126464, 16777215, 33554431], [0, 1, 2, 3, 4, 6, 7, 8, 9, 10, 12, 13, 14, 15, 16, 18, 19, 20, 21, 22, 23, 5, 11, 17, 24, 25])] }
def vic_Vic_Get.P (p0vb p0vo : Nat) (p1line : Int) (h : Hp) (R : Value → Hp → Prop) : Prop :=
  ∀ h1 : Hp, h1 = new h (blk 30 [.bool false, .bool false, .bool false, .int .i64 0]) → CallsH Tryd.prog 24 [.int .i64 p1line] h1 fun r1 h2 => ∃ there2 : Bool, r1 = .bool there2 ∧ ((!there2) = true → (truly true ∧
  ∃ T3 : TypeId, ∃ l4 : List Value, bk h2 (sz h) = some (blk T3 l4) ∧ 0 + 4 ≤ l4.length ∧ ∀ h3 : Hp, h3 = upd h2 (sz h) T3 (writeAt l4 0 [.bool false, .bool false, .bool false, .int .i64 0]) → ∃ res5 : Bool, cellAt h3 (sz h) (0 + 0) = some (.bool res5) ∧
  ∃ res6 : Bool, cellAt h3 (sz h) (0 + 1) = some (.bool res6) ∧ ∃ res7 : Bool, cellAt h3 (sz h) (0 + 2) = some (.bool res7) ∧ ∃ res8 : Int, cellAt h3 (sz h) (0 + 3) = some (.int .i64 res8) ∧ R (.agg #[.bool res5, .bool res6, .bool res7, .int .i64 res8]) h3)) ∧
  ((!there2) = false → (∃ enabled9 : Int, cellAt h2 p0vb p0vo = some (.int .u16 enabled9) ∧ ∃ pending10 : Int, cellAt h2 p0vb (p0vo + 1) = some (.int .u16 pending10) ∧ ∃ active11 : Int, cellAt h2 p0vb (p0vo + 2) = some (.int .u16 active11) ∧
  (0 : Int) ≤ p1line ∧ p1line < ((16 : Nat) : Int) ∧ ∃ x12 : Int, cellAt h2 p0vb (p0vo + 3 + p1line.toNat * 1) = some (.int .i64 x12) ∧ CallsH Tryd.prog 26 [.int .u16 enabled9, .int .i64 p1line] h2 fun r13 h4 => ∃ has14 : Bool, r13 = .bool has14 ∧
  cellAt h4 p0vb (p0vo + 1) = some (.int .u16 pending10) ∧ cellAt h4 p0vb (p0vo + 2) = some (.int .u16 active11) ∧ cellAt h4 p0vb (p0vo + 3 + p1line.toNat * 1) = some (.int .i64 x12) ∧ CallsH Tryd.prog 26 [.int .u16 pending10, .int .i64 p1line] h4 fun r15 h5 => ∃ has16 : Bool, r15 = .bool has16 ∧
  cellAt h5 p0vb (p0vo + 2) = some (.int .u16 active11) ∧ cellAt h5 p0vb (p0vo + 3 + p1line.toNat * 1) = some (.int .i64 x12) ∧ CallsH Tryd.prog 26 [.int .u16 active11, .int .i64 p1line] h5 fun r17 h6 => ∃ has18 : Bool, r17 = .bool has18 ∧
  cellAt h6 p0vb (p0vo + 3 + p1line.toNat * 1) = some (.int .i64 x12) ∧ truly true ∧ ∃ T19 : TypeId, ∃ l20 : List Value, bk h6 (sz h) = some (blk T19 l20) ∧ 0 + 4 ≤ l20.length ∧ ∀ h7 : Hp, h7 = upd h6 (sz h) T19 (writeAt l20 0 [.bool has14, .bool has16, .bool has18, .int .i64 x12]) →
  ∃ res21 : Bool, cellAt h7 (sz h) (0 + 0) = some (.bool res21) ∧ ∃ res22 : Bool, cellAt h7 (sz h) (0 + 1) = some (.bool res22) ∧ ∃ res23 : Bool, cellAt h7 (sz h) (0 + 2) = some (.bool res23) ∧ ∃ res24 : Int, cellAt h7 (sz h) (0 + 3) = some (.int .i64 res24) ∧
  R (.agg #[.bool res21, .bool res22, .bool res23, .int .i64 res24]) h7))
theorem vic_Vic_Get.eq (p0vb p0vo : Nat) (p1line : Int) (h : Hp) (R : Value → Hp → Prop) : evBody Tryd.prog calls vic_Vic_Get.hints Tryd.f11 [.ptr p0vb p0vo, .int .i64 p1line] h R = vic_Vic_Get.P p0vb p0vo p1line h R := by kernel_rfl
theorem vic_Vic_Get.calls (p0vb p0vo : Nat) (p1line : Int) (h : Hp) (R : Value → Hp → Prop) (hp : vic_Vic_Get.P p0vb p0vo p1line h R) : CallsH Tryd.prog 11 [.pointer (some ⟨p0vb, p0vo, none⟩), .int .i64 p1line] h R :=
  calls_of_body calls_ok Tryd.func11 (args := [.ptr p0vb p0vo, .int .i64 p1line]) (by rw [vic_Vic_Get.eq]; exact hp)
/-! ### vic_Vic_Raise: function 12 -/
def vic_Vic_Raise.hints : Hints := { loops := [], cuts := [], orders := [] }
def vic_Vic_Raise.P (p0vb p0vo : Nat) (p1line : Int) (h : Hp) (R : Value → Hp → Prop) : Prop :=
  CallsH Tryd.prog 24 [.int .i64 p1line] h fun r1 h1 => ∃ there2 : Bool, r1 = .bool there2 ∧ ((!there2) = true → (R (.bool false) h1)) ∧ ((!there2) = false → (∃ pending3 : Int, cellAt h1 p0vb (p0vo + 1) = some (.int .u16 pending3) ∧
  CallsH Tryd.prog 26 [.int .u16 pending3, .int .i64 p1line] h1 fun r4 h2 => ∃ has5 : Bool, r4 = .bool has5 ∧ ((has5) = true → (R (.bool false) h2)) ∧ ((has5) = false → (CallsH Tryd.prog 25 [.pointer (some ⟨p0vb, p0vo + 1, none⟩), .int .i64 p1line, .bool true] h2 fun r6 h3 => r6 = .tuple #[] ∧
  R (.bool true) h3))))
theorem vic_Vic_Raise.eq (p0vb p0vo : Nat) (p1line : Int) (h : Hp) (R : Value → Hp → Prop) : evBody Tryd.prog calls vic_Vic_Raise.hints Tryd.f12 [.ptr p0vb p0vo, .int .i64 p1line] h R = vic_Vic_Raise.P p0vb p0vo p1line h R := by kernel_rfl
theorem vic_Vic_Raise.calls (p0vb p0vo : Nat) (p1line : Int) (h : Hp) (R : Value → Hp → Prop) (hp : vic_Vic_Raise.P p0vb p0vo p1line h R) : CallsH Tryd.prog 12 [.pointer (some ⟨p0vb, p0vo, none⟩), .int .i64 p1line] h R :=
  calls_of_body calls_ok Tryd.func12 (args := [.ptr p0vb p0vo, .int .i64 p1line]) (by rw [vic_Vic_Raise.eq]; exact hp)
/-! ### vic_Vic_Take: function 13 -/
def vic_Vic_Take.hints : Hints := { loops := [], cuts := [], orders := [] }
def vic_Vic_Take.P (p0vb p0vo : Nat) (h : Hp) (R : Value → Hp → Prop) : Prop :=
  CallsH Tryd.prog 15 [.pointer (some ⟨p0vb, p0vo, none⟩)] h fun r1 h1 => ∃ Next2 : Int, ∃ Next3 : Bool, r1 = .tuple #[.int .i64 Next2, .bool Next3] ∧ ((Next3) = true → (CallsH Tryd.prog 25 [.pointer (some ⟨p0vb, p0vo + 2, none⟩), .int .i64 Next2, .bool true] h1 fun r4 h2 => r4 = .tuple #[] ∧
  CallsH Tryd.prog 25 [.pointer (some ⟨p0vb, p0vo + 1, none⟩), .int .i64 Next2, .bool false] h2 fun r5 h3 => r5 = .tuple #[] ∧ R (.tuple #[.int .i64 Next2, .bool Next3]) h3)) ∧ ((Next3) = false → (R (.tuple #[.int .i64 Next2, .bool Next3]) h1))
theorem vic_Vic_Take.eq (p0vb p0vo : Nat) (h : Hp) (R : Value → Hp → Prop) : evBody Tryd.prog calls vic_Vic_Take.hints Tryd.f13 [.ptr p0vb p0vo] h R = vic_Vic_Take.P p0vb p0vo h R := by kernel_rfl
theorem vic_Vic_Take.calls (p0vb p0vo : Nat) (h : Hp) (R : Value → Hp → Prop) (hp : vic_Vic_Take.P p0vb p0vo h R) : CallsH Tryd.prog 13 [.pointer (some ⟨p0vb, p0vo, none⟩)] h R :=
  calls_of_body calls_ok Tryd.func13 (args := [.ptr p0vb p0vo]) (by rw [vic_Vic_Take.eq]; exact hp)
/-! ### vic_Vic_End: function 14 -/
def vic_Vic_End.hints : Hints := { loops := [], cuts := [], orders := [] }
def vic_Vic_End.P (p0vb p0vo : Nat) (p1line : Int) (h : Hp) (R : Value → Hp → Prop) : Prop :=
  CallsH Tryd.prog 24 [.int .i64 p1line] h fun r1 h1 => ∃ there2 : Bool, r1 = .bool there2 ∧ ((!there2) = true → (R (.int .i64 11) h1)) ∧ ((!there2) = false → (∃ active3 : Int, cellAt h1 p0vb (p0vo + 2) = some (.int .u16 active3) ∧
  CallsH Tryd.prog 26 [.int .u16 active3, .int .i64 p1line] h1 fun r4 h2 => ∃ has5 : Bool, r4 = .bool has5 ∧ ((!has5) = true → (R (.int .i64 20) h2)) ∧ ((!has5) = false → (CallsH Tryd.prog 25 [.pointer (some ⟨p0vb, p0vo + 2, none⟩), .int .i64 p1line, .bool false] h2 fun r6 h3 => r6 = .tuple #[] ∧
  R (.int .i64 0) h3))))
theorem vic_Vic_End.eq (p0vb p0vo : Nat) (p1line : Int) (h : Hp) (R : Value → Hp → Prop) : evBody Tryd.prog calls vic_Vic_End.hints Tryd.f14 [.ptr p0vb p0vo, .int .i64 p1line] h R = vic_Vic_End.P p0vb p0vo p1line h R := by kernel_rfl
theorem vic_Vic_End.calls (p0vb p0vo : Nat) (p1line : Int) (h : Hp) (R : Value → Hp → Prop) (hp : vic_Vic_End.P p0vb p0vo p1line h R) : CallsH Tryd.prog 14 [.pointer (some ⟨p0vb, p0vo, none⟩), .int .i64 p1line] h R :=
  calls_of_body calls_ok Tryd.func14 (args := [.ptr p0vb p0vo, .int .i64 p1line]) (by rw [vic_Vic_End.eq]; exact hp)
/-! ### vic_Vic_Next: function 15 -/
def vic_Vic_Next.hints : Hints := { loops := [], cuts := [], orders := [(2, [0, 0, 2, 6, 14, 0, 32, 96, 224, 510, 0, 1024, 3072, 7168, 16382, 32767, 65535, 131071, 131071, 262143, 1048575], [0, 1, 2, 3, 4, 5, 6, 7, 8, 9, 10, 11, 12, 13, 14, 15, 16, 17, 18, 19, 20])] }
def vic_Vic_Next.P (p0vb p0vo : Nat) (h : Hp) (R : Value → Hp → Prop) : Prop :=
  ∃ active1 : Int, cellAt h p0vb (p0vo + 2) = some (.int .u16 active1) ∧ CallsH Tryd.prog 27 [.pointer (some ⟨p0vb, p0vo, none⟩), .int .u16 active1] h fun r2 h1 => ∃ least3 : Int, ∃ least4 : Int, r2 = .tuple #[.int .i64 least3, .int .i64 least4] ∧
  ∃ enabled5 : Int, cellAt h1 p0vb p0vo = some (.int .u16 enabled5) ∧ ∃ pending6 : Int, cellAt h1 p0vb (p0vo + 1) = some (.int .u16 pending6) ∧ ∃ active7 : Int, cellAt h1 p0vb (p0vo + 2) = some (.int .u16 active7) ∧
  CallsH Tryd.prog 27 [.pointer (some ⟨p0vb, p0vo, none⟩), .int .u16 (bnotV .u16 (bandV .u16 enabled5 pending6) active7)] h1 fun r8 h2 => ∃ least9 : Int, ∃ least10 : Int, r8 = .tuple #[.int .i64 least9, .int .i64 least10] ∧
  ((least9 == (-1)) = true → (R (.tuple #[.int .i64 (-1), .bool false]) h2)) ∧ ((least9 == (-1)) = false → (∃ mask11 : Int, cellAt h2 p0vb (p0vo + 19) = some (.int .i64 mask11) ∧ ((decide (least10 ≥ (minI least4 mask11))) = true →
  (R (.tuple #[.int .i64 (-1), .bool false]) h2)) ∧ ((decide (least10 ≥ (minI least4 mask11))) = false → (R (.tuple #[.int .i64 least9, .bool true]) h2))))
theorem vic_Vic_Next.eq (p0vb p0vo : Nat) (h : Hp) (R : Value → Hp → Prop) : evBody Tryd.prog calls vic_Vic_Next.hints Tryd.f15 [.ptr p0vb p0vo] h R = vic_Vic_Next.P p0vb p0vo h R := by kernel_rfl
theorem vic_Vic_Next.calls (p0vb p0vo : Nat) (h : Hp) (R : Value → Hp → Prop) (hp : vic_Vic_Next.P p0vb p0vo h R) : CallsH Tryd.prog 15 [.pointer (some ⟨p0vb, p0vo, none⟩)] h R :=
  calls_of_body calls_ok Tryd.func15 (args := [.ptr p0vb p0vo]) (by rw [vic_Vic_Next.eq]; exact hp)
/-! ### vic_Vic_Word: function 16 -/
def vic_Vic_Word.hints : Hints := { loops := [], cuts := [], orders := [(1, [0, 1, 3, 7, 15, 0, 32, 96, 224, 480, 992, 2047, 4095], [0, 1, 2, 3, 4, 5, 6, 7, 8, 9, 10, 11, 12])] }
def vic_Vic_Word.P (p0vb p0vo : Nat) (h : Hp) (R : Value → Hp → Prop) : Prop :=
  ∃ pending1 : Int, cellAt h p0vb (p0vo + 1) = some (.int .u16 pending1) ∧ ∃ active2 : Int, cellAt h p0vb (p0vo + 2) = some (.int .u16 active2) ∧ (0 : Int) ≤ 16 ∧ R (.int .u32 (borV .u32 (IntKind.wrap .u32 pending1) (shlV .u32 (IntKind.wrap .u32 active2) 16))) h
theorem vic_Vic_Word.eq (p0vb p0vo : Nat) (h : Hp) (R : Value → Hp → Prop) : evBody Tryd.prog calls vic_Vic_Word.hints Tryd.f16 [.ptr p0vb p0vo] h R = vic_Vic_Word.P p0vb p0vo h R := by kernel_rfl
theorem vic_Vic_Word.calls (p0vb p0vo : Nat) (h : Hp) (R : Value → Hp → Prop) (hp : vic_Vic_Word.P p0vb p0vo h R) : CallsH Tryd.prog 16 [.pointer (some ⟨p0vb, p0vo, none⟩)] h R :=
  calls_of_body calls_ok Tryd.func16 (args := [.ptr p0vb p0vo]) (by rw [vic_Vic_Word.eq]; exact hp)
/-! ### warderref20_New: function 17 -/
def warderref20_New.hints : Hints := { loops := [(3, [1], [(2, (.one (.int .i64)))])], cuts := [], orders := [] }
def warderref20_New.P  (h : Hp) (R : Value → Hp → Prop) : Prop :=
  (0 : Int) ≤ 16 ∧ (16 : Int) ≤ 16 ∧ (16 : Int) ≤ 140737488355328 ∧ ((16 : Nat) : Int) * 16 ≤ 281474976710656 ∧ (4 : Nat) = 4 ∧ ∀ h1 : Hp, h1 = new h (blk 46 (zeros [.bool false, .bool false, .bool false, .int .i64 0] (16 : Int).toNat)) →
  ∀ h2 : Hp, h2 = new h1 (blk 49 [.slice (some ⟨sz h, 0, none⟩) ((16 : Int).toNat) ((16 : Int).toNat), .int .i64 16]) → ∃ I1 : Int → Hp → Prop, ∃ m2 : Int → Hp → Nat, I1 0 h2 ∧ ∀ i3 : Int, ∀ h3 : Hp, I1 i3 h3 →
  ((decide (i3 < 16)) = true → (∃ Linesa4 : Option Addr, ∃ Linesl5 : Nat, ∃ Linesc6 : Nat, cellAt h3 (sz h1) 0 = some (.slice Linesa4 Linesl5 Linesc6) ∧ (0 : Int) ≤ i3 ∧ i3 < ((Linesl5 : Nat) : Int) ∧
  ∃ b7 : Nat, ∃ o8 : Nat, Linesa4 = some ⟨b7, o8, none⟩ ∧ truly true ∧ ∃ T9 : TypeId, ∃ l10 : List Value, bk h3 b7 = some (blk T9 l10) ∧ (o8 + i3.toNat * 4 + 3) + 1 ≤ l10.length ∧ ∀ h4 : Hp, h4 = upd h3 b7 T9 (writeAt l10 (o8 + i3.toNat * 4 + 3) [.int .i64 8]) →
  I1 (IntKind.wrap .i64 (i3 + 1)) h4 ∧ m2 (IntKind.wrap .i64 (i3 + 1)) h4 < m2 i3 h3)) ∧ ((decide (i3 < 16)) = false → (R (.pointer (some ⟨(sz h1), 0, none⟩)) h3))
theorem warderref20_New.eq  (h : Hp) (R : Value → Hp → Prop) : evBody Tryd.prog calls warderref20_New.hints Tryd.f17 [] h R = warderref20_New.P  h R := by kernel_rfl
theorem warderref20_New.calls  (h : Hp) (R : Value → Hp → Prop) (hp : warderref20_New.P  h R) : CallsH Tryd.prog 17 [] h R :=
  calls_of_body calls_ok Tryd.func17 (args := []) (by rw [warderref20_New.eq]; exact hp)
/-! ### warderlaw20_told: function 18 -/
def warderlaw20_told.hints : Hints := { loops := [], cuts := [(5, [0, 1, 5, 7], [(8, (.one .bool))]), (10, [0, 1, 5, 7], [(9, (.one .bool))]), (20, [0, 1, 5], [(118, (.one .bool))]), (21, [0, 1, 5], []), (26, [0, 1, 5], []), (33, [0, 10], [])], orders := [(4, [0, 1, 3, 7, 15, 31, 3, 67, 255, 511, 1023, 2047, 4095, 8191], [0, 1, 2, 3, 4, 5, 6, 7, 8, 9, 10, 11, 12, 13]), (6, [0, 1, 3, 7, 0, 16, 63, 127, 255], [0, 1, 2, 3, 4, 5, 6, 7, 8]), (9, [0, 1, 3, 7, 15, 31, 3, 67, 255, 511, 1023, 2047, 4095], [0, 1, 2, 3, 4, 5, 6, 7, 8, 9, 10, 11, 12]), (11, [0, 1, 3, 7, 0, 16, 63, 127, 255], [0, 1, 2, 3, 4, 5, 6, 7, 8]), (16, [0, 1, 3, 7, 0, 16, 0, 64, 255, 511, 1023], [0, 1, 2, 3, 4, 5, 6, 7, 8, 9, 10]), (21, [0, 1, 3, 7, 0, 16, 0, 64, 255, 511, 1023], [0, 1, 2, 3, 4, 5, 6, 7, 8, 9, 10]), (36, [0, 0, 2, 7, 0, 0, 32, 127, 255, 511], [0, 1, 2, 4, 5, 6, 3, 7, 8, 9])] }
def warderlaw20_told.P (p0vb p0vo : Nat) (p1rb p1ro : Nat) (p2c_0 : Int) (p2c_1 : Int) (p2c_2 : Int) (p2c_3 : Bool) (h : Hp) (R : Value → Hp → Prop) : Prop :=
  ∀ h1 : Hp, h1 = new h (blk 44 [.int .i64 p2c_0, .int .i64 p2c_1, .int .i64 p2c_2, .bool p2c_3]) → ∃ Line1 : Int, cellAt h1 (sz h) 1 = some (.int .i64 Line1) ∧ CallsH Tryd.prog 20 [.int .i64 Line1] h1 fun r2 h2 => ∃ There3 : Bool, r2 = .bool There3 ∧
  ∃ What4 : Int, cellAt h2 (sz h) 0 = some (.int .i64 What4) ∧ ((What4 == 0) = true → (∃ I5 : Bool → Hp → Prop, (((There3) = true → (∃ Linesa6 : Option Addr, ∃ Linesl7 : Nat, ∃ Linesc8 : Nat, cellAt h2 p1rb p1ro = some (.slice Linesa6 Linesl7 Linesc8) ∧
  ∃ Line9 : Int, cellAt h2 (sz h) 1 = some (.int .i64 Line9) ∧ (0 : Int) ≤ Line9 ∧ Line9 < ((Linesl7 : Nat) : Int) ∧ ∃ b10 : Nat, ∃ o11 : Nat, Linesa6 = some ⟨b10, o11, none⟩ ∧ ∃ Pending12 : Bool, cellAt h2 b10 (o11 + Line9.toNat * 4 + 1) = some (.bool Pending12) ∧
  I5 (!Pending12) h2)) ∧ ((There3) = false → (I5 false h2))) ∧ ∀ want13 : Bool, ∀ h3 : Hp, I5 want13 h3 → ((There3) = true → (∃ Linesa14 : Option Addr, ∃ Linesl15 : Nat, ∃ Linesc16 : Nat, cellAt h3 p1rb p1ro = some (.slice Linesa14 Linesl15 Linesc16) ∧
  ∃ Line17 : Int, cellAt h3 (sz h) 1 = some (.int .i64 Line17) ∧ (0 : Int) ≤ Line17 ∧ Line17 < ((Linesl15 : Nat) : Int) ∧ ∃ b18 : Nat, ∃ o19 : Nat, Linesa14 = some ⟨b18, o19, none⟩ ∧ truly true ∧ ∃ T20 : TypeId, ∃ l21 : List Value, bk h3 b18 = some (blk T20 l21) ∧
  (o19 + Line17.toNat * 4 + 1) + 1 ≤ l21.length ∧ ∀ h4 : Hp, h4 = upd h3 b18 T20 (writeAt l21 (o19 + Line17.toNat * 4 + 1) [.bool true]) → ∃ Line22 : Int, cellAt h4 (sz h) 1 = some (.int .i64 Line22) ∧
  CallsH Tryd.prog 12 [.pointer (some ⟨p0vb, p0vo, none⟩), .int .i64 Line22] h4 fun r23 h5 => ∃ Raise24 : Bool, r23 = .bool Raise24 ∧ R (.bool (notIf true (Raise24 == want13))) h5)) ∧ ((There3) = false →
  (∃ Line25 : Int, cellAt h3 (sz h) 1 = some (.int .i64 Line25) ∧ CallsH Tryd.prog 12 [.pointer (some ⟨p0vb, p0vo, none⟩), .int .i64 Line25] h3 fun r26 h6 => ∃ Raise27 : Bool, r26 = .bool Raise27 ∧ R (.bool (notIf true (Raise27 == want13))) h6)))) ∧
  ((What4 == 0) = false → (((What4 == 1) = true → (∃ I28 : Bool → Hp → Prop, (((There3) = true → (∃ Linesa29 : Option Addr, ∃ Linesl30 : Nat, ∃ Linesc31 : Nat, cellAt h2 p1rb p1ro = some (.slice Linesa29 Linesl30 Linesc31) ∧
  ∃ Line32 : Int, cellAt h2 (sz h) 1 = some (.int .i64 Line32) ∧ (0 : Int) ≤ Line32 ∧ Line32 < ((Linesl30 : Nat) : Int) ∧ ∃ b33 : Nat, ∃ o34 : Nat, Linesa29 = some ⟨b33, o34, none⟩ ∧ ∃ Pending35 : Bool, cellAt h2 b33 (o34 + Line32.toNat * 4 + 1) = some (.bool Pending35) ∧
  I28 Pending35 h2)) ∧ ((There3) = false → (I28 false h2))) ∧ ∀ want36 : Bool, ∀ h7 : Hp, I28 want36 h7 → ((There3) = true → (∃ Linesa37 : Option Addr, ∃ Linesl38 : Nat, ∃ Linesc39 : Nat, cellAt h7 p1rb p1ro = some (.slice Linesa37 Linesl38 Linesc39) ∧
  ∃ Line40 : Int, cellAt h7 (sz h) 1 = some (.int .i64 Line40) ∧ (0 : Int) ≤ Line40 ∧ Line40 < ((Linesl38 : Nat) : Int) ∧ ∃ b41 : Nat, ∃ o42 : Nat, Linesa37 = some ⟨b41, o42, none⟩ ∧ truly true ∧ ∃ T43 : TypeId, ∃ l44 : List Value, bk h7 b41 = some (blk T43 l44) ∧
  (o42 + Line40.toNat * 4 + 1) + 1 ≤ l44.length ∧ ∀ h8 : Hp, h8 = upd h7 b41 T43 (writeAt l44 (o42 + Line40.toNat * 4 + 1) [.bool false]) → ∃ Line45 : Int, cellAt h8 (sz h) 1 = some (.int .i64 Line45) ∧
  CallsH Tryd.prog 28 [.pointer (some ⟨p0vb, p0vo, none⟩), .int .i64 Line45] h8 fun r46 h9 => ∃ Drop47 : Bool, r46 = .bool Drop47 ∧ R (.bool (notIf true (Drop47 == want36))) h9)) ∧ ((There3) = false → (∃ Line48 : Int, cellAt h7 (sz h) 1 = some (.int .i64 Line48) ∧
  CallsH Tryd.prog 28 [.pointer (some ⟨p0vb, p0vo, none⟩), .int .i64 Line48] h7 fun r49 h10 => ∃ Drop50 : Bool, r49 = .bool Drop50 ∧ R (.bool (notIf true (Drop50 == want36))) h10)))) ∧ ((What4 == 1) = false →
  (((What4 == 2) = true → (((!There3) = true → (∃ Line51 : Int, cellAt h2 (sz h) 1 = some (.int .i64 Line51) ∧ ∃ On52 : Bool, cellAt h2 (sz h) 3 = some (.bool On52) ∧ CallsH Tryd.prog 9 [.pointer (some ⟨p0vb, p0vo, none⟩), .int .i64 Line51, .bool On52] h2 fun r53 h11 => ∃ Enable54 : Int, r53 = .int .i64 Enable54 ∧
  R (.bool (Enable54 == 11)) h11)) ∧ ((!There3) = false → (∃ Linesa55 : Option Addr, ∃ Linesl56 : Nat, ∃ Linesc57 : Nat, cellAt h2 p1rb p1ro = some (.slice Linesa55 Linesl56 Linesc57) ∧ ∃ Line58 : Int, cellAt h2 (sz h) 1 = some (.int .i64 Line58) ∧
  ∃ On59 : Bool, cellAt h2 (sz h) 3 = some (.bool On59) ∧ (0 : Int) ≤ Line58 ∧ Line58 < ((Linesl56 : Nat) : Int) ∧ ∃ b60 : Nat, ∃ o61 : Nat, Linesa55 = some ⟨b60, o61, none⟩ ∧ truly true ∧ ∃ T62 : TypeId, ∃ l63 : List Value, bk h2 b60 = some (blk T62 l63) ∧
  (o61 + Line58.toNat * 4) + 1 ≤ l63.length ∧ ∀ h12 : Hp, h12 = upd h2 b60 T62 (writeAt l63 (o61 + Line58.toNat * 4) [.bool On59]) → ∃ Line64 : Int, cellAt h12 (sz h) 1 = some (.int .i64 Line64) ∧ ∃ On65 : Bool, cellAt h12 (sz h) 3 = some (.bool On65) ∧
  CallsH Tryd.prog 9 [.pointer (some ⟨p0vb, p0vo, none⟩), .int .i64 Line64, .bool On65] h12 fun r66 h13 => ∃ Enable67 : Int, r66 = .int .i64 Enable67 ∧ R (.bool (Enable67 == 0)) h13)))) ∧ ((What4 == 2) = false →
  (((What4 == 3) = true → (∃ I68 : Hp → Prop, (∃ I69 : Bool → Hp → Prop, (((!There3) = true → (I69 true h2)) ∧ ((!There3) = false → (∃ N70 : Int, cellAt h2 (sz h) 2 = some (.int .i64 N70) ∧ ((decide (N70 < 0)) = true →
  (I69 true h2)) ∧ ((decide (N70 < 0)) = false → (∃ N71 : Int, cellAt h2 (sz h) 2 = some (.int .i64 N71) ∧ I69 (decide (N71 > 15)) h2))))) ∧ ∀ x72 : Bool, ∀ h14 : Hp, I69 x72 h14 → ((x72) = true → (∃ Line73 : Int, cellAt h14 (sz h) 1 = some (.int .i64 Line73) ∧
  ∃ N74 : Int, cellAt h14 (sz h) 2 = some (.int .i64 N74) ∧ CallsH Tryd.prog 10 [.pointer (some ⟨p0vb, p0vo, none⟩), .int .i64 Line73, .int .i64 N74] h14 fun r75 h15 => ∃ Prioritize76 : Int, r75 = .int .i64 Prioritize76 ∧
  R (.bool (Prioritize76 == 11)) h15)) ∧ ((x72) = false → (I68 h14))) ∧ ∀ h16 : Hp, I68 h16 → ∃ Linesa77 : Option Addr, ∃ Linesl78 : Nat, ∃ Linesc79 : Nat, cellAt h16 p1rb p1ro = some (.slice Linesa77 Linesl78 Linesc79) ∧
  ∃ Line80 : Int, cellAt h16 (sz h) 1 = some (.int .i64 Line80) ∧ ∃ N81 : Int, cellAt h16 (sz h) 2 = some (.int .i64 N81) ∧ (0 : Int) ≤ Line80 ∧ Line80 < ((Linesl78 : Nat) : Int) ∧ ∃ b82 : Nat, ∃ o83 : Nat, Linesa77 = some ⟨b82, o83, none⟩ ∧
  truly true ∧ ∃ T84 : TypeId, ∃ l85 : List Value, bk h16 b82 = some (blk T84 l85) ∧ (o83 + Line80.toNat * 4 + 3) + 1 ≤ l85.length ∧ ∀ h17 : Hp, h17 = upd h16 b82 T84 (writeAt l85 (o83 + Line80.toNat * 4 + 3) [.int .i64 N81]) →
  ∃ Line86 : Int, cellAt h17 (sz h) 1 = some (.int .i64 Line86) ∧ ∃ N87 : Int, cellAt h17 (sz h) 2 = some (.int .i64 N87) ∧ CallsH Tryd.prog 10 [.pointer (some ⟨p0vb, p0vo, none⟩), .int .i64 Line86, .int .i64 N87] h17 fun r88 h18 => ∃ Prioritize89 : Int, r88 = .int .i64 Prioritize89 ∧
  R (.bool (Prioritize89 == 0)) h18)) ∧ ((What4 == 3) = false → (((What4 == 4) = true → (∃ I90 : Hp → Prop, (∃ N91 : Int, cellAt h2 (sz h) 2 = some (.int .i64 N91) ∧ ((decide (N91 < 0)) = true → (∃ N92 : Int, cellAt h2 (sz h) 2 = some (.int .i64 N92) ∧
  CallsH Tryd.prog 23 [.pointer (some ⟨p0vb, p0vo, none⟩), .int .i64 N92] h2 fun r93 h19 => ∃ Mask94 : Int, r93 = .int .i64 Mask94 ∧ R (.bool (Mask94 == 11)) h19)) ∧ ((decide (N91 < 0)) = false → (∃ N95 : Int, cellAt h2 (sz h) 2 = some (.int .i64 N95) ∧
  ((decide (N95 > 16)) = true → (∃ N96 : Int, cellAt h2 (sz h) 2 = some (.int .i64 N96) ∧ CallsH Tryd.prog 23 [.pointer (some ⟨p0vb, p0vo, none⟩), .int .i64 N96] h2 fun r97 h20 => ∃ Mask98 : Int, r97 = .int .i64 Mask98 ∧
  R (.bool (Mask98 == 11)) h20)) ∧ ((decide (N95 > 16)) = false → (I90 h2))))) ∧ ∀ h21 : Hp, I90 h21 → ∃ N99 : Int, cellAt h21 (sz h) 2 = some (.int .i64 N99) ∧ truly true ∧ ∃ T100 : TypeId, ∃ l101 : List Value, bk h21 p1rb = some (blk T100 l101) ∧
  (p1ro + 1) + 1 ≤ l101.length ∧ ∀ h22 : Hp, h22 = upd h21 p1rb T100 (writeAt l101 (p1ro + 1) [.int .i64 N99]) → ∃ N102 : Int, cellAt h22 (sz h) 2 = some (.int .i64 N102) ∧ CallsH Tryd.prog 23 [.pointer (some ⟨p0vb, p0vo, none⟩), .int .i64 N102] h22 fun r103 h23 => ∃ Mask104 : Int, r103 = .int .i64 Mask104 ∧
  R (.bool (Mask104 == 0)) h23)) ∧ ((What4 == 4) = false → (((What4 == 5) = true → (CallsH Tryd.prog 19 [.pointer (some ⟨p1rb, p1ro, none⟩)] h2 fun r105 h24 => ∃ Next106 : Int, r105 = .int .i64 Next106 ∧
  ∃ I107 : Hp → Prop, (((decide (Next106 ≥ 0)) = true → (∃ Linesa108 : Option Addr, ∃ Linesl109 : Nat, ∃ Linesc110 : Nat, cellAt h24 p1rb p1ro = some (.slice Linesa108 Linesl109 Linesc110) ∧ (0 : Int) ≤ Next106 ∧
  Next106 < ((Linesl109 : Nat) : Int) ∧ ∃ b111 : Nat, ∃ o112 : Nat, Linesa108 = some ⟨b111, o112, none⟩ ∧ truly true ∧ ∃ T113 : TypeId, ∃ l114 : List Value, bk h24 b111 = some (blk T113 l114) ∧ (o112 + Next106.toNat * 4 + 2) + 1 ≤ l114.length ∧
  ∀ h25 : Hp, h25 = upd h24 b111 T113 (writeAt l114 (o112 + Next106.toNat * 4 + 2) [.bool true]) → ∃ Linesa115 : Option Addr, ∃ Linesl116 : Nat, ∃ Linesc117 : Nat, cellAt h25 p1rb p1ro = some (.slice Linesa115 Linesl116 Linesc117) ∧
  (0 : Int) ≤ Next106 ∧ Next106 < ((Linesl116 : Nat) : Int) ∧ ∃ b118 : Nat, ∃ o119 : Nat, Linesa115 = some ⟨b118, o119, none⟩ ∧ truly true ∧ ∃ T120 : TypeId, ∃ l121 : List Value, bk h25 b118 = some (blk T120 l121) ∧
  (o119 + Next106.toNat * 4 + 1) + 1 ≤ l121.length ∧ ∀ h26 : Hp, h26 = upd h25 b118 T120 (writeAt l121 (o119 + Next106.toNat * 4 + 1) [.bool false]) → I107 h26)) ∧ ((decide (Next106 ≥ 0)) = false → (I107 h24))) ∧
  ∀ h27 : Hp, I107 h27 → CallsH Tryd.prog 13 [.pointer (some ⟨p0vb, p0vo, none⟩)] h27 fun r122 h28 => ∃ Take123 : Int, ∃ Take124 : Bool, r122 = .tuple #[.int .i64 Take123, .bool Take124] ∧ ((Take123 == Next106) = true →
  (R (.bool (notIf true (Take124 == (decide (Next106 ≥ 0))))) h28)) ∧ ((Take123 == Next106) = false → (R (.bool false) h28)))) ∧ ((What4 == 5) = false → (((What4 == 6) = true → (∃ Line125 : Int, cellAt h2 (sz h) 1 = some (.int .i64 Line125) ∧
  ∃ Line126 : Int, cellAt h2 (sz h) 1 = some (.int .i64 Line126) ∧ CallsH Tryd.prog 14 [.pointer (some ⟨p0vb, p0vo, none⟩), .int .i64 Line125] h2 fun r127 h29 => ∃ End128 : Int, r127 = .int .i64 End128 ∧
  cellAt h29 (sz h) 1 = some (.int .i64 Line126) ∧ CallsH Tryd.prog 29 [.pointer (some ⟨p1rb, p1ro, none⟩), .int .i64 Line126] h29 fun r129 h30 => ∃ End130 : Int, r129 = .int .i64 End130 ∧ R (.bool (End128 == End130)) h30)) ∧
  ((What4 == 6) = false → (R (.bool true) h2))))))))))))))
theorem warderlaw20_told.eq (p0vb p0vo : Nat) (p1rb p1ro : Nat) (p2c_0 : Int) (p2c_1 : Int) (p2c_2 : Int) (p2c_3 : Bool) (h : Hp) (R : Value → Hp → Prop) : evBody Tryd.prog calls warderlaw20_told.hints Tryd.f18 [.ptr p0vb p0vo, .ptr p1rb p1ro, .agg [.int .i64 p2c_0, .int .i64 p2c_1, .int .i64 p2c_2, .bool p2c_3]] h R = warderlaw20_told.P p0vb p0vo p1rb p1ro p2c_0 p2c_1 p2c_2 p2c_3 h R := by kernel_rfl
theorem warderlaw20_told.calls (p0vb p0vo : Nat) (p1rb p1ro : Nat) (p2c_0 : Int) (p2c_1 : Int) (p2c_2 : Int) (p2c_3 : Bool) (h : Hp) (R : Value → Hp → Prop) (hp : warderlaw20_told.P p0vb p0vo p1rb p1ro p2c_0 p2c_1 p2c_2 p2c_3 h R) : CallsH Tryd.prog 18 [.pointer (some ⟨p0vb, p0vo, none⟩), .pointer (some ⟨p1rb, p1ro, none⟩), .agg #[.int .i64 p2c_0, .int .i64 p2c_1, .int .i64 p2c_2, .bool p2c_3]] h R :=
  calls_of_body calls_ok Tryd.func18 (args := [.ptr p0vb p0vo, .ptr p1rb p1ro, .agg [.int .i64 p2c_0, .int .i64 p2c_1, .int .i64 p2c_2, .bool p2c_3]]) (by rw [warderlaw20_told.eq]; exact hp)
/-! ### warderref20_Vic_Next: function 19 -/
def warderref20_Vic_Next.hints : Hints := { loops := [(3, [0], [(3, (.one (.int .i64))), (4, (.one (.int .i64)))]), (9, [0, 3], [(5, (.one (.int .i64))), (6, (.one (.int .i64)))])], cuts := [], orders := [(12, [0, 1, 3, 7, 15, 31, 63, 127, 255, 511, 1023, 2047, 4095, 8191, 4095, 32767, 65535, 131071, 262143, 524287, 1048575, 2097151, 4194303, 2097151, 10485759, 27262975, 60817407, 2097151, 262143999, 530579455, 1067450367, 2147483647, 4294967295, 8589934591], [0, 1, 2, 3, 4, 5, 6, 7, 8, 9, 10, 11, 12, 13, 14, 15, 16, 17, 18, 19, 20, 21, 22, 23, 24, 25, 26, 27, 28, 29, 30, 31, 32, 33])] }
def warderref20_Vic_Next.P (p0vb p0vo : Nat) (h : Hp) (R : Value → Hp → Prop) : Prop :=
  ∃ Mask1 : Int, cellAt h p0vb (p0vo + 1) = some (.int .i64 Mask1) ∧ ∃ I2 : Int → Int → Hp → Prop, ∃ m3 : Int → Int → Hp → Nat, I2 Mask1 0 h ∧ ∀ limit4 : Int, ∀ i5 : Int, ∀ h1 : Hp, I2 limit4 i5 h1 → ((decide (i5 < 16)) = true →
  (∃ Linesa6 : Option Addr, ∃ Linesl7 : Nat, ∃ Linesc8 : Nat, cellAt h1 p0vb p0vo = some (.slice Linesa6 Linesl7 Linesc8) ∧ (0 : Int) ≤ i5 ∧ i5 < ((Linesl7 : Nat) : Int) ∧ ∃ b9 : Nat, ∃ o10 : Nat, Linesa6 = some ⟨b9, o10, none⟩ ∧
  ∃ Active11 : Bool, cellAt h1 b9 (o10 + i5.toNat * 4 + 2) = some (.bool Active11) ∧ ((Active11) = true → (∃ Linesa12 : Option Addr, ∃ Linesl13 : Nat, ∃ Linesc14 : Nat, cellAt h1 p0vb p0vo = some (.slice Linesa12 Linesl13 Linesc14) ∧
  (0 : Int) ≤ i5 ∧ i5 < ((Linesl13 : Nat) : Int) ∧ ∃ b15 : Nat, ∃ o16 : Nat, Linesa12 = some ⟨b15, o16, none⟩ ∧ ∃ Priority17 : Int, cellAt h1 b15 (o16 + i5.toNat * 4 + 3) = some (.int .i64 Priority17) ∧
  I2 (minI limit4 Priority17) (IntKind.wrap .i64 (i5 + 1)) h1 ∧ m3 (minI limit4 Priority17) (IntKind.wrap .i64 (i5 + 1)) h1 < m3 limit4 i5 h1)) ∧ ((Active11) = false → (I2 limit4 (IntKind.wrap .i64 (i5 + 1)) h1 ∧
  m3 limit4 (IntKind.wrap .i64 (i5 + 1)) h1 < m3 limit4 i5 h1)))) ∧ ((decide (i5 < 16)) = false → (∃ I18 : Int → Int → Hp → Prop, ∃ m19 : Int → Int → Hp → Nat, I18 (-1) 15 h1 ∧ ∀ best20 : Int, ∀ i21 : Int, ∀ h2 : Hp, I18 best20 i21 h2 →
  ((decide (i21 ≥ 0)) = true → (∃ Linesa22 : Option Addr, ∃ Linesl23 : Nat, ∃ Linesc24 : Nat, cellAt h2 p0vb p0vo = some (.slice Linesa22 Linesl23 Linesc24) ∧ (0 : Int) ≤ i21 ∧ i21 < ((Linesl23 : Nat) : Int) ∧
  ∃ b25 : Nat, ∃ o26 : Nat, Linesa22 = some ⟨b25, o26, none⟩ ∧ ∃ x27 : Bool, cellAt h2 b25 (o26 + i21.toNat * 4 + 0) = some (.bool x27) ∧ ∃ x28 : Bool, cellAt h2 b25 (o26 + i21.toNat * 4 + 1) = some (.bool x28) ∧
  ∃ x29 : Bool, cellAt h2 b25 (o26 + i21.toNat * 4 + 2) = some (.bool x29) ∧ ∃ x30 : Int, cellAt h2 b25 (o26 + i21.toNat * 4 + 3) = some (.int .i64 x30) ∧ ∀ h3 : Hp, h3 = new h2 (blk 46 [.bool false, .bool false, .bool false, .int .i64 0]) →
  truly true ∧ ∃ T31 : TypeId, ∃ l32 : List Value, bk h3 (sz h2) = some (blk T31 l32) ∧ 0 + 4 ≤ l32.length ∧ ∀ h4 : Hp, h4 = upd h3 (sz h2) T31 (writeAt l32 0 [.bool x27, .bool x28, .bool x29, .int .i64 x30]) →
  ∃ Enabled33 : Bool, cellAt h4 (sz h2) 0 = some (.bool Enabled33) ∧ ((Enabled33) = true → (∃ Pending34 : Bool, cellAt h4 (sz h2) 1 = some (.bool Pending34) ∧ ((Pending34) = true → (∃ Active35 : Bool, cellAt h4 (sz h2) 2 = some (.bool Active35) ∧
  ((!Active35) = true → (∃ Priority36 : Int, cellAt h4 (sz h2) 3 = some (.int .i64 Priority36) ∧ ((decide (Priority36 < limit4)) = true → (((decide (best20 < 0)) = true → (I18 i21 (IntKind.wrap .i64 (i21 - 1)) h4 ∧
  m19 i21 (IntKind.wrap .i64 (i21 - 1)) h4 < m19 best20 i21 h2)) ∧ ((decide (best20 < 0)) = false → (∃ Priority37 : Int, cellAt h4 (sz h2) 3 = some (.int .i64 Priority37) ∧ ∃ Linesa38 : Option Addr, ∃ Linesl39 : Nat, ∃ Linesc40 : Nat, cellAt h4 p0vb p0vo = some (.slice Linesa38 Linesl39 Linesc40) ∧
  (0 : Int) ≤ best20 ∧ best20 < ((Linesl39 : Nat) : Int) ∧ ∃ b41 : Nat, ∃ o42 : Nat, Linesa38 = some ⟨b41, o42, none⟩ ∧ ∃ Priority43 : Int, cellAt h4 b41 (o42 + best20.toNat * 4 + 3) = some (.int .i64 Priority43) ∧
  ((decide (Priority37 ≤ Priority43)) = true → (I18 i21 (IntKind.wrap .i64 (i21 - 1)) h4 ∧ m19 i21 (IntKind.wrap .i64 (i21 - 1)) h4 < m19 best20 i21 h2)) ∧ ((decide (Priority37 ≤ Priority43)) = false →
  (I18 best20 (IntKind.wrap .i64 (i21 - 1)) h4 ∧ m19 best20 (IntKind.wrap .i64 (i21 - 1)) h4 < m19 best20 i21 h2)))))) ∧ ((decide (Priority36 < limit4)) = false → (I18 best20 (IntKind.wrap .i64 (i21 - 1)) h4 ∧
  m19 best20 (IntKind.wrap .i64 (i21 - 1)) h4 < m19 best20 i21 h2)))) ∧ ((!Active35) = false → (I18 best20 (IntKind.wrap .i64 (i21 - 1)) h4 ∧ m19 best20 (IntKind.wrap .i64 (i21 - 1)) h4 < m19 best20 i21 h2)))) ∧
  ((Pending34) = false → (I18 best20 (IntKind.wrap .i64 (i21 - 1)) h4 ∧ m19 best20 (IntKind.wrap .i64 (i21 - 1)) h4 < m19 best20 i21 h2)))) ∧ ((Enabled33) = false → (I18 best20 (IntKind.wrap .i64 (i21 - 1)) h4 ∧
  m19 best20 (IntKind.wrap .i64 (i21 - 1)) h4 < m19 best20 i21 h2)))) ∧ ((decide (i21 ≥ 0)) = false → (R (.int .i64 best20) h2))))
theorem warderref20_Vic_Next.eq (p0vb p0vo : Nat) (h : Hp) (R : Value → Hp → Prop) : evBody Tryd.prog calls warderref20_Vic_Next.hints Tryd.f19 [.ptr p0vb p0vo] h R = warderref20_Vic_Next.P p0vb p0vo h R := by kernel_rfl
theorem warderref20_Vic_Next.calls (p0vb p0vo : Nat) (h : Hp) (R : Value → Hp → Prop) (hp : warderref20_Vic_Next.P p0vb p0vo h R) : CallsH Tryd.prog 19 [.pointer (some ⟨p0vb, p0vo, none⟩)] h R :=
  calls_of_body calls_ok Tryd.func19 (args := [.ptr p0vb p0vo]) (by rw [warderref20_Vic_Next.eq]; exact hp)
/-! ### warderref20_There: function 20 -/
def warderref20_There.hints : Hints := { loops := [], cuts := [], orders := [] }
def warderref20_There.P (p0n : Int) (h : Hp) (R : Value → Hp → Prop) : Prop :=
  ((decide (p0n ≥ 0)) = true → (R (.bool (decide (p0n < 16))) h)) ∧ ((decide (p0n ≥ 0)) = false → (R (.bool false) h))
theorem warderref20_There.eq (p0n : Int) (h : Hp) (R : Value → Hp → Prop) : evBody Tryd.prog calls warderref20_There.hints Tryd.f20 [.int .i64 p0n] h R = warderref20_There.P p0n h R := by kernel_rfl
theorem warderref20_There.calls (p0n : Int) (h : Hp) (R : Value → Hp → Prop) (hp : warderref20_There.P p0n h R) : CallsH Tryd.prog 20 [.int .i64 p0n] h R :=
  calls_of_body calls_ok Tryd.func20 (args := [.int .i64 p0n]) (by rw [warderref20_There.eq]; exact hp)
/-! ### warderlaw20_of: function 21 -/
def warderlaw20_of.hints : Hints := { loops := [], cuts := [], orders := [] }
def warderlaw20_of.P (p0x_0 : Bool) (p0x_1 : Bool) (p0x_2 : Bool) (p0x_3 : Int) (h : Hp) (R : Value → Hp → Prop) : Prop :=
  ∀ h1 : Hp, h1 = new h (blk 30 [.bool p0x_0, .bool p0x_1, .bool p0x_2, .int .i64 p0x_3]) → ∀ h2 : Hp, h2 = new h1 (blk 46 [.bool false, .bool false, .bool false, .int .i64 0]) → ∃ Enabled1 : Bool, cellAt h2 (sz h) 0 = some (.bool Enabled1) ∧
  ∃ Pending2 : Bool, cellAt h2 (sz h) 1 = some (.bool Pending2) ∧ ∃ Active3 : Bool, cellAt h2 (sz h) 2 = some (.bool Active3) ∧ ∃ Priority4 : Int, cellAt h2 (sz h) 3 = some (.int .i64 Priority4) ∧ truly true ∧
  ∃ T5 : TypeId, ∃ l6 : List Value, bk h2 (sz h1) = some (blk T5 l6) ∧ 0 + 4 ≤ l6.length ∧ ∀ h3 : Hp, h3 = upd h2 (sz h1) T5 (writeAt l6 0 [.bool Enabled1, .bool Pending2, .bool Active3, .int .i64 Priority4]) →
  ∃ res7 : Bool, cellAt h3 (sz h1) (0 + 0) = some (.bool res7) ∧ ∃ res8 : Bool, cellAt h3 (sz h1) (0 + 1) = some (.bool res8) ∧ ∃ res9 : Bool, cellAt h3 (sz h1) (0 + 2) = some (.bool res9) ∧ ∃ res10 : Int, cellAt h3 (sz h1) (0 + 3) = some (.int .i64 res10) ∧
  R (.agg #[.bool res7, .bool res8, .bool res9, .int .i64 res10]) h3
theorem warderlaw20_of.eq (p0x_0 : Bool) (p0x_1 : Bool) (p0x_2 : Bool) (p0x_3 : Int) (h : Hp) (R : Value → Hp → Prop) : evBody Tryd.prog calls warderlaw20_of.hints Tryd.f21 [.agg [.bool p0x_0, .bool p0x_1, .bool p0x_2, .int .i64 p0x_3]] h R = warderlaw20_of.P p0x_0 p0x_1 p0x_2 p0x_3 h R := by kernel_rfl
theorem warderlaw20_of.calls (p0x_0 : Bool) (p0x_1 : Bool) (p0x_2 : Bool) (p0x_3 : Int) (h : Hp) (R : Value → Hp → Prop) (hp : warderlaw20_of.P p0x_0 p0x_1 p0x_2 p0x_3 h R) : CallsH Tryd.prog 21 [.agg #[.bool p0x_0, .bool p0x_1, .bool p0x_2, .int .i64 p0x_3]] h R :=
  calls_of_body calls_ok Tryd.func21 (args := [.agg [.bool p0x_0, .bool p0x_1, .bool p0x_2, .int .i64 p0x_3]]) (by rw [warderlaw20_of.eq]; exact hp)
/-! ### vic_Vic_Masked: function 22 -/
def vic_Vic_Masked.hints : Hints := { loops := [], cuts := [], orders := [] }
def vic_Vic_Masked.P (p0vb p0vo : Nat) (h : Hp) (R : Value → Hp → Prop) : Prop :=
  ∃ mask1 : Int, cellAt h p0vb (p0vo + 19) = some (.int .i64 mask1) ∧ R (.int .i64 mask1) h
theorem vic_Vic_Masked.eq (p0vb p0vo : Nat) (h : Hp) (R : Value → Hp → Prop) : evBody Tryd.prog calls vic_Vic_Masked.hints Tryd.f22 [.ptr p0vb p0vo] h R = vic_Vic_Masked.P p0vb p0vo h R := by kernel_rfl
theorem vic_Vic_Masked.calls (p0vb p0vo : Nat) (h : Hp) (R : Value → Hp → Prop) (hp : vic_Vic_Masked.P p0vb p0vo h R) : CallsH Tryd.prog 22 [.pointer (some ⟨p0vb, p0vo, none⟩)] h R :=
  calls_of_body calls_ok Tryd.func22 (args := [.ptr p0vb p0vo]) (by rw [vic_Vic_Masked.eq]; exact hp)
/-! ### vic_Vic_Mask: function 23 -/
def vic_Vic_Mask.hints : Hints := { loops := [], cuts := [], orders := [] }
def vic_Vic_Mask.P (p0vb p0vo : Nat) (p1priority : Int) (h : Hp) (R : Value → Hp → Prop) : Prop :=
  ((decide (p1priority < 0)) = true → (R (.int .i64 11) h)) ∧ ((decide (p1priority < 0)) = false → (((decide (p1priority > 16)) = true → (R (.int .i64 11) h)) ∧ ((decide (p1priority > 16)) = false → (truly true ∧
  ∃ T1 : TypeId, ∃ l2 : List Value, bk h p0vb = some (blk T1 l2) ∧ (p0vo + 19) + 1 ≤ l2.length ∧ ∀ h1 : Hp, h1 = upd h p0vb T1 (writeAt l2 (p0vo + 19) [.int .i64 p1priority]) → R (.int .i64 0) h1))))
theorem vic_Vic_Mask.eq (p0vb p0vo : Nat) (p1priority : Int) (h : Hp) (R : Value → Hp → Prop) : evBody Tryd.prog calls vic_Vic_Mask.hints Tryd.f23 [.ptr p0vb p0vo, .int .i64 p1priority] h R = vic_Vic_Mask.P p0vb p0vo p1priority h R := by kernel_rfl
theorem vic_Vic_Mask.calls (p0vb p0vo : Nat) (p1priority : Int) (h : Hp) (R : Value → Hp → Prop) (hp : vic_Vic_Mask.P p0vb p0vo p1priority h R) : CallsH Tryd.prog 23 [.pointer (some ⟨p0vb, p0vo, none⟩), .int .i64 p1priority] h R :=
  calls_of_body calls_ok Tryd.func23 (args := [.ptr p0vb p0vo, .int .i64 p1priority]) (by rw [vic_Vic_Mask.eq]; exact hp)
/-! ### vic_there: function 24 -/
def vic_there.hints : Hints := { loops := [], cuts := [], orders := [] }
def vic_there.P (p0line : Int) (h : Hp) (R : Value → Hp → Prop) : Prop :=
  ((decide (p0line ≥ 0)) = true → (R (.bool (decide (p0line < 16))) h)) ∧ ((decide (p0line ≥ 0)) = false → (R (.bool false) h))
theorem vic_there.eq (p0line : Int) (h : Hp) (R : Value → Hp → Prop) : evBody Tryd.prog calls vic_there.hints Tryd.f24 [.int .i64 p0line] h R = vic_there.P p0line h R := by kernel_rfl
theorem vic_there.calls (p0line : Int) (h : Hp) (R : Value → Hp → Prop) (hp : vic_there.P p0line h R) : CallsH Tryd.prog 24 [.int .i64 p0line] h R :=
  calls_of_body calls_ok Tryd.func24 (args := [.int .i64 p0line]) (by rw [vic_there.eq]; exact hp)
/-! ### vic_set_put: function 25 -/
def vic_set_put.hints : Hints := { loops := [], cuts := [], orders := [(0, [0, 1, 3, 0, 8, 31, 63, 127], [0, 1, 2, 3, 4, 5, 6, 7]), (2, [0, 1, 3, 0, 8, 31, 63, 127], [0, 1, 2, 3, 4, 5, 6, 7])] }
def vic_set_put.P (p0sb p0so : Nat) (p1n : Int) (p2on : Bool) (h : Hp) (R : Value → Hp → Prop) : Prop :=
  ∃ x1 : Int, cellAt h p0sb p0so = some (.int .u16 x1) ∧ (0 : Int) ≤ p1n ∧ truly true ∧ ∃ T2 : TypeId, ∃ l3 : List Value, bk h p0sb = some (blk T2 l3) ∧ p0so + 1 ≤ l3.length ∧ ∀ h1 : Hp, h1 = upd h p0sb T2 (writeAt l3 p0so [.int .u16 (bnotV .u16 x1 (shlV .u16 1 p1n))]) →
  ((p2on) = true → (∃ x4 : Int, cellAt h1 p0sb p0so = some (.int .u16 x4) ∧ (0 : Int) ≤ p1n ∧ truly true ∧ ∃ T5 : TypeId, ∃ l6 : List Value, bk h1 p0sb = some (blk T5 l6) ∧ p0so + 1 ≤ l6.length ∧ ∀ h2 : Hp, h2 = upd h1 p0sb T5 (writeAt l6 p0so [.int .u16 (borV .u16 x4 (shlV .u16 1 p1n))]) →
  R (.tuple #[]) h2)) ∧ ((p2on) = false → (R (.tuple #[]) h1))
theorem vic_set_put.eq (p0sb p0so : Nat) (p1n : Int) (p2on : Bool) (h : Hp) (R : Value → Hp → Prop) : evBody Tryd.prog calls vic_set_put.hints Tryd.f25 [.ptr p0sb p0so, .int .i64 p1n, .bool p2on] h R = vic_set_put.P p0sb p0so p1n p2on h R := by kernel_rfl
theorem vic_set_put.calls (p0sb p0so : Nat) (p1n : Int) (p2on : Bool) (h : Hp) (R : Value → Hp → Prop) (hp : vic_set_put.P p0sb p0so p1n p2on h R) : CallsH Tryd.prog 25 [.pointer (some ⟨p0sb, p0so, none⟩), .int .i64 p1n, .bool p2on] h R :=
  calls_of_body calls_ok Tryd.func25 (args := [.ptr p0sb p0so, .int .i64 p1n, .bool p2on]) (by rw [vic_set_put.eq]; exact hp)
/-! ### vic_set_has: function 26 -/
def vic_set_has.hints : Hints := { loops := [], cuts := [], orders := [] }
def vic_set_has.P (p0s : Int) (p1n : Int) (h : Hp) (R : Value → Hp → Prop) : Prop :=
  (0 : Int) ≤ p1n ∧ R (.bool ((bandV .u16 (shrV .u16 p0s p1n) 1) == 1)) h
theorem vic_set_has.eq (p0s : Int) (p1n : Int) (h : Hp) (R : Value → Hp → Prop) : evBody Tryd.prog calls vic_set_has.hints Tryd.f26 [.int .u16 p0s, .int .i64 p1n] h R = vic_set_has.P p0s p1n h R := by kernel_rfl
theorem vic_set_has.calls (p0s : Int) (p1n : Int) (h : Hp) (R : Value → Hp → Prop) (hp : vic_set_has.P p0s p1n h R) : CallsH Tryd.prog 26 [.int .u16 p0s, .int .i64 p1n] h R :=
  calls_of_body calls_ok Tryd.func26 (args := [.int .u16 p0s, .int .i64 p1n]) (by rw [vic_set_has.eq]; exact hp)
/-! ### vic_Vic_least: function 27 -/
def vic_Vic_least.hints : Hints := { loops := [(2, [0], [(1, (.one (.int .u16))), (6, (.one (.int .i64))), (7, (.one (.int .i64)))])], cuts := [], orders := [(6, [0, 0, 0, 2, 10, 30, 62, 1, 255], [0, 1, 2, 3, 4, 5, 6, 7, 8])] }
def vic_Vic_least.P (p0vb p0vo : Nat) (p1s : Int) (h : Hp) (R : Value → Hp → Prop) : Prop :=
  ∃ I1 : Int → Int → Int → Hp → Prop, ∃ m2 : Int → Int → Int → Hp → Nat, I1 p1s (-1) 16 h ∧ ∀ s3 : Int, ∀ line4 : Int, ∀ best5 : Int, ∀ h1 : Hp, I1 s3 line4 best5 h1 → ((s3 != 0) = true → (CallsH Tryd.prog 30 [.int .u16 s3] h1 fun r6 h2 => ∃ TrailingZeros7 : Int, r6 = .int .i64 TrailingZeros7 ∧
  (0 : Int) ≤ TrailingZeros7 ∧ TrailingZeros7 < ((16 : Nat) : Int) ∧ ∃ x8 : Int, cellAt h2 p0vb (p0vo + 3 + TrailingZeros7.toNat * 1) = some (.int .i64 x8) ∧ ((decide (x8 < best5)) = true → ((0 : Int) ≤ TrailingZeros7 ∧
  TrailingZeros7 < ((16 : Nat) : Int) ∧ ∃ x9 : Int, cellAt h2 p0vb (p0vo + 3 + TrailingZeros7.toNat * 1) = some (.int .i64 x9) ∧ I1 (bandV .u16 s3 (IntKind.wrap .u16 (s3 - 1))) TrailingZeros7 x9 h2 ∧ m2 (bandV .u16 s3 (IntKind.wrap .u16 (s3 - 1))) TrailingZeros7 x9 h2 < m2 s3 line4 best5 h1)) ∧
  ((decide (x8 < best5)) = false → (I1 (bandV .u16 s3 (IntKind.wrap .u16 (s3 - 1))) line4 best5 h2 ∧ m2 (bandV .u16 s3 (IntKind.wrap .u16 (s3 - 1))) line4 best5 h2 < m2 s3 line4 best5 h1)))) ∧ ((s3 != 0) = false →
  (R (.tuple #[.int .i64 line4, .int .i64 best5]) h1))
theorem vic_Vic_least.eq (p0vb p0vo : Nat) (p1s : Int) (h : Hp) (R : Value → Hp → Prop) : evBody Tryd.prog calls vic_Vic_least.hints Tryd.f27 [.ptr p0vb p0vo, .int .u16 p1s] h R = vic_Vic_least.P p0vb p0vo p1s h R := by kernel_rfl
theorem vic_Vic_least.calls (p0vb p0vo : Nat) (p1s : Int) (h : Hp) (R : Value → Hp → Prop) (hp : vic_Vic_least.P p0vb p0vo p1s h R) : CallsH Tryd.prog 27 [.pointer (some ⟨p0vb, p0vo, none⟩), .int .u16 p1s] h R :=
  calls_of_body calls_ok Tryd.func27 (args := [.ptr p0vb p0vo, .int .u16 p1s]) (by rw [vic_Vic_least.eq]; exact hp)
/-! ### vic_Vic_Drop: function 28 -/
def vic_Vic_Drop.hints : Hints := { loops := [], cuts := [], orders := [] }
def vic_Vic_Drop.P (p0vb p0vo : Nat) (p1line : Int) (h : Hp) (R : Value → Hp → Prop) : Prop :=
  CallsH Tryd.prog 24 [.int .i64 p1line] h fun r1 h1 => ∃ there2 : Bool, r1 = .bool there2 ∧ ((!there2) = true → (R (.bool false) h1)) ∧ ((!there2) = false → (∃ pending3 : Int, cellAt h1 p0vb (p0vo + 1) = some (.int .u16 pending3) ∧
  CallsH Tryd.prog 26 [.int .u16 pending3, .int .i64 p1line] h1 fun r4 h2 => ∃ has5 : Bool, r4 = .bool has5 ∧ ((!has5) = true → (R (.bool false) h2)) ∧ ((!has5) = false → (CallsH Tryd.prog 25 [.pointer (some ⟨p0vb, p0vo + 1, none⟩), .int .i64 p1line, .bool false] h2 fun r6 h3 => r6 = .tuple #[] ∧
  R (.bool true) h3))))
theorem vic_Vic_Drop.eq (p0vb p0vo : Nat) (p1line : Int) (h : Hp) (R : Value → Hp → Prop) : evBody Tryd.prog calls vic_Vic_Drop.hints Tryd.f28 [.ptr p0vb p0vo, .int .i64 p1line] h R = vic_Vic_Drop.P p0vb p0vo p1line h R := by kernel_rfl
theorem vic_Vic_Drop.calls (p0vb p0vo : Nat) (p1line : Int) (h : Hp) (R : Value → Hp → Prop) (hp : vic_Vic_Drop.P p0vb p0vo p1line h R) : CallsH Tryd.prog 28 [.pointer (some ⟨p0vb, p0vo, none⟩), .int .i64 p1line] h R :=
  calls_of_body calls_ok Tryd.func28 (args := [.ptr p0vb p0vo, .int .i64 p1line]) (by rw [vic_Vic_Drop.eq]; exact hp)
/-! ### warderref20_Vic_End: function 29 -/
def warderref20_Vic_End.hints : Hints := { loops := [], cuts := [], orders := [] }
def warderref20_Vic_End.P (p0vb p0vo : Nat) (p1n : Int) (h : Hp) (R : Value → Hp → Prop) : Prop :=
  CallsH Tryd.prog 20 [.int .i64 p1n] h fun r1 h1 => ∃ There2 : Bool, r1 = .bool There2 ∧ ((!There2) = true → (R (.int .i64 11) h1)) ∧ ((!There2) = false → (∃ Linesa3 : Option Addr, ∃ Linesl4 : Nat, ∃ Linesc5 : Nat, cellAt h1 p0vb p0vo = some (.slice Linesa3 Linesl4 Linesc5) ∧
  (0 : Int) ≤ p1n ∧ p1n < ((Linesl4 : Nat) : Int) ∧ ∃ b6 : Nat, ∃ o7 : Nat, Linesa3 = some ⟨b6, o7, none⟩ ∧ ∃ Active8 : Bool, cellAt h1 b6 (o7 + p1n.toNat * 4 + 2) = some (.bool Active8) ∧ ((!Active8) = true →
  (R (.int .i64 20) h1)) ∧ ((!Active8) = false → (∃ Linesa9 : Option Addr, ∃ Linesl10 : Nat, ∃ Linesc11 : Nat, cellAt h1 p0vb p0vo = some (.slice Linesa9 Linesl10 Linesc11) ∧ (0 : Int) ≤ p1n ∧ p1n < ((Linesl10 : Nat) : Int) ∧
  ∃ b12 : Nat, ∃ o13 : Nat, Linesa9 = some ⟨b12, o13, none⟩ ∧ truly true ∧ ∃ T14 : TypeId, ∃ l15 : List Value, bk h1 b12 = some (blk T14 l15) ∧ (o13 + p1n.toNat * 4 + 2) + 1 ≤ l15.length ∧ ∀ h2 : Hp, h2 = upd h1 b12 T14 (writeAt l15 (o13 + p1n.toNat * 4 + 2) [.bool false]) →
  R (.int .i64 0) h2))))
theorem warderref20_Vic_End.eq (p0vb p0vo : Nat) (p1n : Int) (h : Hp) (R : Value → Hp → Prop) : evBody Tryd.prog calls warderref20_Vic_End.hints Tryd.f29 [.ptr p0vb p0vo, .int .i64 p1n] h R = warderref20_Vic_End.P p0vb p0vo p1n h R := by kernel_rfl
theorem warderref20_Vic_End.calls (p0vb p0vo : Nat) (p1n : Int) (h : Hp) (R : Value → Hp → Prop) (hp : warderref20_Vic_End.P p0vb p0vo p1n h R) : CallsH Tryd.prog 29 [.pointer (some ⟨p0vb, p0vo, none⟩), .int .i64 p1n] h R :=
  calls_of_body calls_ok Tryd.func29 (args := [.ptr p0vb p0vo, .int .i64 p1n]) (by rw [warderref20_Vic_End.eq]; exact hp)
/-! ### math_bits_TrailingZeros16: function 30 -/
def math_bits_TrailingZeros16.hints : Hints := { loops := [], cuts := [], orders := [] }
def math_bits_TrailingZeros16.P (p0x : Int) (h : Hp) (R : Value → Hp → Prop) : Prop :=
  ((p0x == 0) = true → (R (.int .i64 16) h)) ∧ ((p0x == 0) = false → ((0 : Int) ≤ 27 ∧ (0 : Int) ≤ (shrV .u32 (IntKind.wrap .u32 ((IntKind.wrap .u32 (bandV .u16 p0x (IntKind.wrap .u16 (0 - p0x)))) * 125613361)) 27) ∧
  (shrV .u32 (IntKind.wrap .u32 ((IntKind.wrap .u32 (bandV .u16 p0x (IntKind.wrap .u16 (0 - p0x)))) * 125613361)) 27) < ((32 : Nat) : Int) ∧ ∃ x1 : Int, cellAt h 0 (0 + (shrV .u32 (IntKind.wrap .u32 ((IntKind.wrap .u32 (bandV .u16 p0x (IntKind.wrap .u16 (0 - p0x)))) * 125613361)) 27).toNat * 1) = some (.int .u8 x1) ∧
  R (.int .i64 (IntKind.wrap .i64 x1)) h))
theorem math_bits_TrailingZeros16.eq (p0x : Int) (h : Hp) (R : Value → Hp → Prop) : evBody Tryd.prog calls math_bits_TrailingZeros16.hints Tryd.f30 [.int .u16 p0x] h R = math_bits_TrailingZeros16.P p0x h R := by kernel_rfl
theorem math_bits_TrailingZeros16.calls (p0x : Int) (h : Hp) (R : Value → Hp → Prop) (hp : math_bits_TrailingZeros16.P p0x h R) : CallsH Tryd.prog 30 [.int .u16 p0x] h R :=
  calls_of_body calls_ok Tryd.func30 (args := [.int .u16 p0x]) (by rw [math_bits_TrailingZeros16.eq]; exact hp)
end Go.Proofs.YthhancpnaleknaaDoor
