/-
  Printed by this repo's own wip/tools/pr.py: what each function owes, as a proposition over heaps, read out of its body by the core.
-/
import Derived.Test.YtdnkpgedejikcaaProg
import Derived.Test.YtdnkpgedejikcaaWdFn
import Derived.KernelRfl
namespace Go.Proofs.Ytdnkpgedejikcaa
open Go Go.Wd
set_option linter.unusedVariables false
set_option maxRecDepth 100000
def calls : Nat → Bool := fun f => [8, 9, 10, 11, 12, 13, 14, 15, 16, 17, 18, 19, 20, 21, 22, 23, 24, 25, 26, 27, 28, 29, 30, 31, 32, 33, 34, 35, 36].any (Nat.beq f)
theorem calls_ok : CallsOk Try.prog calls := by
  intro f hf
  simp only [calls, List.any_cons, List.any_nil, Bool.or_eq_true, Bool.or_false] at hf
  rcases hf with hf | hf | hf | hf | hf | hf | hf | hf | hf | hf | hf | hf | hf | hf | hf | hf | hf | hf | hf | hf | hf | hf | hf | hf | hf | hf | hf | hf | hf
  · obtain rfl := Nat.eq_of_beq_eq_true hf; exact Try.call8
  · obtain rfl := Nat.eq_of_beq_eq_true hf; exact Try.call9
  · obtain rfl := Nat.eq_of_beq_eq_true hf; exact Try.call10
  · obtain rfl := Nat.eq_of_beq_eq_true hf; exact Try.call11
  · obtain rfl := Nat.eq_of_beq_eq_true hf; exact Try.call12
  · obtain rfl := Nat.eq_of_beq_eq_true hf; exact Try.call13
  · obtain rfl := Nat.eq_of_beq_eq_true hf; exact Try.call14
  · obtain rfl := Nat.eq_of_beq_eq_true hf; exact Try.call15
  · obtain rfl := Nat.eq_of_beq_eq_true hf; exact Try.call16
  · obtain rfl := Nat.eq_of_beq_eq_true hf; exact Try.call17
  · obtain rfl := Nat.eq_of_beq_eq_true hf; exact Try.call18
  · obtain rfl := Nat.eq_of_beq_eq_true hf; exact Try.call19
  · obtain rfl := Nat.eq_of_beq_eq_true hf; exact Try.call20
  · obtain rfl := Nat.eq_of_beq_eq_true hf; exact Try.call21
  · obtain rfl := Nat.eq_of_beq_eq_true hf; exact Try.call22
  · obtain rfl := Nat.eq_of_beq_eq_true hf; exact Try.call23
  · obtain rfl := Nat.eq_of_beq_eq_true hf; exact Try.call24
  · obtain rfl := Nat.eq_of_beq_eq_true hf; exact Try.call25
  · obtain rfl := Nat.eq_of_beq_eq_true hf; exact Try.call26
  · obtain rfl := Nat.eq_of_beq_eq_true hf; exact Try.call27
  · obtain rfl := Nat.eq_of_beq_eq_true hf; exact Try.call28
  · obtain rfl := Nat.eq_of_beq_eq_true hf; exact Try.call29
  · obtain rfl := Nat.eq_of_beq_eq_true hf; exact Try.call30
  · obtain rfl := Nat.eq_of_beq_eq_true hf; exact Try.call31
  · obtain rfl := Nat.eq_of_beq_eq_true hf; exact Try.call32
  · obtain rfl := Nat.eq_of_beq_eq_true hf; exact Try.call33
  · obtain rfl := Nat.eq_of_beq_eq_true hf; exact Try.call34
  · obtain rfl := Nat.eq_of_beq_eq_true hf; exact Try.call35
  · obtain rfl := Nat.eq_of_beq_eq_true hf; exact Try.call36
/-! ### warderlaw04_PhysWords: function 3 -/
def warderlaw04_PhysWords.hints : Hints := { loops := [(13, [0, 1, 2, 7, 9], [(10, (.one (.int .u32))), (11, (.one (.int .u32)))])], cuts := [(5, [0, 1, 2], []), (8, [0, 1, 2, 7], [])], orders := [] }
def warderlaw04_PhysWords.P (p0frames : Int) (p1addr : Int) (p2w : Int) (h : Hp) (R : Value → Hp → Prop) : Prop :=
  CallsH Try.prog 8 [] h fun r1 h1 => ∃ alive2 : Bool, r1 = .bool alive2 ∧ ((!alive2) = true → (R (.bool false) h1)) ∧ ((!alive2) = false → (∃ I3 : Hp → Prop, (((decide (p0frames < 1)) = true → (R (.bool true) h1)) ∧
  ((decide (p0frames < 1)) = false → (((decide (p0frames > 40)) = true → (R (.bool true) h1)) ∧ ((decide (p0frames > 40)) = false → (I3 h1))))) ∧ ∀ h2 : Hp, I3 h2 → CallsH Try.prog 9 [.int .i64 p0frames] h2 fun r4 h3 => ∃ New5 : Option Addr, ∃ New6 : Int, r4 = .tuple #[.pointer New5, .int .i64 New6] ∧
  ∃ I7 : Hp → Prop, (((New6 != 0) = true → (R (.bool false) h3)) ∧ ((New6 != 0) = false → (((notIf true New5.isNone) = true → (R (.bool false) h3)) ∧ ((notIf true New5.isNone) = false → (I7 h3))))) ∧ ∀ h4 : Hp, I7 h4 →
  CallsH Try.prog 10 [.pointer New5] h4 fun r8 h5 => ∃ Clone9 : Option Addr, r8 = .pointer Clone9 ∧ CallsH Try.prog 11 [.pointer New5, .int .u32 p1addr, .int .u32 p2w] h5 fun r10 h6 => ∃ PutWord11 : Bool, r10 = .bool PutWord11 ∧
  ((!PutWord11) = true → (((notIf false Clone9.isNone) = true → (CallsH Try.prog 12 [.pointer New5, .pointer Clone9] h6 fun r12 h7 => ∃ Differa13 : Option Addr, ∃ Differl14 : Nat, ∃ Differc15 : Nat, r12 = .slice Differa13 Differl14 Differc15 ∧
  ((((Differl14 : Nat) : Int) == 0) = true → (4 ≠ (0 : Int) ∧ (((Int.tmod p1addr 4) != 0) = true → (R (.bool true) h7)) ∧ (((Int.tmod p1addr 4) != 0) = false → (R (.bool (decide (p1addr ≥ (IntKind.wrap .u32 (IntKind.wrap .i64 (256 * p0frames)))))) h7)))) ∧
  ((((Differl14 : Nat) : Int) == 0) = false → (R (.bool false) h7)))) ∧ ((notIf false Clone9.isNone) = false → (R (.bool false) h6)))) ∧ ((!PutWord11) = false → (∃ I16 : Int → Int → Hp → Prop, ∃ m17 : Int →
  Int → Hp → Nat, I16 0 0 h6 ∧ ∀ x18 : Int, ∀ i19 : Int, ∀ h8 : Hp, I16 x18 i19 h8 → ((decide (i19 < 4)) = true → (CallsH Try.prog 13 [.pointer New5, .int .u32 (IntKind.wrap .u32 (p1addr + i19))] h8 fun r20 h9 => ∃ Byte21 : Int, ∃ Byte22 : Bool, r20 = .tuple #[.int .u8 Byte21, .bool Byte22] ∧
  ((!Byte22) = true → (R (.bool false) h9)) ∧ ((!Byte22) = false → ((0 : Int) ≤ (IntKind.wrap .u32 (8 * i19)) ∧ I16 (borV .u32 x18 (shlV .u32 (IntKind.wrap .u32 Byte21) (IntKind.wrap .u32 (8 * i19)))) (IntKind.wrap .u32 (i19 + 1)) h9 ∧
  m17 (borV .u32 x18 (shlV .u32 (IntKind.wrap .u32 Byte21) (IntKind.wrap .u32 (8 * i19)))) (IntKind.wrap .u32 (i19 + 1)) h9 < m17 x18 i19 h8)))) ∧ ((decide (i19 < 4)) = false → (CallsH Try.prog 14 [.pointer New5, .int .u32 p1addr] h8 fun r23 h10 => ∃ Word24 : Int, ∃ Word25 : Bool, r23 = .tuple #[.int .u32 Word24, .bool Word25] ∧
  CallsH Try.prog 13 [.pointer New5, .int .u32 (IntKind.wrap .u32 (IntKind.wrap .i64 (256 * p0frames)))] h10 fun r26 h11 => ∃ Byte27 : Int, ∃ Byte28 : Bool, r26 = .tuple #[.int .u8 Byte27, .bool Byte28] ∧
  ((Word25) = true → (((!Byte28) = true → (((x18 == p2w) = true → (((Word24 == p2w) = true → (((p2w == 0) = true → (R (.bool true) h11)) ∧ ((p2w == 0) = false → (CallsH Try.prog 12 [.pointer New5, .pointer Clone9] h11 fun r29 h12 => ∃ Differa30 : Option Addr, ∃ Differl31 : Nat, ∃ Differc32 : Nat, r29 = .slice Differa30 Differl31 Differc32 ∧
  256 ≠ (0 : Int) ∧ ∀ h13 : Hp, h13 = new h12 (blk 3 [.int .i64 (IntKind.wrap .i64 (IntKind.wrap .u32 (Int.tdiv p1addr 256)))]) → CallsH Try.prog 15 [.slice Differa30 Differl31 Differc32, .slice (some ⟨sz h12, 0, none⟩) 1 1] h13 fun r33 h14 => ∃ SameInts34 : Bool, r33 = .bool SameInts34 ∧
  R (.bool SameInts34) h14)))) ∧ ((Word24 == p2w) = false → (R (.bool false) h11)))) ∧ ((x18 == p2w) = false → (R (.bool false) h11)))) ∧ ((!Byte28) = false → (R (.bool false) h11)))) ∧ ((Word25) = false →
  (R (.bool false) h11))))))))
theorem warderlaw04_PhysWords.eq (p0frames : Int) (p1addr : Int) (p2w : Int) (h : Hp) (R : Value → Hp → Prop) : evBody Try.prog calls warderlaw04_PhysWords.hints Try.f3 [.int .i64 p0frames, .int .u32 p1addr, .int .u32 p2w] h R = warderlaw04_PhysWords.P p0frames p1addr p2w h R := by kernel_rfl
theorem warderlaw04_PhysWords.calls (p0frames : Int) (p1addr : Int) (p2w : Int) (h : Hp) (R : Value → Hp → Prop) (hp : warderlaw04_PhysWords.P p0frames p1addr p2w h R) : CallsH Try.prog 3 [.int .i64 p0frames, .int .u32 p1addr, .int .u32 p2w] h R :=
  calls_of_body calls_ok Try.func3 (args := [.int .i64 p0frames, .int .u32 p1addr, .int .u32 p2w]) (by rw [warderlaw04_PhysWords.eq]; exact hp)
/-! ### warderlaw04_PhysCalls: function 4 -/
def warderlaw04_PhysCalls.hints : Hints := { loops := [(12, [0, 1, 2, 3, 9, 11], [(12, (.one (.int .i64)))]), (23, [0, 3, 9, 11], [(21, (.one (.int .i64)))])], cuts := [(5, [0, 1, 2, 3], []), (8, [0, 1, 2, 3, 9, 10], []), (10, [0, 1, 2, 3, 9], [])], orders := [] }
def warderlaw04_PhysCalls.P (p0frames : Int) (p1callsa : Option Addr) (p1callsl : Nat) (p1callsc : Nat) (p2addr : Int) (p3n : Int) (h : Hp) (R : Value → Hp → Prop) : Prop :=
  CallsH Try.prog 8 [] h fun r1 h1 => ∃ alive2 : Bool, r1 = .bool alive2 ∧ ((!alive2) = true → (R (.bool false) h1)) ∧ ((!alive2) = false → (∃ I3 : Hp → Prop, (CallsH Try.prog 16 [.slice p1callsa p1callsl p1callsc] h1 fun r4 h2 => ∃ Great5 : Bool, r4 = .bool Great5 ∧
  ((Great5) = true → (R (.bool true) h2)) ∧ ((Great5) = false → (((decide (p0frames > 40)) = true → (((decide (p0frames ≤ 1024)) = true → (R (.bool true) h2)) ∧ ((decide (p0frames ≤ 1024)) = false → (I3 h2)))) ∧
  ((decide (p0frames > 40)) = false → (I3 h2))))) ∧ ∀ h3 : Hp, I3 h3 → CallsH Try.prog 9 [.int .i64 p0frames] h3 fun r6 h4 => ∃ New7 : Option Addr, ∃ New8 : Int, r6 = .tuple #[.pointer New7, .int .i64 New8] ∧
  ∃ I9 : Hp → Prop, (((decide (p0frames < 1)) = true → (((New8 == 11) = true → (R (.bool (notIf true New7.isNone)) h4)) ∧ ((New8 == 11) = false → (R (.bool false) h4)))) ∧ ((decide (p0frames < 1)) = false →
  (((decide (p0frames > 1024)) = true → (((New8 == 11) = true → (R (.bool (notIf true New7.isNone)) h4)) ∧ ((New8 == 11) = false → (R (.bool false) h4)))) ∧ ((decide (p0frames > 1024)) = false → (I9 h4))))) ∧
  ∀ h5 : Hp, I9 h5 → ∃ I10 : Hp → Prop, (((New8 != 0) = true → (R (.bool false) h5)) ∧ ((New8 != 0) = false → (((notIf true New7.isNone) = true → (R (.bool false) h5)) ∧ ((notIf true New7.isNone) = false →
  (CallsH Try.prog 17 [.pointer New7] h5 fun r11 h6 => ∃ Frames12 : Int, r11 = .int .i64 Frames12 ∧ ((Frames12 != p0frames) = true → (R (.bool false) h6)) ∧ ((Frames12 != p0frames) = false → (I10 h6))))))) ∧
  ∀ h7 : Hp, I10 h7 → CallsH Try.prog 18 [.int .i64 p0frames] h7 fun r13 h8 => ∃ New14 : Option Addr, r13 = .pointer New14 ∧ ∃ I15 : Int → Hp → Prop, ∃ m16 : Int → Hp → Nat, I15 0 h8 ∧ ∀ i17 : Int, ∀ h9 : Hp, I15 i17 h9 →
  ((decide (i17 < ((p1callsl : Nat) : Int))) = true → ((0 : Int) ≤ i17 ∧ i17 < ((p1callsl : Nat) : Int) ∧ ∃ b18 : Nat, ∃ o19 : Nat, p1callsa = some ⟨b18, o19, none⟩ ∧ ∃ x20 : Int, cellAt h9 b18 (o19 + i17.toNat * 5 + 0) = some (.int .i64 x20) ∧
  ∃ x21 : Int, cellAt h9 b18 (o19 + i17.toNat * 5 + 1) = some (.int .i64 x21) ∧ ∃ x22 : Int, cellAt h9 b18 (o19 + i17.toNat * 5 + 2) = some (.int .u32 x22) ∧ ∃ x23 : Int, cellAt h9 b18 (o19 + i17.toNat * 5 + 3) = some (.int .u32 x23) ∧
  ∃ xa24 : Option Addr, ∃ xl25 : Nat, ∃ xc26 : Nat, cellAt h9 b18 (o19 + i17.toNat * 5 + 4) = some (.slice xa24 xl25 xc26) ∧ CallsH Try.prog 19 [.pointer New7, .pointer New14, .agg #[.int .i64 x20, .int .i64 x21, .int .u32 x22, .int .u32 x23, .slice xa24 xl25 xc26]] h9 fun r27 h10 => ∃ told28 : Bool, r27 = .bool told28 ∧
  ((!told28) = true → (R (.bool false) h10)) ∧ ((!told28) = false → (CallsH Try.prog 13 [.pointer New7, .int .u32 p2addr] h10 fun r29 h11 => ∃ Byte30 : Int, ∃ Byte31 : Bool, r29 = .tuple #[.int .u8 Byte30, .bool Byte31] ∧
  CallsH Try.prog 20 [.pointer New14, .int .u32 p2addr] h11 fun r32 h12 => ∃ Byte33 : Int, ∃ Byte34 : Bool, r32 = .tuple #[.int .u8 Byte33, .bool Byte34] ∧ CallsH Try.prog 14 [.pointer New7, .int .u32 p2addr] h12 fun r35 h13 => ∃ Word36 : Int, ∃ Word37 : Bool, r35 = .tuple #[.int .u32 Word36, .bool Word37] ∧
  CallsH Try.prog 21 [.pointer New14, .int .u32 p2addr] h13 fun r38 h14 => ∃ Word39 : Int, ∃ Word40 : Bool, r38 = .tuple #[.int .u32 Word39, .bool Word40] ∧ ((Byte30 != Byte33) = true → (R (.bool false) h14)) ∧
  ((Byte30 != Byte33) = false → (((notIf false (Byte31 == Byte34)) = true → (R (.bool false) h14)) ∧ ((notIf false (Byte31 == Byte34)) = false → (((Word36 != Word39) = true → (R (.bool false) h14)) ∧ ((Word36 != Word39) = false →
  (((notIf false (Word37 == Word40)) = true → (R (.bool false) h14)) ∧ ((notIf false (Word37 == Word40)) = false → (I15 (IntKind.wrap .i64 (i17 + 1)) h14 ∧ m16 (IntKind.wrap .i64 (i17 + 1)) h14 < m16 i17 h9)))))))))))) ∧
  ((decide (i17 < ((p1callsl : Nat) : Int))) = false → (∃ I41 : Int → Hp → Prop, ∃ m42 : Int → Hp → Nat, I41 0 h9 ∧ ∀ i43 : Int, ∀ h15 : Hp, I41 i43 h15 → ((decide (i43 < p0frames)) = true → (CallsH Try.prog 22 [.pointer New7, .int .i64 i43] h15 fun r44 h16 => ∃ Framea45 : Option Addr, ∃ Framel46 : Nat, ∃ Framec47 : Nat, ∃ Frame48 : Int, r44 = .tuple #[.slice Framea45 Framel46 Framec47, .int .i64 Frame48] ∧
  ((Frame48 != 0) = true → (R (.bool false) h16)) ∧ ((Frame48 != 0) = false → (∃ b49 : Nat, ∃ o50 : Nat, New14 = some ⟨b49, o50, none⟩ ∧ ∃ Ba51 : Option Addr, ∃ Bl52 : Nat, ∃ Bc53 : Nat, cellAt h16 b49 o50 = some (.slice Ba51 Bl52 Bc53) ∧
  ((false : Bool) = true → (true : Bool) = true) ∧ (0 : Int) ≤ (IntKind.wrap .i64 (256 * i43)) ∧ (IntKind.wrap .i64 (256 * i43)) ≤ (IntKind.wrap .i64 ((IntKind.wrap .i64 (256 * i43)) + 256)) ∧ (IntKind.wrap .i64 ((IntKind.wrap .i64 (256 * i43)) + 256)) ≤ ((Bc53 : Nat) : Int) ∧
  ((Bc53 : Nat) : Int) ≤ ((Bc53 : Nat) : Int) ∧ CallsH Try.prog 23 [.slice Framea45 Framel46 Framec47, .slice (sliceBase Ba51 ((IntKind.wrap .i64 (256 * i43))).toNat (((Bc53 : Nat) : Int)).toNat 1) (((IntKind.wrap .i64 ((IntKind.wrap .i64 (256 * i43)) + 256))).toNat - ((IntKind.wrap .i64 (256 * i43))).toNat) ((((Bc53 : Nat) : Int)).toNat - ((IntKind.wrap .i64 (256 * i43))).toNat)] h16 fun r54 h17 => ∃ SameBytes55 : Bool, r54 = .bool SameBytes55 ∧
  ((!SameBytes55) = true → (R (.bool false) h17)) ∧ ((!SameBytes55) = false → (I41 (IntKind.wrap .i64 (i43 + 1)) h17 ∧ m42 (IntKind.wrap .i64 (i43 + 1)) h17 < m42 i43 h15)))))) ∧ ((decide (i43 < p0frames)) = false →
  (CallsH Try.prog 22 [.pointer New7, .int .i64 p3n] h15 fun r56 h18 => ∃ Framea57 : Option Addr, ∃ Framel58 : Nat, ∃ Framec59 : Nat, ∃ Frame60 : Int, r56 = .tuple #[.slice Framea57 Framel58 Framec59, .int .i64 Frame60] ∧
  ((decide (p3n ≥ 0)) = true → (((decide (p3n < p0frames)) = true → (R (.bool true) h18)) ∧ ((decide (p3n < p0frames)) = false → (((Frame60 == 11) = true → (R (.bool (((Framel58 : Nat) : Int) == 0)) h18)) ∧
  ((Frame60 == 11) = false → (R (.bool false) h18)))))) ∧ ((decide (p3n ≥ 0)) = false → (((Frame60 == 11) = true → (R (.bool (((Framel58 : Nat) : Int) == 0)) h18)) ∧ ((Frame60 == 11) = false → (R (.bool false) h18))))))))))
theorem warderlaw04_PhysCalls.eq (p0frames : Int) (p1callsa : Option Addr) (p1callsl : Nat) (p1callsc : Nat) (p2addr : Int) (p3n : Int) (h : Hp) (R : Value → Hp → Prop) : evBody Try.prog calls warderlaw04_PhysCalls.hints Try.f4 [.int .i64 p0frames, .slice p1callsa p1callsl p1callsc, .int .u32 p2addr, .int .i64 p3n] h R = warderlaw04_PhysCalls.P p0frames p1callsa p1callsl p1callsc p2addr p3n h R := by kernel_rfl
theorem warderlaw04_PhysCalls.calls (p0frames : Int) (p1callsa : Option Addr) (p1callsl : Nat) (p1callsc : Nat) (p2addr : Int) (p3n : Int) (h : Hp) (R : Value → Hp → Prop) (hp : warderlaw04_PhysCalls.P p0frames p1callsa p1callsl p1callsc p2addr p3n h R) : CallsH Try.prog 4 [.int .i64 p0frames, .slice p1callsa p1callsl p1callsc, .int .u32 p2addr, .int .i64 p3n] h R :=
  calls_of_body calls_ok Try.func4 (args := [.int .i64 p0frames, .slice p1callsa p1callsl p1callsc, .int .u32 p2addr, .int .i64 p3n]) (by rw [warderlaw04_PhysCalls.eq]; exact hp)
/-! ### warderlaw04_PhysClones: function 5 -/
def warderlaw04_PhysClones.hints : Hints := { loops := [(10, [0, 1, 2, 7, 9], [(10, (.one (.int .i64)))]), (16, [0, 2, 7, 9, 11, 12], [(13, (.one (.int .i64)))]), (23, [0, 7, 9, 11, 12], [(14, (.one .slice)), (15, (.one (.int .i64)))])], cuts := [(5, [0, 1, 2], []), (8, [0, 1, 2, 7], []), (27, [0, 7, 9, 11, 12, 15], [(14, (.one .slice))])], orders := [(25, [0, 0, 2, 0, 8, 24, 63, 0, 128, 384, 896, 0, 2048, 0, 8192, 24576, 65408, 131071, 262143], [0, 1, 2, 3, 4, 5, 6, 7, 8, 9, 10, 11, 12, 13, 14, 15, 16, 17, 18])] }
def warderlaw04_PhysClones.P (p0frames : Int) (p1firsta : Option Addr) (p1firstl : Nat) (p1firstc : Nat) (p2sincea : Option Addr) (p2sincel : Nat) (p2sincec : Nat) (h : Hp) (R : Value → Hp → Prop) : Prop :=
  CallsH Try.prog 8 [] h fun r1 h1 => ∃ alive2 : Bool, r1 = .bool alive2 ∧ ((!alive2) = true → (R (.bool false) h1)) ∧ ((!alive2) = false → (∃ I3 : Hp → Prop, (CallsH Try.prog 16 [.slice p1firsta p1firstl p1firstc] h1 fun r4 h2 => ∃ Great5 : Bool, r4 = .bool Great5 ∧
  ((Great5) = true → (R (.bool true) h2)) ∧ ((Great5) = false → (CallsH Try.prog 16 [.slice p2sincea p2sincel p2sincec] h2 fun r6 h3 => ∃ Great7 : Bool, r6 = .bool Great7 ∧ ((Great7) = true → (R (.bool true) h3)) ∧
  ((Great7) = false → (((decide (p0frames < 1)) = true → (R (.bool true) h3)) ∧ ((decide (p0frames < 1)) = false → (((decide (p0frames > 40)) = true → (R (.bool true) h3)) ∧ ((decide (p0frames > 40)) = false →
  (I3 h3))))))))) ∧ ∀ h4 : Hp, I3 h4 → CallsH Try.prog 9 [.int .i64 p0frames] h4 fun r8 h5 => ∃ New9 : Option Addr, ∃ New10 : Int, r8 = .tuple #[.pointer New9, .int .i64 New10] ∧ ∃ I11 : Hp → Prop, (((New10 != 0) = true →
  (R (.bool false) h5)) ∧ ((New10 != 0) = false → (((notIf true New9.isNone) = true → (R (.bool false) h5)) ∧ ((notIf true New9.isNone) = false → (I11 h5))))) ∧ ∀ h6 : Hp, I11 h6 → CallsH Try.prog 18 [.int .i64 p0frames] h6 fun r12 h7 => ∃ New13 : Option Addr, r12 = .pointer New13 ∧
  ∃ I14 : Int → Hp → Prop, ∃ m15 : Int → Hp → Nat, I14 0 h7 ∧ ∀ i16 : Int, ∀ h8 : Hp, I14 i16 h8 → ((decide (i16 < ((p1firstl : Nat) : Int))) = true → ((0 : Int) ≤ i16 ∧ i16 < ((p1firstl : Nat) : Int) ∧
  ∃ b17 : Nat, ∃ o18 : Nat, p1firsta = some ⟨b17, o18, none⟩ ∧ ∃ x19 : Int, cellAt h8 b17 (o18 + i16.toNat * 5 + 0) = some (.int .i64 x19) ∧ ∃ x20 : Int, cellAt h8 b17 (o18 + i16.toNat * 5 + 1) = some (.int .i64 x20) ∧
  ∃ x21 : Int, cellAt h8 b17 (o18 + i16.toNat * 5 + 2) = some (.int .u32 x21) ∧ ∃ x22 : Int, cellAt h8 b17 (o18 + i16.toNat * 5 + 3) = some (.int .u32 x22) ∧ ∃ xa23 : Option Addr, ∃ xl24 : Nat, ∃ xc25 : Nat, cellAt h8 b17 (o18 + i16.toNat * 5 + 4) = some (.slice xa23 xl24 xc25) ∧
  CallsH Try.prog 19 [.pointer New9, .pointer New13, .agg #[.int .i64 x19, .int .i64 x20, .int .u32 x21, .int .u32 x22, .slice xa23 xl24 xc25]] h8 fun r26 h9 => ∃ told27 : Bool, r26 = .bool told27 ∧ I14 (IntKind.wrap .i64 (i16 + 1)) h9 ∧
  m15 (IntKind.wrap .i64 (i16 + 1)) h9 < m15 i16 h8)) ∧ ((decide (i16 < ((p1firstl : Nat) : Int))) = false → (∃ b28 : Nat, ∃ o29 : Nat, New13 = some ⟨b28, o29, none⟩ ∧ ∃ Ba30 : Option Addr, ∃ Bl31 : Nat, ∃ Bc32 : Nat, cellAt h8 b28 o29 = some (.slice Ba30 Bl31 Bc32) ∧
  CallsH Try.prog 24 [.slice Ba30 Bl31 Bc32] h8 fun r33 h10 => ∃ CopyBytesa34 : Option Addr, ∃ CopyBytesl35 : Nat, ∃ CopyBytesc36 : Nat, r33 = .slice CopyBytesa34 CopyBytesl35 CopyBytesc36 ∧ CallsH Try.prog 10 [.pointer New9] h10 fun r37 h11 => ∃ Clone38 : Option Addr, r37 = .pointer Clone38 ∧
  ∃ I39 : Int → Hp → Prop, ∃ m40 : Int → Hp → Nat, I39 0 h11 ∧ ∀ i41 : Int, ∀ h12 : Hp, I39 i41 h12 → ((decide (i41 < ((p2sincel : Nat) : Int))) = true → ((0 : Int) ≤ i41 ∧ i41 < ((p2sincel : Nat) : Int) ∧
  ∃ b42 : Nat, ∃ o43 : Nat, p2sincea = some ⟨b42, o43, none⟩ ∧ ∃ x44 : Int, cellAt h12 b42 (o43 + i41.toNat * 5 + 0) = some (.int .i64 x44) ∧ ∃ x45 : Int, cellAt h12 b42 (o43 + i41.toNat * 5 + 1) = some (.int .i64 x45) ∧
  ∃ x46 : Int, cellAt h12 b42 (o43 + i41.toNat * 5 + 2) = some (.int .u32 x46) ∧ ∃ x47 : Int, cellAt h12 b42 (o43 + i41.toNat * 5 + 3) = some (.int .u32 x47) ∧ ∃ xa48 : Option Addr, ∃ xl49 : Nat, ∃ xc50 : Nat, cellAt h12 b42 (o43 + i41.toNat * 5 + 4) = some (.slice xa48 xl49 xc50) ∧
  CallsH Try.prog 19 [.pointer New9, .pointer New13, .agg #[.int .i64 x44, .int .i64 x45, .int .u32 x46, .int .u32 x47, .slice xa48 xl49 xc50]] h12 fun r51 h13 => ∃ told52 : Bool, r51 = .bool told52 ∧
  I39 (IntKind.wrap .i64 (i41 + 1)) h13 ∧ m40 (IntKind.wrap .i64 (i41 + 1)) h13 < m40 i41 h12)) ∧ ((decide (i41 < ((p2sincel : Nat) : Int))) = false → (((notIf true Clone38.isNone) = true → (R (.bool false) h12)) ∧
  ((notIf true Clone38.isNone) = false → (∀ h14 : Hp, h14 = new h12 (blk 3 []) → ∃ I53 : Option Addr → Nat → Nat → Int → Hp → Prop, ∃ m54 : Option Addr → Nat → Nat → Int → Hp → Nat, I53 (some ⟨sz h12, 0, none⟩) 0 0 0 h14 ∧
  ∀ wanta55 : Option Addr, ∀ wantl56 : Nat, ∀ wantc57 : Nat, ∀ i58 : Int, ∀ h15 : Hp, I53 wanta55 wantl56 wantc57 i58 h15 → ((decide (i58 < p0frames)) = true → (∃ I59 : Option Addr → Nat → Nat → Hp → Prop, (((false : Bool) = true →
  (true : Bool) = true) ∧ (0 : Int) ≤ (IntKind.wrap .i64 (256 * i58)) ∧ (IntKind.wrap .i64 (256 * i58)) ≤ (IntKind.wrap .i64 ((IntKind.wrap .i64 (256 * i58)) + 256)) ∧ (IntKind.wrap .i64 ((IntKind.wrap .i64 (256 * i58)) + 256)) ≤ ((CopyBytesc36 : Nat) : Int) ∧
  ((CopyBytesc36 : Nat) : Int) ≤ ((CopyBytesc36 : Nat) : Int) ∧ ∃ b60 : Nat, ∃ o61 : Nat, New13 = some ⟨b60, o61, none⟩ ∧ ∃ Ba62 : Option Addr, ∃ Bl63 : Nat, ∃ Bc64 : Nat, cellAt h15 b60 o61 = some (.slice Ba62 Bl63 Bc64) ∧
  ((false : Bool) = true → (true : Bool) = true) ∧ (0 : Int) ≤ (IntKind.wrap .i64 (256 * i58)) ∧ (IntKind.wrap .i64 (256 * i58)) ≤ (IntKind.wrap .i64 ((IntKind.wrap .i64 (256 * i58)) + 256)) ∧ (IntKind.wrap .i64 ((IntKind.wrap .i64 (256 * i58)) + 256)) ≤ ((Bc64 : Nat) : Int) ∧
  ((Bc64 : Nat) : Int) ≤ ((Bc64 : Nat) : Int) ∧ CallsH Try.prog 23 [.slice (sliceBase CopyBytesa34 ((IntKind.wrap .i64 (256 * i58))).toNat (((CopyBytesc36 : Nat) : Int)).toNat 1) (((IntKind.wrap .i64 ((IntKind.wrap .i64 (256 * i58)) + 256))).toNat - ((IntKind.wrap .i64 (256 * i58))).toNat) ((((CopyBytesc36 : Nat) : Int)).toNat - ((IntKind.wrap .i64 (256 * i58))).toNat), .slice (sliceBase Ba62 ((IntKind.wrap .i64 (256 * i58))).toNat (((Bc64 : Nat) : Int)).toNat 1) (((IntKind.wrap .i64 ((IntKind.wrap .i64 (256 * i58)) + 256))).toNat - ((IntKind.wrap .i64 (256 * i58))).toNat) ((((Bc64 : Nat) : Int)).toNat - ((IntKind.wrap .i64 (256 * i58))).toNat)] h15 fun r65 h16 => ∃ SameBytes66 : Bool, r65 = .bool SameBytes66 ∧
  ((!SameBytes66) = true → (∀ h17 : Hp, h17 = new h16 (blk 3 [.int .i64 i58]) → appendN h17 3 1 8 [.int .i64 0] wanta55 wantl56 wantc57 (some ⟨sz h16, 0, none⟩) 1 fun a67 l68 c69 h18 => I59 a67 l68 c69 h18)) ∧
  ((!SameBytes66) = false → (I59 wanta55 wantl56 wantc57 h16))) ∧ ∀ wanta70 : Option Addr, ∀ wantl71 : Nat, ∀ wantc72 : Nat, ∀ h19 : Hp, I59 wanta70 wantl71 wantc72 h19 → CallsH Try.prog 22 [.pointer Clone38, .int .i64 i58] h19 fun r73 h20 => ∃ Framea74 : Option Addr, ∃ Framel75 : Nat, ∃ Framec76 : Nat, ∃ Frame77 : Int, r73 = .tuple #[.slice Framea74 Framel75 Framec76, .int .i64 Frame77] ∧
  ((false : Bool) = true → (true : Bool) = true) ∧ (0 : Int) ≤ (IntKind.wrap .i64 (256 * i58)) ∧ (IntKind.wrap .i64 (256 * i58)) ≤ (IntKind.wrap .i64 ((IntKind.wrap .i64 (256 * i58)) + 256)) ∧ (IntKind.wrap .i64 ((IntKind.wrap .i64 (256 * i58)) + 256)) ≤ ((CopyBytesc36 : Nat) : Int) ∧
  ((CopyBytesc36 : Nat) : Int) ≤ ((CopyBytesc36 : Nat) : Int) ∧ CallsH Try.prog 23 [.slice Framea74 Framel75 Framec76, .slice (sliceBase CopyBytesa34 ((IntKind.wrap .i64 (256 * i58))).toNat (((CopyBytesc36 : Nat) : Int)).toNat 1) (((IntKind.wrap .i64 ((IntKind.wrap .i64 (256 * i58)) + 256))).toNat - ((IntKind.wrap .i64 (256 * i58))).toNat) ((((CopyBytesc36 : Nat) : Int)).toNat - ((IntKind.wrap .i64 (256 * i58))).toNat)] h20 fun r78 h21 => ∃ SameBytes79 : Bool, r78 = .bool SameBytes79 ∧
  ((!SameBytes79) = true → (R (.bool false) h21)) ∧ ((!SameBytes79) = false → (I53 wanta70 wantl71 wantc72 (IntKind.wrap .i64 (i58 + 1)) h21 ∧ m54 wanta70 wantl71 wantc72 (IntKind.wrap .i64 (i58 + 1)) h21 < m54 wanta55 wantl56 wantc57 i58 h15)))) ∧
  ((decide (i58 < p0frames)) = false → (CallsH Try.prog 12 [.pointer New9, .pointer Clone38] h15 fun r80 h22 => ∃ Differa81 : Option Addr, ∃ Differl82 : Nat, ∃ Differc83 : Nat, r80 = .slice Differa81 Differl82 Differc83 ∧
  CallsH Try.prog 15 [.slice Differa81 Differl82 Differc83, .slice wanta55 wantl56 wantc57] h22 fun r84 h23 => ∃ SameInts85 : Bool, r84 = .bool SameInts85 ∧ ((SameInts85) = true → (CallsH Try.prog 12 [.pointer Clone38, .pointer New9] h23 fun r86 h24 => ∃ Differa87 : Option Addr, ∃ Differl88 : Nat, ∃ Differc89 : Nat, r86 = .slice Differa87 Differl88 Differc89 ∧
  CallsH Try.prog 15 [.slice Differa87 Differl88 Differc89, .slice wanta55 wantl56 wantc57] h24 fun r90 h25 => ∃ SameInts91 : Bool, r90 = .bool SameInts91 ∧ ((SameInts91) = true → (CallsH Try.prog 10 [.pointer Clone38] h25 fun r92 h26 => ∃ Clone93 : Option Addr, r92 = .pointer Clone93 ∧
  CallsH Try.prog 12 [.pointer Clone38, .pointer Clone93] h26 fun r94 h27 => ∃ Differa95 : Option Addr, ∃ Differl96 : Nat, ∃ Differc97 : Nat, r94 = .slice Differa95 Differl96 Differc97 ∧ R (.bool (((Differl96 : Nat) : Int) == 0)) h27)) ∧
  ((SameInts91) = false → (R (.bool false) h25)))) ∧ ((SameInts85) = false → (R (.bool false) h23))))))))))))
theorem warderlaw04_PhysClones.eq (p0frames : Int) (p1firsta : Option Addr) (p1firstl : Nat) (p1firstc : Nat) (p2sincea : Option Addr) (p2sincel : Nat) (p2sincec : Nat) (h : Hp) (R : Value → Hp → Prop) : evBody Try.prog calls warderlaw04_PhysClones.hints Try.f5 [.int .i64 p0frames, .slice p1firsta p1firstl p1firstc, .slice p2sincea p2sincel p2sincec] h R = warderlaw04_PhysClones.P p0frames p1firsta p1firstl p1firstc p2sincea p2sincel p2sincec h R := by kernel_rfl
theorem warderlaw04_PhysClones.calls (p0frames : Int) (p1firsta : Option Addr) (p1firstl : Nat) (p1firstc : Nat) (p2sincea : Option Addr) (p2sincel : Nat) (p2sincec : Nat) (h : Hp) (R : Value → Hp → Prop) (hp : warderlaw04_PhysClones.P p0frames p1firsta p1firstl p1firstc p2sincea p2sincel p2sincec h R) : CallsH Try.prog 5 [.int .i64 p0frames, .slice p1firsta p1firstl p1firstc, .slice p2sincea p2sincel p2sincec] h R :=
  calls_of_body calls_ok Try.func5 (args := [.int .i64 p0frames, .slice p1firsta p1firstl p1firstc, .slice p2sincea p2sincel p2sincec]) (by rw [warderlaw04_PhysClones.eq]; exact hp)
/-! ### warderlaw04_PhysApart: function 6 -/
def warderlaw04_PhysApart.hints : Hints := { loops := [(10, [1, 2, 7, 9], [(10, (.one (.int .i64)))]), (20, [1, 2, 7, 9, 10, 11, 12, 14], [(16, (.one (.int .i64)))])], cuts := [(5, [0, 1, 2], []), (8, [0, 1, 2, 7], []), (19, [1, 2, 7, 9, 10, 11, 12, 14], [])], orders := [] }
def warderlaw04_PhysApart.P (p0frames : Int) (p1callsa : Option Addr) (p1callsl : Nat) (p1callsc : Nat) (p2n : Int) (h : Hp) (R : Value → Hp → Prop) : Prop :=
  CallsH Try.prog 8 [] h fun r1 h1 => ∃ alive2 : Bool, r1 = .bool alive2 ∧ ((!alive2) = true → (R (.bool false) h1)) ∧ ((!alive2) = false → (∃ I3 : Hp → Prop, (CallsH Try.prog 16 [.slice p1callsa p1callsl p1callsc] h1 fun r4 h2 => ∃ Great5 : Bool, r4 = .bool Great5 ∧
  ((Great5) = true → (R (.bool true) h2)) ∧ ((Great5) = false → (((decide (p0frames < 1)) = true → (R (.bool true) h2)) ∧ ((decide (p0frames < 1)) = false → (((decide (p0frames > 40)) = true → (R (.bool true) h2)) ∧
  ((decide (p0frames > 40)) = false → (((decide (p2n < 0)) = true → (R (.bool true) h2)) ∧ ((decide (p2n < 0)) = false → (((decide (p2n ≥ p0frames)) = true → (R (.bool true) h2)) ∧ ((decide (p2n ≥ p0frames)) = false →
  (I3 h2))))))))))) ∧ ∀ h3 : Hp, I3 h3 → CallsH Try.prog 9 [.int .i64 p0frames] h3 fun r6 h4 => ∃ New7 : Option Addr, ∃ New8 : Int, r6 = .tuple #[.pointer New7, .int .i64 New8] ∧ ∃ I9 : Hp → Prop, (((New8 != 0) = true →
  (R (.bool false) h4)) ∧ ((New8 != 0) = false → (((notIf true New7.isNone) = true → (R (.bool false) h4)) ∧ ((notIf true New7.isNone) = false → (I9 h4))))) ∧ ∀ h5 : Hp, I9 h5 → CallsH Try.prog 18 [.int .i64 p0frames] h5 fun r10 h6 => ∃ New11 : Option Addr, r10 = .pointer New11 ∧
  ∃ I12 : Int → Hp → Prop, ∃ m13 : Int → Hp → Nat, I12 0 h6 ∧ ∀ i14 : Int, ∀ h7 : Hp, I12 i14 h7 → ((decide (i14 < ((p1callsl : Nat) : Int))) = true → (CallsH Try.prog 10 [.pointer New7] h7 fun r15 h8 => ∃ Clone16 : Option Addr, r15 = .pointer Clone16 ∧
  CallsH Try.prog 22 [.pointer New7, .int .i64 p2n] h8 fun r17 h9 => ∃ Framea18 : Option Addr, ∃ Framel19 : Nat, ∃ Framec20 : Nat, ∃ Frame21 : Int, r17 = .tuple #[.slice Framea18 Framel19 Framec20, .int .i64 Frame21] ∧
  CallsH Try.prog 24 [.slice Framea18 Framel19 Framec20] h9 fun r22 h10 => ∃ CopyBytesa23 : Option Addr, ∃ CopyBytesl24 : Nat, ∃ CopyBytesc25 : Nat, r22 = .slice CopyBytesa23 CopyBytesl24 CopyBytesc25 ∧
  CallsH Try.prog 10 [.pointer Clone16] h10 fun r26 h11 => ∃ Clone27 : Option Addr, r26 = .pointer Clone27 ∧ (0 : Int) ≤ i14 ∧ i14 < ((p1callsl : Nat) : Int) ∧ ∃ b28 : Nat, ∃ o29 : Nat, p1callsa = some ⟨b28, o29, none⟩ ∧
  ∃ x30 : Int, cellAt h11 b28 (o29 + i14.toNat * 5 + 0) = some (.int .i64 x30) ∧ ∃ x31 : Int, cellAt h11 b28 (o29 + i14.toNat * 5 + 1) = some (.int .i64 x31) ∧ ∃ x32 : Int, cellAt h11 b28 (o29 + i14.toNat * 5 + 2) = some (.int .u32 x32) ∧
  ∃ x33 : Int, cellAt h11 b28 (o29 + i14.toNat * 5 + 3) = some (.int .u32 x33) ∧ ∃ xa34 : Option Addr, ∃ xl35 : Nat, ∃ xc36 : Nat, cellAt h11 b28 (o29 + i14.toNat * 5 + 4) = some (.slice xa34 xl35 xc36) ∧
  CallsH Try.prog 19 [.pointer New7, .pointer New11, .agg #[.int .i64 x30, .int .i64 x31, .int .u32 x32, .int .u32 x33, .slice xa34 xl35 xc36]] h11 fun r37 h12 => ∃ told38 : Bool, r37 = .bool told38 ∧
  ∃ I39 : Hp → Prop, (CallsH Try.prog 12 [.pointer Clone16, .pointer Clone27] h12 fun r40 h13 => ∃ Differa41 : Option Addr, ∃ Differl42 : Nat, ∃ Differc43 : Nat, r40 = .slice Differa41 Differl42 Differc43 ∧
  ((((Differl42 : Nat) : Int) != 0) = true → (R (.bool false) h13)) ∧ ((((Differl42 : Nat) : Int) != 0) = false → (CallsH Try.prog 23 [.slice Framea18 Framel19 Framec20, .slice CopyBytesa23 CopyBytesl24 CopyBytesc25] h13 fun r44 h14 => ∃ SameBytes45 : Bool, r44 = .bool SameBytes45 ∧
  ((!SameBytes45) = true → (R (.bool false) h14)) ∧ ((!SameBytes45) = false → (I39 h14))))) ∧ ∀ h15 : Hp, I39 h15 → ∃ I46 : Int → Hp → Prop, ∃ m47 : Int → Hp → Nat, I46 0 h15 ∧ ∀ k48 : Int, ∀ h16 : Hp, I46 k48 h16 →
  ((decide (k48 < ((Framel19 : Nat) : Int))) = true → ((0 : Int) ≤ k48 ∧ k48 < ((Framel19 : Nat) : Int) ∧ ∃ b49 : Nat, ∃ o50 : Nat, Framea18 = some ⟨b49, o50, none⟩ ∧ ∃ x51 : Int, cellAt h16 b49 (o50 + k48.toNat * 1) = some (.int .u8 x51) ∧
  (0 : Int) ≤ k48 ∧ k48 < ((Framel19 : Nat) : Int) ∧ ∃ b52 : Nat, ∃ o53 : Nat, Framea18 = some ⟨b52, o53, none⟩ ∧ truly true ∧ ∃ T54 : TypeId, ∃ l55 : List Value, bk h16 b52 = some (blk T54 l55) ∧ (o53 + k48.toNat * 1) + 1 ≤ l55.length ∧
  ∀ h17 : Hp, h17 = upd h16 b52 T54 (writeAt l55 (o53 + k48.toNat * 1) [.int .u8 (IntKind.wrap .u8 (x51 + 1))]) → I46 (IntKind.wrap .i64 (k48 + 1)) h17 ∧ m47 (IntKind.wrap .i64 (k48 + 1)) h17 < m47 k48 h16)) ∧
  ((decide (k48 < ((Framel19 : Nat) : Int))) = false → (CallsH Try.prog 22 [.pointer Clone16, .int .i64 p2n] h16 fun r56 h18 => ∃ Framea57 : Option Addr, ∃ Framel58 : Nat, ∃ Framec59 : Nat, ∃ Frame60 : Int, r56 = .tuple #[.slice Framea57 Framel58 Framec59, .int .i64 Frame60] ∧
  CallsH Try.prog 23 [.slice Framea57 Framel58 Framec59, .slice CopyBytesa23 CopyBytesl24 CopyBytesc25] h18 fun r61 h19 => ∃ SameBytes62 : Bool, r61 = .bool SameBytes62 ∧ ((!SameBytes62) = true → (R (.bool false) h19)) ∧
  ((!SameBytes62) = false → (I12 (IntKind.wrap .i64 (i14 + 1)) h19 ∧ m13 (IntKind.wrap .i64 (i14 + 1)) h19 < m13 i14 h7)))))) ∧ ((decide (i14 < ((p1callsl : Nat) : Int))) = false → (R (.bool true) h7))))
theorem warderlaw04_PhysApart.eq (p0frames : Int) (p1callsa : Option Addr) (p1callsl : Nat) (p1callsc : Nat) (p2n : Int) (h : Hp) (R : Value → Hp → Prop) : evBody Try.prog calls warderlaw04_PhysApart.hints Try.f6 [.int .i64 p0frames, .slice p1callsa p1callsl p1callsc, .int .i64 p2n] h R = warderlaw04_PhysApart.P p0frames p1callsa p1callsl p1callsc p2n h R := by kernel_rfl
theorem warderlaw04_PhysApart.calls (p0frames : Int) (p1callsa : Option Addr) (p1callsl : Nat) (p1callsc : Nat) (p2n : Int) (h : Hp) (R : Value → Hp → Prop) (hp : warderlaw04_PhysApart.P p0frames p1callsa p1callsl p1callsc p2n h R) : CallsH Try.prog 6 [.int .i64 p0frames, .slice p1callsa p1callsl p1callsc, .int .i64 p2n] h R :=
  calls_of_body calls_ok Try.func6 (args := [.int .i64 p0frames, .slice p1callsa p1callsl p1callsc, .int .i64 p2n]) (by rw [warderlaw04_PhysApart.eq]; exact hp)
/-! ### warderlaw04_PhysFills: function 7 -/
def warderlaw04_PhysFills.hints : Hints := { loops := [(10, [0, 1, 2, 7, 9], [(10, (.one (.int .i64)))]), (21, [0, 2, 7, 11, 13], [(15, (.one (.int .i64)))])], cuts := [(5, [0, 1, 2], []), (8, [0, 1, 2, 7], []), (16, [0, 2, 7, 11, 12], [(66, (.one .bool))]), (17, [0, 2, 7, 11, 12], []), (20, [0, 2, 7, 11, 13], [])], orders := [(23, [0, 0, 2, 7, 15, 31, 31, 127, 255, 31, 31, 1567, 3615, 8191, 16383, 32767, 65535, 65535, 196607, 524287, 1048575, 2097151, 2097151, 8388607, 16777215, 33554431, 67108863, 134217727], [0, 1, 2, 3, 4, 5, 6, 7, 8, 9, 10, 11, 12, 13, 14, 15, 16, 17, 18, 19, 20, 21, 22, 23, 24, 25, 26, 27])] }
def warderlaw04_PhysFills.P (p0n : Int) (p1callsa : Option Addr) (p1callsl : Nat) (p1callsc : Nat) (p2ba : Option Addr) (p2bl : Nat) (p2bc : Nat) (h : Hp) (R : Value → Hp → Prop) : Prop :=
  CallsH Try.prog 8 [] h fun r1 h1 => ∃ alive2 : Bool, r1 = .bool alive2 ∧ ((!alive2) = true → (R (.bool false) h1)) ∧ ((!alive2) = false → (∃ I3 : Hp → Prop, (CallsH Try.prog 16 [.slice p1callsa p1callsl p1callsc] h1 fun r4 h2 => ∃ Great5 : Bool, r4 = .bool Great5 ∧
  ((Great5) = true → (R (.bool true) h2)) ∧ ((Great5) = false → (((decide (((p2bl : Nat) : Int) > 2000)) = true → (R (.bool true) h2)) ∧ ((decide (((p2bl : Nat) : Int) > 2000)) = false → (I3 h2))))) ∧
  ∀ h3 : Hp, I3 h3 → CallsH Try.prog 9 [.int .i64 4] h3 fun r6 h4 => ∃ New7 : Option Addr, ∃ New8 : Int, r6 = .tuple #[.pointer New7, .int .i64 New8] ∧ ∃ I9 : Hp → Prop, (((New8 != 0) = true → (R (.bool false) h4)) ∧
  ((New8 != 0) = false → (((notIf true New7.isNone) = true → (R (.bool false) h4)) ∧ ((notIf true New7.isNone) = false → (I9 h4))))) ∧ ∀ h5 : Hp, I9 h5 → CallsH Try.prog 18 [.int .i64 4] h5 fun r10 h6 => ∃ New11 : Option Addr, r10 = .pointer New11 ∧
  ∃ I12 : Int → Hp → Prop, ∃ m13 : Int → Hp → Nat, I12 0 h6 ∧ ∀ i14 : Int, ∀ h7 : Hp, I12 i14 h7 → ((decide (i14 < ((p1callsl : Nat) : Int))) = true → ((0 : Int) ≤ i14 ∧ i14 < ((p1callsl : Nat) : Int) ∧
  ∃ b15 : Nat, ∃ o16 : Nat, p1callsa = some ⟨b15, o16, none⟩ ∧ ∃ x17 : Int, cellAt h7 b15 (o16 + i14.toNat * 5 + 0) = some (.int .i64 x17) ∧ ∃ x18 : Int, cellAt h7 b15 (o16 + i14.toNat * 5 + 1) = some (.int .i64 x18) ∧
  ∃ x19 : Int, cellAt h7 b15 (o16 + i14.toNat * 5 + 2) = some (.int .u32 x19) ∧ ∃ x20 : Int, cellAt h7 b15 (o16 + i14.toNat * 5 + 3) = some (.int .u32 x20) ∧ ∃ xa21 : Option Addr, ∃ xl22 : Nat, ∃ xc23 : Nat, cellAt h7 b15 (o16 + i14.toNat * 5 + 4) = some (.slice xa21 xl22 xc23) ∧
  CallsH Try.prog 19 [.pointer New7, .pointer New11, .agg #[.int .i64 x17, .int .i64 x18, .int .u32 x19, .int .u32 x20, .slice xa21 xl22 xc23]] h7 fun r24 h8 => ∃ told25 : Bool, r24 = .bool told25 ∧ I12 (IntKind.wrap .i64 (i14 + 1)) h8 ∧
  m13 (IntKind.wrap .i64 (i14 + 1)) h8 < m13 i14 h7)) ∧ ((decide (i14 < ((p1callsl : Nat) : Int))) = false → (CallsH Try.prog 10 [.pointer New7] h7 fun r26 h9 => ∃ Clone27 : Option Addr, r26 = .pointer Clone27 ∧
  CallsH Try.prog 25 [.pointer New7, .int .i64 p0n, .slice p2ba p2bl p2bc] h9 fun r28 h10 => ∃ Fill29 : Int, r28 = .int .i64 Fill29 ∧ ∃ I30 : Hp → Prop, (∃ I31 : Bool → Hp → Prop, (((decide (p0n < 0)) = true →
  (I31 true h10)) ∧ ((decide (p0n < 0)) = false → (((decide (p0n > 3)) = true → (I31 true h10)) ∧ ((decide (p0n > 3)) = false → (I31 (decide (((p2bl : Nat) : Int) > 256)) h10))))) ∧ ∀ x32 : Bool, ∀ h11 : Hp, I31 x32 h11 →
  ((x32) = true → (((Fill29 != 0) = true → (CallsH Try.prog 12 [.pointer New7, .pointer Clone27] h11 fun r33 h12 => ∃ Differa34 : Option Addr, ∃ Differl35 : Nat, ∃ Differc36 : Nat, r33 = .slice Differa34 Differl35 Differc36 ∧
  R (.bool (((Differl35 : Nat) : Int) == 0)) h12)) ∧ ((Fill29 != 0) = false → (R (.bool false) h11)))) ∧ ((x32) = false → (I30 h11))) ∧ ∀ h13 : Hp, I30 h13 → CallsH Try.prog 22 [.pointer New7, .int .i64 p0n] h13 fun r37 h14 => ∃ Framea38 : Option Addr, ∃ Framel39 : Nat, ∃ Framec40 : Nat, ∃ Frame41 : Int, r37 = .tuple #[.slice Framea38 Framel39 Framec40, .int .i64 Frame41] ∧
  ∃ I42 : Hp → Prop, (((Fill29 != 0) = true → (R (.bool false) h14)) ∧ ((Fill29 != 0) = false → (((Frame41 != 0) = true → (R (.bool false) h14)) ∧ ((Frame41 != 0) = false → (((((Framel39 : Nat) : Int) != 256) = true →
  (R (.bool false) h14)) ∧ ((((Framel39 : Nat) : Int) != 256) = false → (I42 h14))))))) ∧ ∀ h15 : Hp, I42 h15 → ∃ I43 : Int → Hp → Prop, ∃ m44 : Int → Hp → Nat, I43 0 h15 ∧ ∀ i45 : Int, ∀ h16 : Hp, I43 i45 h16 →
  ((decide (i45 < 256)) = true → (((decide (i45 < ((p2bl : Nat) : Int))) = true → ((0 : Int) ≤ i45 ∧ i45 < ((Framel39 : Nat) : Int) ∧ ∃ b46 : Nat, ∃ o47 : Nat, Framea38 = some ⟨b46, o47, none⟩ ∧ ∃ x48 : Int, cellAt h16 b46 (o47 + i45.toNat * 1) = some (.int .u8 x48) ∧
  (0 : Int) ≤ i45 ∧ i45 < ((p2bl : Nat) : Int) ∧ ∃ b49 : Nat, ∃ o50 : Nat, p2ba = some ⟨b49, o50, none⟩ ∧ ∃ x51 : Int, cellAt h16 b49 (o50 + i45.toNat * 1) = some (.int .u8 x51) ∧ ((x48 != x51) = true →
  (R (.bool false) h16)) ∧ ((x48 != x51) = false → (((decide (i45 ≥ ((p2bl : Nat) : Int))) = true → ((0 : Int) ≤ i45 ∧ i45 < ((Framel39 : Nat) : Int) ∧ ∃ b52 : Nat, ∃ o53 : Nat, Framea38 = some ⟨b52, o53, none⟩ ∧
  ∃ x54 : Int, cellAt h16 b52 (o53 + i45.toNat * 1) = some (.int .u8 x54) ∧ ((x54 != 0) = true → (R (.bool false) h16)) ∧ ((x54 != 0) = false → (I43 (IntKind.wrap .i64 (i45 + 1)) h16 ∧ m44 (IntKind.wrap .i64 (i45 + 1)) h16 < m44 i45 h16)))) ∧
  ((decide (i45 ≥ ((p2bl : Nat) : Int))) = false → (I43 (IntKind.wrap .i64 (i45 + 1)) h16 ∧ m44 (IntKind.wrap .i64 (i45 + 1)) h16 < m44 i45 h16)))))) ∧ ((decide (i45 < ((p2bl : Nat) : Int))) = false →
  (((decide (i45 ≥ ((p2bl : Nat) : Int))) = true → ((0 : Int) ≤ i45 ∧ i45 < ((Framel39 : Nat) : Int) ∧ ∃ b55 : Nat, ∃ o56 : Nat, Framea38 = some ⟨b55, o56, none⟩ ∧ ∃ x57 : Int, cellAt h16 b55 (o56 + i45.toNat * 1) = some (.int .u8 x57) ∧
  ((x57 != 0) = true → (R (.bool false) h16)) ∧ ((x57 != 0) = false → (I43 (IntKind.wrap .i64 (i45 + 1)) h16 ∧ m44 (IntKind.wrap .i64 (i45 + 1)) h16 < m44 i45 h16)))) ∧ ((decide (i45 ≥ ((p2bl : Nat) : Int))) = false →
  (I43 (IntKind.wrap .i64 (i45 + 1)) h16 ∧ m44 (IntKind.wrap .i64 (i45 + 1)) h16 < m44 i45 h16)))))) ∧ ((decide (i45 < 256)) = false → (CallsH Try.prog 12 [.pointer New7, .pointer Clone27] h16 fun r58 h17 => ∃ Differa59 : Option Addr, ∃ Differl60 : Nat, ∃ Differc61 : Nat, r58 = .slice Differa59 Differl60 Differc61 ∧
  ((((Differl60 : Nat) : Int) == 0) = true → (R (.bool true) h17)) ∧ ((((Differl60 : Nat) : Int) == 0) = false → (((((Differl60 : Nat) : Int) == 1) = true → ((0 : Int) ≤ 0 ∧ (0 : Int) < ((Differl60 : Nat) : Int) ∧
  ∃ b62 : Nat, ∃ o63 : Nat, Differa59 = some ⟨b62, o63, none⟩ ∧ ∃ x64 : Int, cellAt h17 b62 (o63 + (0 : Int).toNat * 1) = some (.int .i64 x64) ∧ R (.bool (x64 == p0n)) h17)) ∧ ((((Differl60 : Nat) : Int) == 1) = false →
  (R (.bool false) h17))))))))))
theorem warderlaw04_PhysFills.eq (p0n : Int) (p1callsa : Option Addr) (p1callsl : Nat) (p1callsc : Nat) (p2ba : Option Addr) (p2bl : Nat) (p2bc : Nat) (h : Hp) (R : Value → Hp → Prop) : evBody Try.prog calls warderlaw04_PhysFills.hints Try.f7 [.int .i64 p0n, .slice p1callsa p1callsl p1callsc, .slice p2ba p2bl p2bc] h R = warderlaw04_PhysFills.P p0n p1callsa p1callsl p1callsc p2ba p2bl p2bc h R := by kernel_rfl
theorem warderlaw04_PhysFills.calls (p0n : Int) (p1callsa : Option Addr) (p1callsl : Nat) (p1callsc : Nat) (p2ba : Option Addr) (p2bl : Nat) (p2bc : Nat) (h : Hp) (R : Value → Hp → Prop) (hp : warderlaw04_PhysFills.P p0n p1callsa p1callsl p1callsc p2ba p2bl p2bc h R) : CallsH Try.prog 7 [.int .i64 p0n, .slice p1callsa p1callsl p1callsc, .slice p2ba p2bl p2bc] h R :=
  calls_of_body calls_ok Try.func7 (args := [.int .i64 p0n, .slice p1callsa p1callsl p1callsc, .slice p2ba p2bl p2bc]) (by rw [warderlaw04_PhysFills.eq]; exact hp)
/-! ### warderlaw04_alive: function 8 -/
def warderlaw04_alive.hints : Hints := { loops := [], cuts := [(4, [1], [])], orders := [] }
def warderlaw04_alive.P  (h : Hp) (R : Value → Hp → Prop) : Prop :=
  CallsH Try.prog 9 [.int .i64 2] h fun r1 h1 => ∃ New2 : Option Addr, ∃ New3 : Int, r1 = .tuple #[.pointer New2, .int .i64 New3] ∧ ∃ I4 : Hp → Prop, (((New3 != 0) = true → (R (.bool false) h1)) ∧ ((New3 != 0) = false →
  (((notIf true New2.isNone) = true → (R (.bool false) h1)) ∧ ((notIf true New2.isNone) = false → (I4 h1))))) ∧ ∀ h2 : Hp, I4 h2 → CallsH Try.prog 11 [.pointer New2, .int .u32 4, .int .u32 16909060] h2 fun r5 h3 => ∃ PutWord6 : Bool, r5 = .bool PutWord6 ∧
  CallsH Try.prog 26 [.pointer New2, .int .u32 600, .int .u8 1] h3 fun r7 h4 => ∃ PutByte8 : Bool, r7 = .bool PutByte8 ∧ CallsH Try.prog 10 [.pointer New2] h4 fun r9 h5 => ∃ Clone10 : Option Addr, r9 = .pointer Clone10 ∧
  ∀ h6 : Hp, h6 = new h5 (blk 5 [.int .u8 7, .int .u8 8]) → CallsH Try.prog 25 [.pointer New2, .int .i64 1, .slice (some ⟨sz h5, 0, none⟩) 2 2] h6 fun r11 h7 => ∃ Fill12 : Int, r11 = .int .i64 Fill12 ∧
  ((notIf true Clone10.isNone) = true → (R (.bool false) h7)) ∧ ((notIf true Clone10.isNone) = false → (CallsH Try.prog 13 [.pointer New2, .int .u32 5] h7 fun r13 h8 => ∃ Byte14 : Int, ∃ Byte15 : Bool, r13 = .tuple #[.int .u8 Byte14, .bool Byte15] ∧
  CallsH Try.prog 14 [.pointer New2, .int .u32 256] h8 fun r16 h9 => ∃ Word17 : Int, ∃ Word18 : Bool, r16 = .tuple #[.int .u32 Word17, .bool Word18] ∧ CallsH Try.prog 14 [.pointer New2, .int .u32 5] h9 fun r19 h10 => ∃ Word20 : Int, ∃ Word21 : Bool, r19 = .tuple #[.int .u32 Word20, .bool Word21] ∧
  ((PutWord6) = true → (((!PutByte8) = true → (((Byte15) = true → (((Word18) = true → (((!Word21) = true → (((Fill12 == 0) = true → (((Byte14 == 3) = true → (((Word17 == 2055) = true → (CallsH Try.prog 12 [.pointer New2, .pointer Clone10] h10 fun r22 h11 => ∃ Differa23 : Option Addr, ∃ Differl24 : Nat, ∃ Differc25 : Nat, r22 = .slice Differa23 Differl24 Differc25 ∧
  ∀ h12 : Hp, h12 = new h11 (blk 3 [.int .i64 1]) → CallsH Try.prog 15 [.slice Differa23 Differl24 Differc25, .slice (some ⟨sz h11, 0, none⟩) 1 1] h12 fun r26 h13 => ∃ SameInts27 : Bool, r26 = .bool SameInts27 ∧
  ((SameInts27) = true → (CallsH Try.prog 17 [.pointer New2] h13 fun r28 h14 => ∃ Frames29 : Int, r28 = .int .i64 Frames29 ∧ R (.bool (Frames29 == 2)) h14)) ∧ ((SameInts27) = false → (R (.bool false) h13)))) ∧
  ((Word17 == 2055) = false → (R (.bool false) h10)))) ∧ ((Byte14 == 3) = false → (R (.bool false) h10)))) ∧ ((Fill12 == 0) = false → (R (.bool false) h10)))) ∧ ((!Word21) = false → (R (.bool false) h10)))) ∧
  ((Word18) = false → (R (.bool false) h10)))) ∧ ((Byte15) = false → (R (.bool false) h10)))) ∧ ((!PutByte8) = false → (R (.bool false) h10)))) ∧ ((PutWord6) = false → (R (.bool false) h10))))
theorem warderlaw04_alive.eq  (h : Hp) (R : Value → Hp → Prop) : evBody Try.prog calls warderlaw04_alive.hints Try.f8 [] h R = warderlaw04_alive.P  h R := by kernel_rfl
theorem warderlaw04_alive.calls  (h : Hp) (R : Value → Hp → Prop) (hp : warderlaw04_alive.P  h R) : CallsH Try.prog 8 [] h R :=
  calls_of_body calls_ok Try.func8 (args := []) (by rw [warderlaw04_alive.eq]; exact hp)
/-! ### phys_New: function 9 -/
def phys_New.hints : Hints := { loops := [], cuts := [], orders := [] }
def phys_New.P (p0frames : Int) (h : Hp) (R : Value → Hp → Prop) : Prop :=
  ((decide (p0frames < 1)) = true → (R (.tuple #[.pointer none, .int .i64 11]) h)) ∧ ((decide (p0frames < 1)) = false → (((decide (p0frames > 1024)) = true → (R (.tuple #[.pointer none, .int .i64 11]) h)) ∧
  ((decide (p0frames > 1024)) = false → ((0 : Int) ≤ p0frames ∧ p0frames ≤ p0frames ∧ p0frames ≤ 140737488355328 ∧ ((256 : Nat) : Int) * p0frames ≤ 281474976710656 ∧ (256 : Nat) = 256 ∧ ∀ h1 : Hp, h1 = new h (blk 64 (zeros (List.replicate 256 (.int .u8 0)) p0frames.toNat)) →
  ∀ h2 : Hp, h2 = new h1 (blk 61 [.slice (some ⟨sz h, 0, none⟩) p0frames.toNat p0frames.toNat]) → R (.tuple #[.pointer (some ⟨(sz h1), 0, none⟩), .int .i64 0]) h2))))
theorem phys_New.eq (p0frames : Int) (h : Hp) (R : Value → Hp → Prop) : evBody Try.prog calls phys_New.hints Try.f9 [.int .i64 p0frames] h R = phys_New.P p0frames h R := by kernel_rfl
theorem phys_New.calls (p0frames : Int) (h : Hp) (R : Value → Hp → Prop) (hp : phys_New.P p0frames h R) : CallsH Try.prog 9 [.int .i64 p0frames] h R :=
  calls_of_body calls_ok Try.func9 (args := [.int .i64 p0frames]) (by rw [phys_New.eq]; exact hp)
/-! ### phys_Mem_Clone: function 10 -/
def phys_Mem_Clone.hints : Hints := { loops := [], cuts := [], orders := [] }
def phys_Mem_Clone.P (p0mb p0mo : Nat) (h : Hp) (R : Value → Hp → Prop) : Prop :=
  ∃ framesa1 : Option Addr, ∃ framesl2 : Nat, ∃ framesc3 : Nat, cellAt h p0mb p0mo = some (.slice framesa1 framesl2 framesc3) ∧ CallsH Try.prog 27 [.slice framesa1 framesl2 framesc3] h fun r4 h1 => ∃ Clonea5 : Option Addr, ∃ Clonel6 : Nat, ∃ Clonec7 : Nat, r4 = .slice Clonea5 Clonel6 Clonec7 ∧
  ∀ h2 : Hp, h2 = new h1 (blk 61 [.slice Clonea5 Clonel6 Clonec7]) → R (.pointer (some ⟨(sz h1), 0, none⟩)) h2
theorem phys_Mem_Clone.eq (p0mb p0mo : Nat) (h : Hp) (R : Value → Hp → Prop) : evBody Try.prog calls phys_Mem_Clone.hints Try.f10 [.ptr p0mb p0mo] h R = phys_Mem_Clone.P p0mb p0mo h R := by kernel_rfl
theorem phys_Mem_Clone.calls (p0mb p0mo : Nat) (h : Hp) (R : Value → Hp → Prop) (hp : phys_Mem_Clone.P p0mb p0mo h R) : CallsH Try.prog 10 [.pointer (some ⟨p0mb, p0mo, none⟩)] h R :=
  calls_of_body calls_ok Try.func10 (args := [.ptr p0mb p0mo]) (by rw [phys_Mem_Clone.eq]; exact hp)
/-! ### phys_Mem_PutWord: function 11 -/
def phys_Mem_PutWord.hints : Hints := { loops := [], cuts := [], orders := [] }
def phys_Mem_PutWord.P (p0mb p0mo : Nat) (p1addr : Int) (p2w : Int) (h : Hp) (R : Value → Hp → Prop) : Prop :=
  CallsH Try.prog 28 [.pointer (some ⟨p0mb, p0mo, none⟩), .int .u32 p1addr] h fun r1 h1 => ∃ atx2 : Option Addr, ∃ atx3 : Int, ∃ atx4 : Bool, r1 = .tuple #[.pointer atx2, .int .i64 atx3, .bool atx4] ∧
  ((atx4) = true → (4 ≠ (0 : Int) ∧ (((Int.tmod atx3 4) == 0) = true → (∃ b5 : Nat, ∃ o6 : Nat, atx2 = some ⟨b5, o6, none⟩ ∧ ((false : Bool) = true → (false : Bool) = true) ∧ (0 : Int) ≤ (0 : Int) ∧ (0 : Int) ≤ ((256 : Nat) : Int) ∧
  ((256 : Nat) : Int) ≤ ((256 : Nat) : Int) ∧ ((256 : Nat) : Int) ≤ ((256 : Nat) : Int) ∧ CallsH Try.prog 29 [.slice (arrBase b5 o6 ((0 : Int)).toNat (((256 : Nat) : Int)).toNat 1) ((((256 : Nat) : Int)).toNat - ((0 : Int)).toNat) ((((256 : Nat) : Int)).toNat - ((0 : Int)).toNat), .int .i64 atx3, .int .u32 p2w] h1 fun r7 h2 => ∃ Set8 : Bool, r7 = .bool Set8 ∧
  R (.bool Set8) h2)) ∧ (((Int.tmod atx3 4) == 0) = false → (R (.bool false) h1)))) ∧ ((atx4) = false → (R (.bool false) h1))
theorem phys_Mem_PutWord.eq (p0mb p0mo : Nat) (p1addr : Int) (p2w : Int) (h : Hp) (R : Value → Hp → Prop) : evBody Try.prog calls phys_Mem_PutWord.hints Try.f11 [.ptr p0mb p0mo, .int .u32 p1addr, .int .u32 p2w] h R = phys_Mem_PutWord.P p0mb p0mo p1addr p2w h R := by kernel_rfl
theorem phys_Mem_PutWord.calls (p0mb p0mo : Nat) (p1addr : Int) (p2w : Int) (h : Hp) (R : Value → Hp → Prop) (hp : phys_Mem_PutWord.P p0mb p0mo p1addr p2w h R) : CallsH Try.prog 11 [.pointer (some ⟨p0mb, p0mo, none⟩), .int .u32 p1addr, .int .u32 p2w] h R :=
  calls_of_body calls_ok Try.func11 (args := [.ptr p0mb p0mo, .int .u32 p1addr, .int .u32 p2w]) (by rw [phys_Mem_PutWord.eq]; exact hp)
/-! ### phys_Mem_Differ: function 12 -/
def phys_Mem_Differ.hints : Hints := { loops := [(3, [0, 1, 17], [(5, (.one .slice)), (18, (.one (.int .i64)))])], cuts := [], orders := [(2, [0, 1, 3, 7, 15, 0, 32, 96, 224, 480, 1023, 0], [0, 1, 2, 3, 4, 5, 6, 7, 8, 9, 10, 11]), (5, [0, 0, 3, 7, 15, 31, 31, 127, 255, 511, 1023, 2047, 4095, 8191, 16383, 2047, 65535, 131071, 2047, 264191, 788479, 1837055, 2047, 8128511, 16517119, 33554431, 67108863], [0, 1, 2, 3, 4, 5, 6, 7, 8, 9, 10, 11, 12, 13, 14, 15, 16, 17, 18, 19, 20, 21, 22, 23, 24, 25, 26])] }
def phys_Mem_Differ.P (p0mb p0mo : Nat) (p1ob p1oo : Nat) (h : Hp) (R : Value → Hp → Prop) : Prop :=
  ∃ framesa1 : Option Addr, ∃ framesl2 : Nat, ∃ framesc3 : Nat, cellAt h p0mb p0mo = some (.slice framesa1 framesl2 framesc3) ∧ ∃ framesa4 : Option Addr, ∃ framesl5 : Nat, ∃ framesc6 : Nat, cellAt h p1ob p1oo = some (.slice framesa4 framesl5 framesc6) ∧
  ∃ I7 : Option Addr → Nat → Nat → Int → Hp → Prop, ∃ m8 : Option Addr → Nat → Nat → Int → Hp → Nat, I7 none 0 0 0 h ∧ ∀ outa9 : Option Addr, ∀ outl10 : Nat, ∀ outc11 : Nat, ∀ x12 : Int, ∀ h1 : Hp, I7 outa9 outl10 outc11 x12 h1 →
  ((decide (x12 < (maxI ((framesl2 : Nat) : Int) ((framesl5 : Nat) : Int)))) = true → (CallsH Try.prog 30 [.pointer (some ⟨p0mb, p0mo, none⟩), .int .i64 x12] h1 fun r13 h2 => ∃ there14 : Bool, r13 = .bool there14 ∧
  ((!there14) = true → (∀ h3 : Hp, h3 = new h2 (blk 3 [.int .i64 x12]) → appendN h3 3 1 8 [.int .i64 0] outa9 outl10 outc11 (some ⟨sz h2, 0, none⟩) 1 fun a15 l16 c17 h4 => I7 a15 l16 c17 (IntKind.wrap .i64 (x12 + 1)) h4 ∧
  m8 a15 l16 c17 (IntKind.wrap .i64 (x12 + 1)) h4 < m8 outa9 outl10 outc11 x12 h1)) ∧ ((!there14) = false → (CallsH Try.prog 30 [.pointer (some ⟨p1ob, p1oo, none⟩), .int .i64 x12] h2 fun r18 h5 => ∃ there19 : Bool, r18 = .bool there19 ∧
  ((!there19) = true → (∀ h6 : Hp, h6 = new h5 (blk 3 [.int .i64 x12]) → appendN h6 3 1 8 [.int .i64 0] outa9 outl10 outc11 (some ⟨sz h5, 0, none⟩) 1 fun a20 l21 c22 h7 => I7 a20 l21 c22 (IntKind.wrap .i64 (x12 + 1)) h7 ∧
  m8 a20 l21 c22 (IntKind.wrap .i64 (x12 + 1)) h7 < m8 outa9 outl10 outc11 x12 h1)) ∧ ((!there19) = false → (∃ framesa23 : Option Addr, ∃ framesl24 : Nat, ∃ framesc25 : Nat, cellAt h5 p0mb p0mo = some (.slice framesa23 framesl24 framesc25) ∧
  (0 : Int) ≤ x12 ∧ x12 < ((framesl24 : Nat) : Int) ∧ ∃ b26 : Nat, ∃ o27 : Nat, framesa23 = some ⟨b26, o27, none⟩ ∧ ∃ x28 : List Value, x28.length = 256 ∧ readAt h5 b26 (o27 + x12.toNat * 256) x28 ∧ ∃ framesa29 : Option Addr, ∃ framesl30 : Nat, ∃ framesc31 : Nat, cellAt h5 p1ob p1oo = some (.slice framesa29 framesl30 framesc31) ∧
  (0 : Int) ≤ x12 ∧ x12 < ((framesl30 : Nat) : Int) ∧ ∃ b32 : Nat, ∃ o33 : Nat, framesa29 = some ⟨b32, o33, none⟩ ∧ ∃ x34 : List Value, x34.length = 256 ∧ readAt h5 b32 (o33 + x12.toNat * 256) x34 ∧ ∃ us35 vs36 : List Int, us35.length = 256 ∧
  vs36.length = 256 ∧ x28 = us35.map (Value.int .u8) ∧ x34 = vs36.map (Value.int .u8) ∧ ((notIf false (us35 == vs36)) = true → (∀ h8 : Hp, h8 = new h5 (blk 3 [.int .i64 x12]) → appendN h8 3 1 8 [.int .i64 0] outa9 outl10 outc11 (some ⟨sz h5, 0, none⟩) 1 fun a37 l38 c39 h9 => I7 a37 l38 c39 (IntKind.wrap .i64 (x12 + 1)) h9 ∧
  m8 a37 l38 c39 (IntKind.wrap .i64 (x12 + 1)) h9 < m8 outa9 outl10 outc11 x12 h1)) ∧ ((notIf false (us35 == vs36)) = false → (I7 outa9 outl10 outc11 (IntKind.wrap .i64 (x12 + 1)) h5 ∧ m8 outa9 outl10 outc11 (IntKind.wrap .i64 (x12 + 1)) h5 < m8 outa9 outl10 outc11 x12 h1)))))))) ∧
  ((decide (x12 < (maxI ((framesl2 : Nat) : Int) ((framesl5 : Nat) : Int)))) = false → (R (.slice outa9 outl10 outc11) h1))
theorem phys_Mem_Differ.eq (p0mb p0mo : Nat) (p1ob p1oo : Nat) (h : Hp) (R : Value → Hp → Prop) : evBody Try.prog calls phys_Mem_Differ.hints Try.f12 [.ptr p0mb p0mo, .ptr p1ob p1oo] h R = phys_Mem_Differ.P p0mb p0mo p1ob p1oo h R := by kernel_rfl
theorem phys_Mem_Differ.calls (p0mb p0mo : Nat) (p1ob p1oo : Nat) (h : Hp) (R : Value → Hp → Prop) (hp : phys_Mem_Differ.P p0mb p0mo p1ob p1oo h R) : CallsH Try.prog 12 [.pointer (some ⟨p0mb, p0mo, none⟩), .pointer (some ⟨p1ob, p1oo, none⟩)] h R :=
  calls_of_body calls_ok Try.func12 (args := [.ptr p0mb p0mo, .ptr p1ob p1oo]) (by rw [phys_Mem_Differ.eq]; exact hp)
/-! ### phys_Mem_Byte: function 13 -/
def phys_Mem_Byte.hints : Hints := { loops := [], cuts := [], orders := [] }
def phys_Mem_Byte.P (p0mb p0mo : Nat) (p1addr : Int) (h : Hp) (R : Value → Hp → Prop) : Prop :=
  CallsH Try.prog 28 [.pointer (some ⟨p0mb, p0mo, none⟩), .int .u32 p1addr] h fun r1 h1 => ∃ atx2 : Option Addr, ∃ atx3 : Int, ∃ atx4 : Bool, r1 = .tuple #[.pointer atx2, .int .i64 atx3, .bool atx4] ∧
  ((!atx4) = true → (R (.tuple #[.int .u8 0, .bool false]) h1)) ∧ ((!atx4) = false → (∃ b5 : Nat, ∃ o6 : Nat, atx2 = some ⟨b5, o6, none⟩ ∧ (0 : Int) ≤ atx3 ∧ atx3 < ((256 : Nat) : Int) ∧ ∃ x7 : Int, cellAt h1 b5 (o6 + atx3.toNat * 1) = some (.int .u8 x7) ∧
  R (.tuple #[.int .u8 x7, .bool true]) h1))
theorem phys_Mem_Byte.eq (p0mb p0mo : Nat) (p1addr : Int) (h : Hp) (R : Value → Hp → Prop) : evBody Try.prog calls phys_Mem_Byte.hints Try.f13 [.ptr p0mb p0mo, .int .u32 p1addr] h R = phys_Mem_Byte.P p0mb p0mo p1addr h R := by kernel_rfl
theorem phys_Mem_Byte.calls (p0mb p0mo : Nat) (p1addr : Int) (h : Hp) (R : Value → Hp → Prop) (hp : phys_Mem_Byte.P p0mb p0mo p1addr h R) : CallsH Try.prog 13 [.pointer (some ⟨p0mb, p0mo, none⟩), .int .u32 p1addr] h R :=
  calls_of_body calls_ok Try.func13 (args := [.ptr p0mb p0mo, .int .u32 p1addr]) (by rw [phys_Mem_Byte.eq]; exact hp)
/-! ### phys_Mem_Word: function 14 -/
def phys_Mem_Word.hints : Hints := { loops := [], cuts := [(4, [6, 7], [])], orders := [] }
def phys_Mem_Word.P (p0mb p0mo : Nat) (p1addr : Int) (h : Hp) (R : Value → Hp → Prop) : Prop :=
  CallsH Try.prog 28 [.pointer (some ⟨p0mb, p0mo, none⟩), .int .u32 p1addr] h fun r1 h1 => ∃ atx2 : Option Addr, ∃ atx3 : Int, ∃ atx4 : Bool, r1 = .tuple #[.pointer atx2, .int .i64 atx3, .bool atx4] ∧
  ∃ I5 : Hp → Prop, (((!atx4) = true → (R (.tuple #[.int .u32 0, .bool false]) h1)) ∧ ((!atx4) = false → (4 ≠ (0 : Int) ∧ (((Int.tmod atx3 4) != 0) = true → (R (.tuple #[.int .u32 0, .bool false]) h1)) ∧
  (((Int.tmod atx3 4) != 0) = false → (I5 h1))))) ∧ ∀ h2 : Hp, I5 h2 → ∃ b6 : Nat, ∃ o7 : Nat, atx2 = some ⟨b6, o7, none⟩ ∧ ((false : Bool) = true → (false : Bool) = true) ∧ (0 : Int) ≤ (0 : Int) ∧ (0 : Int) ≤ ((256 : Nat) : Int) ∧
  ((256 : Nat) : Int) ≤ ((256 : Nat) : Int) ∧ ((256 : Nat) : Int) ≤ ((256 : Nat) : Int) ∧ CallsH Try.prog 31 [.slice (arrBase b6 o7 ((0 : Int)).toNat (((256 : Nat) : Int)).toNat 1) ((((256 : Nat) : Int)).toNat - ((0 : Int)).toNat) ((((256 : Nat) : Int)).toNat - ((0 : Int)).toNat), .int .i64 atx3] h2 fun r8 h3 => ∃ Get9 : Int, ∃ Get10 : Bool, r8 = .tuple #[.int .u32 Get9, .bool Get10] ∧
  R (.tuple #[.int .u32 Get9, .bool Get10]) h3
theorem phys_Mem_Word.eq (p0mb p0mo : Nat) (p1addr : Int) (h : Hp) (R : Value → Hp → Prop) : evBody Try.prog calls phys_Mem_Word.hints Try.f14 [.ptr p0mb p0mo, .int .u32 p1addr] h R = phys_Mem_Word.P p0mb p0mo p1addr h R := by kernel_rfl
theorem phys_Mem_Word.calls (p0mb p0mo : Nat) (p1addr : Int) (h : Hp) (R : Value → Hp → Prop) (hp : phys_Mem_Word.P p0mb p0mo p1addr h R) : CallsH Try.prog 14 [.pointer (some ⟨p0mb, p0mo, none⟩), .int .u32 p1addr] h R :=
  calls_of_body calls_ok Try.func14 (args := [.ptr p0mb p0mo, .int .u32 p1addr]) (by rw [phys_Mem_Word.eq]; exact hp)
/-! ### warderref00_SameInts: function 15 -/
def warderref00_SameInts.hints : Hints := { loops := [(4, [0, 1], [(5, (.one (.int .i64)))])], cuts := [], orders := [(6, [0, 0, 3, 7, 0, 0, 48, 112, 255], [0, 1, 2, 3, 4, 5, 6, 7, 8])] }
def warderref00_SameInts.P (p0aa : Option Addr) (p0al : Nat) (p0ac : Nat) (p1ba : Option Addr) (p1bl : Nat) (p1bc : Nat) (h : Hp) (R : Value → Hp → Prop) : Prop :=
  ((((p0al : Nat) : Int) != ((p1bl : Nat) : Int)) = true → (R (.bool false) h)) ∧ ((((p0al : Nat) : Int) != ((p1bl : Nat) : Int)) = false → (∃ I1 : Int → Hp → Prop, ∃ m2 : Int → Hp → Nat, I1 0 h ∧ ∀ i3 : Int, ∀ h1 : Hp, I1 i3 h1 →
  ((decide (i3 < ((p0al : Nat) : Int))) = true → ((0 : Int) ≤ i3 ∧ i3 < ((p0al : Nat) : Int) ∧ ∃ b4 : Nat, ∃ o5 : Nat, p0aa = some ⟨b4, o5, none⟩ ∧ ∃ x6 : Int, cellAt h1 b4 (o5 + i3.toNat * 1) = some (.int .i64 x6) ∧
  (0 : Int) ≤ i3 ∧ i3 < ((p1bl : Nat) : Int) ∧ ∃ b7 : Nat, ∃ o8 : Nat, p1ba = some ⟨b7, o8, none⟩ ∧ ∃ x9 : Int, cellAt h1 b7 (o8 + i3.toNat * 1) = some (.int .i64 x9) ∧ ((x6 != x9) = true → (R (.bool false) h1)) ∧
  ((x6 != x9) = false → (I1 (IntKind.wrap .i64 (i3 + 1)) h1 ∧ m2 (IntKind.wrap .i64 (i3 + 1)) h1 < m2 i3 h1)))) ∧ ((decide (i3 < ((p0al : Nat) : Int))) = false → (R (.bool true) h1))))
theorem warderref00_SameInts.eq (p0aa : Option Addr) (p0al : Nat) (p0ac : Nat) (p1ba : Option Addr) (p1bl : Nat) (p1bc : Nat) (h : Hp) (R : Value → Hp → Prop) : evBody Try.prog calls warderref00_SameInts.hints Try.f15 [.slice p0aa p0al p0ac, .slice p1ba p1bl p1bc] h R = warderref00_SameInts.P p0aa p0al p0ac p1ba p1bl p1bc h R := by kernel_rfl
theorem warderref00_SameInts.calls (p0aa : Option Addr) (p0al : Nat) (p0ac : Nat) (p1ba : Option Addr) (p1bl : Nat) (p1bc : Nat) (h : Hp) (R : Value → Hp → Prop) (hp : warderref00_SameInts.P p0aa p0al p0ac p1ba p1bl p1bc h R) : CallsH Try.prog 15 [.slice p0aa p0al p0ac, .slice p1ba p1bl p1bc] h R :=
  calls_of_body calls_ok Try.func15 (args := [.slice p0aa p0al p0ac, .slice p1ba p1bl p1bc]) (by rw [warderref00_SameInts.eq]; exact hp)
/-! ### warderlaw04_Great: function 16 -/
def warderlaw04_Great.hints : Hints := { loops := [(5, [0], [(3, (.one (.int .i64))), (4, (.one (.int .i64)))])], cuts := [], orders := [] }
def warderlaw04_Great.P (p0callsa : Option Addr) (p0callsl : Nat) (p0callsc : Nat) (h : Hp) (R : Value → Hp → Prop) : Prop :=
  ((decide (((p0callsl : Nat) : Int) > 60)) = true → (R (.bool true) h)) ∧ ((decide (((p0callsl : Nat) : Int) > 60)) = false → (∃ I1 : Int → Int → Hp → Prop, ∃ m2 : Int → Int → Hp → Nat, I1 0 0 h ∧ ∀ n3 : Int, ∀ i4 : Int, ∀ h1 : Hp, I1 n3 i4 h1 →
  ((decide (i4 < ((p0callsl : Nat) : Int))) = true → ((0 : Int) ≤ i4 ∧ i4 < ((p0callsl : Nat) : Int) ∧ ∃ b5 : Nat, ∃ o6 : Nat, p0callsa = some ⟨b5, o6, none⟩ ∧ ∃ Bytesa7 : Option Addr, ∃ Bytesl8 : Nat, ∃ Bytesc9 : Nat, cellAt h1 b5 (o6 + i4.toNat * 5 + 4) = some (.slice Bytesa7 Bytesl8 Bytesc9) ∧
  ((decide ((IntKind.wrap .i64 (n3 + ((Bytesl8 : Nat) : Int))) > 3000)) = true → (R (.bool true) h1)) ∧ ((decide ((IntKind.wrap .i64 (n3 + ((Bytesl8 : Nat) : Int))) > 3000)) = false → (I1 (IntKind.wrap .i64 (n3 + ((Bytesl8 : Nat) : Int))) (IntKind.wrap .i64 (i4 + 1)) h1 ∧
  m2 (IntKind.wrap .i64 (n3 + ((Bytesl8 : Nat) : Int))) (IntKind.wrap .i64 (i4 + 1)) h1 < m2 n3 i4 h1)))) ∧ ((decide (i4 < ((p0callsl : Nat) : Int))) = false → (R (.bool false) h1))))
theorem warderlaw04_Great.eq (p0callsa : Option Addr) (p0callsl : Nat) (p0callsc : Nat) (h : Hp) (R : Value → Hp → Prop) : evBody Try.prog calls warderlaw04_Great.hints Try.f16 [.slice p0callsa p0callsl p0callsc] h R = warderlaw04_Great.P p0callsa p0callsl p0callsc h R := by kernel_rfl
theorem warderlaw04_Great.calls (p0callsa : Option Addr) (p0callsl : Nat) (p0callsc : Nat) (h : Hp) (R : Value → Hp → Prop) (hp : warderlaw04_Great.P p0callsa p0callsl p0callsc h R) : CallsH Try.prog 16 [.slice p0callsa p0callsl p0callsc] h R :=
  calls_of_body calls_ok Try.func16 (args := [.slice p0callsa p0callsl p0callsc]) (by rw [warderlaw04_Great.eq]; exact hp)
/-! ### phys_Mem_Frames: function 17 -/
def phys_Mem_Frames.hints : Hints := { loops := [], cuts := [], orders := [] }
def phys_Mem_Frames.P (p0mb p0mo : Nat) (h : Hp) (R : Value → Hp → Prop) : Prop :=
  ∃ framesa1 : Option Addr, ∃ framesl2 : Nat, ∃ framesc3 : Nat, cellAt h p0mb p0mo = some (.slice framesa1 framesl2 framesc3) ∧ R (.int .i64 ((framesl2 : Nat) : Int)) h
theorem phys_Mem_Frames.eq (p0mb p0mo : Nat) (h : Hp) (R : Value → Hp → Prop) : evBody Try.prog calls phys_Mem_Frames.hints Try.f17 [.ptr p0mb p0mo] h R = phys_Mem_Frames.P p0mb p0mo h R := by kernel_rfl
theorem phys_Mem_Frames.calls (p0mb p0mo : Nat) (h : Hp) (R : Value → Hp → Prop) (hp : phys_Mem_Frames.P p0mb p0mo h R) : CallsH Try.prog 17 [.pointer (some ⟨p0mb, p0mo, none⟩)] h R :=
  calls_of_body calls_ok Try.func17 (args := [.ptr p0mb p0mo]) (by rw [phys_Mem_Frames.eq]; exact hp)
/-! ### warderref04_New: function 18 -/
def warderref04_New.hints : Hints := { loops := [], cuts := [], orders := [] }
def warderref04_New.P (p0frames : Int) (h : Hp) (R : Value → Hp → Prop) : Prop :=
  (0 : Int) ≤ (IntKind.wrap .i64 (256 * p0frames)) ∧ (IntKind.wrap .i64 (256 * p0frames)) ≤ (IntKind.wrap .i64 (256 * p0frames)) ∧ (IntKind.wrap .i64 (256 * p0frames)) ≤ 140737488355328 ∧ ((1 : Nat) : Int) * (IntKind.wrap .i64 (256 * p0frames)) ≤ 281474976710656 ∧
  (1 : Nat) = 1 ∧ ∀ h1 : Hp, h1 = new h (blk 5 (zeros [.int .u8 0] (IntKind.wrap .i64 (256 * p0frames)).toNat)) → ∀ h2 : Hp, h2 = new h1 (blk 51 [.slice (some ⟨sz h, 0, none⟩) ((IntKind.wrap .i64 (256 * p0frames)).toNat) ((IntKind.wrap .i64 (256 * p0frames)).toNat)]) →
  R (.pointer (some ⟨(sz h1), 0, none⟩)) h2
theorem warderref04_New.eq (p0frames : Int) (h : Hp) (R : Value → Hp → Prop) : evBody Try.prog calls warderref04_New.hints Try.f18 [.int .i64 p0frames] h R = warderref04_New.P p0frames h R := by kernel_rfl
theorem warderref04_New.calls (p0frames : Int) (h : Hp) (R : Value → Hp → Prop) (hp : warderref04_New.P p0frames h R) : CallsH Try.prog 18 [.int .i64 p0frames] h R :=
  calls_of_body calls_ok Try.func18 (args := [.int .i64 p0frames]) (by rw [warderref04_New.eq]; exact hp)
/-! ### warderlaw04_told: function 19 -/
def warderlaw04_told.hints : Hints := { loops := [(14, [1, 5, 7, 8], [(9, (.one (.int .i64)))]), (20, [7, 8], [(10, (.one (.int .i64)))])], cuts := [(11, [1, 5, 7, 8], [])], orders := [(3, [0, 0, 2, 0, 8, 24, 63, 0, 0, 256, 0, 1024, 3072, 8191, 16383, 32767], [0, 1, 2, 3, 4, 5, 7, 8, 9, 10, 11, 12, 6, 13, 14, 15]), (5, [0, 0, 2, 0, 8, 31, 0, 0, 128, 0, 512, 2047, 4095, 8191], [0, 1, 2, 3, 4, 6, 7, 8, 9, 10, 5, 11, 12, 13]), (9, [0, 1, 3, 7, 15, 31, 15, 79, 207, 463, 975, 1999, 4095, 8191], [0, 1, 2, 3, 4, 5, 6, 7, 8, 9, 10, 11, 12, 13]), (16, [0, 1, 3, 7, 0, 16, 48, 0, 240, 511, 1023], [0, 1, 2, 3, 4, 5, 6, 7, 8, 9, 10]), (18, [0, 1, 3, 7, 0, 16, 48, 0, 240, 0, 512, 0, 3584, 7680, 16383, 32767], [0, 1, 2, 3, 4, 5, 6, 7, 8, 9, 10, 11, 12, 13, 14, 15])] }
def warderlaw04_told.P (p0mb p0mo : Nat) (p1rb p1ro : Nat) (p2c_0 : Int) (p2c_1 : Int) (p2c_2 : Int) (p2c_3 : Int) (p2c_4a : Option Addr) (p2c_4l : Nat) (p2c_4c : Nat) (h : Hp) (R : Value → Hp → Prop) : Prop :=
  ∀ h1 : Hp, h1 = new h (blk 46 [.int .i64 p2c_0, .int .i64 p2c_1, .int .u32 p2c_2, .int .u32 p2c_3, .slice p2c_4a p2c_4l p2c_4c]) → ∃ What1 : Int, cellAt h1 (sz h) 0 = some (.int .i64 What1) ∧ ((What1 == 0) = true →
  (∃ Addr2 : Int, cellAt h1 (sz h) 2 = some (.int .u32 Addr2) ∧ ∃ Value3 : Int, cellAt h1 (sz h) 3 = some (.int .u32 Value3) ∧ ∃ Addr4 : Int, cellAt h1 (sz h) 2 = some (.int .u32 Addr4) ∧ ∃ Value5 : Int, cellAt h1 (sz h) 3 = some (.int .u32 Value5) ∧
  CallsH Try.prog 26 [.pointer (some ⟨p0mb, p0mo, none⟩), .int .u32 Addr2, .int .u8 (IntKind.wrap .u8 Value3)] h1 fun r6 h2 => ∃ PutByte7 : Bool, r6 = .bool PutByte7 ∧ cellAt h2 (sz h) 2 = some (.int .u32 Addr4) ∧
  cellAt h2 (sz h) 3 = some (.int .u32 Value5) ∧ CallsH Try.prog 32 [.pointer (some ⟨p1rb, p1ro, none⟩), .int .u32 Addr4, .int .u8 (IntKind.wrap .u8 Value5)] h2 fun r8 h3 => ∃ PutByte9 : Bool, r8 = .bool PutByte9 ∧
  R (.bool (notIf true (PutByte7 == PutByte9))) h3)) ∧ ((What1 == 0) = false → (((What1 == 1) = true → (∃ Addr10 : Int, cellAt h1 (sz h) 2 = some (.int .u32 Addr10) ∧ ∃ Value11 : Int, cellAt h1 (sz h) 3 = some (.int .u32 Value11) ∧
  ∃ Addr12 : Int, cellAt h1 (sz h) 2 = some (.int .u32 Addr12) ∧ ∃ Value13 : Int, cellAt h1 (sz h) 3 = some (.int .u32 Value13) ∧ CallsH Try.prog 11 [.pointer (some ⟨p0mb, p0mo, none⟩), .int .u32 Addr10, .int .u32 Value11] h1 fun r14 h4 => ∃ PutWord15 : Bool, r14 = .bool PutWord15 ∧
  cellAt h4 (sz h) 2 = some (.int .u32 Addr12) ∧ cellAt h4 (sz h) 3 = some (.int .u32 Value13) ∧ CallsH Try.prog 33 [.pointer (some ⟨p1rb, p1ro, none⟩), .int .u32 Addr12, .int .u32 Value13] h4 fun r16 h5 => ∃ PutWord17 : Bool, r16 = .bool PutWord17 ∧
  R (.bool (notIf true (PutWord15 == PutWord17))) h5)) ∧ ((What1 == 1) = false → (((What1 == 2) = true → (∃ Bytesa18 : Option Addr, ∃ Bytesl19 : Nat, ∃ Bytesc20 : Nat, cellAt h1 (sz h) 4 = some (.slice Bytesa18 Bytesl19 Bytesc20) ∧
  CallsH Try.prog 24 [.slice Bytesa18 Bytesl19 Bytesc20] h1 fun r21 h6 => ∃ CopyBytesa22 : Option Addr, ∃ CopyBytesl23 : Nat, ∃ CopyBytesc24 : Nat, r21 = .slice CopyBytesa22 CopyBytesl23 CopyBytesc24 ∧
  ∃ N25 : Int, cellAt h6 (sz h) 1 = some (.int .i64 N25) ∧ CallsH Try.prog 25 [.pointer (some ⟨p0mb, p0mo, none⟩), .int .i64 N25, .slice CopyBytesa22 CopyBytesl23 CopyBytesc24] h6 fun r26 h7 => ∃ Fill27 : Int, r26 = .int .i64 Fill27 ∧
  ∃ I28 : Hp → Prop, (∃ N29 : Int, cellAt h7 (sz h) 1 = some (.int .i64 N29) ∧ ((decide (N29 < 0)) = true → (R (.bool (Fill27 == 11)) h7)) ∧ ((decide (N29 < 0)) = false → (∃ N30 : Int, cellAt h7 (sz h) 1 = some (.int .i64 N30) ∧
  ∃ Ba31 : Option Addr, ∃ Bl32 : Nat, ∃ Bc33 : Nat, cellAt h7 p1rb p1ro = some (.slice Ba31 Bl32 Bc33) ∧ 256 ≠ (0 : Int) ∧ ((decide (N30 ≥ (IntKind.wrap .i64 (Int.tdiv ((Bl32 : Nat) : Int) 256)))) = true →
  (R (.bool (Fill27 == 11)) h7)) ∧ ((decide (N30 ≥ (IntKind.wrap .i64 (Int.tdiv ((Bl32 : Nat) : Int) 256)))) = false → (I28 h7))))) ∧ ∀ h8 : Hp, I28 h8 → ∃ Bytesa34 : Option Addr, ∃ Bytesl35 : Nat, ∃ Bytesc36 : Nat, cellAt h8 (sz h) 4 = some (.slice Bytesa34 Bytesl35 Bytesc36) ∧
  ((decide (((Bytesl35 : Nat) : Int) > 256)) = true → (R (.bool (Fill27 == 14)) h8)) ∧ ((decide (((Bytesl35 : Nat) : Int) > 256)) = false → (∃ I37 : Int → Hp → Prop, ∃ m38 : Int → Hp → Nat, I37 0 h8 ∧
  ∀ i39 : Int, ∀ h9 : Hp, I37 i39 h9 → ((decide (i39 < 256)) = true → (∃ Ba40 : Option Addr, ∃ Bl41 : Nat, ∃ Bc42 : Nat, cellAt h9 p1rb p1ro = some (.slice Ba40 Bl41 Bc42) ∧ ∃ N43 : Int, cellAt h9 (sz h) 1 = some (.int .i64 N43) ∧
  (0 : Int) ≤ (IntKind.wrap .i64 ((IntKind.wrap .i64 (256 * N43)) + i39)) ∧ (IntKind.wrap .i64 ((IntKind.wrap .i64 (256 * N43)) + i39)) < ((Bl41 : Nat) : Int) ∧ ∃ b44 : Nat, ∃ o45 : Nat, Ba40 = some ⟨b44, o45, none⟩ ∧
  truly true ∧ ∃ T46 : TypeId, ∃ l47 : List Value, bk h9 b44 = some (blk T46 l47) ∧ (o45 + (IntKind.wrap .i64 ((IntKind.wrap .i64 (256 * N43)) + i39)).toNat * 1) + 1 ≤ l47.length ∧ ∀ h10 : Hp, h10 = upd h9 b44 T46 (writeAt l47 (o45 + (IntKind.wrap .i64 ((IntKind.wrap .i64 (256 * N43)) + i39)).toNat * 1) [.int .u8 0]) →
  ∃ Bytesa48 : Option Addr, ∃ Bytesl49 : Nat, ∃ Bytesc50 : Nat, cellAt h10 (sz h) 4 = some (.slice Bytesa48 Bytesl49 Bytesc50) ∧ ((decide (i39 < ((Bytesl49 : Nat) : Int))) = true → (∃ Ba51 : Option Addr, ∃ Bl52 : Nat, ∃ Bc53 : Nat, cellAt h10 p1rb p1ro = some (.slice Ba51 Bl52 Bc53) ∧
  ∃ N54 : Int, cellAt h10 (sz h) 1 = some (.int .i64 N54) ∧ ∃ Bytesa55 : Option Addr, ∃ Bytesl56 : Nat, ∃ Bytesc57 : Nat, cellAt h10 (sz h) 4 = some (.slice Bytesa55 Bytesl56 Bytesc57) ∧ (0 : Int) ≤ i39 ∧
  i39 < ((Bytesl56 : Nat) : Int) ∧ ∃ b58 : Nat, ∃ o59 : Nat, Bytesa55 = some ⟨b58, o59, none⟩ ∧ ∃ x60 : Int, cellAt h10 b58 (o59 + i39.toNat * 1) = some (.int .u8 x60) ∧ (0 : Int) ≤ (IntKind.wrap .i64 ((IntKind.wrap .i64 (256 * N54)) + i39)) ∧
  (IntKind.wrap .i64 ((IntKind.wrap .i64 (256 * N54)) + i39)) < ((Bl52 : Nat) : Int) ∧ ∃ b61 : Nat, ∃ o62 : Nat, Ba51 = some ⟨b61, o62, none⟩ ∧ truly true ∧ ∃ T63 : TypeId, ∃ l64 : List Value, bk h10 b61 = some (blk T63 l64) ∧
  (o62 + (IntKind.wrap .i64 ((IntKind.wrap .i64 (256 * N54)) + i39)).toNat * 1) + 1 ≤ l64.length ∧ ∀ h11 : Hp, h11 = upd h10 b61 T63 (writeAt l64 (o62 + (IntKind.wrap .i64 ((IntKind.wrap .i64 (256 * N54)) + i39)).toNat * 1) [.int .u8 x60]) →
  I37 (IntKind.wrap .i64 (i39 + 1)) h11 ∧ m38 (IntKind.wrap .i64 (i39 + 1)) h11 < m38 i39 h9)) ∧ ((decide (i39 < ((Bytesl49 : Nat) : Int))) = false → (I37 (IntKind.wrap .i64 (i39 + 1)) h10 ∧ m38 (IntKind.wrap .i64 (i39 + 1)) h10 < m38 i39 h9)))) ∧
  ((decide (i39 < 256)) = false → (∃ I65 : Int → Hp → Prop, ∃ m66 : Int → Hp → Nat, I65 0 h9 ∧ ∀ i67 : Int, ∀ h12 : Hp, I65 i67 h12 → ((decide (i67 < ((CopyBytesl23 : Nat) : Int))) = true → ((0 : Int) ≤ i67 ∧
  i67 < ((CopyBytesl23 : Nat) : Int) ∧ ∃ b68 : Nat, ∃ o69 : Nat, CopyBytesa22 = some ⟨b68, o69, none⟩ ∧ ∃ x70 : Int, cellAt h12 b68 (o69 + i67.toNat * 1) = some (.int .u8 x70) ∧ (0 : Int) ≤ i67 ∧ i67 < ((CopyBytesl23 : Nat) : Int) ∧
  ∃ b71 : Nat, ∃ o72 : Nat, CopyBytesa22 = some ⟨b71, o72, none⟩ ∧ truly true ∧ ∃ T73 : TypeId, ∃ l74 : List Value, bk h12 b71 = some (blk T73 l74) ∧ (o72 + i67.toNat * 1) + 1 ≤ l74.length ∧ ∀ h13 : Hp, h13 = upd h12 b71 T73 (writeAt l74 (o72 + i67.toNat * 1) [.int .u8 (IntKind.wrap .u8 (x70 + 1))]) →
  I65 (IntKind.wrap .i64 (i67 + 1)) h13 ∧ m66 (IntKind.wrap .i64 (i67 + 1)) h13 < m66 i67 h12)) ∧ ((decide (i67 < ((CopyBytesl23 : Nat) : Int))) = false → (R (.bool (Fill27 == 0)) h12)))))))) ∧ ((What1 == 2) = false →
  (R (.bool true) h1))))))
theorem warderlaw04_told.eq (p0mb p0mo : Nat) (p1rb p1ro : Nat) (p2c_0 : Int) (p2c_1 : Int) (p2c_2 : Int) (p2c_3 : Int) (p2c_4a : Option Addr) (p2c_4l : Nat) (p2c_4c : Nat) (h : Hp) (R : Value → Hp → Prop) : evBody Try.prog calls warderlaw04_told.hints Try.f19 [.ptr p0mb p0mo, .ptr p1rb p1ro, .agg [.int .i64 p2c_0, .int .i64 p2c_1, .int .u32 p2c_2, .int .u32 p2c_3, .slice p2c_4a p2c_4l p2c_4c]] h R = warderlaw04_told.P p0mb p0mo p1rb p1ro p2c_0 p2c_1 p2c_2 p2c_3 p2c_4a p2c_4l p2c_4c h R := by kernel_rfl
theorem warderlaw04_told.calls (p0mb p0mo : Nat) (p1rb p1ro : Nat) (p2c_0 : Int) (p2c_1 : Int) (p2c_2 : Int) (p2c_3 : Int) (p2c_4a : Option Addr) (p2c_4l : Nat) (p2c_4c : Nat) (h : Hp) (R : Value → Hp → Prop) (hp : warderlaw04_told.P p0mb p0mo p1rb p1ro p2c_0 p2c_1 p2c_2 p2c_3 p2c_4a p2c_4l p2c_4c h R) : CallsH Try.prog 19 [.pointer (some ⟨p0mb, p0mo, none⟩), .pointer (some ⟨p1rb, p1ro, none⟩), .agg #[.int .i64 p2c_0, .int .i64 p2c_1, .int .u32 p2c_2, .int .u32 p2c_3, .slice p2c_4a p2c_4l p2c_4c]] h R :=
  calls_of_body calls_ok Try.func19 (args := [.ptr p0mb p0mo, .ptr p1rb p1ro, .agg [.int .i64 p2c_0, .int .i64 p2c_1, .int .u32 p2c_2, .int .u32 p2c_3, .slice p2c_4a p2c_4l p2c_4c]]) (by rw [warderlaw04_told.eq]; exact hp)
/-! ### warderref04_Mem_Byte: function 20 -/
def warderref04_Mem_Byte.hints : Hints := { loops := [], cuts := [], orders := [] }
def warderref04_Mem_Byte.P (p0mb p0mo : Nat) (p1addr : Int) (h : Hp) (R : Value → Hp → Prop) : Prop :=
  ∃ Ba1 : Option Addr, ∃ Bl2 : Nat, ∃ Bc3 : Nat, cellAt h p0mb p0mo = some (.slice Ba1 Bl2 Bc3) ∧ ((decide ((IntKind.wrap .i64 p1addr) ≥ ((Bl2 : Nat) : Int))) = true → (R (.tuple #[.int .u8 0, .bool false]) h)) ∧
  ((decide ((IntKind.wrap .i64 p1addr) ≥ ((Bl2 : Nat) : Int))) = false → (∃ Ba4 : Option Addr, ∃ Bl5 : Nat, ∃ Bc6 : Nat, cellAt h p0mb p0mo = some (.slice Ba4 Bl5 Bc6) ∧ (0 : Int) ≤ p1addr ∧ p1addr < ((Bl5 : Nat) : Int) ∧
  ∃ b7 : Nat, ∃ o8 : Nat, Ba4 = some ⟨b7, o8, none⟩ ∧ ∃ x9 : Int, cellAt h b7 (o8 + p1addr.toNat * 1) = some (.int .u8 x9) ∧ R (.tuple #[.int .u8 x9, .bool true]) h))
theorem warderref04_Mem_Byte.eq (p0mb p0mo : Nat) (p1addr : Int) (h : Hp) (R : Value → Hp → Prop) : evBody Try.prog calls warderref04_Mem_Byte.hints Try.f20 [.ptr p0mb p0mo, .int .u32 p1addr] h R = warderref04_Mem_Byte.P p0mb p0mo p1addr h R := by kernel_rfl
theorem warderref04_Mem_Byte.calls (p0mb p0mo : Nat) (p1addr : Int) (h : Hp) (R : Value → Hp → Prop) (hp : warderref04_Mem_Byte.P p0mb p0mo p1addr h R) : CallsH Try.prog 20 [.pointer (some ⟨p0mb, p0mo, none⟩), .int .u32 p1addr] h R :=
  calls_of_body calls_ok Try.func20 (args := [.ptr p0mb p0mo, .int .u32 p1addr]) (by rw [warderref04_Mem_Byte.eq]; exact hp)
/-! ### warderref04_Mem_Word: function 21 -/
def warderref04_Mem_Word.hints : Hints := { loops := [], cuts := [], orders := [] }
def warderref04_Mem_Word.P (p0mb p0mo : Nat) (p1addr : Int) (h : Hp) (R : Value → Hp → Prop) : Prop :=
  4 ≠ (0 : Int) ∧ (((Int.tmod p1addr 4) != 0) = true → (R (.tuple #[.int .u32 0, .bool false]) h)) ∧ (((Int.tmod p1addr 4) != 0) = false → (∃ Ba1 : Option Addr, ∃ Bl2 : Nat, ∃ Bc3 : Nat, cellAt h p0mb p0mo = some (.slice Ba1 Bl2 Bc3) ∧
  CallsH Try.prog 34 [.slice Ba1 Bl2 Bc3, .int .i64 (IntKind.wrap .i64 p1addr)] h fun r4 h1 => ∃ Get5 : Int, ∃ Get6 : Bool, r4 = .tuple #[.int .u32 Get5, .bool Get6] ∧ R (.tuple #[.int .u32 Get5, .bool Get6]) h1))
theorem warderref04_Mem_Word.eq (p0mb p0mo : Nat) (p1addr : Int) (h : Hp) (R : Value → Hp → Prop) : evBody Try.prog calls warderref04_Mem_Word.hints Try.f21 [.ptr p0mb p0mo, .int .u32 p1addr] h R = warderref04_Mem_Word.P p0mb p0mo p1addr h R := by kernel_rfl
theorem warderref04_Mem_Word.calls (p0mb p0mo : Nat) (p1addr : Int) (h : Hp) (R : Value → Hp → Prop) (hp : warderref04_Mem_Word.P p0mb p0mo p1addr h R) : CallsH Try.prog 21 [.pointer (some ⟨p0mb, p0mo, none⟩), .int .u32 p1addr] h R :=
  calls_of_body calls_ok Try.func21 (args := [.ptr p0mb p0mo, .int .u32 p1addr]) (by rw [warderref04_Mem_Word.eq]; exact hp)
/-! ### phys_Mem_Frame: function 22 -/
def phys_Mem_Frame.hints : Hints := { loops := [], cuts := [], orders := [] }
def phys_Mem_Frame.P (p0mb p0mo : Nat) (p1n : Int) (h : Hp) (R : Value → Hp → Prop) : Prop :=
  CallsH Try.prog 30 [.pointer (some ⟨p0mb, p0mo, none⟩), .int .i64 p1n] h fun r1 h1 => ∃ there2 : Bool, r1 = .bool there2 ∧ ((!there2) = true → (R (.tuple #[.slice none 0 0, .int .i64 11]) h1)) ∧ ((!there2) = false →
  (∃ framesa3 : Option Addr, ∃ framesl4 : Nat, ∃ framesc5 : Nat, cellAt h1 p0mb p0mo = some (.slice framesa3 framesl4 framesc5) ∧ (0 : Int) ≤ p1n ∧ p1n < ((framesl4 : Nat) : Int) ∧ ∃ b6 : Nat, ∃ o7 : Nat, framesa3 = some ⟨b6, o7, none⟩ ∧
  ((false : Bool) = true → (false : Bool) = true) ∧ (0 : Int) ≤ (0 : Int) ∧ (0 : Int) ≤ ((256 : Nat) : Int) ∧ ((256 : Nat) : Int) ≤ ((256 : Nat) : Int) ∧ ((256 : Nat) : Int) ≤ ((256 : Nat) : Int) ∧ CallsH Try.prog 35 [.slice (arrBase b6 (o7 + p1n.toNat * 256) ((0 : Int)).toNat (((256 : Nat) : Int)).toNat 1) ((((256 : Nat) : Int)).toNat - ((0 : Int)).toNat) ((((256 : Nat) : Int)).toNat - ((0 : Int)).toNat)] h1 fun r8 h2 => ∃ Clonea9 : Option Addr, ∃ Clonel10 : Nat, ∃ Clonec11 : Nat, r8 = .slice Clonea9 Clonel10 Clonec11 ∧
  R (.tuple #[.slice Clonea9 Clonel10 Clonec11, .int .i64 0]) h2))
theorem phys_Mem_Frame.eq (p0mb p0mo : Nat) (p1n : Int) (h : Hp) (R : Value → Hp → Prop) : evBody Try.prog calls phys_Mem_Frame.hints Try.f22 [.ptr p0mb p0mo, .int .i64 p1n] h R = phys_Mem_Frame.P p0mb p0mo p1n h R := by kernel_rfl
theorem phys_Mem_Frame.calls (p0mb p0mo : Nat) (p1n : Int) (h : Hp) (R : Value → Hp → Prop) (hp : phys_Mem_Frame.P p0mb p0mo p1n h R) : CallsH Try.prog 22 [.pointer (some ⟨p0mb, p0mo, none⟩), .int .i64 p1n] h R :=
  calls_of_body calls_ok Try.func22 (args := [.ptr p0mb p0mo, .int .i64 p1n]) (by rw [phys_Mem_Frame.eq]; exact hp)
/-! ### warderref00_SameBytes: function 23 -/
def warderref00_SameBytes.hints : Hints := { loops := [(4, [0, 1], [(5, (.one (.int .i64)))])], cuts := [], orders := [(6, [0, 0, 3, 7, 0, 0, 48, 112, 255], [0, 1, 2, 3, 4, 5, 6, 7, 8])] }
def warderref00_SameBytes.P (p0aa : Option Addr) (p0al : Nat) (p0ac : Nat) (p1ba : Option Addr) (p1bl : Nat) (p1bc : Nat) (h : Hp) (R : Value → Hp → Prop) : Prop :=
  ((((p0al : Nat) : Int) != ((p1bl : Nat) : Int)) = true → (R (.bool false) h)) ∧ ((((p0al : Nat) : Int) != ((p1bl : Nat) : Int)) = false → (∃ I1 : Int → Hp → Prop, ∃ m2 : Int → Hp → Nat, I1 0 h ∧ ∀ i3 : Int, ∀ h1 : Hp, I1 i3 h1 →
  ((decide (i3 < ((p0al : Nat) : Int))) = true → ((0 : Int) ≤ i3 ∧ i3 < ((p0al : Nat) : Int) ∧ ∃ b4 : Nat, ∃ o5 : Nat, p0aa = some ⟨b4, o5, none⟩ ∧ ∃ x6 : Int, cellAt h1 b4 (o5 + i3.toNat * 1) = some (.int .u8 x6) ∧
  (0 : Int) ≤ i3 ∧ i3 < ((p1bl : Nat) : Int) ∧ ∃ b7 : Nat, ∃ o8 : Nat, p1ba = some ⟨b7, o8, none⟩ ∧ ∃ x9 : Int, cellAt h1 b7 (o8 + i3.toNat * 1) = some (.int .u8 x9) ∧ ((x6 != x9) = true → (R (.bool false) h1)) ∧
  ((x6 != x9) = false → (I1 (IntKind.wrap .i64 (i3 + 1)) h1 ∧ m2 (IntKind.wrap .i64 (i3 + 1)) h1 < m2 i3 h1)))) ∧ ((decide (i3 < ((p0al : Nat) : Int))) = false → (R (.bool true) h1))))
theorem warderref00_SameBytes.eq (p0aa : Option Addr) (p0al : Nat) (p0ac : Nat) (p1ba : Option Addr) (p1bl : Nat) (p1bc : Nat) (h : Hp) (R : Value → Hp → Prop) : evBody Try.prog calls warderref00_SameBytes.hints Try.f23 [.slice p0aa p0al p0ac, .slice p1ba p1bl p1bc] h R = warderref00_SameBytes.P p0aa p0al p0ac p1ba p1bl p1bc h R := by kernel_rfl
theorem warderref00_SameBytes.calls (p0aa : Option Addr) (p0al : Nat) (p0ac : Nat) (p1ba : Option Addr) (p1bl : Nat) (p1bc : Nat) (h : Hp) (R : Value → Hp → Prop) (hp : warderref00_SameBytes.P p0aa p0al p0ac p1ba p1bl p1bc h R) : CallsH Try.prog 23 [.slice p0aa p0al p0ac, .slice p1ba p1bl p1bc] h R :=
  calls_of_body calls_ok Try.func23 (args := [.slice p0aa p0al p0ac, .slice p1ba p1bl p1bc]) (by rw [warderref00_SameBytes.eq]; exact hp)
/-! ### warderref00_CopyBytes: function 24 -/
def warderref00_CopyBytes.hints : Hints := { loops := [], cuts := [], orders := [] }
def warderref00_CopyBytes.P (p0ba : Option Addr) (p0bl : Nat) (p0bc : Nat) (h : Hp) (R : Value → Hp → Prop) : Prop :=
  ∀ h1 : Hp, h1 = new h (blk 5 []) → appendN h1 5 1 1 [.int .u8 0] (some ⟨sz h, 0, none⟩) 0 0 p0ba p0bl fun a1 l2 c3 h2 => R (.slice a1 l2 c3) h2
theorem warderref00_CopyBytes.eq (p0ba : Option Addr) (p0bl : Nat) (p0bc : Nat) (h : Hp) (R : Value → Hp → Prop) : evBody Try.prog calls warderref00_CopyBytes.hints Try.f24 [.slice p0ba p0bl p0bc] h R = warderref00_CopyBytes.P p0ba p0bl p0bc h R := by kernel_rfl
theorem warderref00_CopyBytes.calls (p0ba : Option Addr) (p0bl : Nat) (p0bc : Nat) (h : Hp) (R : Value → Hp → Prop) (hp : warderref00_CopyBytes.P p0ba p0bl p0bc h R) : CallsH Try.prog 24 [.slice p0ba p0bl p0bc] h R :=
  calls_of_body calls_ok Try.func24 (args := [.slice p0ba p0bl p0bc]) (by rw [warderref00_CopyBytes.eq]; exact hp)
/-! ### phys_Mem_Fill: function 25 -/
def phys_Mem_Fill.hints : Hints := { loops := [], cuts := [], orders := [(7, [0, 1, 3, 7, 0, 0, 63, 127], [0, 1, 2, 3, 4, 5, 6, 7])] }
def phys_Mem_Fill.P (p0mb p0mo : Nat) (p1n : Int) (p2ba : Option Addr) (p2bl : Nat) (p2bc : Nat) (h : Hp) (R : Value → Hp → Prop) : Prop :=
  CallsH Try.prog 30 [.pointer (some ⟨p0mb, p0mo, none⟩), .int .i64 p1n] h fun r1 h1 => ∃ there2 : Bool, r1 = .bool there2 ∧ ((!there2) = true → (R (.int .i64 11) h1)) ∧ ((!there2) = false → (((decide (((p2bl : Nat) : Int) > 256)) = true →
  (R (.int .i64 14) h1)) ∧ ((decide (((p2bl : Nat) : Int) > 256)) = false → (∀ h2 : Hp, h2 = new h1 (blk 64 (List.replicate 256 (.int .u8 0))) → ((false : Bool) = true → (false : Bool) = true) ∧ (0 : Int) ≤ (0 : Int) ∧
  (0 : Int) ≤ ((256 : Nat) : Int) ∧ ((256 : Nat) : Int) ≤ ((256 : Nat) : Int) ∧ ((256 : Nat) : Int) ≤ ((256 : Nat) : Int) ∧ copyN h2 1 (arrBase (sz h1) 0 ((0 : Int)).toNat (((256 : Nat) : Int)).toNat 1) ((((256 : Nat) : Int)).toNat - ((0 : Int)).toNat) p2ba p2bl fun n3 h3 => ∃ framesa4 : Option Addr, ∃ framesl5 : Nat, ∃ framesc6 : Nat, cellAt h3 p0mb p0mo = some (.slice framesa4 framesl5 framesc6) ∧
  ∃ x7 : List Value, x7.length = 256 ∧ readAt h3 (sz h1) 0 x7 ∧ (0 : Int) ≤ p1n ∧ p1n < ((framesl5 : Nat) : Int) ∧ ∃ b8 : Nat, ∃ o9 : Nat, framesa4 = some ⟨b8, o9, none⟩ ∧ lenIs x7 256 (truly (oneCells x7) ∧
  ∃ T10 : TypeId, ∃ l11 : List Value, bk h3 b8 = some (blk T10 l11) ∧ (o9 + p1n.toNat * 256) + x7.length ≤ l11.length ∧ ∀ h4 : Hp, h4 = upd h3 b8 T10 (writeAt l11 (o9 + p1n.toNat * 256) x7) → R (.int .i64 0) h4)))))
theorem phys_Mem_Fill.eq (p0mb p0mo : Nat) (p1n : Int) (p2ba : Option Addr) (p2bl : Nat) (p2bc : Nat) (h : Hp) (R : Value → Hp → Prop) : evBody Try.prog calls phys_Mem_Fill.hints Try.f25 [.ptr p0mb p0mo, .int .i64 p1n, .slice p2ba p2bl p2bc] h R = phys_Mem_Fill.P p0mb p0mo p1n p2ba p2bl p2bc h R := by kernel_rfl
theorem phys_Mem_Fill.calls (p0mb p0mo : Nat) (p1n : Int) (p2ba : Option Addr) (p2bl : Nat) (p2bc : Nat) (h : Hp) (R : Value → Hp → Prop) (hp : phys_Mem_Fill.P p0mb p0mo p1n p2ba p2bl p2bc h R) : CallsH Try.prog 25 [.pointer (some ⟨p0mb, p0mo, none⟩), .int .i64 p1n, .slice p2ba p2bl p2bc] h R :=
  calls_of_body calls_ok Try.func25 (args := [.ptr p0mb p0mo, .int .i64 p1n, .slice p2ba p2bl p2bc]) (by rw [phys_Mem_Fill.eq]; exact hp)
/-! ### phys_Mem_PutByte: function 26 -/
def phys_Mem_PutByte.hints : Hints := { loops := [], cuts := [], orders := [] }
def phys_Mem_PutByte.P (p0mb p0mo : Nat) (p1addr : Int) (p2b : Int) (h : Hp) (R : Value → Hp → Prop) : Prop :=
  CallsH Try.prog 28 [.pointer (some ⟨p0mb, p0mo, none⟩), .int .u32 p1addr] h fun r1 h1 => ∃ atx2 : Option Addr, ∃ atx3 : Int, ∃ atx4 : Bool, r1 = .tuple #[.pointer atx2, .int .i64 atx3, .bool atx4] ∧
  ((atx4) = true → (∃ b5 : Nat, ∃ o6 : Nat, atx2 = some ⟨b5, o6, none⟩ ∧ (0 : Int) ≤ atx3 ∧ atx3 < ((256 : Nat) : Int) ∧ truly true ∧ ∃ T7 : TypeId, ∃ l8 : List Value, bk h1 b5 = some (blk T7 l8) ∧ (o6 + atx3.toNat * 1) + 1 ≤ l8.length ∧
  ∀ h2 : Hp, h2 = upd h1 b5 T7 (writeAt l8 (o6 + atx3.toNat * 1) [.int .u8 p2b]) → R (.bool atx4) h2)) ∧ ((atx4) = false → (R (.bool atx4) h1))
theorem phys_Mem_PutByte.eq (p0mb p0mo : Nat) (p1addr : Int) (p2b : Int) (h : Hp) (R : Value → Hp → Prop) : evBody Try.prog calls phys_Mem_PutByte.hints Try.f26 [.ptr p0mb p0mo, .int .u32 p1addr, .int .u8 p2b] h R = phys_Mem_PutByte.P p0mb p0mo p1addr p2b h R := by kernel_rfl
theorem phys_Mem_PutByte.calls (p0mb p0mo : Nat) (p1addr : Int) (p2b : Int) (h : Hp) (R : Value → Hp → Prop) (hp : phys_Mem_PutByte.P p0mb p0mo p1addr p2b h R) : CallsH Try.prog 26 [.pointer (some ⟨p0mb, p0mo, none⟩), .int .u32 p1addr, .int .u8 p2b] h R :=
  calls_of_body calls_ok Try.func26 (args := [.ptr p0mb p0mo, .int .u32 p1addr, .int .u8 p2b]) (by rw [phys_Mem_PutByte.eq]; exact hp)
/-! ### slices_Clone: function 27 -/
def slices_Clone.hints : Hints := { loops := [], cuts := [], orders := [] }
def slices_Clone.P (p0sa : Option Addr) (p0sl : Nat) (p0sc : Nat) (h : Hp) (R : Value → Hp → Prop) : Prop :=
  ((notIf true p0sa.isNone) = true → (R (.slice none 0 0) h)) ∧ ((notIf true p0sa.isNone) = false → (∀ h1 : Hp, h1 = new h (blk 64 []) → appendN h1 64 256 256 (List.replicate 256 (.int .u8 0)) (some ⟨sz h, 0, none⟩) 0 0 p0sa p0sl fun a1 l2 c3 h2 => R (.slice a1 l2 c3) h2))
theorem slices_Clone.eq (p0sa : Option Addr) (p0sl : Nat) (p0sc : Nat) (h : Hp) (R : Value → Hp → Prop) : evBody Try.prog calls slices_Clone.hints Try.f27 [.slice p0sa p0sl p0sc] h R = slices_Clone.P p0sa p0sl p0sc h R := by kernel_rfl
theorem slices_Clone.calls (p0sa : Option Addr) (p0sl : Nat) (p0sc : Nat) (h : Hp) (R : Value → Hp → Prop) (hp : slices_Clone.P p0sa p0sl p0sc h R) : CallsH Try.prog 27 [.slice p0sa p0sl p0sc] h R :=
  calls_of_body calls_ok Try.func27 (args := [.slice p0sa p0sl p0sc]) (by rw [slices_Clone.eq]; exact hp)
/-! ### phys_Mem_at: function 28 -/
def phys_Mem_at.hints : Hints := { loops := [], cuts := [], orders := [] }
def phys_Mem_at.P (p0mb p0mo : Nat) (p1addr : Int) (h : Hp) (R : Value → Hp → Prop) : Prop :=
  256 ≠ (0 : Int) ∧ ∃ framesa1 : Option Addr, ∃ framesl2 : Nat, ∃ framesc3 : Nat, cellAt h p0mb p0mo = some (.slice framesa1 framesl2 framesc3) ∧ ((decide ((IntKind.wrap .i64 (IntKind.wrap .u32 (Int.tdiv p1addr 256))) ≥ ((framesl2 : Nat) : Int))) = true →
  (R (.tuple #[.pointer none, .int .i64 0, .bool false]) h)) ∧ ((decide ((IntKind.wrap .i64 (IntKind.wrap .u32 (Int.tdiv p1addr 256))) ≥ ((framesl2 : Nat) : Int))) = false → (∃ framesa4 : Option Addr, ∃ framesl5 : Nat, ∃ framesc6 : Nat, cellAt h p0mb p0mo = some (.slice framesa4 framesl5 framesc6) ∧
  (0 : Int) ≤ (IntKind.wrap .i64 (IntKind.wrap .u32 (Int.tdiv p1addr 256))) ∧ (IntKind.wrap .i64 (IntKind.wrap .u32 (Int.tdiv p1addr 256))) < ((framesl5 : Nat) : Int) ∧ ∃ b7 : Nat, ∃ o8 : Nat, framesa4 = some ⟨b7, o8, none⟩ ∧
  256 ≠ (0 : Int) ∧ R (.tuple #[.pointer (some ⟨b7, o8 + (IntKind.wrap .i64 (IntKind.wrap .u32 (Int.tdiv p1addr 256))).toNat * 256, none⟩), .int .i64 (IntKind.wrap .i64 (Int.tmod p1addr 256)), .bool true]) h))
theorem phys_Mem_at.eq (p0mb p0mo : Nat) (p1addr : Int) (h : Hp) (R : Value → Hp → Prop) : evBody Try.prog calls phys_Mem_at.hints Try.f28 [.ptr p0mb p0mo, .int .u32 p1addr] h R = phys_Mem_at.P p0mb p0mo p1addr h R := by kernel_rfl
theorem phys_Mem_at.calls (p0mb p0mo : Nat) (p1addr : Int) (h : Hp) (R : Value → Hp → Prop) (hp : phys_Mem_at.P p0mb p0mo p1addr h R) : CallsH Try.prog 28 [.pointer (some ⟨p0mb, p0mo, none⟩), .int .u32 p1addr] h R :=
  calls_of_body calls_ok Try.func28 (args := [.ptr p0mb p0mo, .int .u32 p1addr]) (by rw [phys_Mem_at.eq]; exact hp)
/-! ### word_Set: function 29 -/
def word_Set.hints : Hints := { loops := [(4, [0, 1, 2], [(17, (.one (.int .i64)))])], cuts := [(3, [0, 1, 2], [])], orders := [] }
def word_Set.P (p0ba : Option Addr) (p0bl : Nat) (p0bc : Nat) (p1at : Int) (p2w : Int) (h : Hp) (R : Value → Hp → Prop) : Prop :=
  ∃ I1 : Hp → Prop, (((decide (p1at < 0)) = true → (R (.bool false) h)) ∧ ((decide (p1at < 0)) = false → (((decide (p1at > (IntKind.wrap .i64 (((p0bl : Nat) : Int) - 4)))) = true → (R (.bool false) h)) ∧
  ((decide (p1at > (IntKind.wrap .i64 (((p0bl : Nat) : Int) - 4)))) = false → (I1 h))))) ∧ ∀ h1 : Hp, I1 h1 → ∃ I2 : Int → Hp → Prop, ∃ m3 : Int → Hp → Nat, I2 0 h1 ∧ ∀ x4 : Int, ∀ h2 : Hp, I2 x4 h2 →
  ((decide (x4 < 4)) = true → ((0 : Int) ≤ (IntKind.wrap .i64 (8 * x4)) ∧ (0 : Int) ≤ (IntKind.wrap .i64 (p1at + x4)) ∧ (IntKind.wrap .i64 (p1at + x4)) < ((p0bl : Nat) : Int) ∧ ∃ b5 : Nat, ∃ o6 : Nat, p0ba = some ⟨b5, o6, none⟩ ∧
  truly true ∧ ∃ T7 : TypeId, ∃ l8 : List Value, bk h2 b5 = some (blk T7 l8) ∧ (o6 + (IntKind.wrap .i64 (p1at + x4)).toNat * 1) + 1 ≤ l8.length ∧ ∀ h3 : Hp, h3 = upd h2 b5 T7 (writeAt l8 (o6 + (IntKind.wrap .i64 (p1at + x4)).toNat * 1) [.int .u8 (IntKind.wrap .u8 (shrV .u32 p2w (IntKind.wrap .i64 (8 * x4))))]) →
  I2 (IntKind.wrap .i64 (x4 + 1)) h3 ∧ m3 (IntKind.wrap .i64 (x4 + 1)) h3 < m3 x4 h2)) ∧ ((decide (x4 < 4)) = false → (R (.bool true) h2))
theorem word_Set.eq (p0ba : Option Addr) (p0bl : Nat) (p0bc : Nat) (p1at : Int) (p2w : Int) (h : Hp) (R : Value → Hp → Prop) : evBody Try.prog calls word_Set.hints Try.f29 [.slice p0ba p0bl p0bc, .int .i64 p1at, .int .u32 p2w] h R = word_Set.P p0ba p0bl p0bc p1at p2w h R := by kernel_rfl
theorem word_Set.calls (p0ba : Option Addr) (p0bl : Nat) (p0bc : Nat) (p1at : Int) (p2w : Int) (h : Hp) (R : Value → Hp → Prop) (hp : word_Set.P p0ba p0bl p0bc p1at p2w h R) : CallsH Try.prog 29 [.slice p0ba p0bl p0bc, .int .i64 p1at, .int .u32 p2w] h R :=
  calls_of_body calls_ok Try.func29 (args := [.slice p0ba p0bl p0bc, .int .i64 p1at, .int .u32 p2w]) (by rw [word_Set.eq]; exact hp)
/-! ### phys_Mem_there: function 30 -/
def phys_Mem_there.hints : Hints := { loops := [], cuts := [], orders := [] }
def phys_Mem_there.P (p0mb p0mo : Nat) (p1n : Int) (h : Hp) (R : Value → Hp → Prop) : Prop :=
  ((decide (p1n ≥ 0)) = true → (∃ framesa1 : Option Addr, ∃ framesl2 : Nat, ∃ framesc3 : Nat, cellAt h p0mb p0mo = some (.slice framesa1 framesl2 framesc3) ∧ R (.bool (decide (p1n < ((framesl2 : Nat) : Int)))) h)) ∧
  ((decide (p1n ≥ 0)) = false → (R (.bool false) h))
theorem phys_Mem_there.eq (p0mb p0mo : Nat) (p1n : Int) (h : Hp) (R : Value → Hp → Prop) : evBody Try.prog calls phys_Mem_there.hints Try.f30 [.ptr p0mb p0mo, .int .i64 p1n] h R = phys_Mem_there.P p0mb p0mo p1n h R := by kernel_rfl
theorem phys_Mem_there.calls (p0mb p0mo : Nat) (p1n : Int) (h : Hp) (R : Value → Hp → Prop) (hp : phys_Mem_there.P p0mb p0mo p1n h R) : CallsH Try.prog 30 [.pointer (some ⟨p0mb, p0mo, none⟩), .int .i64 p1n] h R :=
  calls_of_body calls_ok Try.func30 (args := [.ptr p0mb p0mo, .int .i64 p1n]) (by rw [phys_Mem_there.eq]; exact hp)
/-! ### word_Get: function 31 -/
def word_Get.hints : Hints := { loops := [(5, [22, 23], [(6, (.one (.int .u32))), (24, (.one (.int .i64)))])], cuts := [(3, [0, 1], [])], orders := [] }
def word_Get.P (p0ba : Option Addr) (p0bl : Nat) (p0bc : Nat) (p1at : Int) (h : Hp) (R : Value → Hp → Prop) : Prop :=
  ∃ I1 : Hp → Prop, (((decide (p1at < 0)) = true → (R (.tuple #[.int .u32 0, .bool false]) h)) ∧ ((decide (p1at < 0)) = false → (((decide (p1at > (IntKind.wrap .i64 (((p0bl : Nat) : Int) - 4)))) = true →
  (R (.tuple #[.int .u32 0, .bool false]) h)) ∧ ((decide (p1at > (IntKind.wrap .i64 (((p0bl : Nat) : Int) - 4)))) = false → (I1 h))))) ∧ ∀ h1 : Hp, I1 h1 → ((false : Bool) = true → (true : Bool) = true) ∧
  (0 : Int) ≤ p1at ∧ p1at ≤ (IntKind.wrap .i64 (p1at + 4)) ∧ (IntKind.wrap .i64 (p1at + 4)) ≤ ((p0bc : Nat) : Int) ∧ ((p0bc : Nat) : Int) ≤ ((p0bc : Nat) : Int) ∧ ∃ I2 : Int → Int → Hp → Prop, ∃ m3 : Int →
  Int → Hp → Nat, I2 0 0 h1 ∧ ∀ w4 : Int, ∀ x5 : Int, ∀ h2 : Hp, I2 w4 x5 h2 → ((decide (x5 < ((((IntKind.wrap .i64 (p1at + 4))).toNat - (p1at).toNat : Nat) : Int))) = true → ((0 : Int) ≤ x5 ∧ x5 < ((((IntKind.wrap .i64 (p1at + 4))).toNat - (p1at).toNat : Nat) : Int) ∧
  ∃ b6 : Nat, ∃ o7 : Nat, sliceBase p0ba (p1at).toNat (((p0bc : Nat) : Int)).toNat 1 = some ⟨b6, o7, none⟩ ∧ ∃ x8 : Int, cellAt h2 b6 (o7 + x5.toNat * 1) = some (.int .u8 x8) ∧ (0 : Int) ≤ (IntKind.wrap .i64 (8 * x5)) ∧
  I2 (borV .u32 w4 (shlV .u32 (IntKind.wrap .u32 x8) (IntKind.wrap .i64 (8 * x5)))) (IntKind.wrap .i64 (x5 + 1)) h2 ∧ m3 (borV .u32 w4 (shlV .u32 (IntKind.wrap .u32 x8) (IntKind.wrap .i64 (8 * x5)))) (IntKind.wrap .i64 (x5 + 1)) h2 < m3 w4 x5 h2)) ∧
  ((decide (x5 < ((((IntKind.wrap .i64 (p1at + 4))).toNat - (p1at).toNat : Nat) : Int))) = false → (R (.tuple #[.int .u32 w4, .bool true]) h2))
theorem word_Get.eq (p0ba : Option Addr) (p0bl : Nat) (p0bc : Nat) (p1at : Int) (h : Hp) (R : Value → Hp → Prop) : evBody Try.prog calls word_Get.hints Try.f31 [.slice p0ba p0bl p0bc, .int .i64 p1at] h R = word_Get.P p0ba p0bl p0bc p1at h R := by kernel_rfl
theorem word_Get.calls (p0ba : Option Addr) (p0bl : Nat) (p0bc : Nat) (p1at : Int) (h : Hp) (R : Value → Hp → Prop) (hp : word_Get.P p0ba p0bl p0bc p1at h R) : CallsH Try.prog 31 [.slice p0ba p0bl p0bc, .int .i64 p1at] h R :=
  calls_of_body calls_ok Try.func31 (args := [.slice p0ba p0bl p0bc, .int .i64 p1at]) (by rw [word_Get.eq]; exact hp)
/-! ### warderref04_Mem_PutByte: function 32 -/
def warderref04_Mem_PutByte.hints : Hints := { loops := [], cuts := [], orders := [] }
def warderref04_Mem_PutByte.P (p0mb p0mo : Nat) (p1addr : Int) (p2b : Int) (h : Hp) (R : Value → Hp → Prop) : Prop :=
  ∃ Ba1 : Option Addr, ∃ Bl2 : Nat, ∃ Bc3 : Nat, cellAt h p0mb p0mo = some (.slice Ba1 Bl2 Bc3) ∧ ((decide ((IntKind.wrap .i64 p1addr) ≥ ((Bl2 : Nat) : Int))) = true → (R (.bool false) h)) ∧ ((decide ((IntKind.wrap .i64 p1addr) ≥ ((Bl2 : Nat) : Int))) = false →
  (∃ Ba4 : Option Addr, ∃ Bl5 : Nat, ∃ Bc6 : Nat, cellAt h p0mb p0mo = some (.slice Ba4 Bl5 Bc6) ∧ (0 : Int) ≤ p1addr ∧ p1addr < ((Bl5 : Nat) : Int) ∧ ∃ b7 : Nat, ∃ o8 : Nat, Ba4 = some ⟨b7, o8, none⟩ ∧
  truly true ∧ ∃ T9 : TypeId, ∃ l10 : List Value, bk h b7 = some (blk T9 l10) ∧ (o8 + p1addr.toNat * 1) + 1 ≤ l10.length ∧ ∀ h1 : Hp, h1 = upd h b7 T9 (writeAt l10 (o8 + p1addr.toNat * 1) [.int .u8 p2b]) →
  R (.bool true) h1))
theorem warderref04_Mem_PutByte.eq (p0mb p0mo : Nat) (p1addr : Int) (p2b : Int) (h : Hp) (R : Value → Hp → Prop) : evBody Try.prog calls warderref04_Mem_PutByte.hints Try.f32 [.ptr p0mb p0mo, .int .u32 p1addr, .int .u8 p2b] h R = warderref04_Mem_PutByte.P p0mb p0mo p1addr p2b h R := by kernel_rfl
theorem warderref04_Mem_PutByte.calls (p0mb p0mo : Nat) (p1addr : Int) (p2b : Int) (h : Hp) (R : Value → Hp → Prop) (hp : warderref04_Mem_PutByte.P p0mb p0mo p1addr p2b h R) : CallsH Try.prog 32 [.pointer (some ⟨p0mb, p0mo, none⟩), .int .u32 p1addr, .int .u8 p2b] h R :=
  calls_of_body calls_ok Try.func32 (args := [.ptr p0mb p0mo, .int .u32 p1addr, .int .u8 p2b]) (by rw [warderref04_Mem_PutByte.eq]; exact hp)
/-! ### warderref04_Mem_PutWord: function 33 -/
def warderref04_Mem_PutWord.hints : Hints := { loops := [(6, [0, 1, 9], [(10, (.one (.int .i64)))])], cuts := [], orders := [(8, [0, 1, 3, 7, 0, 16, 0, 112, 0, 0, 768, 1792, 4095, 8191], [0, 1, 2, 3, 4, 5, 6, 7, 8, 9, 10, 11, 12, 13])] }
def warderref04_Mem_PutWord.P (p0mb p0mo : Nat) (p1addr : Int) (p2w : Int) (h : Hp) (R : Value → Hp → Prop) : Prop :=
  CallsH Try.prog 21 [.pointer (some ⟨p0mb, p0mo, none⟩), .int .u32 p1addr] h fun r1 h1 => ∃ Word2 : Int, ∃ Word3 : Bool, r1 = .tuple #[.int .u32 Word2, .bool Word3] ∧ ((!Word3) = true → (R (.bool false) h1)) ∧
  ((!Word3) = false → (CallsH Try.prog 36 [.int .u32 p2w] h1 fun r4 h2 => ∃ Foura5 : Option Addr, ∃ Fourl6 : Nat, ∃ Fourc7 : Nat, r4 = .slice Foura5 Fourl6 Fourc7 ∧ ∃ I8 : Int → Hp → Prop, ∃ m9 : Int →
  Hp → Nat, I8 0 h2 ∧ ∀ i10 : Int, ∀ h3 : Hp, I8 i10 h3 → ((decide (i10 < 4)) = true → (∃ Ba11 : Option Addr, ∃ Bl12 : Nat, ∃ Bc13 : Nat, cellAt h3 p0mb p0mo = some (.slice Ba11 Bl12 Bc13) ∧ (0 : Int) ≤ i10 ∧
  i10 < ((Fourl6 : Nat) : Int) ∧ ∃ b14 : Nat, ∃ o15 : Nat, Foura5 = some ⟨b14, o15, none⟩ ∧ ∃ x16 : Int, cellAt h3 b14 (o15 + i10.toNat * 1) = some (.int .u8 x16) ∧ (0 : Int) ≤ (IntKind.wrap .i64 ((IntKind.wrap .i64 p1addr) + i10)) ∧
  (IntKind.wrap .i64 ((IntKind.wrap .i64 p1addr) + i10)) < ((Bl12 : Nat) : Int) ∧ ∃ b17 : Nat, ∃ o18 : Nat, Ba11 = some ⟨b17, o18, none⟩ ∧ truly true ∧ ∃ T19 : TypeId, ∃ l20 : List Value, bk h3 b17 = some (blk T19 l20) ∧
  (o18 + (IntKind.wrap .i64 ((IntKind.wrap .i64 p1addr) + i10)).toNat * 1) + 1 ≤ l20.length ∧ ∀ h4 : Hp, h4 = upd h3 b17 T19 (writeAt l20 (o18 + (IntKind.wrap .i64 ((IntKind.wrap .i64 p1addr) + i10)).toNat * 1) [.int .u8 x16]) →
  I8 (IntKind.wrap .i64 (i10 + 1)) h4 ∧ m9 (IntKind.wrap .i64 (i10 + 1)) h4 < m9 i10 h3)) ∧ ((decide (i10 < 4)) = false → (R (.bool true) h3))))
theorem warderref04_Mem_PutWord.eq (p0mb p0mo : Nat) (p1addr : Int) (p2w : Int) (h : Hp) (R : Value → Hp → Prop) : evBody Try.prog calls warderref04_Mem_PutWord.hints Try.f33 [.ptr p0mb p0mo, .int .u32 p1addr, .int .u32 p2w] h R = warderref04_Mem_PutWord.P p0mb p0mo p1addr p2w h R := by kernel_rfl
theorem warderref04_Mem_PutWord.calls (p0mb p0mo : Nat) (p1addr : Int) (p2w : Int) (h : Hp) (R : Value → Hp → Prop) (hp : warderref04_Mem_PutWord.P p0mb p0mo p1addr p2w h R) : CallsH Try.prog 33 [.pointer (some ⟨p0mb, p0mo, none⟩), .int .u32 p1addr, .int .u32 p2w] h R :=
  calls_of_body calls_ok Try.func33 (args := [.ptr p0mb p0mo, .int .u32 p1addr, .int .u32 p2w]) (by rw [warderref04_Mem_PutWord.eq]; exact hp)
/-! ### warderref01_Get: function 34 -/
def warderref01_Get.hints : Hints := { loops := [(5, [0, 1], [(6, (.one (.int .u32))), (7, (.one (.int .i64)))])], cuts := [(3, [0, 1], [])], orders := [] }
def warderref01_Get.P (p0ba : Option Addr) (p0bl : Nat) (p0bc : Nat) (p1at : Int) (h : Hp) (R : Value → Hp → Prop) : Prop :=
  ∃ I1 : Hp → Prop, (((decide (p1at < 0)) = true → (R (.tuple #[.int .u32 0, .bool false]) h)) ∧ ((decide (p1at < 0)) = false → (((decide (p1at > (IntKind.wrap .i64 (((p0bl : Nat) : Int) - 4)))) = true →
  (R (.tuple #[.int .u32 0, .bool false]) h)) ∧ ((decide (p1at > (IntKind.wrap .i64 (((p0bl : Nat) : Int) - 4)))) = false → (I1 h))))) ∧ ∀ h1 : Hp, I1 h1 → ∃ I2 : Int → Int → Hp → Prop, ∃ m3 : Int → Int →
  Hp → Nat, I2 0 3 h1 ∧ ∀ out4 : Int, ∀ i5 : Int, ∀ h2 : Hp, I2 out4 i5 h2 → ((decide (i5 ≥ 0)) = true → ((0 : Int) ≤ (IntKind.wrap .i64 (p1at + i5)) ∧ (IntKind.wrap .i64 (p1at + i5)) < ((p0bl : Nat) : Int) ∧
  ∃ b6 : Nat, ∃ o7 : Nat, p0ba = some ⟨b6, o7, none⟩ ∧ ∃ x8 : Int, cellAt h2 b6 (o7 + (IntKind.wrap .i64 (p1at + i5)).toNat * 1) = some (.int .u8 x8) ∧ I2 (IntKind.wrap .u32 ((IntKind.wrap .u32 (out4 * 256)) + (IntKind.wrap .u32 x8))) (IntKind.wrap .i64 (i5 - 1)) h2 ∧
  m3 (IntKind.wrap .u32 ((IntKind.wrap .u32 (out4 * 256)) + (IntKind.wrap .u32 x8))) (IntKind.wrap .i64 (i5 - 1)) h2 < m3 out4 i5 h2)) ∧ ((decide (i5 ≥ 0)) = false → (R (.tuple #[.int .u32 out4, .bool true]) h2))
theorem warderref01_Get.eq (p0ba : Option Addr) (p0bl : Nat) (p0bc : Nat) (p1at : Int) (h : Hp) (R : Value → Hp → Prop) : evBody Try.prog calls warderref01_Get.hints Try.f34 [.slice p0ba p0bl p0bc, .int .i64 p1at] h R = warderref01_Get.P p0ba p0bl p0bc p1at h R := by kernel_rfl
theorem warderref01_Get.calls (p0ba : Option Addr) (p0bl : Nat) (p0bc : Nat) (p1at : Int) (h : Hp) (R : Value → Hp → Prop) (hp : warderref01_Get.P p0ba p0bl p0bc p1at h R) : CallsH Try.prog 34 [.slice p0ba p0bl p0bc, .int .i64 p1at] h R :=
  calls_of_body calls_ok Try.func34 (args := [.slice p0ba p0bl p0bc, .int .i64 p1at]) (by rw [warderref01_Get.eq]; exact hp)
/-! ### slices_Clone_f35: function 35 -/
def slices_Clone_f35.hints : Hints := { loops := [], cuts := [], orders := [] }
def slices_Clone_f35.P (p0sa : Option Addr) (p0sl : Nat) (p0sc : Nat) (h : Hp) (R : Value → Hp → Prop) : Prop :=
  ((notIf true p0sa.isNone) = true → (R (.slice none 0 0) h)) ∧ ((notIf true p0sa.isNone) = false → (∀ h1 : Hp, h1 = new h (blk 5 []) → appendN h1 5 1 1 [.int .u8 0] (some ⟨sz h, 0, none⟩) 0 0 p0sa p0sl fun a1 l2 c3 h2 => R (.slice a1 l2 c3) h2))
theorem slices_Clone_f35.eq (p0sa : Option Addr) (p0sl : Nat) (p0sc : Nat) (h : Hp) (R : Value → Hp → Prop) : evBody Try.prog calls slices_Clone_f35.hints Try.f35 [.slice p0sa p0sl p0sc] h R = slices_Clone_f35.P p0sa p0sl p0sc h R := by kernel_rfl
theorem slices_Clone_f35.calls (p0sa : Option Addr) (p0sl : Nat) (p0sc : Nat) (h : Hp) (R : Value → Hp → Prop) (hp : slices_Clone_f35.P p0sa p0sl p0sc h R) : CallsH Try.prog 35 [.slice p0sa p0sl p0sc] h R :=
  calls_of_body calls_ok Try.func35 (args := [.slice p0sa p0sl p0sc]) (by rw [slices_Clone_f35.eq]; exact hp)
/-! ### warderref01_Four: function 36 -/
def warderref01_Four.hints : Hints := { loops := [], cuts := [], orders := [] }
def warderref01_Four.P (p0w : Int) (h : Hp) (R : Value → Hp → Prop) : Prop :=
  256 ≠ (0 : Int) ∧ 65536 ≠ (0 : Int) ∧ 16777216 ≠ (0 : Int) ∧ ∀ h1 : Hp, h1 = new h (blk 5 [.int .u8 (IntKind.wrap .u8 p0w), .int .u8 (IntKind.wrap .u8 (IntKind.wrap .u32 (Int.tdiv p0w 256))), .int .u8 (IntKind.wrap .u8 (IntKind.wrap .u32 (Int.tdiv p0w 65536))), .int .u8 (IntKind.wrap .u8 (IntKind.wrap .u32 (Int.tdiv p0w 16777216)))]) →
  R (.slice (some ⟨sz h, 0, none⟩) 4 4) h1
theorem warderref01_Four.eq (p0w : Int) (h : Hp) (R : Value → Hp → Prop) : evBody Try.prog calls warderref01_Four.hints Try.f36 [.int .u32 p0w] h R = warderref01_Four.P p0w h R := by kernel_rfl
theorem warderref01_Four.calls (p0w : Int) (h : Hp) (R : Value → Hp → Prop) (hp : warderref01_Four.P p0w h R) : CallsH Try.prog 36 [.int .u32 p0w] h R :=
  calls_of_body calls_ok Try.func36 (args := [.int .u32 p0w]) (by rw [warderref01_Four.eq]; exact hp)
end Go.Proofs.Ytdnkpgedejikcaa
