/-
  Printed by this repo's own wip/tools/pr.py: what each function owes, as a proposition over heaps, read out of its body by the core.
-/
import Derived.Test.YtpphbnhlfgadkaaProg
import Derived.Test.YtpphbnhlfgadkaaWdFn
import Derived.KernelRfl
namespace Go.Proofs.Ytpphbnhlfgadkaa
open Go Go.Wd
set_option linter.unusedVariables false
set_option maxRecDepth 100000
def calls : Nat → Bool := fun f => [8, 9, 10, 11, 12, 13, 14, 15, 16, 17, 18, 19, 20, 21, 22, 23, 24, 25, 26, 27, 28, 29, 30, 31, 32, 33, 34, 35, 36, 37, 38, 39, 40, 41, 42, 43, 44, 45, 46, 47, 48].any (Nat.beq f)
theorem calls_ok : CallsOk Try.prog calls := by
  intro f hf
  simp only [calls, List.any_cons, List.any_nil, Bool.or_eq_true, Bool.or_false] at hf
  rcases hf with hf | hf | hf | hf | hf | hf | hf | hf | hf | hf | hf | hf | hf | hf | hf | hf | hf | hf | hf | hf | hf | hf | hf | hf | hf | hf | hf | hf | hf | hf | hf | hf | hf | hf | hf | hf | hf | hf | hf | hf | hf
  · obtain rfl := Nat.eq_of_beq_eq_true hf; exact Try.call8
  · obtain rfl := Nat.eq_of_beq_eq_true hf; exact Try.call9
  · obtain rfl := Nat.eq_of_beq_eq_true hf; exact Try.call10
  · obtain rfl := Nat.eq_of_beq_eq_true hf; exact Try.call11
  · obtain rfl := Nat.eq_of_beq_eq_true hf; exact Try.call12
  · obtain rfl := Nat.eq_of_beq_eq_true hf; exact Try.call13
  · obtain rfl := Nat.eq_of_beq_eq_true hf; exact Try.call14
  · obtain rfl := Nat.eq_of_beq_eq_true hf; exact Try.call15
  · obtain rfl := Nat.eq_of_beq_eq_true hf; exact Try.call16
  · obtain rfl := Nat.eq_of_beq_eq_true hf; exact Try.call17
  · obtain rfl := Nat.eq_of_beq_eq_true hf; exact Try.call18
  · obtain rfl := Nat.eq_of_beq_eq_true hf; exact Try.call19
  · obtain rfl := Nat.eq_of_beq_eq_true hf; exact Try.call20
  · obtain rfl := Nat.eq_of_beq_eq_true hf; exact Try.call21
  · obtain rfl := Nat.eq_of_beq_eq_true hf; exact Try.call22
  · obtain rfl := Nat.eq_of_beq_eq_true hf; exact Try.call23
  · obtain rfl := Nat.eq_of_beq_eq_true hf; exact Try.call24
  · obtain rfl := Nat.eq_of_beq_eq_true hf; exact Try.call25
  · obtain rfl := Nat.eq_of_beq_eq_true hf; exact Try.call26
  · obtain rfl := Nat.eq_of_beq_eq_true hf; exact Try.call27
  · obtain rfl := Nat.eq_of_beq_eq_true hf; exact Try.call28
  · obtain rfl := Nat.eq_of_beq_eq_true hf; exact Try.call29
  · obtain rfl := Nat.eq_of_beq_eq_true hf; exact Try.call30
  · obtain rfl := Nat.eq_of_beq_eq_true hf; exact Try.call31
  · obtain rfl := Nat.eq_of_beq_eq_true hf; exact Try.call32
  · obtain rfl := Nat.eq_of_beq_eq_true hf; exact Try.call33
  · obtain rfl := Nat.eq_of_beq_eq_true hf; exact Try.call34
  · obtain rfl := Nat.eq_of_beq_eq_true hf; exact Try.call35
  · obtain rfl := Nat.eq_of_beq_eq_true hf; exact Try.call36
  · obtain rfl := Nat.eq_of_beq_eq_true hf; exact Try.call37
  · obtain rfl := Nat.eq_of_beq_eq_true hf; exact Try.call38
  · obtain rfl := Nat.eq_of_beq_eq_true hf; exact Try.call39
  · obtain rfl := Nat.eq_of_beq_eq_true hf; exact Try.call40
  · obtain rfl := Nat.eq_of_beq_eq_true hf; exact Try.call41
  · obtain rfl := Nat.eq_of_beq_eq_true hf; exact Try.call42
  · obtain rfl := Nat.eq_of_beq_eq_true hf; exact Try.call43
  · obtain rfl := Nat.eq_of_beq_eq_true hf; exact Try.call44
  · obtain rfl := Nat.eq_of_beq_eq_true hf; exact Try.call45
  · obtain rfl := Nat.eq_of_beq_eq_true hf; exact Try.call46
  · obtain rfl := Nat.eq_of_beq_eq_true hf; exact Try.call47
  · obtain rfl := Nat.eq_of_beq_eq_true hf; exact Try.call48
/-! ### warderlaw07_WalkPages: function 3 -/
def warderlaw07_WalkPages.hints : Hints := { loops := [(10, [2, 7], [(9, (.one .slice)), (10, (.one (.int .i64)))])], cuts := [], orders := [] }
def warderlaw07_WalkPages.P (p0frames : Int) (p1putsa : Option Addr) (p1putsl : Nat) (p1putsc : Nat) (p2root : Int) (h : Hp) (R : Value → Hp → Prop) : Prop :=
  CallsH Try.prog 8 [] h fun r1 h1 => ∃ alive2 : Bool, r1 = .bool alive2 ∧ ((!alive2) = true → (R (.bool false) h1)) ∧ ((!alive2) = false → (CallsH Try.prog 9 [.int .i64 p0frames, .slice p1putsa p1putsl p1putsc] h1 fun r3 h2 => ∃ great4 : Bool, r3 = .bool great4 ∧
  ((great4) = true → (R (.bool true) h2)) ∧ ((great4) = false → (CallsH Try.prog 10 [.int .i64 p0frames, .slice p1putsa p1putsl p1putsc] h2 fun r5 h3 => ∃ Both6 : Option Addr, ∃ Both7 : Option Addr, r5 = .tuple #[.pointer Both6, .pointer Both7] ∧
  ((notIf true Both6.isNone) = true → (R (.bool false) h3)) ∧ ((notIf true Both6.isNone) = false → (∀ h4 : Hp, h4 = new h3 (blk 3 []) → ∃ I8 : Option Addr → Nat → Nat → Int → Hp → Prop, ∃ m9 : Option Addr →
  Nat → Nat → Int → Hp → Nat, I8 (some ⟨sz h3, 0, none⟩) 0 0 0 h4 ∧ ∀ wanta10 : Option Addr, ∀ wantl11 : Nat, ∀ wantc12 : Nat, ∀ p13 : Int, ∀ h5 : Hp, I8 wanta10 wantl11 wantc12 p13 h5 → ((decide (p13 < 4096)) = true →
  ((0 : Int) ≤ 8 ∧ CallsH Try.prog 11 [.pointer Both6, .int .i64 p2root, .int .u32 (shlV .u32 (IntKind.wrap .u32 p13) 8), .int .i64 0] h5 fun r14 h6 => ∃ Walk15 : Int, ∃ Walk16 : Int, ∃ Walk17 : Int, ∃ Walk18 : Bool, ∃ Walk19 : Bool, ∃ Walk20 : Bool, r14 = .agg #[.int .i64 Walk15, .int .i64 Walk16, .int .i64 Walk17, .bool Walk18, .bool Walk19, .bool Walk20] ∧
  ((Walk15 == 0) = true → (∀ h7 : Hp, h7 = new h6 (blk 3 [.int .i64 p13]) → appendN h7 3 1 8 [.int .i64 0] wanta10 wantl11 wantc12 (some ⟨sz h6, 0, none⟩) 1 fun a21 l22 c23 h8 => I8 a21 l22 c23 (IntKind.wrap .i64 (p13 + 1)) h8 ∧
  m9 a21 l22 c23 (IntKind.wrap .i64 (p13 + 1)) h8 < m9 wanta10 wantl11 wantc12 p13 h5)) ∧ ((Walk15 == 0) = false → (I8 wanta10 wantl11 wantc12 (IntKind.wrap .i64 (p13 + 1)) h6 ∧ m9 wanta10 wantl11 wantc12 (IntKind.wrap .i64 (p13 + 1)) h6 < m9 wanta10 wantl11 wantc12 p13 h5)))) ∧
  ((decide (p13 < 4096)) = false → (CallsH Try.prog 13 [.pointer Both6, .int .i64 p2root] h5 fun r24 h9 => ∃ Pagesa25 : Option Addr, ∃ Pagesl26 : Nat, ∃ Pagesc27 : Nat, r24 = .slice Pagesa25 Pagesl26 Pagesc27 ∧
  CallsH Try.prog 12 [.slice Pagesa25 Pagesl26 Pagesc27, .slice wanta10 wantl11 wantc12] h9 fun r28 h10 => ∃ SameInts29 : Bool, r28 = .bool SameInts29 ∧ R (.bool SameInts29) h10))))))))
theorem warderlaw07_WalkPages.eq (p0frames : Int) (p1putsa : Option Addr) (p1putsl : Nat) (p1putsc : Nat) (p2root : Int) (h : Hp) (R : Value → Hp → Prop) : evBody Try.prog calls warderlaw07_WalkPages.hints Try.f3 [.int .i64 p0frames, .slice p1putsa p1putsl p1putsc, .int .i64 p2root] h R = warderlaw07_WalkPages.P p0frames p1putsa p1putsl p1putsc p2root h R := by kernel_rfl
theorem warderlaw07_WalkPages.calls (p0frames : Int) (p1putsa : Option Addr) (p1putsl : Nat) (p1putsc : Nat) (p2root : Int) (h : Hp) (R : Value → Hp → Prop) (hp : warderlaw07_WalkPages.P p0frames p1putsa p1putsl p1putsc p2root h R) : CallsH Try.prog 3 [.int .i64 p0frames, .slice p1putsa p1putsl p1putsc, .int .i64 p2root] h R :=
  calls_of_body calls_ok Try.func3 (args := [.int .i64 p0frames, .slice p1putsa p1putsl p1putsc, .int .i64 p2root]) (by rw [warderlaw07_WalkPages.eq]; exact hp)
/-! ### warderlaw07_WalkRights: function 4 -/
def warderlaw07_WalkRights.hints : Hints := { loops := [], cuts := [(14, [0, 13, 14, 15], [])], orders := [] }
def warderlaw07_WalkRights.P (p0frames : Int) (p1putsa : Option Addr) (p1putsl : Nat) (p1putsc : Nat) (p2root : Int) (p3addr : Int) (p4offset : Int) (h : Hp) (R : Value → Hp → Prop) : Prop :=
  CallsH Try.prog 8 [] h fun r1 h1 => ∃ alive2 : Bool, r1 = .bool alive2 ∧ ((!alive2) = true → (R (.bool false) h1)) ∧ ((!alive2) = false → (CallsH Try.prog 9 [.int .i64 p0frames, .slice p1putsa p1putsl p1putsc] h1 fun r3 h2 => ∃ great4 : Bool, r3 = .bool great4 ∧
  ((great4) = true → (R (.bool true) h2)) ∧ ((great4) = false → (CallsH Try.prog 10 [.int .i64 p0frames, .slice p1putsa p1putsl p1putsc] h2 fun r5 h3 => ∃ Both6 : Option Addr, ∃ Both7 : Option Addr, r5 = .tuple #[.pointer Both6, .pointer Both7] ∧
  ((notIf true Both6.isNone) = true → (R (.bool false) h3)) ∧ ((notIf true Both6.isNone) = false → (CallsH Try.prog 11 [.pointer Both6, .int .i64 p2root, .int .u32 p3addr, .int .i64 0] h3 fun r8 h4 => ∃ Walk9 : Int, ∃ Walk10 : Int, ∃ Walk11 : Int, ∃ Walk12 : Bool, ∃ Walk13 : Bool, ∃ Walk14 : Bool, r8 = .agg #[.int .i64 Walk9, .int .i64 Walk10, .int .i64 Walk11, .bool Walk12, .bool Walk13, .bool Walk14] ∧
  ∀ h5 : Hp, h5 = new h4 (blk 31 [.int .i64 0, .int .i64 0, .int .i64 0, .bool false, .bool false, .bool false]) → truly true ∧ ∃ T15 : TypeId, ∃ l16 : List Value, bk h5 (sz h4) = some (blk T15 l16) ∧
  0 + 6 ≤ l16.length ∧ ∀ h6 : Hp, h6 = upd h5 (sz h4) T15 (writeAt l16 0 [.int .i64 Walk9, .int .i64 Walk10, .int .i64 Walk11, .bool Walk12, .bool Walk13, .bool Walk14]) → CallsH Try.prog 11 [.pointer Both6, .int .i64 p2root, .int .u32 p3addr, .int .i64 1] h6 fun r17 h7 => ∃ Walk18 : Int, ∃ Walk19 : Int, ∃ Walk20 : Int, ∃ Walk21 : Bool, ∃ Walk22 : Bool, ∃ Walk23 : Bool, r17 = .agg #[.int .i64 Walk18, .int .i64 Walk19, .int .i64 Walk20, .bool Walk21, .bool Walk22, .bool Walk23] ∧
  ∀ h8 : Hp, h8 = new h7 (blk 31 [.int .i64 0, .int .i64 0, .int .i64 0, .bool false, .bool false, .bool false]) → truly true ∧ ∃ T24 : TypeId, ∃ l25 : List Value, bk h8 (sz h7) = some (blk T24 l25) ∧
  0 + 6 ≤ l25.length ∧ ∀ h9 : Hp, h9 = upd h8 (sz h7) T24 (writeAt l25 0 [.int .i64 Walk18, .int .i64 Walk19, .int .i64 Walk20, .bool Walk21, .bool Walk22, .bool Walk23]) → CallsH Try.prog 11 [.pointer Both6, .int .i64 p2root, .int .u32 p3addr, .int .i64 2] h9 fun r26 h10 => ∃ Walk27 : Int, ∃ Walk28 : Int, ∃ Walk29 : Int, ∃ Walk30 : Bool, ∃ Walk31 : Bool, ∃ Walk32 : Bool, r26 = .agg #[.int .i64 Walk27, .int .i64 Walk28, .int .i64 Walk29, .bool Walk30, .bool Walk31, .bool Walk32] ∧
  ∀ h11 : Hp, h11 = new h10 (blk 31 [.int .i64 0, .int .i64 0, .int .i64 0, .bool false, .bool false, .bool false]) → truly true ∧ ∃ T33 : TypeId, ∃ l34 : List Value, bk h11 (sz h10) = some (blk T33 l34) ∧
  0 + 6 ≤ l34.length ∧ ∀ h12 : Hp, h12 = upd h11 (sz h10) T33 (writeAt l34 0 [.int .i64 Walk27, .int .i64 Walk28, .int .i64 Walk29, .bool Walk30, .bool Walk31, .bool Walk32]) → CallsH Try.prog 11 [.pointer Both6, .int .i64 p2root, .int .u32 (borV .u32 (bnotV .u32 p3addr 255) (IntKind.wrap .u32 p4offset)), .int .i64 0] h12 fun r35 h13 => ∃ Walk36 : Int, ∃ Walk37 : Int, ∃ Walk38 : Int, ∃ Walk39 : Bool, ∃ Walk40 : Bool, ∃ Walk41 : Bool, r35 = .agg #[.int .i64 Walk36, .int .i64 Walk37, .int .i64 Walk38, .bool Walk39, .bool Walk40, .bool Walk41] ∧
  ∀ h14 : Hp, h14 = new h13 (blk 31 [.int .i64 0, .int .i64 0, .int .i64 0, .bool false, .bool false, .bool false]) → truly true ∧ ∃ T42 : TypeId, ∃ l43 : List Value, bk h14 (sz h13) = some (blk T42 l43) ∧
  0 + 6 ≤ l43.length ∧ ∀ h15 : Hp, h15 = upd h14 (sz h13) T42 (writeAt l43 0 [.int .i64 Walk36, .int .i64 Walk37, .int .i64 Walk38, .bool Walk39, .bool Walk40, .bool Walk41]) → ∃ I44 : Hp → Prop, (∃ x45 : Int, cellAt h15 (sz h4) (0 + 0) = some (.int .i64 x45) ∧
  ∃ x46 : Int, cellAt h15 (sz h4) (0 + 1) = some (.int .i64 x46) ∧ ∃ x47 : Int, cellAt h15 (sz h4) (0 + 2) = some (.int .i64 x47) ∧ ∃ x48 : Bool, cellAt h15 (sz h4) (0 + 3) = some (.bool x48) ∧ ∃ x49 : Bool, cellAt h15 (sz h4) (0 + 4) = some (.bool x49) ∧
  ∃ x50 : Bool, cellAt h15 (sz h4) (0 + 5) = some (.bool x50) ∧ ∃ x51 : Int, cellAt h15 (sz h13) (0 + 0) = some (.int .i64 x51) ∧ ∃ x52 : Int, cellAt h15 (sz h13) (0 + 1) = some (.int .i64 x52) ∧ ∃ x53 : Int, cellAt h15 (sz h13) (0 + 2) = some (.int .i64 x53) ∧
  ∃ x54 : Bool, cellAt h15 (sz h13) (0 + 3) = some (.bool x54) ∧ ∃ x55 : Bool, cellAt h15 (sz h13) (0 + 4) = some (.bool x55) ∧ ∃ x56 : Bool, cellAt h15 (sz h13) (0 + 5) = some (.bool x56) ∧ ((notIf false ((x45 == x51) && ((x46 == x52) && ((x47 == x53) && (((x48 : Bool) == x54) && (((x49 : Bool) == x55) && (((x50 : Bool) == x56) && true))))))) = true →
  (R (.bool false) h15)) ∧ ((notIf false ((x45 == x51) && ((x46 == x52) && ((x47 == x53) && (((x48 : Bool) == x54) && (((x49 : Bool) == x55) && (((x50 : Bool) == x56) && true))))))) = false → (∃ Reads57 : Int, cellAt h15 (sz h7) 1 = some (.int .i64 Reads57) ∧
  ∃ Reads58 : Int, cellAt h15 (sz h4) 1 = some (.int .i64 Reads58) ∧ ((Reads57 != Reads58) = true → (R (.bool false) h15)) ∧ ((Reads57 != Reads58) = false → (∃ Reads59 : Int, cellAt h15 (sz h10) 1 = some (.int .i64 Reads59) ∧
  ∃ Reads60 : Int, cellAt h15 (sz h4) 1 = some (.int .i64 Reads60) ∧ ((Reads59 != Reads60) = true → (R (.bool false) h15)) ∧ ((Reads59 != Reads60) = false → (I44 h15))))))) ∧ ∀ h16 : Hp, I44 h16 → ∃ Fault61 : Int, cellAt h16 (sz h4) 0 = some (.int .i64 Fault61) ∧
  ((Fault61 != 0) = true → (∃ Frame62 : Int, cellAt h16 (sz h4) 2 = some (.int .i64 Frame62) ∧ ((Frame62 == 0) = true → (∃ Write63 : Bool, cellAt h16 (sz h4) 3 = some (.bool Write63) ∧ ((!Write63) = true →
  (∃ Exec64 : Bool, cellAt h16 (sz h4) 4 = some (.bool Exec64) ∧ ((!Exec64) = true → (∃ Block65 : Bool, cellAt h16 (sz h4) 5 = some (.bool Block65) ∧ ((!Block65) = true → (∃ Fault66 : Int, cellAt h16 (sz h7) 0 = some (.int .i64 Fault66) ∧
  ∃ Fault67 : Int, cellAt h16 (sz h4) 0 = some (.int .i64 Fault67) ∧ ((Fault66 == Fault67) = true → (R (.bool true) h16)) ∧ ((Fault66 == Fault67) = false → (∃ Fault68 : Int, cellAt h16 (sz h7) 0 = some (.int .i64 Fault68) ∧
  ((Fault68 == 4) = true → (∃ Fault69 : Int, cellAt h16 (sz h4) 0 = some (.int .i64 Fault69) ∧ R (.bool (Fault69 == 5)) h16)) ∧ ((Fault68 == 4) = false → (R (.bool false) h16)))))) ∧ ((!Block65) = false →
  (R (.bool false) h16)))) ∧ ((!Exec64) = false → (R (.bool false) h16)))) ∧ ((!Write63) = false → (R (.bool false) h16)))) ∧ ((Frame62 == 0) = false → (R (.bool false) h16)))) ∧ ((Fault61 != 0) = false →
  (∃ Fault70 : Int, cellAt h16 (sz h7) 0 = some (.int .i64 Fault70) ∧ ∃ Write71 : Bool, cellAt h16 (sz h4) 3 = some (.bool Write71) ∧ ((notIf true ((Fault70 == 0) == Write71)) = true → (∃ Fault72 : Int, cellAt h16 (sz h10) 0 = some (.int .i64 Fault72) ∧
  ∃ Exec73 : Bool, cellAt h16 (sz h4) 4 = some (.bool Exec73) ∧ ((notIf true ((Fault72 == 0) == Exec73)) = true → (∃ Fault74 : Int, cellAt h16 (sz h7) 0 = some (.int .i64 Fault74) ∧ ((Fault74 == 0) = true →
  (∃ Frame75 : Int, cellAt h16 (sz h4) 2 = some (.int .i64 Frame75) ∧ R (.bool (decide (Frame75 < p0frames))) h16)) ∧ ((Fault74 == 0) = false → (∃ Fault76 : Int, cellAt h16 (sz h7) 0 = some (.int .i64 Fault76) ∧
  ((Fault76 == 4) = true → (∃ Frame77 : Int, cellAt h16 (sz h4) 2 = some (.int .i64 Frame77) ∧ R (.bool (decide (Frame77 < p0frames))) h16)) ∧ ((Fault76 == 4) = false → (R (.bool false) h16)))))) ∧ ((notIf true ((Fault72 == 0) == Exec73)) = false →
  (R (.bool false) h16)))) ∧ ((notIf true ((Fault70 == 0) == Write71)) = false → (R (.bool false) h16))))))))))
theorem warderlaw07_WalkRights.eq (p0frames : Int) (p1putsa : Option Addr) (p1putsl : Nat) (p1putsc : Nat) (p2root : Int) (p3addr : Int) (p4offset : Int) (h : Hp) (R : Value → Hp → Prop) : evBody Try.prog calls warderlaw07_WalkRights.hints Try.f4 [.int .i64 p0frames, .slice p1putsa p1putsl p1putsc, .int .i64 p2root, .int .u32 p3addr, .int .u8 p4offset] h R = warderlaw07_WalkRights.P p0frames p1putsa p1putsl p1putsc p2root p3addr p4offset h R := by kernel_rfl
theorem warderlaw07_WalkRights.calls (p0frames : Int) (p1putsa : Option Addr) (p1putsl : Nat) (p1putsc : Nat) (p2root : Int) (p3addr : Int) (p4offset : Int) (h : Hp) (R : Value → Hp → Prop) (hp : warderlaw07_WalkRights.P p0frames p1putsa p1putsl p1putsc p2root p3addr p4offset h R) : CallsH Try.prog 4 [.int .i64 p0frames, .slice p1putsa p1putsl p1putsc, .int .i64 p2root, .int .u32 p3addr, .int .u8 p4offset] h R :=
  calls_of_body calls_ok Try.func4 (args := [.int .i64 p0frames, .slice p1putsa p1putsl p1putsc, .int .i64 p2root, .int .u32 p3addr, .int .u8 p4offset]) (by rw [warderlaw07_WalkRights.eq]; exact hp)
/-! ### warderlaw07_WalkLook: function 5 -/
def warderlaw07_WalkLook.hints : Hints := { loops := [], cuts := [(5, [0, 1, 2], []), (13, [11, 12, 13], [])], orders := [] }
def warderlaw07_WalkLook.P (p0putsa : Option Addr) (p0putsl : Nat) (p0putsc : Nat) (p1page : Int) (p2offset : Int) (h : Hp) (R : Value → Hp → Prop) : Prop :=
  CallsH Try.prog 8 [] h fun r1 h1 => ∃ alive2 : Bool, r1 = .bool alive2 ∧ ((!alive2) = true → (R (.bool false) h1)) ∧ ((!alive2) = false → (∃ I3 : Hp → Prop, (CallsH Try.prog 9 [.int .i64 80, .slice p0putsa p0putsl p0putsc] h1 fun r4 h2 => ∃ great5 : Bool, r4 = .bool great5 ∧
  ((great5) = true → (R (.bool true) h2)) ∧ ((great5) = false → (((decide (p1page < 0)) = true → (R (.bool true) h2)) ∧ ((decide (p1page < 0)) = false → (((decide (p1page > 4095)) = true → (R (.bool true) h2)) ∧
  ((decide (p1page > 4095)) = false → (((decide (p2offset < 0)) = true → (R (.bool true) h2)) ∧ ((decide (p2offset < 0)) = false → (((decide (p2offset > 255)) = true → (R (.bool true) h2)) ∧ ((decide (p2offset > 255)) = false →
  (I3 h2))))))))))) ∧ ∀ h3 : Hp, I3 h3 → CallsH Try.prog 10 [.int .i64 80, .slice p0putsa p0putsl p0putsc] h3 fun r6 h4 => ∃ Both7 : Option Addr, ∃ Both8 : Option Addr, r6 = .tuple #[.pointer Both7, .pointer Both8] ∧
  ((notIf true Both7.isNone) = true → (R (.bool false) h4)) ∧ ((notIf true Both7.isNone) = false → (CallsH Try.prog 14 [.int .i64 p1page, .int .i64 p2offset] h4 fun r9 h5 => ∃ Join10 : Int, ∃ Join11 : Bool, r9 = .tuple #[.int .u32 Join10, .bool Join11] ∧
  CallsH Try.prog 11 [.pointer Both7, .int .i64 0, .int .u32 Join10, .int .i64 0] h5 fun r12 h6 => ∃ Walk13 : Int, ∃ Walk14 : Int, ∃ Walk15 : Int, ∃ Walk16 : Bool, ∃ Walk17 : Bool, ∃ Walk18 : Bool, r12 = .agg #[.int .i64 Walk13, .int .i64 Walk14, .int .i64 Walk15, .bool Walk16, .bool Walk17, .bool Walk18] ∧
  ∀ h7 : Hp, h7 = new h6 (blk 31 [.int .i64 0, .int .i64 0, .int .i64 0, .bool false, .bool false, .bool false]) → truly true ∧ ∃ T19 : TypeId, ∃ l20 : List Value, bk h7 (sz h6) = some (blk T19 l20) ∧
  0 + 6 ≤ l20.length ∧ ∀ h8 : Hp, h8 = upd h7 (sz h6) T19 (writeAt l20 0 [.int .i64 Walk13, .int .i64 Walk14, .int .i64 Walk15, .bool Walk16, .bool Walk17, .bool Walk18]) → CallsH Try.prog 15 [.pointer Both7, .int .i64 0, .int .i64 p1page] h8 fun r21 h9 => ∃ Look22 : Bool, ∃ Look23 : Bool, ∃ Look24 : Bool, ∃ Look25 : Bool, ∃ Look26 : Int, ∃ Look27 : Bool, r21 = .tuple #[.agg #[.bool Look22, .bool Look23, .bool Look24, .bool Look25, .int .i64 Look26], .bool Look27] ∧
  ∀ h10 : Hp, h10 = new h9 (blk 42 [.bool false, .bool false, .bool false, .bool false, .int .i64 0]) → truly true ∧ ∃ T28 : TypeId, ∃ l29 : List Value, bk h10 (sz h9) = some (blk T28 l29) ∧ 0 + 5 ≤ l29.length ∧
  ∀ h11 : Hp, h11 = upd h10 (sz h9) T28 (writeAt l29 0 [.bool Look22, .bool Look23, .bool Look24, .bool Look25, .int .i64 Look26]) → ∃ I30 : Hp → Prop, (((!Join11) = true → (R (.bool false) h11)) ∧ ((!Join11) = false →
  (∃ Fault31 : Int, cellAt h11 (sz h6) 0 = some (.int .i64 Fault31) ∧ ((notIf false (Look27 == (Fault31 == 0))) = true → (R (.bool false) h11)) ∧ ((notIf false (Look27 == (Fault31 == 0))) = false → (I30 h11))))) ∧
  ∀ h12 : Hp, I30 h12 → ((!Look27) = true → (R (.bool true) h12)) ∧ ((!Look27) = false → (∃ Valid32 : Bool, cellAt h12 (sz h9) 0 = some (.bool Valid32) ∧ ((Valid32) = true → (∃ Frame33 : Int, cellAt h12 (sz h9) 4 = some (.int .i64 Frame33) ∧
  ∃ Frame34 : Int, cellAt h12 (sz h6) 2 = some (.int .i64 Frame34) ∧ ((Frame33 == Frame34) = true → (∃ Write35 : Bool, cellAt h12 (sz h9) 1 = some (.bool Write35) ∧ ∃ Write36 : Bool, cellAt h12 (sz h6) 3 = some (.bool Write36) ∧
  ((notIf true (Write35 == Write36)) = true → (∃ Exec37 : Bool, cellAt h12 (sz h9) 2 = some (.bool Exec37) ∧ ∃ Exec38 : Bool, cellAt h12 (sz h6) 4 = some (.bool Exec38) ∧ ((notIf true (Exec37 == Exec38)) = true →
  (∃ Block39 : Bool, cellAt h12 (sz h9) 3 = some (.bool Block39) ∧ ∃ Block40 : Bool, cellAt h12 (sz h6) 5 = some (.bool Block40) ∧ R (.bool (notIf true (Block39 == Block40))) h12)) ∧ ((notIf true (Exec37 == Exec38)) = false →
  (R (.bool false) h12)))) ∧ ((notIf true (Write35 == Write36)) = false → (R (.bool false) h12)))) ∧ ((Frame33 == Frame34) = false → (R (.bool false) h12)))) ∧ ((Valid32) = false → (R (.bool false) h12))))))))
theorem warderlaw07_WalkLook.eq (p0putsa : Option Addr) (p0putsl : Nat) (p0putsc : Nat) (p1page : Int) (p2offset : Int) (h : Hp) (R : Value → Hp → Prop) : evBody Try.prog calls warderlaw07_WalkLook.hints Try.f5 [.slice p0putsa p0putsl p0putsc, .int .i64 p1page, .int .i64 p2offset] h R = warderlaw07_WalkLook.P p0putsa p0putsl p0putsc p1page p2offset h R := by kernel_rfl
theorem warderlaw07_WalkLook.calls (p0putsa : Option Addr) (p0putsl : Nat) (p0putsc : Nat) (p1page : Int) (p2offset : Int) (h : Hp) (R : Value → Hp → Prop) (hp : warderlaw07_WalkLook.P p0putsa p0putsl p0putsc p1page p2offset h R) : CallsH Try.prog 5 [.slice p0putsa p0putsl p0putsc, .int .i64 p1page, .int .i64 p2offset] h R :=
  calls_of_body calls_ok Try.func5 (args := [.slice p0putsa p0putsl p0putsc, .int .i64 p1page, .int .i64 p2offset]) (by rw [warderlaw07_WalkLook.eq]; exact hp)
/-! ### warderlaw07_WalkApart: function 6 -/
def warderlaw07_WalkApart.hints : Hints := { loops := [(12, [1, 2, 7, 9, 12], [(13, (.one (.int .i64)))])], cuts := [(5, [0, 1, 2], []), (16, [1, 2, 7, 9, 12, 13], [])], orders := [(16, [0, 0, 0, 6, 14, 30, 0, 0, 192, 448, 960, 2047], [0, 1, 2, 3, 4, 5, 6, 7, 8, 9, 10, 11]), (17, [0, 0, 3, 0, 15, 31], [0, 1, 3, 2, 4, 5])] }
def warderlaw07_WalkApart.P (p0putsa : Option Addr) (p0putsl : Nat) (p0putsc : Nat) (p1othera : Option Addr) (p1otherl : Nat) (p1otherc : Nat) (p2addr : Int) (h : Hp) (R : Value → Hp → Prop) : Prop :=
  CallsH Try.prog 8 [] h fun r1 h1 => ∃ alive2 : Bool, r1 = .bool alive2 ∧ ((!alive2) = true → (R (.bool false) h1)) ∧ ((!alive2) = false → (∃ I3 : Hp → Prop, (CallsH Try.prog 9 [.int .i64 80, .slice p0putsa p0putsl p0putsc] h1 fun r4 h2 => ∃ great5 : Bool, r4 = .bool great5 ∧
  ((great5) = true → (R (.bool true) h2)) ∧ ((great5) = false → (((decide (((p1otherl : Nat) : Int) > 100)) = true → (R (.bool true) h2)) ∧ ((decide (((p1otherl : Nat) : Int) > 100)) = false → (I3 h2))))) ∧
  ∀ h3 : Hp, I3 h3 → CallsH Try.prog 10 [.int .i64 80, .slice p0putsa p0putsl p0putsc] h3 fun r6 h4 => ∃ Both7 : Option Addr, ∃ Both8 : Option Addr, r6 = .tuple #[.pointer Both7, .pointer Both8] ∧ ((notIf true Both7.isNone) = true →
  (R (.bool false) h4)) ∧ ((notIf true Both7.isNone) = false → (CallsH Try.prog 11 [.pointer Both7, .int .i64 0, .int .u32 p2addr, .int .i64 0] h4 fun r9 h5 => ∃ Walk10 : Int, ∃ Walk11 : Int, ∃ Walk12 : Int, ∃ Walk13 : Bool, ∃ Walk14 : Bool, ∃ Walk15 : Bool, r9 = .agg #[.int .i64 Walk10, .int .i64 Walk11, .int .i64 Walk12, .bool Walk13, .bool Walk14, .bool Walk15] ∧
  ∀ h6 : Hp, h6 = new h5 (blk 31 [.int .i64 0, .int .i64 0, .int .i64 0, .bool false, .bool false, .bool false]) → truly true ∧ ∃ T16 : TypeId, ∃ l17 : List Value, bk h6 (sz h5) = some (blk T16 l17) ∧
  0 + 6 ≤ l17.length ∧ ∀ h7 : Hp, h7 = upd h6 (sz h5) T16 (writeAt l17 0 [.int .i64 Walk10, .int .i64 Walk11, .int .i64 Walk12, .bool Walk13, .bool Walk14, .bool Walk15]) → CallsH Try.prog 17 [.int .u32 p2addr] h7 fun r18 h8 => ∃ First19 : Int, r18 = .int .i64 First19 ∧
  CallsH Try.prog 16 [.pointer Both7, .int .u32 (IntKind.wrap .u32 (IntKind.wrap .i64 (4 * First19)))] h8 fun r20 h9 => ∃ Word21 : Int, ∃ Word22 : Bool, r20 = .tuple #[.int .u32 Word21, .bool Word22] ∧
  CallsH Try.prog 18 [.int .u32 Word21] h9 fun r23 h10 => ∃ Decode24 : Bool, ∃ Decode25 : Bool, ∃ Decode26 : Bool, ∃ Decode27 : Bool, ∃ Decode28 : Int, r23 = .agg #[.bool Decode24, .bool Decode25, .bool Decode26, .bool Decode27, .int .i64 Decode28] ∧
  ∀ h11 : Hp, h11 = new h10 (blk 42 [.bool false, .bool false, .bool false, .bool false, .int .i64 0]) → truly true ∧ ∃ T29 : TypeId, ∃ l30 : List Value, bk h11 (sz h10) = some (blk T29 l30) ∧ 0 + 5 ≤ l30.length ∧
  ∀ h12 : Hp, h12 = upd h11 (sz h10) T29 (writeAt l30 0 [.bool Decode24, .bool Decode25, .bool Decode26, .bool Decode27, .int .i64 Decode28]) → ∃ I31 : Int → Hp → Prop, ∃ m32 : Int → Hp → Nat, I31 0 h12 ∧
  ∀ i33 : Int, ∀ h13 : Hp, I31 i33 h13 → ((decide (i33 < ((p1otherl : Nat) : Int))) = true → ((0 : Int) ≤ i33 ∧ i33 < ((p1otherl : Nat) : Int) ∧ ∃ b34 : Nat, ∃ o35 : Nat, p1othera = some ⟨b34, o35, none⟩ ∧
  ∃ Addr36 : Int, cellAt h13 b34 (o35 + i33.toNat * 2) = some (.int .u32 Addr36) ∧ 256 ≠ (0 : Int) ∧ ∃ I37 : Hp → Prop, ((((IntKind.wrap .i64 (IntKind.wrap .u32 (Int.tdiv Addr36 256))) == 0) = true → (I31 (IntKind.wrap .i64 (i33 + 1)) h13 ∧
  m32 (IntKind.wrap .i64 (i33 + 1)) h13 < m32 i33 h13)) ∧ (((IntKind.wrap .i64 (IntKind.wrap .u32 (Int.tdiv Addr36 256))) == 0) = false → (∃ Valid38 : Bool, cellAt h13 (sz h10) 0 = some (.bool Valid38) ∧
  ((Valid38) = true → (∃ Block39 : Bool, cellAt h13 (sz h10) 3 = some (.bool Block39) ∧ ((!Block39) = true → (∃ Frame40 : Int, cellAt h13 (sz h10) 4 = some (.int .i64 Frame40) ∧ (((IntKind.wrap .i64 (IntKind.wrap .u32 (Int.tdiv Addr36 256))) == Frame40) = true →
  (I31 (IntKind.wrap .i64 (i33 + 1)) h13 ∧ m32 (IntKind.wrap .i64 (i33 + 1)) h13 < m32 i33 h13)) ∧ (((IntKind.wrap .i64 (IntKind.wrap .u32 (Int.tdiv Addr36 256))) == Frame40) = false → (I37 h13)))) ∧ ((!Block39) = false →
  (I37 h13)))) ∧ ((Valid38) = false → (I37 h13))))) ∧ ∀ h14 : Hp, I37 h14 → (0 : Int) ≤ i33 ∧ i33 < ((p1otherl : Nat) : Int) ∧ ∃ b41 : Nat, ∃ o42 : Nat, p1othera = some ⟨b41, o42, none⟩ ∧ ∃ Addr43 : Int, cellAt h14 b41 (o42 + i33.toNat * 2) = some (.int .u32 Addr43) ∧
  (0 : Int) ≤ i33 ∧ i33 < ((p1otherl : Nat) : Int) ∧ ∃ b44 : Nat, ∃ o45 : Nat, p1othera = some ⟨b44, o45, none⟩ ∧ ∃ Value46 : Int, cellAt h14 b44 (o45 + i33.toNat * 2 + 1) = some (.int .u32 Value46) ∧
  CallsH Try.prog 19 [.pointer Both7, .int .u32 Addr43, .int .u32 Value46] h14 fun r47 h15 => ∃ PutWord48 : Bool, r47 = .bool PutWord48 ∧ I31 (IntKind.wrap .i64 (i33 + 1)) h15 ∧ m32 (IntKind.wrap .i64 (i33 + 1)) h15 < m32 i33 h13)) ∧
  ((decide (i33 < ((p1otherl : Nat) : Int))) = false → (∃ x49 : Int, cellAt h13 (sz h5) (0 + 0) = some (.int .i64 x49) ∧ ∃ x50 : Int, cellAt h13 (sz h5) (0 + 1) = some (.int .i64 x50) ∧ ∃ x51 : Int, cellAt h13 (sz h5) (0 + 2) = some (.int .i64 x51) ∧
  ∃ x52 : Bool, cellAt h13 (sz h5) (0 + 3) = some (.bool x52) ∧ ∃ x53 : Bool, cellAt h13 (sz h5) (0 + 4) = some (.bool x53) ∧ ∃ x54 : Bool, cellAt h13 (sz h5) (0 + 5) = some (.bool x54) ∧ CallsH Try.prog 11 [.pointer Both7, .int .i64 0, .int .u32 p2addr, .int .i64 0] h13 fun r55 h16 => ∃ Walk56 : Int, ∃ Walk57 : Int, ∃ Walk58 : Int, ∃ Walk59 : Bool, ∃ Walk60 : Bool, ∃ Walk61 : Bool, r55 = .agg #[.int .i64 Walk56, .int .i64 Walk57, .int .i64 Walk58, .bool Walk59, .bool Walk60, .bool Walk61] ∧
  cellAt h16 (sz h5) (0 + 0) = some (.int .i64 x49) ∧ cellAt h16 (sz h5) (0 + 1) = some (.int .i64 x50) ∧ cellAt h16 (sz h5) (0 + 2) = some (.int .i64 x51) ∧ cellAt h16 (sz h5) (0 + 3) = some (.bool x52) ∧
  cellAt h16 (sz h5) (0 + 4) = some (.bool x53) ∧ cellAt h16 (sz h5) (0 + 5) = some (.bool x54) ∧ R (.bool (notIf true ((Walk56 == x49) && ((Walk57 == x50) && ((Walk58 == x51) && (((Walk59 : Bool) == x52) && (((Walk60 : Bool) == x53) && (((Walk61 : Bool) == x54) && true)))))))) h16))))))
theorem warderlaw07_WalkApart.eq (p0putsa : Option Addr) (p0putsl : Nat) (p0putsc : Nat) (p1othera : Option Addr) (p1otherl : Nat) (p1otherc : Nat) (p2addr : Int) (h : Hp) (R : Value → Hp → Prop) : evBody Try.prog calls warderlaw07_WalkApart.hints Try.f6 [.slice p0putsa p0putsl p0putsc, .slice p1othera p1otherl p1otherc, .int .u32 p2addr] h R = warderlaw07_WalkApart.P p0putsa p0putsl p0putsc p1othera p1otherl p1otherc p2addr h R := by kernel_rfl
theorem warderlaw07_WalkApart.calls (p0putsa : Option Addr) (p0putsl : Nat) (p0putsc : Nat) (p1othera : Option Addr) (p1otherl : Nat) (p1otherc : Nat) (p2addr : Int) (h : Hp) (R : Value → Hp → Prop) (hp : warderlaw07_WalkApart.P p0putsa p0putsl p0putsc p1othera p1otherl p1otherc p2addr h R) : CallsH Try.prog 6 [.slice p0putsa p0putsl p0putsc, .slice p1othera p1otherl p1otherc, .int .u32 p2addr] h R :=
  calls_of_body calls_ok Try.func6 (args := [.slice p0putsa p0putsl p0putsc, .slice p1othera p1otherl p1otherc, .int .u32 p2addr]) (by rw [warderlaw07_WalkApart.eq]; exact hp)
/-! ### warderlaw07_WalkAnswers: function 7 -/
def warderlaw07_WalkAnswers.hints : Hints := { loops := [(10, [2, 3, 4, 11, 12, 13], [(14, (.one (.int .i64)))])], cuts := [(5, [0, 1, 2, 3, 4], []), (8, [2, 3, 4, 11, 12], [])], orders := [(12, [0, 0, 0, 0, 12, 28, 0, 127, 255, 0, 0, 0, 0, 6144, 14336, 0, 65535, 131071], [0, 1, 2, 3, 4, 5, 6, 9, 10, 11, 12, 13, 14, 15, 7, 8, 16, 17])] }
def warderlaw07_WalkAnswers.P (p0frames : Int) (p1putsa : Option Addr) (p1putsl : Nat) (p1putsc : Nat) (p2root : Int) (p3addrsa : Option Addr) (p3addrsl : Nat) (p3addrsc : Nat) (p4access : Int) (h : Hp) (R : Value → Hp → Prop) : Prop :=
  CallsH Try.prog 8 [] h fun r1 h1 => ∃ alive2 : Bool, r1 = .bool alive2 ∧ ((!alive2) = true → (R (.bool false) h1)) ∧ ((!alive2) = false → (∃ I3 : Hp → Prop, (CallsH Try.prog 9 [.int .i64 p0frames, .slice p1putsa p1putsl p1putsc] h1 fun r4 h2 => ∃ great5 : Bool, r4 = .bool great5 ∧
  ((great5) = true → (R (.bool true) h2)) ∧ ((great5) = false → (((decide (((p3addrsl : Nat) : Int) > 60)) = true → (R (.bool true) h2)) ∧ ((decide (((p3addrsl : Nat) : Int) > 60)) = false → (I3 h2))))) ∧
  ∀ h3 : Hp, I3 h3 → CallsH Try.prog 10 [.int .i64 p0frames, .slice p1putsa p1putsl p1putsc] h3 fun r6 h4 => ∃ Both7 : Option Addr, ∃ Both8 : Option Addr, r6 = .tuple #[.pointer Both7, .pointer Both8] ∧
  ∃ I9 : Hp → Prop, (((notIf true Both7.isNone) = true → (R (.bool false) h4)) ∧ ((notIf true Both7.isNone) = false → (((notIf true Both8.isNone) = true → (R (.bool false) h4)) ∧ ((notIf true Both8.isNone) = false →
  (I9 h4))))) ∧ ∀ h5 : Hp, I9 h5 → CallsH Try.prog 20 [.pointer Both7] h5 fun r10 h6 => ∃ Clone11 : Option Addr, r10 = .pointer Clone11 ∧ ∃ I12 : Int → Hp → Prop, ∃ m13 : Int → Hp → Nat, I12 0 h6 ∧ ∀ i14 : Int, ∀ h7 : Hp, I12 i14 h7 →
  ((decide (i14 < ((p3addrsl : Nat) : Int))) = true → ((0 : Int) ≤ i14 ∧ i14 < ((p3addrsl : Nat) : Int) ∧ ∃ b15 : Nat, ∃ o16 : Nat, p3addrsa = some ⟨b15, o16, none⟩ ∧ ∃ x17 : Int, cellAt h7 b15 (o16 + i14.toNat * 1) = some (.int .u32 x17) ∧
  (0 : Int) ≤ i14 ∧ i14 < ((p3addrsl : Nat) : Int) ∧ ∃ b18 : Nat, ∃ o19 : Nat, p3addrsa = some ⟨b18, o19, none⟩ ∧ ∃ x20 : Int, cellAt h7 b18 (o19 + i14.toNat * 1) = some (.int .u32 x20) ∧ CallsH Try.prog 11 [.pointer Both7, .int .i64 p2root, .int .u32 x17, .int .i64 p4access] h7 fun r21 h8 => ∃ Walk22 : Int, ∃ Walk23 : Int, ∃ Walk24 : Int, ∃ Walk25 : Bool, ∃ Walk26 : Bool, ∃ Walk27 : Bool, r21 = .agg #[.int .i64 Walk22, .int .i64 Walk23, .int .i64 Walk24, .bool Walk25, .bool Walk26, .bool Walk27] ∧
  cellAt h8 b18 (o19 + i14.toNat * 1) = some (.int .u32 x20) ∧ CallsH Try.prog 21 [.agg #[.int .i64 Walk22, .int .i64 Walk23, .int .i64 Walk24, .bool Walk25, .bool Walk26, .bool Walk27]] h8 fun r28 h9 => ∃ ofx29 : Int, ∃ ofx30 : Int, ∃ ofx31 : Int, ∃ ofx32 : Bool, ∃ ofx33 : Bool, ∃ ofx34 : Bool, r28 = .agg #[.int .i64 ofx29, .int .i64 ofx30, .int .i64 ofx31, .bool ofx32, .bool ofx33, .bool ofx34] ∧
  cellAt h9 b18 (o19 + i14.toNat * 1) = some (.int .u32 x20) ∧ CallsH Try.prog 22 [.pointer Both8, .int .i64 p2root, .int .u32 x20, .int .i64 p4access] h9 fun r35 h10 => ∃ Walk36 : Int, ∃ Walk37 : Int, ∃ Walk38 : Int, ∃ Walk39 : Bool, ∃ Walk40 : Bool, ∃ Walk41 : Bool, r35 = .agg #[.int .i64 Walk36, .int .i64 Walk37, .int .i64 Walk38, .bool Walk39, .bool Walk40, .bool Walk41] ∧
  ((notIf false ((ofx29 == Walk36) && ((ofx30 == Walk37) && ((ofx31 == Walk38) && (((ofx32 : Bool) == Walk39) && (((ofx33 : Bool) == Walk40) && (((ofx34 : Bool) == Walk41) && true))))))) = true → (R (.bool false) h10)) ∧
  ((notIf false ((ofx29 == Walk36) && ((ofx30 == Walk37) && ((ofx31 == Walk38) && (((ofx32 : Bool) == Walk39) && (((ofx33 : Bool) == Walk40) && (((ofx34 : Bool) == Walk41) && true))))))) = false → ((0 : Int) ≤ i14 ∧
  i14 < ((p3addrsl : Nat) : Int) ∧ ∃ b42 : Nat, ∃ o43 : Nat, p3addrsa = some ⟨b42, o43, none⟩ ∧ ∃ x44 : Int, cellAt h10 b42 (o43 + i14.toNat * 1) = some (.int .u32 x44) ∧ (0 : Int) ≤ 8 ∧ CallsH Try.prog 15 [.pointer Both7, .int .i64 p2root, .int .i64 (IntKind.wrap .i64 (shrV .u32 x44 8))] h10 fun r45 h11 => ∃ Look46 : Bool, ∃ Look47 : Bool, ∃ Look48 : Bool, ∃ Look49 : Bool, ∃ Look50 : Int, ∃ Look51 : Bool, r45 = .tuple #[.agg #[.bool Look46, .bool Look47, .bool Look48, .bool Look49, .int .i64 Look50], .bool Look51] ∧
  ∀ h12 : Hp, h12 = new h11 (blk 42 [.bool false, .bool false, .bool false, .bool false, .int .i64 0]) → truly true ∧ ∃ T52 : TypeId, ∃ l53 : List Value, bk h12 (sz h11) = some (blk T52 l53) ∧ 0 + 5 ≤ l53.length ∧
  ∀ h13 : Hp, h13 = upd h12 (sz h11) T52 (writeAt l53 0 [.bool Look46, .bool Look47, .bool Look48, .bool Look49, .int .i64 Look50]) → (0 : Int) ≤ i14 ∧ i14 < ((p3addrsl : Nat) : Int) ∧ ∃ b54 : Nat, ∃ o55 : Nat, p3addrsa = some ⟨b54, o55, none⟩ ∧
  ∃ x56 : Int, cellAt h13 b54 (o55 + i14.toNat * 1) = some (.int .u32 x56) ∧ CallsH Try.prog 22 [.pointer Both8, .int .i64 p2root, .int .u32 x56, .int .i64 0] h13 fun r57 h14 => ∃ Walk58 : Int, ∃ Walk59 : Int, ∃ Walk60 : Int, ∃ Walk61 : Bool, ∃ Walk62 : Bool, ∃ Walk63 : Bool, r57 = .agg #[.int .i64 Walk58, .int .i64 Walk59, .int .i64 Walk60, .bool Walk61, .bool Walk62, .bool Walk63] ∧
  ∀ h15 : Hp, h15 = new h14 (blk 55 [.int .i64 0, .int .i64 0, .int .i64 0, .bool false, .bool false, .bool false]) → truly true ∧ ∃ T64 : TypeId, ∃ l65 : List Value, bk h15 (sz h14) = some (blk T64 l65) ∧
  0 + 6 ≤ l65.length ∧ ∀ h16 : Hp, h16 = upd h15 (sz h14) T64 (writeAt l65 0 [.int .i64 Walk58, .int .i64 Walk59, .int .i64 Walk60, .bool Walk61, .bool Walk62, .bool Walk63]) → ∃ Fault66 : Int, cellAt h16 (sz h14) 0 = some (.int .i64 Fault66) ∧
  ((notIf false (Look51 == (Fault66 == 0))) = true → (R (.bool false) h16)) ∧ ((notIf false (Look51 == (Fault66 == 0))) = false → (((Look51) = true → (∃ Frame67 : Int, cellAt h16 (sz h11) 4 = some (.int .i64 Frame67) ∧
  ∃ Frame68 : Int, cellAt h16 (sz h14) 2 = some (.int .i64 Frame68) ∧ ((Frame67 != Frame68) = true → (R (.bool false) h16)) ∧ ((Frame67 != Frame68) = false → (∃ Write69 : Bool, cellAt h16 (sz h11) 1 = some (.bool Write69) ∧
  ∃ Write70 : Bool, cellAt h16 (sz h14) 3 = some (.bool Write70) ∧ ((notIf false (Write69 == Write70)) = true → (R (.bool false) h16)) ∧ ((notIf false (Write69 == Write70)) = false → (∃ Exec71 : Bool, cellAt h16 (sz h11) 2 = some (.bool Exec71) ∧
  ∃ Exec72 : Bool, cellAt h16 (sz h14) 4 = some (.bool Exec72) ∧ ((notIf false (Exec71 == Exec72)) = true → (R (.bool false) h16)) ∧ ((notIf false (Exec71 == Exec72)) = false → (∃ Block73 : Bool, cellAt h16 (sz h11) 3 = some (.bool Block73) ∧
  ∃ Block74 : Bool, cellAt h16 (sz h14) 5 = some (.bool Block74) ∧ ((notIf false (Block73 == Block74)) = true → (R (.bool false) h16)) ∧ ((notIf false (Block73 == Block74)) = false → (∃ Valid75 : Bool, cellAt h16 (sz h11) 0 = some (.bool Valid75) ∧
  ((!Valid75) = true → (R (.bool false) h16)) ∧ ((!Valid75) = false → (((!Look51) = true → (∃ x76 : Bool, cellAt h16 (sz h11) (0 + 0) = some (.bool x76) ∧ ∃ x77 : Bool, cellAt h16 (sz h11) (0 + 1) = some (.bool x77) ∧
  ∃ x78 : Bool, cellAt h16 (sz h11) (0 + 2) = some (.bool x78) ∧ ∃ x79 : Bool, cellAt h16 (sz h11) (0 + 3) = some (.bool x79) ∧ ∃ x80 : Int, cellAt h16 (sz h11) (0 + 4) = some (.int .i64 x80) ∧ ((notIf false (((x76 : Bool) == false) && (((x77 : Bool) == false) && (((x78 : Bool) == false) && (((x79 : Bool) == false) && ((x80 == 0) && true)))))) = true →
  (R (.bool false) h16)) ∧ ((notIf false (((x76 : Bool) == false) && (((x77 : Bool) == false) && (((x78 : Bool) == false) && (((x79 : Bool) == false) && ((x80 == 0) && true)))))) = false → (I12 (IntKind.wrap .i64 (i14 + 1)) h16 ∧
  m13 (IntKind.wrap .i64 (i14 + 1)) h16 < m13 i14 h7)))) ∧ ((!Look51) = false → (I12 (IntKind.wrap .i64 (i14 + 1)) h16 ∧ m13 (IntKind.wrap .i64 (i14 + 1)) h16 < m13 i14 h7)))))))))))))) ∧ ((Look51) = false →
  (((!Look51) = true → (∃ x81 : Bool, cellAt h16 (sz h11) (0 + 0) = some (.bool x81) ∧ ∃ x82 : Bool, cellAt h16 (sz h11) (0 + 1) = some (.bool x82) ∧ ∃ x83 : Bool, cellAt h16 (sz h11) (0 + 2) = some (.bool x83) ∧
  ∃ x84 : Bool, cellAt h16 (sz h11) (0 + 3) = some (.bool x84) ∧ ∃ x85 : Int, cellAt h16 (sz h11) (0 + 4) = some (.int .i64 x85) ∧ ((notIf false (((x81 : Bool) == false) && (((x82 : Bool) == false) && (((x83 : Bool) == false) && (((x84 : Bool) == false) && ((x85 == 0) && true)))))) = true →
  (R (.bool false) h16)) ∧ ((notIf false (((x81 : Bool) == false) && (((x82 : Bool) == false) && (((x83 : Bool) == false) && (((x84 : Bool) == false) && ((x85 == 0) && true)))))) = false → (I12 (IntKind.wrap .i64 (i14 + 1)) h16 ∧
  m13 (IntKind.wrap .i64 (i14 + 1)) h16 < m13 i14 h7)))) ∧ ((!Look51) = false → (I12 (IntKind.wrap .i64 (i14 + 1)) h16 ∧ m13 (IntKind.wrap .i64 (i14 + 1)) h16 < m13 i14 h7)))))))))) ∧ ((decide (i14 < ((p3addrsl : Nat) : Int))) = false →
  (CallsH Try.prog 23 [.pointer Both7, .pointer Clone11] h7 fun r86 h17 => ∃ Differa87 : Option Addr, ∃ Differl88 : Nat, ∃ Differc89 : Nat, r86 = .slice Differa87 Differl88 Differc89 ∧ R (.bool (((Differl88 : Nat) : Int) == 0)) h17))))
theorem warderlaw07_WalkAnswers.eq (p0frames : Int) (p1putsa : Option Addr) (p1putsl : Nat) (p1putsc : Nat) (p2root : Int) (p3addrsa : Option Addr) (p3addrsl : Nat) (p3addrsc : Nat) (p4access : Int) (h : Hp) (R : Value → Hp → Prop) : evBody Try.prog calls warderlaw07_WalkAnswers.hints Try.f7 [.int .i64 p0frames, .slice p1putsa p1putsl p1putsc, .int .i64 p2root, .slice p3addrsa p3addrsl p3addrsc, .int .i64 p4access] h R = warderlaw07_WalkAnswers.P p0frames p1putsa p1putsl p1putsc p2root p3addrsa p3addrsl p3addrsc p4access h R := by kernel_rfl
theorem warderlaw07_WalkAnswers.calls (p0frames : Int) (p1putsa : Option Addr) (p1putsl : Nat) (p1putsc : Nat) (p2root : Int) (p3addrsa : Option Addr) (p3addrsl : Nat) (p3addrsc : Nat) (p4access : Int) (h : Hp) (R : Value → Hp → Prop) (hp : warderlaw07_WalkAnswers.P p0frames p1putsa p1putsl p1putsc p2root p3addrsa p3addrsl p3addrsc p4access h R) : CallsH Try.prog 7 [.int .i64 p0frames, .slice p1putsa p1putsl p1putsc, .int .i64 p2root, .slice p3addrsa p3addrsl p3addrsc, .int .i64 p4access] h R :=
  calls_of_body calls_ok Try.func7 (args := [.int .i64 p0frames, .slice p1putsa p1putsl p1putsc, .int .i64 p2root, .slice p3addrsa p3addrsl p3addrsc, .int .i64 p4access]) (by rw [warderlaw07_WalkAnswers.eq]; exact hp)
/-! ### warderlaw07_alive: function 8 -/
def warderlaw07_alive.hints : Hints := { loops := [], cuts := [], orders := [] }
def warderlaw07_alive.P  (h : Hp) (R : Value → Hp → Prop) : Prop :=
  ∀ h1 : Hp, h1 = new h (blk 50 [.int .u32 0, .int .u32 257, .int .u32 4, .int .u32 4111, .int .u32 264, .int .u32 775]) → CallsH Try.prog 10 [.int .i64 80, .slice (some ⟨sz h, 0, none⟩) 3 3] h1 fun r1 h2 => ∃ Both2 : Option Addr, ∃ Both3 : Option Addr, r1 = .tuple #[.pointer Both2, .pointer Both3] ∧
  ((notIf true Both2.isNone) = true → (R (.bool false) h2)) ∧ ((notIf true Both2.isNone) = false → (CallsH Try.prog 11 [.pointer Both2, .int .i64 0, .int .u32 530, .int .i64 1] h2 fun r4 h3 => ∃ Walk5 : Int, ∃ Walk6 : Int, ∃ Walk7 : Int, ∃ Walk8 : Bool, ∃ Walk9 : Bool, ∃ Walk10 : Bool, r4 = .agg #[.int .i64 Walk5, .int .i64 Walk6, .int .i64 Walk7, .bool Walk8, .bool Walk9, .bool Walk10] ∧
  ∀ h4 : Hp, h4 = new h3 (blk 31 [.int .i64 0, .int .i64 0, .int .i64 0, .bool false, .bool false, .bool false]) → truly true ∧ ∃ T11 : TypeId, ∃ l12 : List Value, bk h4 (sz h3) = some (blk T11 l12) ∧
  0 + 6 ≤ l12.length ∧ ∀ h5 : Hp, h5 = upd h4 (sz h3) T11 (writeAt l12 0 [.int .i64 Walk5, .int .i64 Walk6, .int .i64 Walk7, .bool Walk8, .bool Walk9, .bool Walk10]) → CallsH Try.prog 11 [.pointer Both2, .int .i64 0, .int .u32 17157, .int .i64 2] h5 fun r13 h6 => ∃ Walk14 : Int, ∃ Walk15 : Int, ∃ Walk16 : Int, ∃ Walk17 : Bool, ∃ Walk18 : Bool, ∃ Walk19 : Bool, r13 = .agg #[.int .i64 Walk14, .int .i64 Walk15, .int .i64 Walk16, .bool Walk17, .bool Walk18, .bool Walk19] ∧
  ∀ h7 : Hp, h7 = new h6 (blk 31 [.int .i64 0, .int .i64 0, .int .i64 0, .bool false, .bool false, .bool false]) → truly true ∧ ∃ T20 : TypeId, ∃ l21 : List Value, bk h7 (sz h6) = some (blk T20 l21) ∧
  0 + 6 ≤ l21.length ∧ ∀ h8 : Hp, h8 = upd h7 (sz h6) T20 (writeAt l21 0 [.int .i64 Walk14, .int .i64 Walk15, .int .i64 Walk16, .bool Walk17, .bool Walk18, .bool Walk19]) → CallsH Try.prog 11 [.pointer Both2, .int .i64 0, .int .u32 32768, .int .i64 0] h8 fun r22 h9 => ∃ Walk23 : Int, ∃ Walk24 : Int, ∃ Walk25 : Int, ∃ Walk26 : Bool, ∃ Walk27 : Bool, ∃ Walk28 : Bool, r22 = .agg #[.int .i64 Walk23, .int .i64 Walk24, .int .i64 Walk25, .bool Walk26, .bool Walk27, .bool Walk28] ∧
  ∀ h10 : Hp, h10 = new h9 (blk 31 [.int .i64 0, .int .i64 0, .int .i64 0, .bool false, .bool false, .bool false]) → truly true ∧ ∃ T29 : TypeId, ∃ l30 : List Value, bk h10 (sz h9) = some (blk T29 l30) ∧
  0 + 6 ≤ l30.length ∧ ∀ h11 : Hp, h11 = upd h10 (sz h9) T29 (writeAt l30 0 [.int .i64 Walk23, .int .i64 Walk24, .int .i64 Walk25, .bool Walk26, .bool Walk27, .bool Walk28]) → CallsH Try.prog 15 [.pointer Both2, .int .i64 0, .int .i64 2] h11 fun r31 h12 => ∃ Look32 : Bool, ∃ Look33 : Bool, ∃ Look34 : Bool, ∃ Look35 : Bool, ∃ Look36 : Int, ∃ Look37 : Bool, r31 = .tuple #[.agg #[.bool Look32, .bool Look33, .bool Look34, .bool Look35, .int .i64 Look36], .bool Look37] ∧
  ∀ h13 : Hp, h13 = new h12 (blk 42 [.bool false, .bool false, .bool false, .bool false, .int .i64 0]) → truly true ∧ ∃ T38 : TypeId, ∃ l39 : List Value, bk h13 (sz h12) = some (blk T38 l39) ∧ 0 + 5 ≤ l39.length ∧
  ∀ h14 : Hp, h14 = upd h13 (sz h12) T38 (writeAt l39 0 [.bool Look32, .bool Look33, .bool Look34, .bool Look35, .int .i64 Look36]) → CallsH Try.prog 13 [.pointer Both2, .int .i64 0] h14 fun r40 h15 => ∃ Pagesa41 : Option Addr, ∃ Pagesl42 : Nat, ∃ Pagesc43 : Nat, r40 = .slice Pagesa41 Pagesl42 Pagesc43 ∧
  ((Look37) = true → (∃ x44 : Int, cellAt h15 (sz h3) (0 + 0) = some (.int .i64 x44) ∧ ∃ x45 : Int, cellAt h15 (sz h3) (0 + 1) = some (.int .i64 x45) ∧ ∃ x46 : Int, cellAt h15 (sz h3) (0 + 2) = some (.int .i64 x46) ∧
  ∃ x47 : Bool, cellAt h15 (sz h3) (0 + 3) = some (.bool x47) ∧ ∃ x48 : Bool, cellAt h15 (sz h3) (0 + 4) = some (.bool x48) ∧ ∃ x49 : Bool, cellAt h15 (sz h3) (0 + 5) = some (.bool x49) ∧ ((notIf true ((x44 == 0) && ((x45 == 2) && ((x46 == 3) && (((x47 : Bool) == true) && (((x48 : Bool) == true) && (((x49 : Bool) == false) && true))))))) = true →
  (∃ x50 : Int, cellAt h15 (sz h6) (0 + 0) = some (.int .i64 x50) ∧ ∃ x51 : Int, cellAt h15 (sz h6) (0 + 1) = some (.int .i64 x51) ∧ ∃ x52 : Int, cellAt h15 (sz h6) (0 + 2) = some (.int .i64 x52) ∧ ∃ x53 : Bool, cellAt h15 (sz h6) (0 + 3) = some (.bool x53) ∧
  ∃ x54 : Bool, cellAt h15 (sz h6) (0 + 4) = some (.bool x54) ∧ ∃ x55 : Bool, cellAt h15 (sz h6) (0 + 5) = some (.bool x55) ∧ ((notIf true ((x50 == 0) && ((x51 == 1) && ((x52 == 19) && (((x53 : Bool) == true) && (((x54 : Bool) == true) && (((x55 : Bool) == true) && true))))))) = true →
  (∃ x56 : Int, cellAt h15 (sz h9) (0 + 0) = some (.int .i64 x56) ∧ ∃ x57 : Int, cellAt h15 (sz h9) (0 + 1) = some (.int .i64 x57) ∧ ∃ x58 : Int, cellAt h15 (sz h9) (0 + 2) = some (.int .i64 x58) ∧ ∃ x59 : Bool, cellAt h15 (sz h9) (0 + 3) = some (.bool x59) ∧
  ∃ x60 : Bool, cellAt h15 (sz h9) (0 + 4) = some (.bool x60) ∧ ∃ x61 : Bool, cellAt h15 (sz h9) (0 + 5) = some (.bool x61) ∧ ((notIf true ((x56 == 2) && ((x57 == 1) && ((x58 == 0) && (((x59 : Bool) == false) && (((x60 : Bool) == false) && (((x61 : Bool) == false) && true))))))) = true →
  (∃ Frame62 : Int, cellAt h15 (sz h12) 4 = some (.int .i64 Frame62) ∧ ((Frame62 == 3) = true → (((((Pagesl42 : Nat) : Int) == 65) = true → ((0 : Int) ≤ 0 ∧ (0 : Int) < ((Pagesl42 : Nat) : Int) ∧ ∃ b63 : Nat, ∃ o64 : Nat, Pagesa41 = some ⟨b63, o64, none⟩ ∧
  ∃ x65 : Int, cellAt h15 b63 (o64 + (0 : Int).toNat * 1) = some (.int .i64 x65) ∧ R (.bool (x65 == 2)) h15)) ∧ ((((Pagesl42 : Nat) : Int) == 65) = false → (R (.bool false) h15)))) ∧ ((Frame62 == 3) = false →
  (R (.bool false) h15)))) ∧ ((notIf true ((x56 == 2) && ((x57 == 1) && ((x58 == 0) && (((x59 : Bool) == false) && (((x60 : Bool) == false) && (((x61 : Bool) == false) && true))))))) = false → (R (.bool false) h15)))) ∧
  ((notIf true ((x50 == 0) && ((x51 == 1) && ((x52 == 19) && (((x53 : Bool) == true) && (((x54 : Bool) == true) && (((x55 : Bool) == true) && true))))))) = false → (R (.bool false) h15)))) ∧ ((notIf true ((x44 == 0) && ((x45 == 2) && ((x46 == 3) && (((x47 : Bool) == true) && (((x48 : Bool) == true) && (((x49 : Bool) == false) && true))))))) = false →
  (R (.bool false) h15)))) ∧ ((Look37) = false → (R (.bool false) h15))))
theorem warderlaw07_alive.eq  (h : Hp) (R : Value → Hp → Prop) : evBody Try.prog calls warderlaw07_alive.hints Try.f8 [] h R = warderlaw07_alive.P  h R := by kernel_rfl
theorem warderlaw07_alive.calls  (h : Hp) (R : Value → Hp → Prop) (hp : warderlaw07_alive.P  h R) : CallsH Try.prog 8 [] h R :=
  calls_of_body calls_ok Try.func8 (args := []) (by rw [warderlaw07_alive.eq]; exact hp)
/-! ### warderlaw07_great: function 9 -/
def warderlaw07_great.hints : Hints := { loops := [], cuts := [], orders := [] }
def warderlaw07_great.P (p0frames : Int) (p1putsa : Option Addr) (p1putsl : Nat) (p1putsc : Nat) (h : Hp) (R : Value → Hp → Prop) : Prop :=
  ((decide (p0frames < 1)) = true → (R (.bool true) h)) ∧ ((decide (p0frames < 1)) = false → (((decide (p0frames > 100)) = true → (R (.bool true) h)) ∧ ((decide (p0frames > 100)) = false → (R (.bool (decide (((p1putsl : Nat) : Int) > 100))) h))))
theorem warderlaw07_great.eq (p0frames : Int) (p1putsa : Option Addr) (p1putsl : Nat) (p1putsc : Nat) (h : Hp) (R : Value → Hp → Prop) : evBody Try.prog calls warderlaw07_great.hints Try.f9 [.int .i64 p0frames, .slice p1putsa p1putsl p1putsc] h R = warderlaw07_great.P p0frames p1putsa p1putsl p1putsc h R := by kernel_rfl
theorem warderlaw07_great.calls (p0frames : Int) (p1putsa : Option Addr) (p1putsl : Nat) (p1putsc : Nat) (h : Hp) (R : Value → Hp → Prop) (hp : warderlaw07_great.P p0frames p1putsa p1putsl p1putsc h R) : CallsH Try.prog 9 [.int .i64 p0frames, .slice p1putsa p1putsl p1putsc] h R :=
  calls_of_body calls_ok Try.func9 (args := [.int .i64 p0frames, .slice p1putsa p1putsl p1putsc]) (by rw [warderlaw07_great.eq]; exact hp)
/-! ### warderlaw07_Both: function 10 -/
def warderlaw07_Both.hints : Hints := { loops := [(6, [1, 6, 8], [(9, (.one (.int .i64)))])], cuts := [(4, [0, 1, 6], [])], orders := [(8, [0, 0, 0, 6, 14, 30, 0, 0, 192, 448, 960, 2047], [0, 1, 2, 3, 4, 5, 6, 7, 8, 9, 10, 11]), (9, [0, 0, 0, 6, 14, 30, 0, 0, 192, 448, 960, 2047], [0, 1, 2, 3, 4, 5, 6, 7, 8, 9, 10, 11])] }
def warderlaw07_Both.P (p0frames : Int) (p1putsa : Option Addr) (p1putsl : Nat) (p1putsc : Nat) (h : Hp) (R : Value → Hp → Prop) : Prop :=
  CallsH Try.prog 24 [.int .i64 p0frames] h fun r1 h1 => ∃ New2 : Option Addr, ∃ New3 : Int, r1 = .tuple #[.pointer New2, .int .i64 New3] ∧ ∃ I4 : Hp → Prop, (((New3 != 0) = true → (R (.tuple #[.pointer none, .pointer none]) h1)) ∧
  ((New3 != 0) = false → (((notIf true New2.isNone) = true → (R (.tuple #[.pointer none, .pointer none]) h1)) ∧ ((notIf true New2.isNone) = false → (I4 h1))))) ∧ ∀ h2 : Hp, I4 h2 → CallsH Try.prog 25 [.int .i64 p0frames] h2 fun r5 h3 => ∃ New6 : Option Addr, r5 = .pointer New6 ∧
  ∃ I7 : Int → Hp → Prop, ∃ m8 : Int → Hp → Nat, I7 0 h3 ∧ ∀ i9 : Int, ∀ h4 : Hp, I7 i9 h4 → ((decide (i9 < ((p1putsl : Nat) : Int))) = true → ((0 : Int) ≤ i9 ∧ i9 < ((p1putsl : Nat) : Int) ∧ ∃ b10 : Nat, ∃ o11 : Nat, p1putsa = some ⟨b10, o11, none⟩ ∧
  ∃ Addr12 : Int, cellAt h4 b10 (o11 + i9.toNat * 2) = some (.int .u32 Addr12) ∧ (0 : Int) ≤ i9 ∧ i9 < ((p1putsl : Nat) : Int) ∧ ∃ b13 : Nat, ∃ o14 : Nat, p1putsa = some ⟨b13, o14, none⟩ ∧ ∃ Value15 : Int, cellAt h4 b13 (o14 + i9.toNat * 2 + 1) = some (.int .u32 Value15) ∧
  CallsH Try.prog 19 [.pointer New2, .int .u32 Addr12, .int .u32 Value15] h4 fun r16 h5 => ∃ PutWord17 : Bool, r16 = .bool PutWord17 ∧ (0 : Int) ≤ i9 ∧ i9 < ((p1putsl : Nat) : Int) ∧ ∃ b18 : Nat, ∃ o19 : Nat, p1putsa = some ⟨b18, o19, none⟩ ∧
  ∃ Addr20 : Int, cellAt h5 b18 (o19 + i9.toNat * 2) = some (.int .u32 Addr20) ∧ (0 : Int) ≤ i9 ∧ i9 < ((p1putsl : Nat) : Int) ∧ ∃ b21 : Nat, ∃ o22 : Nat, p1putsa = some ⟨b21, o22, none⟩ ∧ ∃ Value23 : Int, cellAt h5 b21 (o22 + i9.toNat * 2 + 1) = some (.int .u32 Value23) ∧
  CallsH Try.prog 26 [.pointer New6, .int .u32 Addr20, .int .u32 Value23] h5 fun r24 h6 => ∃ PutWord25 : Bool, r24 = .bool PutWord25 ∧ I7 (IntKind.wrap .i64 (i9 + 1)) h6 ∧ m8 (IntKind.wrap .i64 (i9 + 1)) h6 < m8 i9 h4)) ∧
  ((decide (i9 < ((p1putsl : Nat) : Int))) = false → (R (.tuple #[.pointer New2, .pointer New6]) h4))
theorem warderlaw07_Both.eq (p0frames : Int) (p1putsa : Option Addr) (p1putsl : Nat) (p1putsc : Nat) (h : Hp) (R : Value → Hp → Prop) : evBody Try.prog calls warderlaw07_Both.hints Try.f10 [.int .i64 p0frames, .slice p1putsa p1putsl p1putsc] h R = warderlaw07_Both.P p0frames p1putsa p1putsl p1putsc h R := by kernel_rfl
theorem warderlaw07_Both.calls (p0frames : Int) (p1putsa : Option Addr) (p1putsl : Nat) (p1putsc : Nat) (h : Hp) (R : Value → Hp → Prop) (hp : warderlaw07_Both.P p0frames p1putsa p1putsl p1putsc h R) : CallsH Try.prog 10 [.int .i64 p0frames, .slice p1putsa p1putsl p1putsc] h R :=
  calls_of_body calls_ok Try.func10 (args := [.int .i64 p0frames, .slice p1putsa p1putsl p1putsc]) (by rw [warderlaw07_Both.eq]; exact hp)
/-! ### walk_Walk: function 11 -/
def walk_Walk.hints : Hints := { loops := [], cuts := [], orders := [(6, [0, 1, 0, 4, 15, 31], [0, 1, 2, 3, 4, 5])] }
def walk_Walk.P (p0mb p0mo : Nat) (p1root : Int) (p2addr : Int) (p3access : Int) (h : Hp) (R : Value → Hp → Prop) : Prop :=
  ∀ h1 : Hp, h1 = new h (blk 31 [.int .i64 0, .int .i64 0, .int .i64 0, .bool false, .bool false, .bool false]) → CallsH Try.prog 27 [.pointer (some ⟨p0mb, p0mo, none⟩), .int .i64 p1root, .int .u32 p2addr] h1 fun r1 h2 => ∃ found2 : Bool, ∃ found3 : Bool, ∃ found4 : Bool, ∃ found5 : Bool, ∃ found6 : Int, ∃ found7 : Int, ∃ found8 : Int, r1 = .tuple #[.agg #[.bool found2, .bool found3, .bool found4, .bool found5, .int .i64 found6], .int .i64 found7, .int .i64 found8] ∧
  ∀ h3 : Hp, h3 = new h2 (blk 42 [.bool false, .bool false, .bool false, .bool false, .int .i64 0]) → truly true ∧ ∃ T9 : TypeId, ∃ l10 : List Value, bk h3 (sz h2) = some (blk T9 l10) ∧ 0 + 5 ≤ l10.length ∧
  ∀ h4 : Hp, h4 = upd h3 (sz h2) T9 (writeAt l10 0 [.bool found2, .bool found3, .bool found4, .bool found5, .int .i64 found6]) → ((found8 != 0) = true → (truly true ∧ ∃ T11 : TypeId, ∃ l12 : List Value, bk h4 (sz h) = some (blk T11 l12) ∧
  0 + 6 ≤ l12.length ∧ ∀ h5 : Hp, h5 = upd h4 (sz h) T11 (writeAt l12 0 [.int .i64 found8, .int .i64 found7, .int .i64 0, .bool false, .bool false, .bool false]) → ∃ res13 : Int, cellAt h5 (sz h) (0 + 0) = some (.int .i64 res13) ∧
  ∃ res14 : Int, cellAt h5 (sz h) (0 + 1) = some (.int .i64 res14) ∧ ∃ res15 : Int, cellAt h5 (sz h) (0 + 2) = some (.int .i64 res15) ∧ ∃ res16 : Bool, cellAt h5 (sz h) (0 + 3) = some (.bool res16) ∧ ∃ res17 : Bool, cellAt h5 (sz h) (0 + 4) = some (.bool res17) ∧
  ∃ res18 : Bool, cellAt h5 (sz h) (0 + 5) = some (.bool res18) ∧ R (.agg #[.int .i64 res13, .int .i64 res14, .int .i64 res15, .bool res16, .bool res17, .bool res18]) h5)) ∧ ((found8 != 0) = false → (∃ x19 : Bool, cellAt h4 (sz h2) (0 + 0) = some (.bool x19) ∧
  ∃ x20 : Bool, cellAt h4 (sz h2) (0 + 1) = some (.bool x20) ∧ ∃ x21 : Bool, cellAt h4 (sz h2) (0 + 2) = some (.bool x21) ∧ ∃ x22 : Bool, cellAt h4 (sz h2) (0 + 3) = some (.bool x22) ∧ ∃ x23 : Int, cellAt h4 (sz h2) (0 + 4) = some (.int .i64 x23) ∧
  CallsH Try.prog 28 [.agg #[.bool x19, .bool x20, .bool x21, .bool x22, .int .i64 x23], .int .i64 p3access] h4 fun r24 h6 => ∃ Allows25 : Bool, r24 = .bool Allows25 ∧ ((!Allows25) = true → (truly true ∧
  ∃ T26 : TypeId, ∃ l27 : List Value, bk h6 (sz h) = some (blk T26 l27) ∧ 0 + 6 ≤ l27.length ∧ ∀ h7 : Hp, h7 = upd h6 (sz h) T26 (writeAt l27 0 [.int .i64 4, .int .i64 found7, .int .i64 0, .bool false, .bool false, .bool false]) →
  ∃ res28 : Int, cellAt h7 (sz h) (0 + 0) = some (.int .i64 res28) ∧ ∃ res29 : Int, cellAt h7 (sz h) (0 + 1) = some (.int .i64 res29) ∧ ∃ res30 : Int, cellAt h7 (sz h) (0 + 2) = some (.int .i64 res30) ∧
  ∃ res31 : Bool, cellAt h7 (sz h) (0 + 3) = some (.bool res31) ∧ ∃ res32 : Bool, cellAt h7 (sz h) (0 + 4) = some (.bool res32) ∧ ∃ res33 : Bool, cellAt h7 (sz h) (0 + 5) = some (.bool res33) ∧ R (.agg #[.int .i64 res28, .int .i64 res29, .int .i64 res30, .bool res31, .bool res32, .bool res33]) h7)) ∧
  ((!Allows25) = false → (∃ Frame34 : Int, cellAt h6 (sz h2) 4 = some (.int .i64 Frame34) ∧ CallsH Try.prog 29 [.pointer (some ⟨p0mb, p0mo, none⟩)] h6 fun r35 h8 => ∃ Frames36 : Int, r35 = .int .i64 Frames36 ∧
  cellAt h8 (sz h2) 4 = some (.int .i64 Frame34) ∧ ((decide (Frame34 ≥ Frames36)) = true → (truly true ∧ ∃ T37 : TypeId, ∃ l38 : List Value, bk h8 (sz h) = some (blk T37 l38) ∧ 0 + 6 ≤ l38.length ∧ ∀ h9 : Hp, h9 = upd h8 (sz h) T37 (writeAt l38 0 [.int .i64 5, .int .i64 found7, .int .i64 0, .bool false, .bool false, .bool false]) →
  ∃ res39 : Int, cellAt h9 (sz h) (0 + 0) = some (.int .i64 res39) ∧ ∃ res40 : Int, cellAt h9 (sz h) (0 + 1) = some (.int .i64 res40) ∧ ∃ res41 : Int, cellAt h9 (sz h) (0 + 2) = some (.int .i64 res41) ∧
  ∃ res42 : Bool, cellAt h9 (sz h) (0 + 3) = some (.bool res42) ∧ ∃ res43 : Bool, cellAt h9 (sz h) (0 + 4) = some (.bool res43) ∧ ∃ res44 : Bool, cellAt h9 (sz h) (0 + 5) = some (.bool res44) ∧ R (.agg #[.int .i64 res39, .int .i64 res40, .int .i64 res41, .bool res42, .bool res43, .bool res44]) h9)) ∧
  ((decide (Frame34 ≥ Frames36)) = false → (∃ Frame45 : Int, cellAt h8 (sz h2) 4 = some (.int .i64 Frame45) ∧ ∃ Write46 : Bool, cellAt h8 (sz h2) 1 = some (.bool Write46) ∧ ∃ Exec47 : Bool, cellAt h8 (sz h2) 2 = some (.bool Exec47) ∧
  ∃ Block48 : Bool, cellAt h8 (sz h2) 3 = some (.bool Block48) ∧ truly true ∧ ∃ T49 : TypeId, ∃ l50 : List Value, bk h8 (sz h) = some (blk T49 l50) ∧ 0 + 6 ≤ l50.length ∧ ∀ h10 : Hp, h10 = upd h8 (sz h) T49 (writeAt l50 0 [.int .i64 0, .int .i64 found7, .int .i64 Frame45, .bool Write46, .bool Exec47, .bool Block48]) →
  ∃ res51 : Int, cellAt h10 (sz h) (0 + 0) = some (.int .i64 res51) ∧ ∃ res52 : Int, cellAt h10 (sz h) (0 + 1) = some (.int .i64 res52) ∧ ∃ res53 : Int, cellAt h10 (sz h) (0 + 2) = some (.int .i64 res53) ∧
  ∃ res54 : Bool, cellAt h10 (sz h) (0 + 3) = some (.bool res54) ∧ ∃ res55 : Bool, cellAt h10 (sz h) (0 + 4) = some (.bool res55) ∧ ∃ res56 : Bool, cellAt h10 (sz h) (0 + 5) = some (.bool res56) ∧ R (.agg #[.int .i64 res51, .int .i64 res52, .int .i64 res53, .bool res54, .bool res55, .bool res56]) h10))))))
theorem walk_Walk.eq (p0mb p0mo : Nat) (p1root : Int) (p2addr : Int) (p3access : Int) (h : Hp) (R : Value → Hp → Prop) : evBody Try.prog calls walk_Walk.hints Try.f11 [.ptr p0mb p0mo, .int .i64 p1root, .int .u32 p2addr, .int .i64 p3access] h R = walk_Walk.P p0mb p0mo p1root p2addr p3access h R := by kernel_rfl
theorem walk_Walk.calls (p0mb p0mo : Nat) (p1root : Int) (p2addr : Int) (p3access : Int) (h : Hp) (R : Value → Hp → Prop) (hp : walk_Walk.P p0mb p0mo p1root p2addr p3access h R) : CallsH Try.prog 11 [.pointer (some ⟨p0mb, p0mo, none⟩), .int .i64 p1root, .int .u32 p2addr, .int .i64 p3access] h R :=
  calls_of_body calls_ok Try.func11 (args := [.ptr p0mb p0mo, .int .i64 p1root, .int .u32 p2addr, .int .i64 p3access]) (by rw [walk_Walk.eq]; exact hp)
/-! ### warderref00_SameInts: function 12 -/
def warderref00_SameInts.hints : Hints := { loops := [(4, [0, 1], [(5, (.one (.int .i64)))])], cuts := [], orders := [(6, [0, 0, 3, 7, 0, 0, 48, 112, 255], [0, 1, 2, 3, 4, 5, 6, 7, 8])] }
def warderref00_SameInts.P (p0aa : Option Addr) (p0al : Nat) (p0ac : Nat) (p1ba : Option Addr) (p1bl : Nat) (p1bc : Nat) (h : Hp) (R : Value → Hp → Prop) : Prop :=
  ((((p0al : Nat) : Int) != ((p1bl : Nat) : Int)) = true → (R (.bool false) h)) ∧ ((((p0al : Nat) : Int) != ((p1bl : Nat) : Int)) = false → (∃ I1 : Int → Hp → Prop, ∃ m2 : Int → Hp → Nat, I1 0 h ∧ ∀ i3 : Int, ∀ h1 : Hp, I1 i3 h1 →
  ((decide (i3 < ((p0al : Nat) : Int))) = true → ((0 : Int) ≤ i3 ∧ i3 < ((p0al : Nat) : Int) ∧ ∃ b4 : Nat, ∃ o5 : Nat, p0aa = some ⟨b4, o5, none⟩ ∧ ∃ x6 : Int, cellAt h1 b4 (o5 + i3.toNat * 1) = some (.int .i64 x6) ∧
  (0 : Int) ≤ i3 ∧ i3 < ((p1bl : Nat) : Int) ∧ ∃ b7 : Nat, ∃ o8 : Nat, p1ba = some ⟨b7, o8, none⟩ ∧ ∃ x9 : Int, cellAt h1 b7 (o8 + i3.toNat * 1) = some (.int .i64 x9) ∧ ((x6 != x9) = true → (R (.bool false) h1)) ∧
  ((x6 != x9) = false → (I1 (IntKind.wrap .i64 (i3 + 1)) h1 ∧ m2 (IntKind.wrap .i64 (i3 + 1)) h1 < m2 i3 h1)))) ∧ ((decide (i3 < ((p0al : Nat) : Int))) = false → (R (.bool true) h1))))
theorem warderref00_SameInts.eq (p0aa : Option Addr) (p0al : Nat) (p0ac : Nat) (p1ba : Option Addr) (p1bl : Nat) (p1bc : Nat) (h : Hp) (R : Value → Hp → Prop) : evBody Try.prog calls warderref00_SameInts.hints Try.f12 [.slice p0aa p0al p0ac, .slice p1ba p1bl p1bc] h R = warderref00_SameInts.P p0aa p0al p0ac p1ba p1bl p1bc h R := by kernel_rfl
theorem warderref00_SameInts.calls (p0aa : Option Addr) (p0al : Nat) (p0ac : Nat) (p1ba : Option Addr) (p1bl : Nat) (p1bc : Nat) (h : Hp) (R : Value → Hp → Prop) (hp : warderref00_SameInts.P p0aa p0al p0ac p1ba p1bl p1bc h R) : CallsH Try.prog 12 [.slice p0aa p0al p0ac, .slice p1ba p1bl p1bc] h R :=
  calls_of_body calls_ok Try.func12 (args := [.slice p0aa p0al p0ac, .slice p1ba p1bl p1bc]) (by rw [warderref00_SameInts.eq]; exact hp)
/-! ### walk_Pages: function 13 -/
def walk_Pages.hints : Hints := { loops := [(3, [0, 1], [(5, (.one .slice)), (9, (.one (.int .i64)))])], cuts := [], orders := [] }
def walk_Pages.P (p0mb p0mo : Nat) (p1root : Int) (h : Hp) (R : Value → Hp → Prop) : Prop :=
  ∃ I1 : Option Addr → Nat → Nat → Int → Hp → Prop, ∃ m2 : Option Addr → Nat → Nat → Int → Hp → Nat, I1 none 0 0 0 h ∧ ∀ outa3 : Option Addr, ∀ outl4 : Nat, ∀ outc5 : Nat, ∀ x6 : Int, ∀ h1 : Hp, I1 outa3 outl4 outc5 x6 h1 →
  ((decide (x6 < 4096)) = true → (CallsH Try.prog 15 [.pointer (some ⟨p0mb, p0mo, none⟩), .int .i64 p1root, .int .i64 x6] h1 fun r7 h2 => ∃ Look8 : Bool, ∃ Look9 : Bool, ∃ Look10 : Bool, ∃ Look11 : Bool, ∃ Look12 : Int, ∃ Look13 : Bool, r7 = .tuple #[.agg #[.bool Look8, .bool Look9, .bool Look10, .bool Look11, .int .i64 Look12], .bool Look13] ∧
  ∀ h3 : Hp, h3 = new h2 (blk 42 [.bool false, .bool false, .bool false, .bool false, .int .i64 0]) → truly true ∧ ∃ T14 : TypeId, ∃ l15 : List Value, bk h3 (sz h2) = some (blk T14 l15) ∧ 0 + 5 ≤ l15.length ∧
  ∀ h4 : Hp, h4 = upd h3 (sz h2) T14 (writeAt l15 0 [.bool Look8, .bool Look9, .bool Look10, .bool Look11, .int .i64 Look12]) → ((Look13) = true → (∀ h5 : Hp, h5 = new h4 (blk 3 [.int .i64 x6]) → appendN h5 3 1 8 [.int .i64 0] outa3 outl4 outc5 (some ⟨sz h4, 0, none⟩) 1 fun a16 l17 c18 h6 => I1 a16 l17 c18 (IntKind.wrap .i64 (x6 + 1)) h6 ∧
  m2 a16 l17 c18 (IntKind.wrap .i64 (x6 + 1)) h6 < m2 outa3 outl4 outc5 x6 h1)) ∧ ((Look13) = false → (I1 outa3 outl4 outc5 (IntKind.wrap .i64 (x6 + 1)) h4 ∧ m2 outa3 outl4 outc5 (IntKind.wrap .i64 (x6 + 1)) h4 < m2 outa3 outl4 outc5 x6 h1)))) ∧
  ((decide (x6 < 4096)) = false → (R (.slice outa3 outl4 outc5) h1))
theorem walk_Pages.eq (p0mb p0mo : Nat) (p1root : Int) (h : Hp) (R : Value → Hp → Prop) : evBody Try.prog calls walk_Pages.hints Try.f13 [.ptr p0mb p0mo, .int .i64 p1root] h R = walk_Pages.P p0mb p0mo p1root h R := by kernel_rfl
theorem walk_Pages.calls (p0mb p0mo : Nat) (p1root : Int) (h : Hp) (R : Value → Hp → Prop) (hp : walk_Pages.P p0mb p0mo p1root h R) : CallsH Try.prog 13 [.pointer (some ⟨p0mb, p0mo, none⟩), .int .i64 p1root] h R :=
  calls_of_body calls_ok Try.func13 (args := [.ptr p0mb p0mo, .int .i64 p1root]) (by rw [walk_Pages.eq]; exact hp)
/-! ### entry_Join: function 14 -/
def entry_Join.hints : Hints := { loops := [], cuts := [], orders := [] }
def entry_Join.P (p0page : Int) (p1offset : Int) (h : Hp) (R : Value → Hp → Prop) : Prop :=
  ((decide (p0page < 0)) = true → (R (.tuple #[.int .u32 0, .bool false]) h)) ∧ ((decide (p0page < 0)) = false → (((decide (p0page ≥ 4096)) = true → (R (.tuple #[.int .u32 0, .bool false]) h)) ∧ ((decide (p0page ≥ 4096)) = false →
  (((decide (p1offset < 0)) = true → (R (.tuple #[.int .u32 0, .bool false]) h)) ∧ ((decide (p1offset < 0)) = false → (((decide (p1offset ≥ 256)) = true → (R (.tuple #[.int .u32 0, .bool false]) h)) ∧
  ((decide (p1offset ≥ 256)) = false → ((0 : Int) ≤ 8 ∧ R (.tuple #[.int .u32 (IntKind.wrap .u32 (borV .i64 (shlV .i64 p0page 8) p1offset)), .bool true]) h))))))))
theorem entry_Join.eq (p0page : Int) (p1offset : Int) (h : Hp) (R : Value → Hp → Prop) : evBody Try.prog calls entry_Join.hints Try.f14 [.int .i64 p0page, .int .i64 p1offset] h R = entry_Join.P p0page p1offset h R := by kernel_rfl
theorem entry_Join.calls (p0page : Int) (p1offset : Int) (h : Hp) (R : Value → Hp → Prop) (hp : entry_Join.P p0page p1offset h R) : CallsH Try.prog 14 [.int .i64 p0page, .int .i64 p1offset] h R :=
  calls_of_body calls_ok Try.func14 (args := [.int .i64 p0page, .int .i64 p1offset]) (by rw [entry_Join.eq]; exact hp)
/-! ### walk_Look: function 15 -/
def walk_Look.hints : Hints := { loops := [], cuts := [(5, [6, 10], [])], orders := [] }
def walk_Look.P (p0mb p0mo : Nat) (p1root : Int) (p2page : Int) (h : Hp) (R : Value → Hp → Prop) : Prop :=
  ∀ h1 : Hp, h1 = new h (blk 42 [.bool false, .bool false, .bool false, .bool false, .int .i64 0]) → CallsH Try.prog 14 [.int .i64 p2page, .int .i64 0] h1 fun r1 h2 => ∃ Join2 : Int, ∃ Join3 : Bool, r1 = .tuple #[.int .u32 Join2, .bool Join3] ∧
  CallsH Try.prog 11 [.pointer (some ⟨p0mb, p0mo, none⟩), .int .i64 p1root, .int .u32 Join2, .int .i64 0] h2 fun r4 h3 => ∃ Walk5 : Int, ∃ Walk6 : Int, ∃ Walk7 : Int, ∃ Walk8 : Bool, ∃ Walk9 : Bool, ∃ Walk10 : Bool, r4 = .agg #[.int .i64 Walk5, .int .i64 Walk6, .int .i64 Walk7, .bool Walk8, .bool Walk9, .bool Walk10] ∧
  ∀ h4 : Hp, h4 = new h3 (blk 31 [.int .i64 0, .int .i64 0, .int .i64 0, .bool false, .bool false, .bool false]) → truly true ∧ ∃ T11 : TypeId, ∃ l12 : List Value, bk h4 (sz h3) = some (blk T11 l12) ∧
  0 + 6 ≤ l12.length ∧ ∀ h5 : Hp, h5 = upd h4 (sz h3) T11 (writeAt l12 0 [.int .i64 Walk5, .int .i64 Walk6, .int .i64 Walk7, .bool Walk8, .bool Walk9, .bool Walk10]) → ∃ I13 : Hp → Prop, (((!Join3) = true →
  (truly true ∧ ∃ T14 : TypeId, ∃ l15 : List Value, bk h5 (sz h) = some (blk T14 l15) ∧ 0 + 5 ≤ l15.length ∧ ∀ h6 : Hp, h6 = upd h5 (sz h) T14 (writeAt l15 0 [.bool false, .bool false, .bool false, .bool false, .int .i64 0]) →
  ∃ res16 : Bool, cellAt h6 (sz h) (0 + 0) = some (.bool res16) ∧ ∃ res17 : Bool, cellAt h6 (sz h) (0 + 1) = some (.bool res17) ∧ ∃ res18 : Bool, cellAt h6 (sz h) (0 + 2) = some (.bool res18) ∧ ∃ res19 : Bool, cellAt h6 (sz h) (0 + 3) = some (.bool res19) ∧
  ∃ res20 : Int, cellAt h6 (sz h) (0 + 4) = some (.int .i64 res20) ∧ R (.tuple #[.agg #[.bool res16, .bool res17, .bool res18, .bool res19, .int .i64 res20], .bool false]) h6)) ∧ ((!Join3) = false → (∃ Fault21 : Int, cellAt h5 (sz h3) 0 = some (.int .i64 Fault21) ∧
  ((Fault21 != 0) = true → (truly true ∧ ∃ T22 : TypeId, ∃ l23 : List Value, bk h5 (sz h) = some (blk T22 l23) ∧ 0 + 5 ≤ l23.length ∧ ∀ h7 : Hp, h7 = upd h5 (sz h) T22 (writeAt l23 0 [.bool false, .bool false, .bool false, .bool false, .int .i64 0]) →
  ∃ res24 : Bool, cellAt h7 (sz h) (0 + 0) = some (.bool res24) ∧ ∃ res25 : Bool, cellAt h7 (sz h) (0 + 1) = some (.bool res25) ∧ ∃ res26 : Bool, cellAt h7 (sz h) (0 + 2) = some (.bool res26) ∧ ∃ res27 : Bool, cellAt h7 (sz h) (0 + 3) = some (.bool res27) ∧
  ∃ res28 : Int, cellAt h7 (sz h) (0 + 4) = some (.int .i64 res28) ∧ R (.tuple #[.agg #[.bool res24, .bool res25, .bool res26, .bool res27, .int .i64 res28], .bool false]) h7)) ∧ ((Fault21 != 0) = false →
  (I13 h5))))) ∧ ∀ h8 : Hp, I13 h8 → ∃ Write29 : Bool, cellAt h8 (sz h3) 3 = some (.bool Write29) ∧ ∃ Exec30 : Bool, cellAt h8 (sz h3) 4 = some (.bool Exec30) ∧ ∃ Block31 : Bool, cellAt h8 (sz h3) 5 = some (.bool Block31) ∧
  ∃ Frame32 : Int, cellAt h8 (sz h3) 2 = some (.int .i64 Frame32) ∧ truly true ∧ ∃ T33 : TypeId, ∃ l34 : List Value, bk h8 (sz h) = some (blk T33 l34) ∧ 0 + 5 ≤ l34.length ∧ ∀ h9 : Hp, h9 = upd h8 (sz h) T33 (writeAt l34 0 [.bool true, .bool Write29, .bool Exec30, .bool Block31, .int .i64 Frame32]) →
  ∃ res35 : Bool, cellAt h9 (sz h) (0 + 0) = some (.bool res35) ∧ ∃ res36 : Bool, cellAt h9 (sz h) (0 + 1) = some (.bool res36) ∧ ∃ res37 : Bool, cellAt h9 (sz h) (0 + 2) = some (.bool res37) ∧ ∃ res38 : Bool, cellAt h9 (sz h) (0 + 3) = some (.bool res38) ∧
  ∃ res39 : Int, cellAt h9 (sz h) (0 + 4) = some (.int .i64 res39) ∧ R (.tuple #[.agg #[.bool res35, .bool res36, .bool res37, .bool res38, .int .i64 res39], .bool true]) h9
theorem walk_Look.eq (p0mb p0mo : Nat) (p1root : Int) (p2page : Int) (h : Hp) (R : Value → Hp → Prop) : evBody Try.prog calls walk_Look.hints Try.f15 [.ptr p0mb p0mo, .int .i64 p1root, .int .i64 p2page] h R = walk_Look.P p0mb p0mo p1root p2page h R := by kernel_rfl
theorem walk_Look.calls (p0mb p0mo : Nat) (p1root : Int) (p2page : Int) (h : Hp) (R : Value → Hp → Prop) (hp : walk_Look.P p0mb p0mo p1root p2page h R) : CallsH Try.prog 15 [.pointer (some ⟨p0mb, p0mo, none⟩), .int .i64 p1root, .int .i64 p2page] h R :=
  calls_of_body calls_ok Try.func15 (args := [.ptr p0mb p0mo, .int .i64 p1root, .int .i64 p2page]) (by rw [walk_Look.eq]; exact hp)
/-! ### phys_Mem_Word: function 16 -/
def phys_Mem_Word.hints : Hints := { loops := [], cuts := [(4, [6, 7], [])], orders := [] }
def phys_Mem_Word.P (p0mb p0mo : Nat) (p1addr : Int) (h : Hp) (R : Value → Hp → Prop) : Prop :=
  CallsH Try.prog 30 [.pointer (some ⟨p0mb, p0mo, none⟩), .int .u32 p1addr] h fun r1 h1 => ∃ atx2 : Option Addr, ∃ atx3 : Int, ∃ atx4 : Bool, r1 = .tuple #[.pointer atx2, .int .i64 atx3, .bool atx4] ∧
  ∃ I5 : Hp → Prop, (((!atx4) = true → (R (.tuple #[.int .u32 0, .bool false]) h1)) ∧ ((!atx4) = false → (4 ≠ (0 : Int) ∧ (((Int.tmod atx3 4) != 0) = true → (R (.tuple #[.int .u32 0, .bool false]) h1)) ∧
  (((Int.tmod atx3 4) != 0) = false → (I5 h1))))) ∧ ∀ h2 : Hp, I5 h2 → ∃ b6 : Nat, ∃ o7 : Nat, atx2 = some ⟨b6, o7, none⟩ ∧ ((false : Bool) = true → (false : Bool) = true) ∧ (0 : Int) ≤ (0 : Int) ∧ (0 : Int) ≤ ((256 : Nat) : Int) ∧
  ((256 : Nat) : Int) ≤ ((256 : Nat) : Int) ∧ ((256 : Nat) : Int) ≤ ((256 : Nat) : Int) ∧ CallsH Try.prog 31 [.slice (arrBase b6 o7 ((0 : Int)).toNat (((256 : Nat) : Int)).toNat 1) ((((256 : Nat) : Int)).toNat - ((0 : Int)).toNat) ((((256 : Nat) : Int)).toNat - ((0 : Int)).toNat), .int .i64 atx3] h2 fun r8 h3 => ∃ Get9 : Int, ∃ Get10 : Bool, r8 = .tuple #[.int .u32 Get9, .bool Get10] ∧
  R (.tuple #[.int .u32 Get9, .bool Get10]) h3
theorem phys_Mem_Word.eq (p0mb p0mo : Nat) (p1addr : Int) (h : Hp) (R : Value → Hp → Prop) : evBody Try.prog calls phys_Mem_Word.hints Try.f16 [.ptr p0mb p0mo, .int .u32 p1addr] h R = phys_Mem_Word.P p0mb p0mo p1addr h R := by kernel_rfl
theorem phys_Mem_Word.calls (p0mb p0mo : Nat) (p1addr : Int) (h : Hp) (R : Value → Hp → Prop) (hp : phys_Mem_Word.P p0mb p0mo p1addr h R) : CallsH Try.prog 16 [.pointer (some ⟨p0mb, p0mo, none⟩), .int .u32 p1addr] h R :=
  calls_of_body calls_ok Try.func16 (args := [.ptr p0mb p0mo, .int .u32 p1addr]) (by rw [phys_Mem_Word.eq]; exact hp)
/-! ### entry_First: function 17 -/
def entry_First.hints : Hints := { loops := [], cuts := [], orders := [] }
def entry_First.P (p0addr : Int) (h : Hp) (R : Value → Hp → Prop) : Prop :=
  CallsH Try.prog 32 [.int .u32 p0addr, .int .i64 14, .int .i64 6] h fun r1 h1 => ∃ Field2 : Int, r1 = .int .u32 Field2 ∧ R (.int .i64 (IntKind.wrap .i64 Field2)) h1
theorem entry_First.eq (p0addr : Int) (h : Hp) (R : Value → Hp → Prop) : evBody Try.prog calls entry_First.hints Try.f17 [.int .u32 p0addr] h R = entry_First.P p0addr h R := by kernel_rfl
theorem entry_First.calls (p0addr : Int) (h : Hp) (R : Value → Hp → Prop) (hp : entry_First.P p0addr h R) : CallsH Try.prog 17 [.int .u32 p0addr] h R :=
  calls_of_body calls_ok Try.func17 (args := [.int .u32 p0addr]) (by rw [entry_First.eq]; exact hp)
/-! ### entry_Decode: function 18 -/
def entry_Decode.hints : Hints := { loops := [], cuts := [], orders := [(4, [0, 1, 0, 7, 0, 31, 0, 127, 255, 511, 1023], [0, 2, 4, 6, 1, 3, 5, 7, 8, 9, 10])] }
def entry_Decode.P (p0w : Int) (h : Hp) (R : Value → Hp → Prop) : Prop :=
  ∀ h1 : Hp, h1 = new h (blk 33 [.int .u32 p0w]) → ∀ h2 : Hp, h2 = new h1 (blk 42 [.bool false, .bool false, .bool false, .bool false, .int .i64 0]) → CallsH Try.prog 33 [.int .i64 0, .pointer (some ⟨(sz h), 0, none⟩)] h2 fun r1 h3 => ∃ Decode2 : Bool, r1 = .bool Decode2 ∧
  ((!Decode2) = true → (truly true ∧ ∃ T3 : TypeId, ∃ l4 : List Value, bk h3 (sz h1) = some (blk T3 l4) ∧ 0 + 5 ≤ l4.length ∧ ∀ h4 : Hp, h4 = upd h3 (sz h1) T3 (writeAt l4 0 [.bool false, .bool false, .bool false, .bool false, .int .i64 0]) →
  ∃ res5 : Bool, cellAt h4 (sz h1) (0 + 0) = some (.bool res5) ∧ ∃ res6 : Bool, cellAt h4 (sz h1) (0 + 1) = some (.bool res6) ∧ ∃ res7 : Bool, cellAt h4 (sz h1) (0 + 2) = some (.bool res7) ∧ ∃ res8 : Bool, cellAt h4 (sz h1) (0 + 3) = some (.bool res8) ∧
  ∃ res9 : Int, cellAt h4 (sz h1) (0 + 4) = some (.int .i64 res9) ∧ R (.agg #[.bool res5, .bool res6, .bool res7, .bool res8, .int .i64 res9]) h4)) ∧ ((!Decode2) = false → (∃ x10 : Int, cellAt h3 (sz h) 0 = some (.int .u32 x10) ∧
  CallsH Try.prog 33 [.int .i64 1, .pointer (some ⟨(sz h), 0, none⟩)] h3 fun r11 h5 => ∃ Decode12 : Bool, r11 = .bool Decode12 ∧ cellAt h5 (sz h) 0 = some (.int .u32 x10) ∧ CallsH Try.prog 33 [.int .i64 2, .pointer (some ⟨(sz h), 0, none⟩)] h5 fun r13 h6 => ∃ Decode14 : Bool, r13 = .bool Decode14 ∧
  cellAt h6 (sz h) 0 = some (.int .u32 x10) ∧ CallsH Try.prog 33 [.int .i64 3, .pointer (some ⟨(sz h), 0, none⟩)] h6 fun r15 h7 => ∃ Decode16 : Bool, r15 = .bool Decode16 ∧ cellAt h7 (sz h) 0 = some (.int .u32 x10) ∧
  CallsH Try.prog 32 [.int .u32 x10, .int .i64 8, .int .i64 16] h7 fun r17 h8 => ∃ Field18 : Int, r17 = .int .u32 Field18 ∧ truly true ∧ ∃ T19 : TypeId, ∃ l20 : List Value, bk h8 (sz h1) = some (blk T19 l20) ∧
  0 + 5 ≤ l20.length ∧ ∀ h9 : Hp, h9 = upd h8 (sz h1) T19 (writeAt l20 0 [.bool true, .bool Decode12, .bool Decode14, .bool Decode16, .int .i64 (IntKind.wrap .i64 Field18)]) → ∃ res21 : Bool, cellAt h9 (sz h1) (0 + 0) = some (.bool res21) ∧
  ∃ res22 : Bool, cellAt h9 (sz h1) (0 + 1) = some (.bool res22) ∧ ∃ res23 : Bool, cellAt h9 (sz h1) (0 + 2) = some (.bool res23) ∧ ∃ res24 : Bool, cellAt h9 (sz h1) (0 + 3) = some (.bool res24) ∧ ∃ res25 : Int, cellAt h9 (sz h1) (0 + 4) = some (.int .i64 res25) ∧
  R (.agg #[.bool res21, .bool res22, .bool res23, .bool res24, .int .i64 res25]) h9))
theorem entry_Decode.eq (p0w : Int) (h : Hp) (R : Value → Hp → Prop) : evBody Try.prog calls entry_Decode.hints Try.f18 [.int .u32 p0w] h R = entry_Decode.P p0w h R := by kernel_rfl
theorem entry_Decode.calls (p0w : Int) (h : Hp) (R : Value → Hp → Prop) (hp : entry_Decode.P p0w h R) : CallsH Try.prog 18 [.int .u32 p0w] h R :=
  calls_of_body calls_ok Try.func18 (args := [.int .u32 p0w]) (by rw [entry_Decode.eq]; exact hp)
/-! ### phys_Mem_PutWord: function 19 -/
def phys_Mem_PutWord.hints : Hints := { loops := [], cuts := [], orders := [] }
def phys_Mem_PutWord.P (p0mb p0mo : Nat) (p1addr : Int) (p2w : Int) (h : Hp) (R : Value → Hp → Prop) : Prop :=
  CallsH Try.prog 30 [.pointer (some ⟨p0mb, p0mo, none⟩), .int .u32 p1addr] h fun r1 h1 => ∃ atx2 : Option Addr, ∃ atx3 : Int, ∃ atx4 : Bool, r1 = .tuple #[.pointer atx2, .int .i64 atx3, .bool atx4] ∧
  ((atx4) = true → (4 ≠ (0 : Int) ∧ (((Int.tmod atx3 4) == 0) = true → (∃ b5 : Nat, ∃ o6 : Nat, atx2 = some ⟨b5, o6, none⟩ ∧ ((false : Bool) = true → (false : Bool) = true) ∧ (0 : Int) ≤ (0 : Int) ∧ (0 : Int) ≤ ((256 : Nat) : Int) ∧
  ((256 : Nat) : Int) ≤ ((256 : Nat) : Int) ∧ ((256 : Nat) : Int) ≤ ((256 : Nat) : Int) ∧ CallsH Try.prog 34 [.slice (arrBase b5 o6 ((0 : Int)).toNat (((256 : Nat) : Int)).toNat 1) ((((256 : Nat) : Int)).toNat - ((0 : Int)).toNat) ((((256 : Nat) : Int)).toNat - ((0 : Int)).toNat), .int .i64 atx3, .int .u32 p2w] h1 fun r7 h2 => ∃ Set8 : Bool, r7 = .bool Set8 ∧
  R (.bool Set8) h2)) ∧ (((Int.tmod atx3 4) == 0) = false → (R (.bool false) h1)))) ∧ ((atx4) = false → (R (.bool false) h1))
theorem phys_Mem_PutWord.eq (p0mb p0mo : Nat) (p1addr : Int) (p2w : Int) (h : Hp) (R : Value → Hp → Prop) : evBody Try.prog calls phys_Mem_PutWord.hints Try.f19 [.ptr p0mb p0mo, .int .u32 p1addr, .int .u32 p2w] h R = phys_Mem_PutWord.P p0mb p0mo p1addr p2w h R := by kernel_rfl
theorem phys_Mem_PutWord.calls (p0mb p0mo : Nat) (p1addr : Int) (p2w : Int) (h : Hp) (R : Value → Hp → Prop) (hp : phys_Mem_PutWord.P p0mb p0mo p1addr p2w h R) : CallsH Try.prog 19 [.pointer (some ⟨p0mb, p0mo, none⟩), .int .u32 p1addr, .int .u32 p2w] h R :=
  calls_of_body calls_ok Try.func19 (args := [.ptr p0mb p0mo, .int .u32 p1addr, .int .u32 p2w]) (by rw [phys_Mem_PutWord.eq]; exact hp)
/-! ### phys_Mem_Clone: function 20 -/
def phys_Mem_Clone.hints : Hints := { loops := [], cuts := [], orders := [] }
def phys_Mem_Clone.P (p0mb p0mo : Nat) (h : Hp) (R : Value → Hp → Prop) : Prop :=
  ∃ framesa1 : Option Addr, ∃ framesl2 : Nat, ∃ framesc3 : Nat, cellAt h p0mb p0mo = some (.slice framesa1 framesl2 framesc3) ∧ CallsH Try.prog 35 [.slice framesa1 framesl2 framesc3] h fun r4 h1 => ∃ Clonea5 : Option Addr, ∃ Clonel6 : Nat, ∃ Clonec7 : Nat, r4 = .slice Clonea5 Clonel6 Clonec7 ∧
  ∀ h2 : Hp, h2 = new h1 (blk 81 [.slice Clonea5 Clonel6 Clonec7]) → R (.pointer (some ⟨(sz h1), 0, none⟩)) h2
theorem phys_Mem_Clone.eq (p0mb p0mo : Nat) (h : Hp) (R : Value → Hp → Prop) : evBody Try.prog calls phys_Mem_Clone.hints Try.f20 [.ptr p0mb p0mo] h R = phys_Mem_Clone.P p0mb p0mo h R := by kernel_rfl
theorem phys_Mem_Clone.calls (p0mb p0mo : Nat) (h : Hp) (R : Value → Hp → Prop) (hp : phys_Mem_Clone.P p0mb p0mo h R) : CallsH Try.prog 20 [.pointer (some ⟨p0mb, p0mo, none⟩)] h R :=
  calls_of_body calls_ok Try.func20 (args := [.ptr p0mb p0mo]) (by rw [phys_Mem_Clone.eq]; exact hp)
/-! ### warderlaw07_of: function 21 -/
def warderlaw07_of.hints : Hints := { loops := [], cuts := [], orders := [] }
def warderlaw07_of.P (p0h_0 : Int) (p0h_1 : Int) (p0h_2 : Int) (p0h_3 : Bool) (p0h_4 : Bool) (p0h_5 : Bool) (h : Hp) (R : Value → Hp → Prop) : Prop :=
  ∀ h1 : Hp, h1 = new h (blk 31 [.int .i64 p0h_0, .int .i64 p0h_1, .int .i64 p0h_2, .bool p0h_3, .bool p0h_4, .bool p0h_5]) → ∀ h2 : Hp, h2 = new h1 (blk 55 [.int .i64 0, .int .i64 0, .int .i64 0, .bool false, .bool false, .bool false]) →
  ∃ Fault1 : Int, cellAt h2 (sz h) 0 = some (.int .i64 Fault1) ∧ ∃ Reads2 : Int, cellAt h2 (sz h) 1 = some (.int .i64 Reads2) ∧ ∃ Frame3 : Int, cellAt h2 (sz h) 2 = some (.int .i64 Frame3) ∧ ∃ Write4 : Bool, cellAt h2 (sz h) 3 = some (.bool Write4) ∧
  ∃ Exec5 : Bool, cellAt h2 (sz h) 4 = some (.bool Exec5) ∧ ∃ Block6 : Bool, cellAt h2 (sz h) 5 = some (.bool Block6) ∧ truly true ∧ ∃ T7 : TypeId, ∃ l8 : List Value, bk h2 (sz h1) = some (blk T7 l8) ∧
  0 + 6 ≤ l8.length ∧ ∀ h3 : Hp, h3 = upd h2 (sz h1) T7 (writeAt l8 0 [.int .i64 Fault1, .int .i64 Reads2, .int .i64 Frame3, .bool Write4, .bool Exec5, .bool Block6]) → ∃ res9 : Int, cellAt h3 (sz h1) (0 + 0) = some (.int .i64 res9) ∧
  ∃ res10 : Int, cellAt h3 (sz h1) (0 + 1) = some (.int .i64 res10) ∧ ∃ res11 : Int, cellAt h3 (sz h1) (0 + 2) = some (.int .i64 res11) ∧ ∃ res12 : Bool, cellAt h3 (sz h1) (0 + 3) = some (.bool res12) ∧
  ∃ res13 : Bool, cellAt h3 (sz h1) (0 + 4) = some (.bool res13) ∧ ∃ res14 : Bool, cellAt h3 (sz h1) (0 + 5) = some (.bool res14) ∧ R (.agg #[.int .i64 res9, .int .i64 res10, .int .i64 res11, .bool res12, .bool res13, .bool res14]) h3
theorem warderlaw07_of.eq (p0h_0 : Int) (p0h_1 : Int) (p0h_2 : Int) (p0h_3 : Bool) (p0h_4 : Bool) (p0h_5 : Bool) (h : Hp) (R : Value → Hp → Prop) : evBody Try.prog calls warderlaw07_of.hints Try.f21 [.agg [.int .i64 p0h_0, .int .i64 p0h_1, .int .i64 p0h_2, .bool p0h_3, .bool p0h_4, .bool p0h_5]] h R = warderlaw07_of.P p0h_0 p0h_1 p0h_2 p0h_3 p0h_4 p0h_5 h R := by kernel_rfl
theorem warderlaw07_of.calls (p0h_0 : Int) (p0h_1 : Int) (p0h_2 : Int) (p0h_3 : Bool) (p0h_4 : Bool) (p0h_5 : Bool) (h : Hp) (R : Value → Hp → Prop) (hp : warderlaw07_of.P p0h_0 p0h_1 p0h_2 p0h_3 p0h_4 p0h_5 h R) : CallsH Try.prog 21 [.agg #[.int .i64 p0h_0, .int .i64 p0h_1, .int .i64 p0h_2, .bool p0h_3, .bool p0h_4, .bool p0h_5]] h R :=
  calls_of_body calls_ok Try.func21 (args := [.agg [.int .i64 p0h_0, .int .i64 p0h_1, .int .i64 p0h_2, .bool p0h_3, .bool p0h_4, .bool p0h_5]]) (by rw [warderlaw07_of.eq]; exact hp)
/-! ### warderref07_Walk: function 22 -/
def warderref07_Walk.hints : Hints := { loops := [], cuts := [(19, [0, 3, 8, 10, 12], [(11, (.one (.int .i64)))])], orders := [] }
def warderref07_Walk.P (p0mb p0mo : Nat) (p1root : Int) (p2addr : Int) (p3access : Int) (h : Hp) (R : Value → Hp → Prop) : Prop :=
  ∀ h1 : Hp, h1 = new h (blk 55 [.int .i64 0, .int .i64 0, .int .i64 0, .bool false, .bool false, .bool false]) → ((decide (p2addr ≥ 1048576)) = true → (truly true ∧ ∃ T1 : TypeId, ∃ l2 : List Value, bk h1 (sz h) = some (blk T1 l2) ∧
  0 + 6 ≤ l2.length ∧ ∀ h2 : Hp, h2 = upd h1 (sz h) T1 (writeAt l2 0 [.int .i64 1, .int .i64 0, .int .i64 0, .bool false, .bool false, .bool false]) → ∃ res3 : Int, cellAt h2 (sz h) (0 + 0) = some (.int .i64 res3) ∧
  ∃ res4 : Int, cellAt h2 (sz h) (0 + 1) = some (.int .i64 res4) ∧ ∃ res5 : Int, cellAt h2 (sz h) (0 + 2) = some (.int .i64 res5) ∧ ∃ res6 : Bool, cellAt h2 (sz h) (0 + 3) = some (.bool res6) ∧ ∃ res7 : Bool, cellAt h2 (sz h) (0 + 4) = some (.bool res7) ∧
  ∃ res8 : Bool, cellAt h2 (sz h) (0 + 5) = some (.bool res8) ∧ R (.agg #[.int .i64 res3, .int .i64 res4, .int .i64 res5, .bool res6, .bool res7, .bool res8]) h2)) ∧ ((decide (p2addr ≥ 1048576)) = false →
  (CallsH Try.prog 36 [.pointer (some ⟨p0mb, p0mo, none⟩), .int .i64 p1root] h1 fun r9 h3 => ∃ inx10 : Bool, r9 = .bool inx10 ∧ ((!inx10) = true → (truly true ∧ ∃ T11 : TypeId, ∃ l12 : List Value, bk h3 (sz h) = some (blk T11 l12) ∧
  0 + 6 ≤ l12.length ∧ ∀ h4 : Hp, h4 = upd h3 (sz h) T11 (writeAt l12 0 [.int .i64 5, .int .i64 0, .int .i64 0, .bool false, .bool false, .bool false]) → ∃ res13 : Int, cellAt h4 (sz h) (0 + 0) = some (.int .i64 res13) ∧
  ∃ res14 : Int, cellAt h4 (sz h) (0 + 1) = some (.int .i64 res14) ∧ ∃ res15 : Int, cellAt h4 (sz h) (0 + 2) = some (.int .i64 res15) ∧ ∃ res16 : Bool, cellAt h4 (sz h) (0 + 3) = some (.bool res16) ∧ ∃ res17 : Bool, cellAt h4 (sz h) (0 + 4) = some (.bool res17) ∧
  ∃ res18 : Bool, cellAt h4 (sz h) (0 + 5) = some (.bool res18) ∧ R (.agg #[.int .i64 res13, .int .i64 res14, .int .i64 res15, .bool res16, .bool res17, .bool res18]) h4)) ∧ ((!inx10) = false → (256 ≠ (0 : Int) ∧
  64 ≠ (0 : Int) ∧ 16384 ≠ (0 : Int) ∧ CallsH Try.prog 37 [.pointer (some ⟨p0mb, p0mo, none⟩), .int .i64 p1root, .int .i64 (IntKind.wrap .i64 (IntKind.wrap .u32 (Int.tdiv p2addr 16384)))] h3 fun r19 h5 => ∃ read20 : Bool, ∃ read21 : Bool, ∃ read22 : Bool, ∃ read23 : Bool, ∃ read24 : Int, r19 = .agg #[.bool read20, .bool read21, .bool read22, .bool read23, .int .i64 read24] ∧
  ∀ h6 : Hp, h6 = new h5 (blk 83 [.bool false, .bool false, .bool false, .bool false, .int .i64 0]) → truly true ∧ ∃ T25 : TypeId, ∃ l26 : List Value, bk h6 (sz h5) = some (blk T25 l26) ∧ 0 + 5 ≤ l26.length ∧
  ∀ h7 : Hp, h7 = upd h6 (sz h5) T25 (writeAt l26 0 [.bool read20, .bool read21, .bool read22, .bool read23, .int .i64 read24]) → ∃ Valid27 : Bool, cellAt h7 (sz h5) 0 = some (.bool Valid27) ∧ ((!Valid27) = true →
  (truly true ∧ ∃ T28 : TypeId, ∃ l29 : List Value, bk h7 (sz h) = some (blk T28 l29) ∧ 0 + 6 ≤ l29.length ∧ ∀ h8 : Hp, h8 = upd h7 (sz h) T28 (writeAt l29 0 [.int .i64 2, .int .i64 1, .int .i64 0, .bool false, .bool false, .bool false]) →
  ∃ res30 : Int, cellAt h8 (sz h) (0 + 0) = some (.int .i64 res30) ∧ ∃ res31 : Int, cellAt h8 (sz h) (0 + 1) = some (.int .i64 res31) ∧ ∃ res32 : Int, cellAt h8 (sz h) (0 + 2) = some (.int .i64 res32) ∧
  ∃ res33 : Bool, cellAt h8 (sz h) (0 + 3) = some (.bool res33) ∧ ∃ res34 : Bool, cellAt h8 (sz h) (0 + 4) = some (.bool res34) ∧ ∃ res35 : Bool, cellAt h8 (sz h) (0 + 5) = some (.bool res35) ∧ R (.agg #[.int .i64 res30, .int .i64 res31, .int .i64 res32, .bool res33, .bool res34, .bool res35]) h8)) ∧
  ((!Valid27) = false → (∃ Block36 : Bool, cellAt h7 (sz h5) 3 = some (.bool Block36) ∧ ∃ I37 : Int → Hp → Prop, (((Block36) = true → (∃ Frame38 : Int, cellAt h7 (sz h5) 4 = some (.int .i64 Frame38) ∧
  truly true ∧ ∃ T39 : TypeId, ∃ l40 : List Value, bk h7 (sz h5) = some (blk T39 l40) ∧ 4 + 1 ≤ l40.length ∧ ∀ h9 : Hp, h9 = upd h7 (sz h5) T39 (writeAt l40 4 [.int .i64 (IntKind.wrap .i64 (Frame38 + (IntKind.wrap .i64 (Int.tmod (IntKind.wrap .u32 (Int.tdiv p2addr 256)) 64))))]) →
  I37 1 h9)) ∧ ((Block36) = false → (∃ Frame41 : Int, cellAt h7 (sz h5) 4 = some (.int .i64 Frame41) ∧ CallsH Try.prog 36 [.pointer (some ⟨p0mb, p0mo, none⟩), .int .i64 Frame41] h7 fun r42 h10 => ∃ inx43 : Bool, r42 = .bool inx43 ∧
  ((!inx43) = true → (truly true ∧ ∃ T44 : TypeId, ∃ l45 : List Value, bk h10 (sz h) = some (blk T44 l45) ∧ 0 + 6 ≤ l45.length ∧ ∀ h11 : Hp, h11 = upd h10 (sz h) T44 (writeAt l45 0 [.int .i64 5, .int .i64 1, .int .i64 0, .bool false, .bool false, .bool false]) →
  ∃ res46 : Int, cellAt h11 (sz h) (0 + 0) = some (.int .i64 res46) ∧ ∃ res47 : Int, cellAt h11 (sz h) (0 + 1) = some (.int .i64 res47) ∧ ∃ res48 : Int, cellAt h11 (sz h) (0 + 2) = some (.int .i64 res48) ∧
  ∃ res49 : Bool, cellAt h11 (sz h) (0 + 3) = some (.bool res49) ∧ ∃ res50 : Bool, cellAt h11 (sz h) (0 + 4) = some (.bool res50) ∧ ∃ res51 : Bool, cellAt h11 (sz h) (0 + 5) = some (.bool res51) ∧ R (.agg #[.int .i64 res46, .int .i64 res47, .int .i64 res48, .bool res49, .bool res50, .bool res51]) h11)) ∧
  ((!inx43) = false → (∃ Frame52 : Int, cellAt h10 (sz h5) 4 = some (.int .i64 Frame52) ∧ CallsH Try.prog 37 [.pointer (some ⟨p0mb, p0mo, none⟩), .int .i64 Frame52, .int .i64 (IntKind.wrap .i64 (Int.tmod (IntKind.wrap .u32 (Int.tdiv p2addr 256)) 64))] h10 fun r53 h12 => ∃ read54 : Bool, ∃ read55 : Bool, ∃ read56 : Bool, ∃ read57 : Bool, ∃ read58 : Int, r53 = .agg #[.bool read54, .bool read55, .bool read56, .bool read57, .int .i64 read58] ∧
  truly true ∧ ∃ T59 : TypeId, ∃ l60 : List Value, bk h12 (sz h5) = some (blk T59 l60) ∧ 0 + 5 ≤ l60.length ∧ ∀ h13 : Hp, h13 = upd h12 (sz h5) T59 (writeAt l60 0 [.bool read54, .bool read55, .bool read56, .bool read57, .int .i64 read58]) →
  ∃ Valid61 : Bool, cellAt h13 (sz h5) 0 = some (.bool Valid61) ∧ ((!Valid61) = true → (truly true ∧ ∃ T62 : TypeId, ∃ l63 : List Value, bk h13 (sz h) = some (blk T62 l63) ∧ 0 + 6 ≤ l63.length ∧ ∀ h14 : Hp, h14 = upd h13 (sz h) T62 (writeAt l63 0 [.int .i64 3, .int .i64 2, .int .i64 0, .bool false, .bool false, .bool false]) →
  ∃ res64 : Int, cellAt h14 (sz h) (0 + 0) = some (.int .i64 res64) ∧ ∃ res65 : Int, cellAt h14 (sz h) (0 + 1) = some (.int .i64 res65) ∧ ∃ res66 : Int, cellAt h14 (sz h) (0 + 2) = some (.int .i64 res66) ∧
  ∃ res67 : Bool, cellAt h14 (sz h) (0 + 3) = some (.bool res67) ∧ ∃ res68 : Bool, cellAt h14 (sz h) (0 + 4) = some (.bool res68) ∧ ∃ res69 : Bool, cellAt h14 (sz h) (0 + 5) = some (.bool res69) ∧ R (.agg #[.int .i64 res64, .int .i64 res65, .int .i64 res66, .bool res67, .bool res68, .bool res69]) h14)) ∧
  ((!Valid61) = false → (I37 2 h13))))))) ∧ ∀ reads70 : Int, ∀ h15 : Hp, I37 reads70 h15 → ∃ x71 : Bool, cellAt h15 (sz h5) (0 + 0) = some (.bool x71) ∧ ∃ x72 : Bool, cellAt h15 (sz h5) (0 + 1) = some (.bool x72) ∧
  ∃ x73 : Bool, cellAt h15 (sz h5) (0 + 2) = some (.bool x73) ∧ ∃ x74 : Bool, cellAt h15 (sz h5) (0 + 3) = some (.bool x74) ∧ ∃ x75 : Int, cellAt h15 (sz h5) (0 + 4) = some (.int .i64 x75) ∧ CallsH Try.prog 38 [.agg #[.bool x71, .bool x72, .bool x73, .bool x74, .int .i64 x75], .int .i64 p3access] h15 fun r76 h16 => ∃ Allows77 : Bool, r76 = .bool Allows77 ∧
  ((!Allows77) = true → (truly true ∧ ∃ T78 : TypeId, ∃ l79 : List Value, bk h16 (sz h) = some (blk T78 l79) ∧ 0 + 6 ≤ l79.length ∧ ∀ h17 : Hp, h17 = upd h16 (sz h) T78 (writeAt l79 0 [.int .i64 4, .int .i64 reads70, .int .i64 0, .bool false, .bool false, .bool false]) →
  ∃ res80 : Int, cellAt h17 (sz h) (0 + 0) = some (.int .i64 res80) ∧ ∃ res81 : Int, cellAt h17 (sz h) (0 + 1) = some (.int .i64 res81) ∧ ∃ res82 : Int, cellAt h17 (sz h) (0 + 2) = some (.int .i64 res82) ∧
  ∃ res83 : Bool, cellAt h17 (sz h) (0 + 3) = some (.bool res83) ∧ ∃ res84 : Bool, cellAt h17 (sz h) (0 + 4) = some (.bool res84) ∧ ∃ res85 : Bool, cellAt h17 (sz h) (0 + 5) = some (.bool res85) ∧ R (.agg #[.int .i64 res80, .int .i64 res81, .int .i64 res82, .bool res83, .bool res84, .bool res85]) h17)) ∧
  ((!Allows77) = false → (∃ Frame86 : Int, cellAt h16 (sz h5) 4 = some (.int .i64 Frame86) ∧ CallsH Try.prog 36 [.pointer (some ⟨p0mb, p0mo, none⟩), .int .i64 Frame86] h16 fun r87 h18 => ∃ inx88 : Bool, r87 = .bool inx88 ∧
  ((!inx88) = true → (truly true ∧ ∃ T89 : TypeId, ∃ l90 : List Value, bk h18 (sz h) = some (blk T89 l90) ∧ 0 + 6 ≤ l90.length ∧ ∀ h19 : Hp, h19 = upd h18 (sz h) T89 (writeAt l90 0 [.int .i64 5, .int .i64 reads70, .int .i64 0, .bool false, .bool false, .bool false]) →
  ∃ res91 : Int, cellAt h19 (sz h) (0 + 0) = some (.int .i64 res91) ∧ ∃ res92 : Int, cellAt h19 (sz h) (0 + 1) = some (.int .i64 res92) ∧ ∃ res93 : Int, cellAt h19 (sz h) (0 + 2) = some (.int .i64 res93) ∧
  ∃ res94 : Bool, cellAt h19 (sz h) (0 + 3) = some (.bool res94) ∧ ∃ res95 : Bool, cellAt h19 (sz h) (0 + 4) = some (.bool res95) ∧ ∃ res96 : Bool, cellAt h19 (sz h) (0 + 5) = some (.bool res96) ∧ R (.agg #[.int .i64 res91, .int .i64 res92, .int .i64 res93, .bool res94, .bool res95, .bool res96]) h19)) ∧
  ((!inx88) = false → (∃ Frame97 : Int, cellAt h18 (sz h5) 4 = some (.int .i64 Frame97) ∧ ∃ Write98 : Bool, cellAt h18 (sz h5) 1 = some (.bool Write98) ∧ ∃ Exec99 : Bool, cellAt h18 (sz h5) 2 = some (.bool Exec99) ∧
  truly true ∧ ∃ T100 : TypeId, ∃ l101 : List Value, bk h18 (sz h) = some (blk T100 l101) ∧ 0 + 6 ≤ l101.length ∧ ∀ h20 : Hp, h20 = upd h18 (sz h) T100 (writeAt l101 0 [.int .i64 0, .int .i64 reads70, .int .i64 Frame97, .bool Write98, .bool Exec99, .bool Block36]) →
  ∃ res102 : Int, cellAt h20 (sz h) (0 + 0) = some (.int .i64 res102) ∧ ∃ res103 : Int, cellAt h20 (sz h) (0 + 1) = some (.int .i64 res103) ∧ ∃ res104 : Int, cellAt h20 (sz h) (0 + 2) = some (.int .i64 res104) ∧
  ∃ res105 : Bool, cellAt h20 (sz h) (0 + 3) = some (.bool res105) ∧ ∃ res106 : Bool, cellAt h20 (sz h) (0 + 4) = some (.bool res106) ∧ ∃ res107 : Bool, cellAt h20 (sz h) (0 + 5) = some (.bool res107) ∧
  R (.agg #[.int .i64 res102, .int .i64 res103, .int .i64 res104, .bool res105, .bool res106, .bool res107]) h20))))))))))
theorem warderref07_Walk.eq (p0mb p0mo : Nat) (p1root : Int) (p2addr : Int) (p3access : Int) (h : Hp) (R : Value → Hp → Prop) : evBody Try.prog calls warderref07_Walk.hints Try.f22 [.ptr p0mb p0mo, .int .i64 p1root, .int .u32 p2addr, .int .i64 p3access] h R = warderref07_Walk.P p0mb p0mo p1root p2addr p3access h R := by kernel_rfl
theorem warderref07_Walk.calls (p0mb p0mo : Nat) (p1root : Int) (p2addr : Int) (p3access : Int) (h : Hp) (R : Value → Hp → Prop) (hp : warderref07_Walk.P p0mb p0mo p1root p2addr p3access h R) : CallsH Try.prog 22 [.pointer (some ⟨p0mb, p0mo, none⟩), .int .i64 p1root, .int .u32 p2addr, .int .i64 p3access] h R :=
  calls_of_body calls_ok Try.func22 (args := [.ptr p0mb p0mo, .int .i64 p1root, .int .u32 p2addr, .int .i64 p3access]) (by rw [warderref07_Walk.eq]; exact hp)
/-! ### phys_Mem_Differ: function 23 -/
def phys_Mem_Differ.hints : Hints := { loops := [(3, [0, 1, 17], [(5, (.one .slice)), (18, (.one (.int .i64)))])], cuts := [], orders := [(2, [0, 1, 3, 7, 15, 0, 32, 96, 224, 480, 1023, 0], [0, 1, 2, 3, 4, 5, 6, 7, 8, 9, 10, 11]), (5, [0, 0, 3, 7, 15, 31, 31, 127, 255, 511, 1023, 2047, 4095, 8191, 16383, 2047, 65535, 131071, 2047, 264191, 788479, 1837055, 2047, 8128511, 16517119, 33554431, 67108863], [0, 1, 2, 3, 4, 5, 6, 7, 8, 9, 10, 11, 12, 13, 14, 15, 16, 17, 18, 19, 20, 21, 22, 23, 24, 25, 26])] }
def phys_Mem_Differ.P (p0mb p0mo : Nat) (p1ob p1oo : Nat) (h : Hp) (R : Value → Hp → Prop) : Prop :=
  ∃ framesa1 : Option Addr, ∃ framesl2 : Nat, ∃ framesc3 : Nat, cellAt h p0mb p0mo = some (.slice framesa1 framesl2 framesc3) ∧ ∃ framesa4 : Option Addr, ∃ framesl5 : Nat, ∃ framesc6 : Nat, cellAt h p1ob p1oo = some (.slice framesa4 framesl5 framesc6) ∧
  ∃ I7 : Option Addr → Nat → Nat → Int → Hp → Prop, ∃ m8 : Option Addr → Nat → Nat → Int → Hp → Nat, I7 none 0 0 0 h ∧ ∀ outa9 : Option Addr, ∀ outl10 : Nat, ∀ outc11 : Nat, ∀ x12 : Int, ∀ h1 : Hp, I7 outa9 outl10 outc11 x12 h1 →
  ((decide (x12 < (maxI ((framesl2 : Nat) : Int) ((framesl5 : Nat) : Int)))) = true → (CallsH Try.prog 39 [.pointer (some ⟨p0mb, p0mo, none⟩), .int .i64 x12] h1 fun r13 h2 => ∃ there14 : Bool, r13 = .bool there14 ∧
  ((!there14) = true → (∀ h3 : Hp, h3 = new h2 (blk 3 [.int .i64 x12]) → appendN h3 3 1 8 [.int .i64 0] outa9 outl10 outc11 (some ⟨sz h2, 0, none⟩) 1 fun a15 l16 c17 h4 => I7 a15 l16 c17 (IntKind.wrap .i64 (x12 + 1)) h4 ∧
  m8 a15 l16 c17 (IntKind.wrap .i64 (x12 + 1)) h4 < m8 outa9 outl10 outc11 x12 h1)) ∧ ((!there14) = false → (CallsH Try.prog 39 [.pointer (some ⟨p1ob, p1oo, none⟩), .int .i64 x12] h2 fun r18 h5 => ∃ there19 : Bool, r18 = .bool there19 ∧
  ((!there19) = true → (∀ h6 : Hp, h6 = new h5 (blk 3 [.int .i64 x12]) → appendN h6 3 1 8 [.int .i64 0] outa9 outl10 outc11 (some ⟨sz h5, 0, none⟩) 1 fun a20 l21 c22 h7 => I7 a20 l21 c22 (IntKind.wrap .i64 (x12 + 1)) h7 ∧
  m8 a20 l21 c22 (IntKind.wrap .i64 (x12 + 1)) h7 < m8 outa9 outl10 outc11 x12 h1)) ∧ ((!there19) = false → (∃ framesa23 : Option Addr, ∃ framesl24 : Nat, ∃ framesc25 : Nat, cellAt h5 p0mb p0mo = some (.slice framesa23 framesl24 framesc25) ∧
  (0 : Int) ≤ x12 ∧ x12 < ((framesl24 : Nat) : Int) ∧ ∃ b26 : Nat, ∃ o27 : Nat, framesa23 = some ⟨b26, o27, none⟩ ∧ ∃ x28 : List Value, x28.length = 256 ∧ readAt h5 b26 (o27 + x12.toNat * 256) x28 ∧ ∃ framesa29 : Option Addr, ∃ framesl30 : Nat, ∃ framesc31 : Nat, cellAt h5 p1ob p1oo = some (.slice framesa29 framesl30 framesc31) ∧
  (0 : Int) ≤ x12 ∧ x12 < ((framesl30 : Nat) : Int) ∧ ∃ b32 : Nat, ∃ o33 : Nat, framesa29 = some ⟨b32, o33, none⟩ ∧ ∃ x34 : List Value, x34.length = 256 ∧ readAt h5 b32 (o33 + x12.toNat * 256) x34 ∧ ∃ us35 vs36 : List Int, us35.length = 256 ∧
  vs36.length = 256 ∧ x28 = us35.map (Value.int .u8) ∧ x34 = vs36.map (Value.int .u8) ∧ ((notIf false (us35 == vs36)) = true → (∀ h8 : Hp, h8 = new h5 (blk 3 [.int .i64 x12]) → appendN h8 3 1 8 [.int .i64 0] outa9 outl10 outc11 (some ⟨sz h5, 0, none⟩) 1 fun a37 l38 c39 h9 => I7 a37 l38 c39 (IntKind.wrap .i64 (x12 + 1)) h9 ∧
  m8 a37 l38 c39 (IntKind.wrap .i64 (x12 + 1)) h9 < m8 outa9 outl10 outc11 x12 h1)) ∧ ((notIf false (us35 == vs36)) = false → (I7 outa9 outl10 outc11 (IntKind.wrap .i64 (x12 + 1)) h5 ∧ m8 outa9 outl10 outc11 (IntKind.wrap .i64 (x12 + 1)) h5 < m8 outa9 outl10 outc11 x12 h1)))))))) ∧
  ((decide (x12 < (maxI ((framesl2 : Nat) : Int) ((framesl5 : Nat) : Int)))) = false → (R (.slice outa9 outl10 outc11) h1))
theorem phys_Mem_Differ.eq (p0mb p0mo : Nat) (p1ob p1oo : Nat) (h : Hp) (R : Value → Hp → Prop) : evBody Try.prog calls phys_Mem_Differ.hints Try.f23 [.ptr p0mb p0mo, .ptr p1ob p1oo] h R = phys_Mem_Differ.P p0mb p0mo p1ob p1oo h R := by kernel_rfl
theorem phys_Mem_Differ.calls (p0mb p0mo : Nat) (p1ob p1oo : Nat) (h : Hp) (R : Value → Hp → Prop) (hp : phys_Mem_Differ.P p0mb p0mo p1ob p1oo h R) : CallsH Try.prog 23 [.pointer (some ⟨p0mb, p0mo, none⟩), .pointer (some ⟨p1ob, p1oo, none⟩)] h R :=
  calls_of_body calls_ok Try.func23 (args := [.ptr p0mb p0mo, .ptr p1ob p1oo]) (by rw [phys_Mem_Differ.eq]; exact hp)
/-! ### phys_New: function 24 -/
def phys_New.hints : Hints := { loops := [], cuts := [], orders := [] }
def phys_New.P (p0frames : Int) (h : Hp) (R : Value → Hp → Prop) : Prop :=
  ((decide (p0frames < 1)) = true → (R (.tuple #[.pointer none, .int .i64 11]) h)) ∧ ((decide (p0frames < 1)) = false → (((decide (p0frames > 1024)) = true → (R (.tuple #[.pointer none, .int .i64 11]) h)) ∧
  ((decide (p0frames > 1024)) = false → ((0 : Int) ≤ p0frames ∧ p0frames ≤ p0frames ∧ p0frames ≤ 140737488355328 ∧ ((256 : Nat) : Int) * p0frames ≤ 281474976710656 ∧ (256 : Nat) = 256 ∧ ∀ h1 : Hp, h1 = new h (blk 79 (zeros (List.replicate 256 (.int .u8 0)) p0frames.toNat)) →
  ∀ h2 : Hp, h2 = new h1 (blk 81 [.slice (some ⟨sz h, 0, none⟩) p0frames.toNat p0frames.toNat]) → R (.tuple #[.pointer (some ⟨(sz h1), 0, none⟩), .int .i64 0]) h2))))
theorem phys_New.eq (p0frames : Int) (h : Hp) (R : Value → Hp → Prop) : evBody Try.prog calls phys_New.hints Try.f24 [.int .i64 p0frames] h R = phys_New.P p0frames h R := by kernel_rfl
theorem phys_New.calls (p0frames : Int) (h : Hp) (R : Value → Hp → Prop) (hp : phys_New.P p0frames h R) : CallsH Try.prog 24 [.int .i64 p0frames] h R :=
  calls_of_body calls_ok Try.func24 (args := [.int .i64 p0frames]) (by rw [phys_New.eq]; exact hp)
/-! ### warderref04_New: function 25 -/
def warderref04_New.hints : Hints := { loops := [], cuts := [], orders := [] }
def warderref04_New.P (p0frames : Int) (h : Hp) (R : Value → Hp → Prop) : Prop :=
  (0 : Int) ≤ (IntKind.wrap .i64 (256 * p0frames)) ∧ (IntKind.wrap .i64 (256 * p0frames)) ≤ (IntKind.wrap .i64 (256 * p0frames)) ∧ (IntKind.wrap .i64 (256 * p0frames)) ≤ 140737488355328 ∧ ((1 : Nat) : Int) * (IntKind.wrap .i64 (256 * p0frames)) ≤ 281474976710656 ∧
  (1 : Nat) = 1 ∧ ∀ h1 : Hp, h1 = new h (blk 5 (zeros [.int .u8 0] (IntKind.wrap .i64 (256 * p0frames)).toNat)) → ∀ h2 : Hp, h2 = new h1 (blk 87 [.slice (some ⟨sz h, 0, none⟩) ((IntKind.wrap .i64 (256 * p0frames)).toNat) ((IntKind.wrap .i64 (256 * p0frames)).toNat)]) →
  R (.pointer (some ⟨(sz h1), 0, none⟩)) h2
theorem warderref04_New.eq (p0frames : Int) (h : Hp) (R : Value → Hp → Prop) : evBody Try.prog calls warderref04_New.hints Try.f25 [.int .i64 p0frames] h R = warderref04_New.P p0frames h R := by kernel_rfl
theorem warderref04_New.calls (p0frames : Int) (h : Hp) (R : Value → Hp → Prop) (hp : warderref04_New.P p0frames h R) : CallsH Try.prog 25 [.int .i64 p0frames] h R :=
  calls_of_body calls_ok Try.func25 (args := [.int .i64 p0frames]) (by rw [warderref04_New.eq]; exact hp)
/-! ### warderref04_Mem_PutWord: function 26 -/
def warderref04_Mem_PutWord.hints : Hints := { loops := [(6, [0, 1, 9], [(10, (.one (.int .i64)))])], cuts := [], orders := [(8, [0, 1, 3, 7, 0, 16, 0, 112, 0, 0, 768, 1792, 4095, 8191], [0, 1, 2, 3, 4, 5, 6, 7, 8, 9, 10, 11, 12, 13])] }
def warderref04_Mem_PutWord.P (p0mb p0mo : Nat) (p1addr : Int) (p2w : Int) (h : Hp) (R : Value → Hp → Prop) : Prop :=
  CallsH Try.prog 40 [.pointer (some ⟨p0mb, p0mo, none⟩), .int .u32 p1addr] h fun r1 h1 => ∃ Word2 : Int, ∃ Word3 : Bool, r1 = .tuple #[.int .u32 Word2, .bool Word3] ∧ ((!Word3) = true → (R (.bool false) h1)) ∧
  ((!Word3) = false → (CallsH Try.prog 41 [.int .u32 p2w] h1 fun r4 h2 => ∃ Foura5 : Option Addr, ∃ Fourl6 : Nat, ∃ Fourc7 : Nat, r4 = .slice Foura5 Fourl6 Fourc7 ∧ ∃ I8 : Int → Hp → Prop, ∃ m9 : Int →
  Hp → Nat, I8 0 h2 ∧ ∀ i10 : Int, ∀ h3 : Hp, I8 i10 h3 → ((decide (i10 < 4)) = true → (∃ Ba11 : Option Addr, ∃ Bl12 : Nat, ∃ Bc13 : Nat, cellAt h3 p0mb p0mo = some (.slice Ba11 Bl12 Bc13) ∧ (0 : Int) ≤ i10 ∧
  i10 < ((Fourl6 : Nat) : Int) ∧ ∃ b14 : Nat, ∃ o15 : Nat, Foura5 = some ⟨b14, o15, none⟩ ∧ ∃ x16 : Int, cellAt h3 b14 (o15 + i10.toNat * 1) = some (.int .u8 x16) ∧ (0 : Int) ≤ (IntKind.wrap .i64 ((IntKind.wrap .i64 p1addr) + i10)) ∧
  (IntKind.wrap .i64 ((IntKind.wrap .i64 p1addr) + i10)) < ((Bl12 : Nat) : Int) ∧ ∃ b17 : Nat, ∃ o18 : Nat, Ba11 = some ⟨b17, o18, none⟩ ∧ truly true ∧ ∃ T19 : TypeId, ∃ l20 : List Value, bk h3 b17 = some (blk T19 l20) ∧
  (o18 + (IntKind.wrap .i64 ((IntKind.wrap .i64 p1addr) + i10)).toNat * 1) + 1 ≤ l20.length ∧ ∀ h4 : Hp, h4 = upd h3 b17 T19 (writeAt l20 (o18 + (IntKind.wrap .i64 ((IntKind.wrap .i64 p1addr) + i10)).toNat * 1) [.int .u8 x16]) →
  I8 (IntKind.wrap .i64 (i10 + 1)) h4 ∧ m9 (IntKind.wrap .i64 (i10 + 1)) h4 < m9 i10 h3)) ∧ ((decide (i10 < 4)) = false → (R (.bool true) h3))))
theorem warderref04_Mem_PutWord.eq (p0mb p0mo : Nat) (p1addr : Int) (p2w : Int) (h : Hp) (R : Value → Hp → Prop) : evBody Try.prog calls warderref04_Mem_PutWord.hints Try.f26 [.ptr p0mb p0mo, .int .u32 p1addr, .int .u32 p2w] h R = warderref04_Mem_PutWord.P p0mb p0mo p1addr p2w h R := by kernel_rfl
theorem warderref04_Mem_PutWord.calls (p0mb p0mo : Nat) (p1addr : Int) (p2w : Int) (h : Hp) (R : Value → Hp → Prop) (hp : warderref04_Mem_PutWord.P p0mb p0mo p1addr p2w h R) : CallsH Try.prog 26 [.pointer (some ⟨p0mb, p0mo, none⟩), .int .u32 p1addr, .int .u32 p2w] h R :=
  calls_of_body calls_ok Try.func26 (args := [.ptr p0mb p0mo, .int .u32 p1addr, .int .u32 p2w]) (by rw [warderref04_Mem_PutWord.eq]; exact hp)
/-! ### walk_found: function 27 -/
def walk_found.hints : Hints := { loops := [], cuts := [], orders := [(9, [0, 1, 0, 4, 15, 31, 63], [0, 1, 2, 3, 4, 5, 6]), (11, [0, 0, 2, 0, 8, 31, 63, 127, 127, 255, 1023], [0, 1, 2, 3, 4, 5, 6, 7, 8, 9, 10])] }
def walk_found.P (p0mb p0mo : Nat) (p1root : Int) (p2addr : Int) (h : Hp) (R : Value → Hp → Prop) : Prop :=
  ∀ h1 : Hp, h1 = new h (blk 42 [.bool false, .bool false, .bool false, .bool false, .int .i64 0]) → CallsH Try.prog 42 [.int .u32 p2addr] h1 fun r1 h2 => ∃ Inside2 : Bool, r1 = .bool Inside2 ∧ ((!Inside2) = true →
  (∃ x3 : Bool, cellAt h2 (sz h) (0 + 0) = some (.bool x3) ∧ ∃ x4 : Bool, cellAt h2 (sz h) (0 + 1) = some (.bool x4) ∧ ∃ x5 : Bool, cellAt h2 (sz h) (0 + 2) = some (.bool x5) ∧ ∃ x6 : Bool, cellAt h2 (sz h) (0 + 3) = some (.bool x6) ∧
  ∃ x7 : Int, cellAt h2 (sz h) (0 + 4) = some (.int .i64 x7) ∧ truly true ∧ ∃ T8 : TypeId, ∃ l9 : List Value, bk h2 (sz h) = some (blk T8 l9) ∧ 0 + 5 ≤ l9.length ∧ ∀ h3 : Hp, h3 = upd h2 (sz h) T8 (writeAt l9 0 [.bool x3, .bool x4, .bool x5, .bool x6, .int .i64 x7]) →
  ∃ res10 : Bool, cellAt h3 (sz h) (0 + 0) = some (.bool res10) ∧ ∃ res11 : Bool, cellAt h3 (sz h) (0 + 1) = some (.bool res11) ∧ ∃ res12 : Bool, cellAt h3 (sz h) (0 + 2) = some (.bool res12) ∧ ∃ res13 : Bool, cellAt h3 (sz h) (0 + 3) = some (.bool res13) ∧
  ∃ res14 : Int, cellAt h3 (sz h) (0 + 4) = some (.int .i64 res14) ∧ R (.tuple #[.agg #[.bool res10, .bool res11, .bool res12, .bool res13, .int .i64 res14], .int .i64 0, .int .i64 1]) h3)) ∧ ((!Inside2) = false →
  (CallsH Try.prog 17 [.int .u32 p2addr] h2 fun r15 h4 => ∃ First16 : Int, r15 = .int .i64 First16 ∧ CallsH Try.prog 43 [.pointer (some ⟨p0mb, p0mo, none⟩), .int .i64 p1root, .int .i64 First16] h4 fun r17 h5 => ∃ read18 : Bool, ∃ read19 : Bool, ∃ read20 : Bool, ∃ read21 : Bool, ∃ read22 : Int, ∃ read23 : Bool, r17 = .tuple #[.agg #[.bool read18, .bool read19, .bool read20, .bool read21, .int .i64 read22], .bool read23] ∧
  ∀ h6 : Hp, h6 = new h5 (blk 42 [.bool false, .bool false, .bool false, .bool false, .int .i64 0]) → truly true ∧ ∃ T24 : TypeId, ∃ l25 : List Value, bk h6 (sz h5) = some (blk T24 l25) ∧ 0 + 5 ≤ l25.length ∧
  ∀ h7 : Hp, h7 = upd h6 (sz h5) T24 (writeAt l25 0 [.bool read18, .bool read19, .bool read20, .bool read21, .int .i64 read22]) → ((!read23) = true → (∃ x26 : Bool, cellAt h7 (sz h) (0 + 0) = some (.bool x26) ∧
  ∃ x27 : Bool, cellAt h7 (sz h) (0 + 1) = some (.bool x27) ∧ ∃ x28 : Bool, cellAt h7 (sz h) (0 + 2) = some (.bool x28) ∧ ∃ x29 : Bool, cellAt h7 (sz h) (0 + 3) = some (.bool x29) ∧ ∃ x30 : Int, cellAt h7 (sz h) (0 + 4) = some (.int .i64 x30) ∧
  truly true ∧ ∃ T31 : TypeId, ∃ l32 : List Value, bk h7 (sz h) = some (blk T31 l32) ∧ 0 + 5 ≤ l32.length ∧ ∀ h8 : Hp, h8 = upd h7 (sz h) T31 (writeAt l32 0 [.bool x26, .bool x27, .bool x28, .bool x29, .int .i64 x30]) →
  ∃ res33 : Bool, cellAt h8 (sz h) (0 + 0) = some (.bool res33) ∧ ∃ res34 : Bool, cellAt h8 (sz h) (0 + 1) = some (.bool res34) ∧ ∃ res35 : Bool, cellAt h8 (sz h) (0 + 2) = some (.bool res35) ∧ ∃ res36 : Bool, cellAt h8 (sz h) (0 + 3) = some (.bool res36) ∧
  ∃ res37 : Int, cellAt h8 (sz h) (0 + 4) = some (.int .i64 res37) ∧ R (.tuple #[.agg #[.bool res33, .bool res34, .bool res35, .bool res36, .int .i64 res37], .int .i64 0, .int .i64 5]) h8)) ∧ ((!read23) = false →
  (∃ Valid38 : Bool, cellAt h7 (sz h5) 0 = some (.bool Valid38) ∧ ((!Valid38) = true → (∃ x39 : Bool, cellAt h7 (sz h) (0 + 0) = some (.bool x39) ∧ ∃ x40 : Bool, cellAt h7 (sz h) (0 + 1) = some (.bool x40) ∧
  ∃ x41 : Bool, cellAt h7 (sz h) (0 + 2) = some (.bool x41) ∧ ∃ x42 : Bool, cellAt h7 (sz h) (0 + 3) = some (.bool x42) ∧ ∃ x43 : Int, cellAt h7 (sz h) (0 + 4) = some (.int .i64 x43) ∧ truly true ∧ ∃ T44 : TypeId, ∃ l45 : List Value, bk h7 (sz h) = some (blk T44 l45) ∧
  0 + 5 ≤ l45.length ∧ ∀ h9 : Hp, h9 = upd h7 (sz h) T44 (writeAt l45 0 [.bool x39, .bool x40, .bool x41, .bool x42, .int .i64 x43]) → ∃ res46 : Bool, cellAt h9 (sz h) (0 + 0) = some (.bool res46) ∧ ∃ res47 : Bool, cellAt h9 (sz h) (0 + 1) = some (.bool res47) ∧
  ∃ res48 : Bool, cellAt h9 (sz h) (0 + 2) = some (.bool res48) ∧ ∃ res49 : Bool, cellAt h9 (sz h) (0 + 3) = some (.bool res49) ∧ ∃ res50 : Int, cellAt h9 (sz h) (0 + 4) = some (.int .i64 res50) ∧ R (.tuple #[.agg #[.bool res46, .bool res47, .bool res48, .bool res49, .int .i64 res50], .int .i64 1, .int .i64 2]) h9)) ∧
  ((!Valid38) = false → (∃ Block51 : Bool, cellAt h7 (sz h5) 3 = some (.bool Block51) ∧ ((Block51) = true → (∃ Frame52 : Int, cellAt h7 (sz h5) 4 = some (.int .i64 Frame52) ∧ CallsH Try.prog 44 [.int .u32 p2addr] h7 fun r53 h10 => ∃ Second54 : Int, r53 = .int .i64 Second54 ∧
  cellAt h10 (sz h5) 4 = some (.int .i64 Frame52) ∧ truly true ∧ ∃ T55 : TypeId, ∃ l56 : List Value, bk h10 (sz h5) = some (blk T55 l56) ∧ 4 + 1 ≤ l56.length ∧ ∀ h11 : Hp, h11 = upd h10 (sz h5) T55 (writeAt l56 4 [.int .i64 (IntKind.wrap .i64 (Frame52 + Second54))]) →
  ∃ x57 : Bool, cellAt h11 (sz h5) (0 + 0) = some (.bool x57) ∧ ∃ x58 : Bool, cellAt h11 (sz h5) (0 + 1) = some (.bool x58) ∧ ∃ x59 : Bool, cellAt h11 (sz h5) (0 + 2) = some (.bool x59) ∧ ∃ x60 : Bool, cellAt h11 (sz h5) (0 + 3) = some (.bool x60) ∧
  ∃ x61 : Int, cellAt h11 (sz h5) (0 + 4) = some (.int .i64 x61) ∧ truly true ∧ ∃ T62 : TypeId, ∃ l63 : List Value, bk h11 (sz h) = some (blk T62 l63) ∧ 0 + 5 ≤ l63.length ∧ ∀ h12 : Hp, h12 = upd h11 (sz h) T62 (writeAt l63 0 [.bool x57, .bool x58, .bool x59, .bool x60, .int .i64 x61]) →
  ∃ res64 : Bool, cellAt h12 (sz h) (0 + 0) = some (.bool res64) ∧ ∃ res65 : Bool, cellAt h12 (sz h) (0 + 1) = some (.bool res65) ∧ ∃ res66 : Bool, cellAt h12 (sz h) (0 + 2) = some (.bool res66) ∧ ∃ res67 : Bool, cellAt h12 (sz h) (0 + 3) = some (.bool res67) ∧
  ∃ res68 : Int, cellAt h12 (sz h) (0 + 4) = some (.int .i64 res68) ∧ R (.tuple #[.agg #[.bool res64, .bool res65, .bool res66, .bool res67, .int .i64 res68], .int .i64 1, .int .i64 0]) h12)) ∧ ((Block51) = false →
  (∃ Frame69 : Int, cellAt h7 (sz h5) 4 = some (.int .i64 Frame69) ∧ CallsH Try.prog 44 [.int .u32 p2addr] h7 fun r70 h13 => ∃ Second71 : Int, r70 = .int .i64 Second71 ∧ cellAt h13 (sz h5) 4 = some (.int .i64 Frame69) ∧
  CallsH Try.prog 43 [.pointer (some ⟨p0mb, p0mo, none⟩), .int .i64 Frame69, .int .i64 Second71] h13 fun r72 h14 => ∃ read73 : Bool, ∃ read74 : Bool, ∃ read75 : Bool, ∃ read76 : Bool, ∃ read77 : Int, ∃ read78 : Bool, r72 = .tuple #[.agg #[.bool read73, .bool read74, .bool read75, .bool read76, .int .i64 read77], .bool read78] ∧
  truly true ∧ ∃ T79 : TypeId, ∃ l80 : List Value, bk h14 (sz h) = some (blk T79 l80) ∧ 0 + 5 ≤ l80.length ∧ ∀ h15 : Hp, h15 = upd h14 (sz h) T79 (writeAt l80 0 [.bool read73, .bool read74, .bool read75, .bool read76, .int .i64 read77]) →
  ((!read78) = true → (∃ x81 : Bool, cellAt h15 (sz h) (0 + 0) = some (.bool x81) ∧ ∃ x82 : Bool, cellAt h15 (sz h) (0 + 1) = some (.bool x82) ∧ ∃ x83 : Bool, cellAt h15 (sz h) (0 + 2) = some (.bool x83) ∧
  ∃ x84 : Bool, cellAt h15 (sz h) (0 + 3) = some (.bool x84) ∧ ∃ x85 : Int, cellAt h15 (sz h) (0 + 4) = some (.int .i64 x85) ∧ truly true ∧ ∃ T86 : TypeId, ∃ l87 : List Value, bk h15 (sz h) = some (blk T86 l87) ∧
  0 + 5 ≤ l87.length ∧ ∀ h16 : Hp, h16 = upd h15 (sz h) T86 (writeAt l87 0 [.bool x81, .bool x82, .bool x83, .bool x84, .int .i64 x85]) → ∃ res88 : Bool, cellAt h16 (sz h) (0 + 0) = some (.bool res88) ∧
  ∃ res89 : Bool, cellAt h16 (sz h) (0 + 1) = some (.bool res89) ∧ ∃ res90 : Bool, cellAt h16 (sz h) (0 + 2) = some (.bool res90) ∧ ∃ res91 : Bool, cellAt h16 (sz h) (0 + 3) = some (.bool res91) ∧ ∃ res92 : Int, cellAt h16 (sz h) (0 + 4) = some (.int .i64 res92) ∧
  R (.tuple #[.agg #[.bool res88, .bool res89, .bool res90, .bool res91, .int .i64 res92], .int .i64 1, .int .i64 5]) h16)) ∧ ((!read78) = false → (∃ Valid93 : Bool, cellAt h15 (sz h) 0 = some (.bool Valid93) ∧
  ((!Valid93) = true → (∃ x94 : Bool, cellAt h15 (sz h) (0 + 0) = some (.bool x94) ∧ ∃ x95 : Bool, cellAt h15 (sz h) (0 + 1) = some (.bool x95) ∧ ∃ x96 : Bool, cellAt h15 (sz h) (0 + 2) = some (.bool x96) ∧
  ∃ x97 : Bool, cellAt h15 (sz h) (0 + 3) = some (.bool x97) ∧ ∃ x98 : Int, cellAt h15 (sz h) (0 + 4) = some (.int .i64 x98) ∧ truly true ∧ ∃ T99 : TypeId, ∃ l100 : List Value, bk h15 (sz h) = some (blk T99 l100) ∧
  0 + 5 ≤ l100.length ∧ ∀ h17 : Hp, h17 = upd h15 (sz h) T99 (writeAt l100 0 [.bool x94, .bool x95, .bool x96, .bool x97, .int .i64 x98]) → ∃ res101 : Bool, cellAt h17 (sz h) (0 + 0) = some (.bool res101) ∧
  ∃ res102 : Bool, cellAt h17 (sz h) (0 + 1) = some (.bool res102) ∧ ∃ res103 : Bool, cellAt h17 (sz h) (0 + 2) = some (.bool res103) ∧ ∃ res104 : Bool, cellAt h17 (sz h) (0 + 3) = some (.bool res104) ∧
  ∃ res105 : Int, cellAt h17 (sz h) (0 + 4) = some (.int .i64 res105) ∧ R (.tuple #[.agg #[.bool res101, .bool res102, .bool res103, .bool res104, .int .i64 res105], .int .i64 2, .int .i64 3]) h17)) ∧
  ((!Valid93) = false → (truly true ∧ ∃ T106 : TypeId, ∃ l107 : List Value, bk h15 (sz h) = some (blk T106 l107) ∧ 3 + 1 ≤ l107.length ∧ ∀ h18 : Hp, h18 = upd h15 (sz h) T106 (writeAt l107 3 [.bool false]) →
  ∃ x108 : Bool, cellAt h18 (sz h) (0 + 0) = some (.bool x108) ∧ ∃ x109 : Bool, cellAt h18 (sz h) (0 + 1) = some (.bool x109) ∧ ∃ x110 : Bool, cellAt h18 (sz h) (0 + 2) = some (.bool x110) ∧ ∃ x111 : Bool, cellAt h18 (sz h) (0 + 3) = some (.bool x111) ∧
  ∃ x112 : Int, cellAt h18 (sz h) (0 + 4) = some (.int .i64 x112) ∧ truly true ∧ ∃ T113 : TypeId, ∃ l114 : List Value, bk h18 (sz h) = some (blk T113 l114) ∧ 0 + 5 ≤ l114.length ∧ ∀ h19 : Hp, h19 = upd h18 (sz h) T113 (writeAt l114 0 [.bool x108, .bool x109, .bool x110, .bool x111, .int .i64 x112]) →
  ∃ res115 : Bool, cellAt h19 (sz h) (0 + 0) = some (.bool res115) ∧ ∃ res116 : Bool, cellAt h19 (sz h) (0 + 1) = some (.bool res116) ∧ ∃ res117 : Bool, cellAt h19 (sz h) (0 + 2) = some (.bool res117) ∧
  ∃ res118 : Bool, cellAt h19 (sz h) (0 + 3) = some (.bool res118) ∧ ∃ res119 : Int, cellAt h19 (sz h) (0 + 4) = some (.int .i64 res119) ∧ R (.tuple #[.agg #[.bool res115, .bool res116, .bool res117, .bool res118, .int .i64 res119], .int .i64 2, .int .i64 0]) h19))))))))))))
theorem walk_found.eq (p0mb p0mo : Nat) (p1root : Int) (p2addr : Int) (h : Hp) (R : Value → Hp → Prop) : evBody Try.prog calls walk_found.hints Try.f27 [.ptr p0mb p0mo, .int .i64 p1root, .int .u32 p2addr] h R = walk_found.P p0mb p0mo p1root p2addr h R := by kernel_rfl
theorem walk_found.calls (p0mb p0mo : Nat) (p1root : Int) (p2addr : Int) (h : Hp) (R : Value → Hp → Prop) (hp : walk_found.P p0mb p0mo p1root p2addr h R) : CallsH Try.prog 27 [.pointer (some ⟨p0mb, p0mo, none⟩), .int .i64 p1root, .int .u32 p2addr] h R :=
  calls_of_body calls_ok Try.func27 (args := [.ptr p0mb p0mo, .int .i64 p1root, .int .u32 p2addr]) (by rw [walk_found.eq]; exact hp)
/-! ### entry_Allows: function 28 -/
def entry_Allows.hints : Hints := { loops := [], cuts := [], orders := [] }
def entry_Allows.P (p0e_0 : Bool) (p0e_1 : Bool) (p0e_2 : Bool) (p0e_3 : Bool) (p0e_4 : Int) (p1access : Int) (h : Hp) (R : Value → Hp → Prop) : Prop :=
  ∀ h1 : Hp, h1 = new h (blk 42 [.bool p0e_0, .bool p0e_1, .bool p0e_2, .bool p0e_3, .int .i64 p0e_4]) → ((p1access == 0) = true → (∃ Valid1 : Bool, cellAt h1 (sz h) 0 = some (.bool Valid1) ∧ R (.bool Valid1) h1)) ∧
  ((p1access == 0) = false → (((p1access == 1) = true → (∃ Valid2 : Bool, cellAt h1 (sz h) 0 = some (.bool Valid2) ∧ ((Valid2) = true → (∃ Write3 : Bool, cellAt h1 (sz h) 1 = some (.bool Write3) ∧ R (.bool Write3) h1)) ∧
  ((Valid2) = false → (R (.bool false) h1)))) ∧ ((p1access == 1) = false → (((p1access == 2) = true → (∃ Valid4 : Bool, cellAt h1 (sz h) 0 = some (.bool Valid4) ∧ ((Valid4) = true → (∃ Exec5 : Bool, cellAt h1 (sz h) 2 = some (.bool Exec5) ∧
  R (.bool Exec5) h1)) ∧ ((Valid4) = false → (R (.bool false) h1)))) ∧ ((p1access == 2) = false → (R (.bool false) h1))))))
theorem entry_Allows.eq (p0e_0 : Bool) (p0e_1 : Bool) (p0e_2 : Bool) (p0e_3 : Bool) (p0e_4 : Int) (p1access : Int) (h : Hp) (R : Value → Hp → Prop) : evBody Try.prog calls entry_Allows.hints Try.f28 [.agg [.bool p0e_0, .bool p0e_1, .bool p0e_2, .bool p0e_3, .int .i64 p0e_4], .int .i64 p1access] h R = entry_Allows.P p0e_0 p0e_1 p0e_2 p0e_3 p0e_4 p1access h R := by kernel_rfl
theorem entry_Allows.calls (p0e_0 : Bool) (p0e_1 : Bool) (p0e_2 : Bool) (p0e_3 : Bool) (p0e_4 : Int) (p1access : Int) (h : Hp) (R : Value → Hp → Prop) (hp : entry_Allows.P p0e_0 p0e_1 p0e_2 p0e_3 p0e_4 p1access h R) : CallsH Try.prog 28 [.agg #[.bool p0e_0, .bool p0e_1, .bool p0e_2, .bool p0e_3, .int .i64 p0e_4], .int .i64 p1access] h R :=
  calls_of_body calls_ok Try.func28 (args := [.agg [.bool p0e_0, .bool p0e_1, .bool p0e_2, .bool p0e_3, .int .i64 p0e_4], .int .i64 p1access]) (by rw [entry_Allows.eq]; exact hp)
/-! ### phys_Mem_Frames: function 29 -/
def phys_Mem_Frames.hints : Hints := { loops := [], cuts := [], orders := [] }
def phys_Mem_Frames.P (p0mb p0mo : Nat) (h : Hp) (R : Value → Hp → Prop) : Prop :=
  ∃ framesa1 : Option Addr, ∃ framesl2 : Nat, ∃ framesc3 : Nat, cellAt h p0mb p0mo = some (.slice framesa1 framesl2 framesc3) ∧ R (.int .i64 ((framesl2 : Nat) : Int)) h
theorem phys_Mem_Frames.eq (p0mb p0mo : Nat) (h : Hp) (R : Value → Hp → Prop) : evBody Try.prog calls phys_Mem_Frames.hints Try.f29 [.ptr p0mb p0mo] h R = phys_Mem_Frames.P p0mb p0mo h R := by kernel_rfl
theorem phys_Mem_Frames.calls (p0mb p0mo : Nat) (h : Hp) (R : Value → Hp → Prop) (hp : phys_Mem_Frames.P p0mb p0mo h R) : CallsH Try.prog 29 [.pointer (some ⟨p0mb, p0mo, none⟩)] h R :=
  calls_of_body calls_ok Try.func29 (args := [.ptr p0mb p0mo]) (by rw [phys_Mem_Frames.eq]; exact hp)
/-! ### phys_Mem_at: function 30 -/
def phys_Mem_at.hints : Hints := { loops := [], cuts := [], orders := [] }
def phys_Mem_at.P (p0mb p0mo : Nat) (p1addr : Int) (h : Hp) (R : Value → Hp → Prop) : Prop :=
  256 ≠ (0 : Int) ∧ ∃ framesa1 : Option Addr, ∃ framesl2 : Nat, ∃ framesc3 : Nat, cellAt h p0mb p0mo = some (.slice framesa1 framesl2 framesc3) ∧ ((decide ((IntKind.wrap .i64 (IntKind.wrap .u32 (Int.tdiv p1addr 256))) ≥ ((framesl2 : Nat) : Int))) = true →
  (R (.tuple #[.pointer none, .int .i64 0, .bool false]) h)) ∧ ((decide ((IntKind.wrap .i64 (IntKind.wrap .u32 (Int.tdiv p1addr 256))) ≥ ((framesl2 : Nat) : Int))) = false → (∃ framesa4 : Option Addr, ∃ framesl5 : Nat, ∃ framesc6 : Nat, cellAt h p0mb p0mo = some (.slice framesa4 framesl5 framesc6) ∧
  (0 : Int) ≤ (IntKind.wrap .i64 (IntKind.wrap .u32 (Int.tdiv p1addr 256))) ∧ (IntKind.wrap .i64 (IntKind.wrap .u32 (Int.tdiv p1addr 256))) < ((framesl5 : Nat) : Int) ∧ ∃ b7 : Nat, ∃ o8 : Nat, framesa4 = some ⟨b7, o8, none⟩ ∧
  256 ≠ (0 : Int) ∧ R (.tuple #[.pointer (some ⟨b7, o8 + (IntKind.wrap .i64 (IntKind.wrap .u32 (Int.tdiv p1addr 256))).toNat * 256, none⟩), .int .i64 (IntKind.wrap .i64 (Int.tmod p1addr 256)), .bool true]) h))
theorem phys_Mem_at.eq (p0mb p0mo : Nat) (p1addr : Int) (h : Hp) (R : Value → Hp → Prop) : evBody Try.prog calls phys_Mem_at.hints Try.f30 [.ptr p0mb p0mo, .int .u32 p1addr] h R = phys_Mem_at.P p0mb p0mo p1addr h R := by kernel_rfl
theorem phys_Mem_at.calls (p0mb p0mo : Nat) (p1addr : Int) (h : Hp) (R : Value → Hp → Prop) (hp : phys_Mem_at.P p0mb p0mo p1addr h R) : CallsH Try.prog 30 [.pointer (some ⟨p0mb, p0mo, none⟩), .int .u32 p1addr] h R :=
  calls_of_body calls_ok Try.func30 (args := [.ptr p0mb p0mo, .int .u32 p1addr]) (by rw [phys_Mem_at.eq]; exact hp)
/-! ### word_Get: function 31 -/
def word_Get.hints : Hints := { loops := [(5, [22, 23], [(6, (.one (.int .u32))), (24, (.one (.int .i64)))])], cuts := [(3, [0, 1], [])], orders := [] }
def word_Get.P (p0ba : Option Addr) (p0bl : Nat) (p0bc : Nat) (p1at : Int) (h : Hp) (R : Value → Hp → Prop) : Prop :=
  ∃ I1 : Hp → Prop, (((decide (p1at < 0)) = true → (R (.tuple #[.int .u32 0, .bool false]) h)) ∧ ((decide (p1at < 0)) = false → (((decide (p1at > (IntKind.wrap .i64 (((p0bl : Nat) : Int) - 4)))) = true →
  (R (.tuple #[.int .u32 0, .bool false]) h)) ∧ ((decide (p1at > (IntKind.wrap .i64 (((p0bl : Nat) : Int) - 4)))) = false → (I1 h))))) ∧ ∀ h1 : Hp, I1 h1 → ((false : Bool) = true → (true : Bool) = true) ∧
  (0 : Int) ≤ p1at ∧ p1at ≤ (IntKind.wrap .i64 (p1at + 4)) ∧ (IntKind.wrap .i64 (p1at + 4)) ≤ ((p0bc : Nat) : Int) ∧ ((p0bc : Nat) : Int) ≤ ((p0bc : Nat) : Int) ∧ ∃ I2 : Int → Int → Hp → Prop, ∃ m3 : Int →
  Int → Hp → Nat, I2 0 0 h1 ∧ ∀ w4 : Int, ∀ x5 : Int, ∀ h2 : Hp, I2 w4 x5 h2 → ((decide (x5 < ((((IntKind.wrap .i64 (p1at + 4))).toNat - (p1at).toNat : Nat) : Int))) = true → ((0 : Int) ≤ x5 ∧ x5 < ((((IntKind.wrap .i64 (p1at + 4))).toNat - (p1at).toNat : Nat) : Int) ∧
  ∃ b6 : Nat, ∃ o7 : Nat, sliceBase p0ba (p1at).toNat (((p0bc : Nat) : Int)).toNat 1 = some ⟨b6, o7, none⟩ ∧ ∃ x8 : Int, cellAt h2 b6 (o7 + x5.toNat * 1) = some (.int .u8 x8) ∧ (0 : Int) ≤ (IntKind.wrap .i64 (8 * x5)) ∧
  I2 (borV .u32 w4 (shlV .u32 (IntKind.wrap .u32 x8) (IntKind.wrap .i64 (8 * x5)))) (IntKind.wrap .i64 (x5 + 1)) h2 ∧ m3 (borV .u32 w4 (shlV .u32 (IntKind.wrap .u32 x8) (IntKind.wrap .i64 (8 * x5)))) (IntKind.wrap .i64 (x5 + 1)) h2 < m3 w4 x5 h2)) ∧
  ((decide (x5 < ((((IntKind.wrap .i64 (p1at + 4))).toNat - (p1at).toNat : Nat) : Int))) = false → (R (.tuple #[.int .u32 w4, .bool true]) h2))
theorem word_Get.eq (p0ba : Option Addr) (p0bl : Nat) (p0bc : Nat) (p1at : Int) (h : Hp) (R : Value → Hp → Prop) : evBody Try.prog calls word_Get.hints Try.f31 [.slice p0ba p0bl p0bc, .int .i64 p1at] h R = word_Get.P p0ba p0bl p0bc p1at h R := by kernel_rfl
theorem word_Get.calls (p0ba : Option Addr) (p0bl : Nat) (p0bc : Nat) (p1at : Int) (h : Hp) (R : Value → Hp → Prop) (hp : word_Get.P p0ba p0bl p0bc p1at h R) : CallsH Try.prog 31 [.slice p0ba p0bl p0bc, .int .i64 p1at] h R :=
  calls_of_body calls_ok Try.func31 (args := [.slice p0ba p0bl p0bc, .int .i64 p1at]) (by rw [word_Get.eq]; exact hp)
/-! ### word_Field: function 32 -/
def word_Field.hints : Hints := { loops := [], cuts := [], orders := [(3, [0, 0, 3, 0, 8, 31, 63], [0, 1, 2, 3, 4, 5, 6])] }
def word_Field.P (p0w : Int) (p1at : Int) (p2n : Int) (h : Hp) (R : Value → Hp → Prop) : Prop :=
  CallsH Try.prog 45 [.int .i64 p1at, .int .i64 p2n] h fun r1 h1 => ∃ fits2 : Bool, r1 = .bool fits2 ∧ ((!fits2) = true → (R (.int .u32 0) h1)) ∧ ((!fits2) = false → ((0 : Int) ≤ p1at ∧ CallsH Try.prog 46 [.int .i64 p2n] h1 fun r3 h2 => ∃ mask4 : Int, r3 = .int .u32 mask4 ∧
  R (.int .u32 (bandV .u32 (shrV .u32 p0w p1at) mask4)) h2))
theorem word_Field.eq (p0w : Int) (p1at : Int) (p2n : Int) (h : Hp) (R : Value → Hp → Prop) : evBody Try.prog calls word_Field.hints Try.f32 [.int .u32 p0w, .int .i64 p1at, .int .i64 p2n] h R = word_Field.P p0w p1at p2n h R := by kernel_rfl
theorem word_Field.calls (p0w : Int) (p1at : Int) (p2n : Int) (h : Hp) (R : Value → Hp → Prop) (hp : word_Field.P p0w p1at p2n h R) : CallsH Try.prog 32 [.int .u32 p0w, .int .i64 p1at, .int .i64 p2n] h R :=
  calls_of_body calls_ok Try.func32 (args := [.int .u32 p0w, .int .i64 p1at, .int .i64 p2n]) (by rw [word_Field.eq]; exact hp)
/-! ### entry_Decode_1: function 33 -/
def entry_Decode_1.hints : Hints := { loops := [], cuts := [], orders := [] }
def entry_Decode_1.P (p0at : Int) (v0cb v0co : Nat) (h : Hp) (R : Value → Hp → Prop) : Prop :=
  ∃ x1 : Int, cellAt h v0cb v0co = some (.int .u32 x1) ∧ CallsH Try.prog 32 [.int .u32 x1, .int .i64 p0at, .int .i64 1] h fun r2 h1 => ∃ Field3 : Int, r2 = .int .u32 Field3 ∧ R (.bool (Field3 == 1)) h1
theorem entry_Decode_1.eq (p0at : Int) (v0cb v0co : Nat) (h : Hp) (R : Value → Hp → Prop) : evBody Try.prog calls entry_Decode_1.hints Try.f33 [.int .i64 p0at, .ptr v0cb v0co] h R = entry_Decode_1.P p0at v0cb v0co h R := by kernel_rfl
theorem entry_Decode_1.calls (p0at : Int) (v0cb v0co : Nat) (h : Hp) (R : Value → Hp → Prop) (hp : entry_Decode_1.P p0at v0cb v0co h R) : CallsH Try.prog 33 [.int .i64 p0at, .pointer (some ⟨v0cb, v0co, none⟩)] h R :=
  calls_of_body calls_ok Try.func33 (args := [.int .i64 p0at, .ptr v0cb v0co]) (by rw [entry_Decode_1.eq]; exact hp)
/-! ### word_Set: function 34 -/
def word_Set.hints : Hints := { loops := [(4, [0, 1, 2], [(17, (.one (.int .i64)))])], cuts := [(3, [0, 1, 2], [])], orders := [] }
def word_Set.P (p0ba : Option Addr) (p0bl : Nat) (p0bc : Nat) (p1at : Int) (p2w : Int) (h : Hp) (R : Value → Hp → Prop) : Prop :=
  ∃ I1 : Hp → Prop, (((decide (p1at < 0)) = true → (R (.bool false) h)) ∧ ((decide (p1at < 0)) = false → (((decide (p1at > (IntKind.wrap .i64 (((p0bl : Nat) : Int) - 4)))) = true → (R (.bool false) h)) ∧
  ((decide (p1at > (IntKind.wrap .i64 (((p0bl : Nat) : Int) - 4)))) = false → (I1 h))))) ∧ ∀ h1 : Hp, I1 h1 → ∃ I2 : Int → Hp → Prop, ∃ m3 : Int → Hp → Nat, I2 0 h1 ∧ ∀ x4 : Int, ∀ h2 : Hp, I2 x4 h2 →
  ((decide (x4 < 4)) = true → ((0 : Int) ≤ (IntKind.wrap .i64 (8 * x4)) ∧ (0 : Int) ≤ (IntKind.wrap .i64 (p1at + x4)) ∧ (IntKind.wrap .i64 (p1at + x4)) < ((p0bl : Nat) : Int) ∧ ∃ b5 : Nat, ∃ o6 : Nat, p0ba = some ⟨b5, o6, none⟩ ∧
  truly true ∧ ∃ T7 : TypeId, ∃ l8 : List Value, bk h2 b5 = some (blk T7 l8) ∧ (o6 + (IntKind.wrap .i64 (p1at + x4)).toNat * 1) + 1 ≤ l8.length ∧ ∀ h3 : Hp, h3 = upd h2 b5 T7 (writeAt l8 (o6 + (IntKind.wrap .i64 (p1at + x4)).toNat * 1) [.int .u8 (IntKind.wrap .u8 (shrV .u32 p2w (IntKind.wrap .i64 (8 * x4))))]) →
  I2 (IntKind.wrap .i64 (x4 + 1)) h3 ∧ m3 (IntKind.wrap .i64 (x4 + 1)) h3 < m3 x4 h2)) ∧ ((decide (x4 < 4)) = false → (R (.bool true) h2))
theorem word_Set.eq (p0ba : Option Addr) (p0bl : Nat) (p0bc : Nat) (p1at : Int) (p2w : Int) (h : Hp) (R : Value → Hp → Prop) : evBody Try.prog calls word_Set.hints Try.f34 [.slice p0ba p0bl p0bc, .int .i64 p1at, .int .u32 p2w] h R = word_Set.P p0ba p0bl p0bc p1at p2w h R := by kernel_rfl
theorem word_Set.calls (p0ba : Option Addr) (p0bl : Nat) (p0bc : Nat) (p1at : Int) (p2w : Int) (h : Hp) (R : Value → Hp → Prop) (hp : word_Set.P p0ba p0bl p0bc p1at p2w h R) : CallsH Try.prog 34 [.slice p0ba p0bl p0bc, .int .i64 p1at, .int .u32 p2w] h R :=
  calls_of_body calls_ok Try.func34 (args := [.slice p0ba p0bl p0bc, .int .i64 p1at, .int .u32 p2w]) (by rw [word_Set.eq]; exact hp)
/-! ### slices_Clone: function 35 -/
def slices_Clone.hints : Hints := { loops := [], cuts := [], orders := [] }
def slices_Clone.P (p0sa : Option Addr) (p0sl : Nat) (p0sc : Nat) (h : Hp) (R : Value → Hp → Prop) : Prop :=
  ((notIf true p0sa.isNone) = true → (R (.slice none 0 0) h)) ∧ ((notIf true p0sa.isNone) = false → (∀ h1 : Hp, h1 = new h (blk 79 []) → appendN h1 79 256 256 (List.replicate 256 (.int .u8 0)) (some ⟨sz h, 0, none⟩) 0 0 p0sa p0sl fun a1 l2 c3 h2 => R (.slice a1 l2 c3) h2))
theorem slices_Clone.eq (p0sa : Option Addr) (p0sl : Nat) (p0sc : Nat) (h : Hp) (R : Value → Hp → Prop) : evBody Try.prog calls slices_Clone.hints Try.f35 [.slice p0sa p0sl p0sc] h R = slices_Clone.P p0sa p0sl p0sc h R := by kernel_rfl
theorem slices_Clone.calls (p0sa : Option Addr) (p0sl : Nat) (p0sc : Nat) (h : Hp) (R : Value → Hp → Prop) (hp : slices_Clone.P p0sa p0sl p0sc h R) : CallsH Try.prog 35 [.slice p0sa p0sl p0sc] h R :=
  calls_of_body calls_ok Try.func35 (args := [.slice p0sa p0sl p0sc]) (by rw [slices_Clone.eq]; exact hp)
/-! ### warderref07_in: function 36 -/
def warderref07_in.hints : Hints := { loops := [], cuts := [], orders := [] }
def warderref07_in.P (p0mb p0mo : Nat) (p1n : Int) (h : Hp) (R : Value → Hp → Prop) : Prop :=
  ((decide (p1n ≥ 0)) = true → (∃ Ba1 : Option Addr, ∃ Bl2 : Nat, ∃ Bc3 : Nat, cellAt h p0mb p0mo = some (.slice Ba1 Bl2 Bc3) ∧ 256 ≠ (0 : Int) ∧ R (.bool (decide (p1n < (IntKind.wrap .i64 (Int.tdiv ((Bl2 : Nat) : Int) 256))))) h)) ∧
  ((decide (p1n ≥ 0)) = false → (R (.bool false) h))
theorem warderref07_in.eq (p0mb p0mo : Nat) (p1n : Int) (h : Hp) (R : Value → Hp → Prop) : evBody Try.prog calls warderref07_in.hints Try.f36 [.ptr p0mb p0mo, .int .i64 p1n] h R = warderref07_in.P p0mb p0mo p1n h R := by kernel_rfl
theorem warderref07_in.calls (p0mb p0mo : Nat) (p1n : Int) (h : Hp) (R : Value → Hp → Prop) (hp : warderref07_in.P p0mb p0mo p1n h R) : CallsH Try.prog 36 [.pointer (some ⟨p0mb, p0mo, none⟩), .int .i64 p1n] h R :=
  calls_of_body calls_ok Try.func36 (args := [.ptr p0mb p0mo, .int .i64 p1n]) (by rw [warderref07_in.eq]; exact hp)
/-! ### warderref07_read: function 37 -/
def warderref07_read.hints : Hints := { loops := [], cuts := [], orders := [] }
def warderref07_read.P (p0mb p0mo : Nat) (p1table : Int) (p2index : Int) (h : Hp) (R : Value → Hp → Prop) : Prop :=
  ∀ h1 : Hp, h1 = new h (blk 83 [.bool false, .bool false, .bool false, .bool false, .int .i64 0]) → CallsH Try.prog 40 [.pointer (some ⟨p0mb, p0mo, none⟩), .int .u32 (IntKind.wrap .u32 (IntKind.wrap .i64 ((IntKind.wrap .i64 (256 * p1table)) + (IntKind.wrap .i64 (4 * p2index)))))] h1 fun r1 h2 => ∃ Word2 : Int, ∃ Word3 : Bool, r1 = .tuple #[.int .u32 Word2, .bool Word3] ∧
  CallsH Try.prog 47 [.int .u32 Word2] h2 fun r4 h3 => ∃ Decode5 : Bool, ∃ Decode6 : Bool, ∃ Decode7 : Bool, ∃ Decode8 : Bool, ∃ Decode9 : Int, r4 = .agg #[.bool Decode5, .bool Decode6, .bool Decode7, .bool Decode8, .int .i64 Decode9] ∧
  truly true ∧ ∃ T10 : TypeId, ∃ l11 : List Value, bk h3 (sz h) = some (blk T10 l11) ∧ 0 + 5 ≤ l11.length ∧ ∀ h4 : Hp, h4 = upd h3 (sz h) T10 (writeAt l11 0 [.bool Decode5, .bool Decode6, .bool Decode7, .bool Decode8, .int .i64 Decode9]) →
  ∃ res12 : Bool, cellAt h4 (sz h) (0 + 0) = some (.bool res12) ∧ ∃ res13 : Bool, cellAt h4 (sz h) (0 + 1) = some (.bool res13) ∧ ∃ res14 : Bool, cellAt h4 (sz h) (0 + 2) = some (.bool res14) ∧ ∃ res15 : Bool, cellAt h4 (sz h) (0 + 3) = some (.bool res15) ∧
  ∃ res16 : Int, cellAt h4 (sz h) (0 + 4) = some (.int .i64 res16) ∧ R (.agg #[.bool res12, .bool res13, .bool res14, .bool res15, .int .i64 res16]) h4
theorem warderref07_read.eq (p0mb p0mo : Nat) (p1table : Int) (p2index : Int) (h : Hp) (R : Value → Hp → Prop) : evBody Try.prog calls warderref07_read.hints Try.f37 [.ptr p0mb p0mo, .int .i64 p1table, .int .i64 p2index] h R = warderref07_read.P p0mb p0mo p1table p2index h R := by kernel_rfl
theorem warderref07_read.calls (p0mb p0mo : Nat) (p1table : Int) (p2index : Int) (h : Hp) (R : Value → Hp → Prop) (hp : warderref07_read.P p0mb p0mo p1table p2index h R) : CallsH Try.prog 37 [.pointer (some ⟨p0mb, p0mo, none⟩), .int .i64 p1table, .int .i64 p2index] h R :=
  calls_of_body calls_ok Try.func37 (args := [.ptr p0mb p0mo, .int .i64 p1table, .int .i64 p2index]) (by rw [warderref07_read.eq]; exact hp)
/-! ### warderref06_Allows: function 38 -/
def warderref06_Allows.hints : Hints := { loops := [], cuts := [], orders := [] }
def warderref06_Allows.P (p0e_0 : Bool) (p0e_1 : Bool) (p0e_2 : Bool) (p0e_3 : Bool) (p0e_4 : Int) (p1access : Int) (h : Hp) (R : Value → Hp → Prop) : Prop :=
  ∀ h1 : Hp, h1 = new h (blk 83 [.bool p0e_0, .bool p0e_1, .bool p0e_2, .bool p0e_3, .int .i64 p0e_4]) → ∃ Valid1 : Bool, cellAt h1 (sz h) 0 = some (.bool Valid1) ∧ ((Valid1) = true → (((p1access == 0) = true →
  (R (.bool true) h1)) ∧ ((p1access == 0) = false → (((p1access == 1) = true → (∃ Write2 : Bool, cellAt h1 (sz h) 1 = some (.bool Write2) ∧ ((Write2) = true → (R (.bool true) h1)) ∧ ((Write2) = false →
  (((p1access == 2) = true → (∃ Exec3 : Bool, cellAt h1 (sz h) 2 = some (.bool Exec3) ∧ R (.bool Exec3) h1)) ∧ ((p1access == 2) = false → (R (.bool false) h1)))))) ∧ ((p1access == 1) = false → (((p1access == 2) = true →
  (∃ Exec4 : Bool, cellAt h1 (sz h) 2 = some (.bool Exec4) ∧ R (.bool Exec4) h1)) ∧ ((p1access == 2) = false → (R (.bool false) h1)))))))) ∧ ((Valid1) = false → (R (.bool false) h1))
theorem warderref06_Allows.eq (p0e_0 : Bool) (p0e_1 : Bool) (p0e_2 : Bool) (p0e_3 : Bool) (p0e_4 : Int) (p1access : Int) (h : Hp) (R : Value → Hp → Prop) : evBody Try.prog calls warderref06_Allows.hints Try.f38 [.agg [.bool p0e_0, .bool p0e_1, .bool p0e_2, .bool p0e_3, .int .i64 p0e_4], .int .i64 p1access] h R = warderref06_Allows.P p0e_0 p0e_1 p0e_2 p0e_3 p0e_4 p1access h R := by kernel_rfl
theorem warderref06_Allows.calls (p0e_0 : Bool) (p0e_1 : Bool) (p0e_2 : Bool) (p0e_3 : Bool) (p0e_4 : Int) (p1access : Int) (h : Hp) (R : Value → Hp → Prop) (hp : warderref06_Allows.P p0e_0 p0e_1 p0e_2 p0e_3 p0e_4 p1access h R) : CallsH Try.prog 38 [.agg #[.bool p0e_0, .bool p0e_1, .bool p0e_2, .bool p0e_3, .int .i64 p0e_4], .int .i64 p1access] h R :=
  calls_of_body calls_ok Try.func38 (args := [.agg [.bool p0e_0, .bool p0e_1, .bool p0e_2, .bool p0e_3, .int .i64 p0e_4], .int .i64 p1access]) (by rw [warderref06_Allows.eq]; exact hp)
/-! ### phys_Mem_there: function 39 -/
def phys_Mem_there.hints : Hints := { loops := [], cuts := [], orders := [] }
def phys_Mem_there.P (p0mb p0mo : Nat) (p1n : Int) (h : Hp) (R : Value → Hp → Prop) : Prop :=
  ((decide (p1n ≥ 0)) = true → (∃ framesa1 : Option Addr, ∃ framesl2 : Nat, ∃ framesc3 : Nat, cellAt h p0mb p0mo = some (.slice framesa1 framesl2 framesc3) ∧ R (.bool (decide (p1n < ((framesl2 : Nat) : Int)))) h)) ∧
  ((decide (p1n ≥ 0)) = false → (R (.bool false) h))
theorem phys_Mem_there.eq (p0mb p0mo : Nat) (p1n : Int) (h : Hp) (R : Value → Hp → Prop) : evBody Try.prog calls phys_Mem_there.hints Try.f39 [.ptr p0mb p0mo, .int .i64 p1n] h R = phys_Mem_there.P p0mb p0mo p1n h R := by kernel_rfl
theorem phys_Mem_there.calls (p0mb p0mo : Nat) (p1n : Int) (h : Hp) (R : Value → Hp → Prop) (hp : phys_Mem_there.P p0mb p0mo p1n h R) : CallsH Try.prog 39 [.pointer (some ⟨p0mb, p0mo, none⟩), .int .i64 p1n] h R :=
  calls_of_body calls_ok Try.func39 (args := [.ptr p0mb p0mo, .int .i64 p1n]) (by rw [phys_Mem_there.eq]; exact hp)
/-! ### warderref04_Mem_Word: function 40 -/
def warderref04_Mem_Word.hints : Hints := { loops := [], cuts := [], orders := [] }
def warderref04_Mem_Word.P (p0mb p0mo : Nat) (p1addr : Int) (h : Hp) (R : Value → Hp → Prop) : Prop :=
  4 ≠ (0 : Int) ∧ (((Int.tmod p1addr 4) != 0) = true → (R (.tuple #[.int .u32 0, .bool false]) h)) ∧ (((Int.tmod p1addr 4) != 0) = false → (∃ Ba1 : Option Addr, ∃ Bl2 : Nat, ∃ Bc3 : Nat, cellAt h p0mb p0mo = some (.slice Ba1 Bl2 Bc3) ∧
  CallsH Try.prog 48 [.slice Ba1 Bl2 Bc3, .int .i64 (IntKind.wrap .i64 p1addr)] h fun r4 h1 => ∃ Get5 : Int, ∃ Get6 : Bool, r4 = .tuple #[.int .u32 Get5, .bool Get6] ∧ R (.tuple #[.int .u32 Get5, .bool Get6]) h1))
theorem warderref04_Mem_Word.eq (p0mb p0mo : Nat) (p1addr : Int) (h : Hp) (R : Value → Hp → Prop) : evBody Try.prog calls warderref04_Mem_Word.hints Try.f40 [.ptr p0mb p0mo, .int .u32 p1addr] h R = warderref04_Mem_Word.P p0mb p0mo p1addr h R := by kernel_rfl
theorem warderref04_Mem_Word.calls (p0mb p0mo : Nat) (p1addr : Int) (h : Hp) (R : Value → Hp → Prop) (hp : warderref04_Mem_Word.P p0mb p0mo p1addr h R) : CallsH Try.prog 40 [.pointer (some ⟨p0mb, p0mo, none⟩), .int .u32 p1addr] h R :=
  calls_of_body calls_ok Try.func40 (args := [.ptr p0mb p0mo, .int .u32 p1addr]) (by rw [warderref04_Mem_Word.eq]; exact hp)
/-! ### warderref01_Four: function 41 -/
def warderref01_Four.hints : Hints := { loops := [], cuts := [], orders := [] }
def warderref01_Four.P (p0w : Int) (h : Hp) (R : Value → Hp → Prop) : Prop :=
  256 ≠ (0 : Int) ∧ 65536 ≠ (0 : Int) ∧ 16777216 ≠ (0 : Int) ∧ ∀ h1 : Hp, h1 = new h (blk 5 [.int .u8 (IntKind.wrap .u8 p0w), .int .u8 (IntKind.wrap .u8 (IntKind.wrap .u32 (Int.tdiv p0w 256))), .int .u8 (IntKind.wrap .u8 (IntKind.wrap .u32 (Int.tdiv p0w 65536))), .int .u8 (IntKind.wrap .u8 (IntKind.wrap .u32 (Int.tdiv p0w 16777216)))]) →
  R (.slice (some ⟨sz h, 0, none⟩) 4 4) h1
theorem warderref01_Four.eq (p0w : Int) (h : Hp) (R : Value → Hp → Prop) : evBody Try.prog calls warderref01_Four.hints Try.f41 [.int .u32 p0w] h R = warderref01_Four.P p0w h R := by kernel_rfl
theorem warderref01_Four.calls (p0w : Int) (h : Hp) (R : Value → Hp → Prop) (hp : warderref01_Four.P p0w h R) : CallsH Try.prog 41 [.int .u32 p0w] h R :=
  calls_of_body calls_ok Try.func41 (args := [.int .u32 p0w]) (by rw [warderref01_Four.eq]; exact hp)
/-! ### entry_Inside: function 42 -/
def entry_Inside.hints : Hints := { loops := [], cuts := [], orders := [] }
def entry_Inside.P (p0addr : Int) (h : Hp) (R : Value → Hp → Prop) : Prop :=
  R (.bool (decide (p0addr < 1048576))) h
theorem entry_Inside.eq (p0addr : Int) (h : Hp) (R : Value → Hp → Prop) : evBody Try.prog calls entry_Inside.hints Try.f42 [.int .u32 p0addr] h R = entry_Inside.P p0addr h R := by kernel_rfl
theorem entry_Inside.calls (p0addr : Int) (h : Hp) (R : Value → Hp → Prop) (hp : entry_Inside.P p0addr h R) : CallsH Try.prog 42 [.int .u32 p0addr] h R :=
  calls_of_body calls_ok Try.func42 (args := [.int .u32 p0addr]) (by rw [entry_Inside.eq]; exact hp)
/-! ### walk_read: function 43 -/
def walk_read.hints : Hints := { loops := [], cuts := [(3, [0, 1, 2, 6], [])], orders := [] }
def walk_read.P (p0mb p0mo : Nat) (p1table : Int) (p2index : Int) (h : Hp) (R : Value → Hp → Prop) : Prop :=
  ∀ h1 : Hp, h1 = new h (blk 42 [.bool false, .bool false, .bool false, .bool false, .int .i64 0]) → ∃ I1 : Hp → Prop, (((decide (p1table < 0)) = true → (truly true ∧ ∃ T2 : TypeId, ∃ l3 : List Value, bk h1 (sz h) = some (blk T2 l3) ∧
  0 + 5 ≤ l3.length ∧ ∀ h2 : Hp, h2 = upd h1 (sz h) T2 (writeAt l3 0 [.bool false, .bool false, .bool false, .bool false, .int .i64 0]) → ∃ res4 : Bool, cellAt h2 (sz h) (0 + 0) = some (.bool res4) ∧ ∃ res5 : Bool, cellAt h2 (sz h) (0 + 1) = some (.bool res5) ∧
  ∃ res6 : Bool, cellAt h2 (sz h) (0 + 2) = some (.bool res6) ∧ ∃ res7 : Bool, cellAt h2 (sz h) (0 + 3) = some (.bool res7) ∧ ∃ res8 : Int, cellAt h2 (sz h) (0 + 4) = some (.int .i64 res8) ∧ R (.tuple #[.agg #[.bool res4, .bool res5, .bool res6, .bool res7, .int .i64 res8], .bool false]) h2)) ∧
  ((decide (p1table < 0)) = false → (CallsH Try.prog 29 [.pointer (some ⟨p0mb, p0mo, none⟩)] h1 fun r9 h3 => ∃ Frames10 : Int, r9 = .int .i64 Frames10 ∧ ((decide (p1table ≥ Frames10)) = true → (truly true ∧
  ∃ T11 : TypeId, ∃ l12 : List Value, bk h3 (sz h) = some (blk T11 l12) ∧ 0 + 5 ≤ l12.length ∧ ∀ h4 : Hp, h4 = upd h3 (sz h) T11 (writeAt l12 0 [.bool false, .bool false, .bool false, .bool false, .int .i64 0]) →
  ∃ res13 : Bool, cellAt h4 (sz h) (0 + 0) = some (.bool res13) ∧ ∃ res14 : Bool, cellAt h4 (sz h) (0 + 1) = some (.bool res14) ∧ ∃ res15 : Bool, cellAt h4 (sz h) (0 + 2) = some (.bool res15) ∧ ∃ res16 : Bool, cellAt h4 (sz h) (0 + 3) = some (.bool res16) ∧
  ∃ res17 : Int, cellAt h4 (sz h) (0 + 4) = some (.int .i64 res17) ∧ R (.tuple #[.agg #[.bool res13, .bool res14, .bool res15, .bool res16, .int .i64 res17], .bool false]) h4)) ∧ ((decide (p1table ≥ Frames10)) = false →
  (I1 h3))))) ∧ ∀ h5 : Hp, I1 h5 → CallsH Try.prog 16 [.pointer (some ⟨p0mb, p0mo, none⟩), .int .u32 (IntKind.wrap .u32 (IntKind.wrap .i64 ((IntKind.wrap .i64 (256 * p1table)) + (IntKind.wrap .i64 (4 * p2index)))))] h5 fun r18 h6 => ∃ Word19 : Int, ∃ Word20 : Bool, r18 = .tuple #[.int .u32 Word19, .bool Word20] ∧
  CallsH Try.prog 18 [.int .u32 Word19] h6 fun r21 h7 => ∃ Decode22 : Bool, ∃ Decode23 : Bool, ∃ Decode24 : Bool, ∃ Decode25 : Bool, ∃ Decode26 : Int, r21 = .agg #[.bool Decode22, .bool Decode23, .bool Decode24, .bool Decode25, .int .i64 Decode26] ∧
  truly true ∧ ∃ T27 : TypeId, ∃ l28 : List Value, bk h7 (sz h) = some (blk T27 l28) ∧ 0 + 5 ≤ l28.length ∧ ∀ h8 : Hp, h8 = upd h7 (sz h) T27 (writeAt l28 0 [.bool Decode22, .bool Decode23, .bool Decode24, .bool Decode25, .int .i64 Decode26]) →
  ∃ res29 : Bool, cellAt h8 (sz h) (0 + 0) = some (.bool res29) ∧ ∃ res30 : Bool, cellAt h8 (sz h) (0 + 1) = some (.bool res30) ∧ ∃ res31 : Bool, cellAt h8 (sz h) (0 + 2) = some (.bool res31) ∧ ∃ res32 : Bool, cellAt h8 (sz h) (0 + 3) = some (.bool res32) ∧
  ∃ res33 : Int, cellAt h8 (sz h) (0 + 4) = some (.int .i64 res33) ∧ R (.tuple #[.agg #[.bool res29, .bool res30, .bool res31, .bool res32, .int .i64 res33], .bool Word20]) h8
theorem walk_read.eq (p0mb p0mo : Nat) (p1table : Int) (p2index : Int) (h : Hp) (R : Value → Hp → Prop) : evBody Try.prog calls walk_read.hints Try.f43 [.ptr p0mb p0mo, .int .i64 p1table, .int .i64 p2index] h R = walk_read.P p0mb p0mo p1table p2index h R := by kernel_rfl
theorem walk_read.calls (p0mb p0mo : Nat) (p1table : Int) (p2index : Int) (h : Hp) (R : Value → Hp → Prop) (hp : walk_read.P p0mb p0mo p1table p2index h R) : CallsH Try.prog 43 [.pointer (some ⟨p0mb, p0mo, none⟩), .int .i64 p1table, .int .i64 p2index] h R :=
  calls_of_body calls_ok Try.func43 (args := [.ptr p0mb p0mo, .int .i64 p1table, .int .i64 p2index]) (by rw [walk_read.eq]; exact hp)
/-! ### entry_Second: function 44 -/
def entry_Second.hints : Hints := { loops := [], cuts := [], orders := [] }
def entry_Second.P (p0addr : Int) (h : Hp) (R : Value → Hp → Prop) : Prop :=
  CallsH Try.prog 32 [.int .u32 p0addr, .int .i64 8, .int .i64 6] h fun r1 h1 => ∃ Field2 : Int, r1 = .int .u32 Field2 ∧ R (.int .i64 (IntKind.wrap .i64 Field2)) h1
theorem entry_Second.eq (p0addr : Int) (h : Hp) (R : Value → Hp → Prop) : evBody Try.prog calls entry_Second.hints Try.f44 [.int .u32 p0addr] h R = entry_Second.P p0addr h R := by kernel_rfl
theorem entry_Second.calls (p0addr : Int) (h : Hp) (R : Value → Hp → Prop) (hp : entry_Second.P p0addr h R) : CallsH Try.prog 44 [.int .u32 p0addr] h R :=
  calls_of_body calls_ok Try.func44 (args := [.int .u32 p0addr]) (by rw [entry_Second.eq]; exact hp)
/-! ### word_fits: function 45 -/
def word_fits.hints : Hints := { loops := [], cuts := [], orders := [] }
def word_fits.P (p0at : Int) (p1n : Int) (h : Hp) (R : Value → Hp → Prop) : Prop :=
  ((decide (p1n ≥ 1)) = true → (((decide (p1n ≤ 32)) = true → (((decide (p0at ≥ 0)) = true → (R (.bool (decide (p0at ≤ (IntKind.wrap .i64 (32 - p1n))))) h)) ∧ ((decide (p0at ≥ 0)) = false → (R (.bool false) h)))) ∧
  ((decide (p1n ≤ 32)) = false → (R (.bool false) h)))) ∧ ((decide (p1n ≥ 1)) = false → (R (.bool false) h))
theorem word_fits.eq (p0at : Int) (p1n : Int) (h : Hp) (R : Value → Hp → Prop) : evBody Try.prog calls word_fits.hints Try.f45 [.int .i64 p0at, .int .i64 p1n] h R = word_fits.P p0at p1n h R := by kernel_rfl
theorem word_fits.calls (p0at : Int) (p1n : Int) (h : Hp) (R : Value → Hp → Prop) (hp : word_fits.P p0at p1n h R) : CallsH Try.prog 45 [.int .i64 p0at, .int .i64 p1n] h R :=
  calls_of_body calls_ok Try.func45 (args := [.int .i64 p0at, .int .i64 p1n]) (by rw [word_fits.eq]; exact hp)
/-! ### word_mask: function 46 -/
def word_mask.hints : Hints := { loops := [], cuts := [], orders := [] }
def word_mask.P (p0n : Int) (h : Hp) (R : Value → Hp → Prop) : Prop :=
  (0 : Int) ≤ (IntKind.wrap .i64 (32 - p0n)) ∧ R (.int .u32 (shrV .u32 4294967295 (IntKind.wrap .i64 (32 - p0n)))) h
theorem word_mask.eq (p0n : Int) (h : Hp) (R : Value → Hp → Prop) : evBody Try.prog calls word_mask.hints Try.f46 [.int .i64 p0n] h R = word_mask.P p0n h R := by kernel_rfl
theorem word_mask.calls (p0n : Int) (h : Hp) (R : Value → Hp → Prop) (hp : word_mask.P p0n h R) : CallsH Try.prog 46 [.int .i64 p0n] h R :=
  calls_of_body calls_ok Try.func46 (args := [.int .i64 p0n]) (by rw [word_mask.eq]; exact hp)
/-! ### warderref06_Decode: function 47 -/
def warderref06_Decode.hints : Hints := { loops := [], cuts := [], orders := [] }
def warderref06_Decode.P (p0w : Int) (h : Hp) (R : Value → Hp → Prop) : Prop :=
  ∀ h1 : Hp, h1 = new h (blk 83 [.bool false, .bool false, .bool false, .bool false, .int .i64 0]) → 2 ≠ (0 : Int) ∧ (((Int.tmod p0w 2) == 0) = true → (truly true ∧ ∃ T1 : TypeId, ∃ l2 : List Value, bk h1 (sz h) = some (blk T1 l2) ∧
  0 + 5 ≤ l2.length ∧ ∀ h2 : Hp, h2 = upd h1 (sz h) T1 (writeAt l2 0 [.bool false, .bool false, .bool false, .bool false, .int .i64 0]) → ∃ res3 : Bool, cellAt h2 (sz h) (0 + 0) = some (.bool res3) ∧ ∃ res4 : Bool, cellAt h2 (sz h) (0 + 1) = some (.bool res4) ∧
  ∃ res5 : Bool, cellAt h2 (sz h) (0 + 2) = some (.bool res5) ∧ ∃ res6 : Bool, cellAt h2 (sz h) (0 + 3) = some (.bool res6) ∧ ∃ res7 : Int, cellAt h2 (sz h) (0 + 4) = some (.int .i64 res7) ∧ R (.agg #[.bool res3, .bool res4, .bool res5, .bool res6, .int .i64 res7]) h2)) ∧
  (((Int.tmod p0w 2) == 0) = false → (2 ≠ (0 : Int) ∧ 2 ≠ (0 : Int) ∧ 4 ≠ (0 : Int) ∧ 2 ≠ (0 : Int) ∧ 8 ≠ (0 : Int) ∧ 2 ≠ (0 : Int) ∧ 256 ≠ (0 : Int) ∧ 65536 ≠ (0 : Int) ∧ truly true ∧ ∃ T8 : TypeId, ∃ l9 : List Value, bk h1 (sz h) = some (blk T8 l9) ∧
  0 + 5 ≤ l9.length ∧ ∀ h3 : Hp, h3 = upd h1 (sz h) T8 (writeAt l9 0 [.bool true, .bool ((Int.tmod (IntKind.wrap .u32 (Int.tdiv p0w 2)) 2) == 1), .bool ((Int.tmod (IntKind.wrap .u32 (Int.tdiv p0w 4)) 2) == 1), .bool ((Int.tmod (IntKind.wrap .u32 (Int.tdiv p0w 8)) 2) == 1), .int .i64 (IntKind.wrap .i64 (Int.tmod (IntKind.wrap .u32 (Int.tdiv p0w 256)) 65536))]) →
  ∃ res10 : Bool, cellAt h3 (sz h) (0 + 0) = some (.bool res10) ∧ ∃ res11 : Bool, cellAt h3 (sz h) (0 + 1) = some (.bool res11) ∧ ∃ res12 : Bool, cellAt h3 (sz h) (0 + 2) = some (.bool res12) ∧ ∃ res13 : Bool, cellAt h3 (sz h) (0 + 3) = some (.bool res13) ∧
  ∃ res14 : Int, cellAt h3 (sz h) (0 + 4) = some (.int .i64 res14) ∧ R (.agg #[.bool res10, .bool res11, .bool res12, .bool res13, .int .i64 res14]) h3))
theorem warderref06_Decode.eq (p0w : Int) (h : Hp) (R : Value → Hp → Prop) : evBody Try.prog calls warderref06_Decode.hints Try.f47 [.int .u32 p0w] h R = warderref06_Decode.P p0w h R := by kernel_rfl
theorem warderref06_Decode.calls (p0w : Int) (h : Hp) (R : Value → Hp → Prop) (hp : warderref06_Decode.P p0w h R) : CallsH Try.prog 47 [.int .u32 p0w] h R :=
  calls_of_body calls_ok Try.func47 (args := [.int .u32 p0w]) (by rw [warderref06_Decode.eq]; exact hp)
/-! ### warderref01_Get: function 48 -/
def warderref01_Get.hints : Hints := { loops := [(5, [0, 1], [(6, (.one (.int .u32))), (7, (.one (.int .i64)))])], cuts := [(3, [0, 1], [])], orders := [] }
def warderref01_Get.P (p0ba : Option Addr) (p0bl : Nat) (p0bc : Nat) (p1at : Int) (h : Hp) (R : Value → Hp → Prop) : Prop :=
  ∃ I1 : Hp → Prop, (((decide (p1at < 0)) = true → (R (.tuple #[.int .u32 0, .bool false]) h)) ∧ ((decide (p1at < 0)) = false → (((decide (p1at > (IntKind.wrap .i64 (((p0bl : Nat) : Int) - 4)))) = true →
  (R (.tuple #[.int .u32 0, .bool false]) h)) ∧ ((decide (p1at > (IntKind.wrap .i64 (((p0bl : Nat) : Int) - 4)))) = false → (I1 h))))) ∧ ∀ h1 : Hp, I1 h1 → ∃ I2 : Int → Int → Hp → Prop, ∃ m3 : Int → Int →
  Hp → Nat, I2 0 3 h1 ∧ ∀ out4 : Int, ∀ i5 : Int, ∀ h2 : Hp, I2 out4 i5 h2 → ((decide (i5 ≥ 0)) = true → ((0 : Int) ≤ (IntKind.wrap .i64 (p1at + i5)) ∧ (IntKind.wrap .i64 (p1at + i5)) < ((p0bl : Nat) : Int) ∧
  ∃ b6 : Nat, ∃ o7 : Nat, p0ba = some ⟨b6, o7, none⟩ ∧ ∃ x8 : Int, cellAt h2 b6 (o7 + (IntKind.wrap .i64 (p1at + i5)).toNat * 1) = some (.int .u8 x8) ∧ I2 (IntKind.wrap .u32 ((IntKind.wrap .u32 (out4 * 256)) + (IntKind.wrap .u32 x8))) (IntKind.wrap .i64 (i5 - 1)) h2 ∧
  m3 (IntKind.wrap .u32 ((IntKind.wrap .u32 (out4 * 256)) + (IntKind.wrap .u32 x8))) (IntKind.wrap .i64 (i5 - 1)) h2 < m3 out4 i5 h2)) ∧ ((decide (i5 ≥ 0)) = false → (R (.tuple #[.int .u32 out4, .bool true]) h2))
theorem warderref01_Get.eq (p0ba : Option Addr) (p0bl : Nat) (p0bc : Nat) (p1at : Int) (h : Hp) (R : Value → Hp → Prop) : evBody Try.prog calls warderref01_Get.hints Try.f48 [.slice p0ba p0bl p0bc, .int .i64 p1at] h R = warderref01_Get.P p0ba p0bl p0bc p1at h R := by kernel_rfl
theorem warderref01_Get.calls (p0ba : Option Addr) (p0bl : Nat) (p0bc : Nat) (p1at : Int) (h : Hp) (R : Value → Hp → Prop) (hp : warderref01_Get.P p0ba p0bl p0bc p1at h R) : CallsH Try.prog 48 [.slice p0ba p0bl p0bc, .int .i64 p1at] h R :=
  calls_of_body calls_ok Try.func48 (args := [.slice p0ba p0bl p0bc, .int .i64 p1at]) (by rw [warderref01_Get.eq]; exact hp)
end Go.Proofs.Ytpphbnhlfgadkaa
