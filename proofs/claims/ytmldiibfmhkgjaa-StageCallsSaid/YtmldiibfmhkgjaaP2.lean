/-
  Printed by this repo's own wip/tools/pr.py: what each function owes, as a proposition over heaps, read out of its body by the core.
-/
import Derived.Test.YtmldiibfmhkgjaaP
namespace Go.Proofs.Ytmldiibfmhkgjaa
open Go Go.Wd
set_option linter.unusedVariables false
set_option maxRecDepth 100000
/-! ### entry_Allows: function 58 -/
def entry_Allows.hints : Hints := { loops := [], cuts := [], orders := [] }
def entry_Allows.P (p0e_0 : Bool) (p0e_1 : Bool) (p0e_2 : Bool) (p0e_3 : Bool) (p0e_4 : Int) (p1access : Int) (h : Hp) (R : Value → Hp → Prop) : Prop :=
  ∀ h1 : Hp, h1 = new h (blk 54 [.bool p0e_0, .bool p0e_1, .bool p0e_2, .bool p0e_3, .int .i64 p0e_4]) → ((p1access == 0) = true → (∃ Valid1 : Bool, cellAt h1 (sz h) 0 = some (.bool Valid1) ∧ R (.bool Valid1) h1)) ∧
  ((p1access == 0) = false → (((p1access == 1) = true → (∃ Valid2 : Bool, cellAt h1 (sz h) 0 = some (.bool Valid2) ∧ ((Valid2) = true → (∃ Write3 : Bool, cellAt h1 (sz h) 1 = some (.bool Write3) ∧ R (.bool Write3) h1)) ∧
  ((Valid2) = false → (R (.bool false) h1)))) ∧ ((p1access == 1) = false → (((p1access == 2) = true → (∃ Valid4 : Bool, cellAt h1 (sz h) 0 = some (.bool Valid4) ∧ ((Valid4) = true → (∃ Exec5 : Bool, cellAt h1 (sz h) 2 = some (.bool Exec5) ∧
  R (.bool Exec5) h1)) ∧ ((Valid4) = false → (R (.bool false) h1)))) ∧ ((p1access == 2) = false → (R (.bool false) h1))))))
theorem entry_Allows.eq (p0e_0 : Bool) (p0e_1 : Bool) (p0e_2 : Bool) (p0e_3 : Bool) (p0e_4 : Int) (p1access : Int) (h : Hp) (R : Value → Hp → Prop) : evBody Try.prog calls entry_Allows.hints Try.f58 [.agg [.bool p0e_0, .bool p0e_1, .bool p0e_2, .bool p0e_3, .int .i64 p0e_4], .int .i64 p1access] h R = entry_Allows.P p0e_0 p0e_1 p0e_2 p0e_3 p0e_4 p1access h R := by kernel_rfl
theorem entry_Allows.calls (p0e_0 : Bool) (p0e_1 : Bool) (p0e_2 : Bool) (p0e_3 : Bool) (p0e_4 : Int) (p1access : Int) (h : Hp) (R : Value → Hp → Prop) (hp : entry_Allows.P p0e_0 p0e_1 p0e_2 p0e_3 p0e_4 p1access h R) : CallsH Try.prog 58 [.agg #[.bool p0e_0, .bool p0e_1, .bool p0e_2, .bool p0e_3, .int .i64 p0e_4], .int .i64 p1access] h R :=
  calls_of_body calls_ok Try.func58 (args := [.agg [.bool p0e_0, .bool p0e_1, .bool p0e_2, .bool p0e_3, .int .i64 p0e_4], .int .i64 p1access]) (by rw [entry_Allows.eq]; exact hp)
/-! ### phys_Mem_Frames: function 59 -/
def phys_Mem_Frames.hints : Hints := { loops := [], cuts := [], orders := [] }
def phys_Mem_Frames.P (p0mb p0mo : Nat) (h : Hp) (R : Value → Hp → Prop) : Prop :=
  ∃ framesa1 : Option Addr, ∃ framesl2 : Nat, ∃ framesc3 : Nat, cellAt h p0mb p0mo = some (.slice framesa1 framesl2 framesc3) ∧ R (.int .i64 ((framesl2 : Nat) : Int)) h
theorem phys_Mem_Frames.eq (p0mb p0mo : Nat) (h : Hp) (R : Value → Hp → Prop) : evBody Try.prog calls phys_Mem_Frames.hints Try.f59 [.ptr p0mb p0mo] h R = phys_Mem_Frames.P p0mb p0mo h R := by kernel_rfl
theorem phys_Mem_Frames.calls (p0mb p0mo : Nat) (h : Hp) (R : Value → Hp → Prop) (hp : phys_Mem_Frames.P p0mb p0mo h R) : CallsH Try.prog 59 [.pointer (some ⟨p0mb, p0mo, none⟩)] h R :=
  calls_of_body calls_ok Try.func59 (args := [.ptr p0mb p0mo]) (by rw [phys_Mem_Frames.eq]; exact hp)
/-! ### stage_Space_Unmap_1: function 60 -/
def stage_Space_Unmap_1.hints : Hints := { loops := [], cuts := [], orders := [(0, [0, 0, 0, 6, 0, 31], (.leaf [0, 1, 2, 4, 3, 5]))] }
def stage_Space_Unmap_1.P (v0cb v0co : Nat) (v1cb v1co : Nat) (h : Hp) (R X : Value → Hp → Prop) : Prop :=
  ∃ x1 : Option Addr, cellAt h v0cb v0co = some (.pointer x1) ∧ ∃ x2 : Option Addr, cellAt h v0cb v0co = some (.pointer x2) ∧ ∃ x3 : Int, cellAt h v1cb v1co = some (.int .i64 x3) ∧ CallsX Try.prog 61 [.pointer x2, .int .i64 x3] h (fun r4 h1 => ∃ inner6 : Int, r4 = .int .u32 inner6 ∧
  cellAt h1 v0cb v0co = some (.pointer x1) ∧ CallsH Try.prog 55 [.pointer x1, .int .u32 inner6, .agg #[.bool false, .bool false, .bool false, .bool false, .int .i64 0]] h1 fun r7 h3 => r7 = .tuple #[] ∧
  ∃ x8 : Option Addr, cellAt h3 v0cb v0co = some (.pointer x8) ∧ ∃ x9 : Int, cellAt h3 v1cb v1co = some (.int .i64 x9) ∧ 64 ≠ (0 : Int) ∧ CallsH Try.prog 62 [.pointer x8, .int .i64 (IntKind.wrap .i64 (Int.tdiv x9 64))] h3 fun r10 h4 => r10 = .tuple #[] ∧
  R (.tuple #[]) h4) (fun px5 h2 => X (px5) h2)
theorem stage_Space_Unmap_1.eq (v0cb v0co : Nat) (v1cb v1co : Nat) (h : Hp) (R X : Value → Hp → Prop) : evBodyX Try.prog calls stage_Space_Unmap_1.hints Try.f60 [.ptr v0cb v0co, .ptr v1cb v1co] h R X = stage_Space_Unmap_1.P v0cb v0co v1cb v1co h R X := by kernel_rfl
theorem stage_Space_Unmap_1.calls (v0cb v0co : Nat) (v1cb v1co : Nat) (h : Hp) (R X : Value → Hp → Prop) (hp : stage_Space_Unmap_1.P v0cb v0co v1cb v1co h R X) : CallsX Try.prog 60 [.pointer (some ⟨v0cb, v0co, none⟩), .pointer (some ⟨v1cb, v1co, none⟩)] h R X :=
  callsX_of_body calls_ok Try.func60 (args := [.ptr v0cb v0co, .ptr v1cb v1co]) (by rw [stage_Space_Unmap_1.eq]; exact hp)
/-! ### stage_Space_inner: function 61 -/
def stage_Space_inner.hints : Hints := { loops := [], cuts := [(7, [0, 1], [])], orders := [] }
def stage_Space_inner.P (p0sb p0so : Nat) (p1n : Int) (h : Hp) (R X : Value → Hp → Prop) : Prop :=
  CallsH Try.prog 51 [.int .i64 p1n] h fun r1 h1 => ∃ page2 : Bool, r1 = .bool page2 ∧ CallsX Try.prog 50 [.bool page2, .int .i64 11] h1 (fun r3 h2 => r3 = .tuple #[] ∧ CallsH Try.prog 22 [.pointer (some ⟨p0sb, p0so, none⟩), .int .i64 p1n] h2 fun r5 h4 => ∃ Look6 : Bool, ∃ Look7 : Bool, ∃ Look8 : Bool, ∃ Look9 : Bool, ∃ Look10 : Int, ∃ Look11 : Bool, r5 = .tuple #[.agg #[.bool Look6, .bool Look7, .bool Look8, .bool Look9, .int .i64 Look10], .bool Look11] ∧
  ∀ h5 : Hp, h5 = new h4 (blk 54 [.bool false, .bool false, .bool false, .bool false, .int .i64 0]) → truly true ∧ ∃ T12 : TypeId, ∃ l13 : List Value, bk h5 (sz h4) = some (blk T12 l13) ∧ 0 + 5 ≤ l13.length ∧
  ∀ h6 : Hp, h6 = upd h5 (sz h4) T12 (writeAt l13 0 [.bool Look6, .bool Look7, .bool Look8, .bool Look9, .int .i64 Look10]) → CallsX Try.prog 50 [.bool Look11, .int .i64 12] h6 (fun r14 h7 => r14 = .tuple #[] ∧
  ∃ I16 : Hp → Prop, (64 ≠ (0 : Int) ∧ CallsH Try.prog 53 [.pointer (some ⟨p0sb, p0so, none⟩), .int .i64 (IntKind.wrap .i64 (Int.tdiv p1n 64))] h7 fun r17 h9 => ∃ first18 : Int, ∃ first19 : Bool, ∃ first20 : Bool, ∃ first21 : Bool, ∃ first22 : Bool, ∃ first23 : Int, r17 = .tuple #[.int .u32 first18, .agg #[.bool first19, .bool first20, .bool first21, .bool first22, .int .i64 first23]] ∧
  ∀ h10 : Hp, h10 = new h9 (blk 54 [.bool false, .bool false, .bool false, .bool false, .int .i64 0]) → truly true ∧ ∃ T24 : TypeId, ∃ l25 : List Value, bk h10 (sz h9) = some (blk T24 l25) ∧ 0 + 5 ≤ l25.length ∧
  ∀ h11 : Hp, h11 = upd h10 (sz h9) T24 (writeAt l25 0 [.bool first19, .bool first20, .bool first21, .bool first22, .int .i64 first23]) → ∃ Block26 : Bool, cellAt h11 (sz h9) 3 = some (.bool Block26) ∧
  ((Block26) = true → (64 ≠ (0 : Int) ∧ CallsX Try.prog 74 [.pointer (some ⟨p0sb, p0so, none⟩), .int .i64 (IntKind.wrap .i64 (Int.tdiv p1n 64))] h11 (fun r27 h12 => r27 = .tuple #[] ∧ I16 h12) (fun px28 h13 => X (px28) h13))) ∧
  ((Block26) = false → (I16 h11))) ∧ ∀ h14 : Hp, I16 h14 → 64 ≠ (0 : Int) ∧ CallsH Try.prog 53 [.pointer (some ⟨p0sb, p0so, none⟩), .int .i64 (IntKind.wrap .i64 (Int.tdiv p1n 64))] h14 fun r29 h15 => ∃ first30 : Int, ∃ first31 : Bool, ∃ first32 : Bool, ∃ first33 : Bool, ∃ first34 : Bool, ∃ first35 : Int, r29 = .tuple #[.int .u32 first30, .agg #[.bool first31, .bool first32, .bool first33, .bool first34, .int .i64 first35]] ∧
  ∀ h16 : Hp, h16 = new h15 (blk 54 [.bool false, .bool false, .bool false, .bool false, .int .i64 0]) → truly true ∧ ∃ T36 : TypeId, ∃ l37 : List Value, bk h16 (sz h15) = some (blk T36 l37) ∧ 0 + 5 ≤ l37.length ∧
  ∀ h17 : Hp, h17 = upd h16 (sz h15) T36 (writeAt l37 0 [.bool first31, .bool first32, .bool first33, .bool first34, .int .i64 first35]) → ∃ Frame38 : Int, cellAt h17 (sz h15) 4 = some (.int .i64 Frame38) ∧
  64 ≠ (0 : Int) ∧ CallsH Try.prog 56 [.int .i64 Frame38, .int .i64 (Int.tmod p1n 64)] h17 fun r39 h18 => ∃ atx40 : Int, r39 = .int .u32 atx40 ∧ R (.int .u32 atx40) h18) (fun px15 h8 => X (px15) h8)) (fun px4 h3 => X (px4) h3)
theorem stage_Space_inner.eq (p0sb p0so : Nat) (p1n : Int) (h : Hp) (R X : Value → Hp → Prop) : evBodyX Try.prog calls stage_Space_inner.hints Try.f61 [.ptr p0sb p0so, .int .i64 p1n] h R X = stage_Space_inner.P p0sb p0so p1n h R X := by kernel_rfl
theorem stage_Space_inner.calls (p0sb p0so : Nat) (p1n : Int) (h : Hp) (R X : Value → Hp → Prop) (hp : stage_Space_inner.P p0sb p0so p1n h R X) : CallsX Try.prog 61 [.pointer (some ⟨p0sb, p0so, none⟩), .int .i64 p1n] h R X :=
  callsX_of_body calls_ok Try.func61 (args := [.ptr p0sb p0so, .int .i64 p1n]) (by rw [stage_Space_inner.eq]; exact hp)
/-! ### stage_Space_clear: function 62 -/
def stage_Space_clear.hints : Hints := { loops := [(2, [0, 4, 5], [(15, (.one (.int .i64)))])], cuts := [], orders := [(4, [0, 1, 3, 7, 0, 16, 0, 112, 255, 511, 1023, 1023, 2047, 8191], (.leaf [0, 1, 2, 3, 4, 5, 6, 7, 8, 9, 10, 11, 12, 13])), (8, [0, 1, 3, 7, 0, 16, 63], (.leaf [0, 1, 2, 3, 4, 5, 6]))] }
def stage_Space_clear.P (p0sb p0so : Nat) (p1first : Int) (h : Hp) (R : Value → Hp → Prop) : Prop :=
  CallsH Try.prog 53 [.pointer (some ⟨p0sb, p0so, none⟩), .int .i64 p1first] h fun r1 h1 => ∃ first2 : Int, ∃ first3 : Bool, ∃ first4 : Bool, ∃ first5 : Bool, ∃ first6 : Bool, ∃ first7 : Int, r1 = .tuple #[.int .u32 first2, .agg #[.bool first3, .bool first4, .bool first5, .bool first6, .int .i64 first7]] ∧
  ∀ h2 : Hp, h2 = new h1 (blk 54 [.bool false, .bool false, .bool false, .bool false, .int .i64 0]) → truly true ∧ ∃ T8 : TypeId, ∃ l9 : List Value, bk h2 (sz h1) = some (blk T8 l9) ∧ 0 + 5 ≤ l9.length ∧
  ∀ h3 : Hp, h3 = upd h2 (sz h1) T8 (writeAt l9 0 [.bool first3, .bool first4, .bool first5, .bool first6, .int .i64 first7]) → ∃ I10 : Int → Hp → Prop, ∃ m11 : Int → Hp → Nat, I10 0 h3 ∧ ∀ x12 : Int, ∀ h4 : Hp, I10 x12 h4 →
  ((decide (x12 < 64)) = true → (∃ mem13 : Option Addr, cellAt h4 p0sb p0so = some (.pointer mem13) ∧ ∃ Frame14 : Int, cellAt h4 (sz h1) 4 = some (.int .i64 Frame14) ∧ CallsH Try.prog 56 [.int .i64 Frame14, .int .i64 x12] h4 fun r15 h5 => ∃ atx16 : Int, r15 = .int .u32 atx16 ∧
  cellAt h5 p0sb p0so = some (.pointer mem13) ∧ CallsH Try.prog 85 [.pointer mem13, .int .u32 atx16] h5 fun r17 h6 => ∃ Word18 : Int, ∃ Word19 : Bool, r17 = .tuple #[.int .u32 Word18, .bool Word19] ∧ ((Word18 != 0) = true →
  (R (.tuple #[]) h6)) ∧ ((Word18 != 0) = false → (I10 (IntKind.wrap .i64 (x12 + 1)) h6 ∧ m11 (IntKind.wrap .i64 (x12 + 1)) h6 < m11 x12 h4)))) ∧ ((decide (x12 < 64)) = false → (CallsH Try.prog 55 [.pointer (some ⟨p0sb, p0so, none⟩), .int .u32 first2, .agg #[.bool false, .bool false, .bool false, .bool false, .int .i64 0]] h4 fun r20 h7 => r20 = .tuple #[] ∧
  ∃ frames21 : Option Addr, cellAt h7 p0sb (p0so + 1) = some (.pointer frames21) ∧ ∃ Frame22 : Int, cellAt h7 (sz h1) 4 = some (.int .i64 Frame22) ∧ CallsH Try.prog 46 [.pointer frames21, .int .i64 1, .int .i64 Frame22] h7 fun r23 h8 => ∃ Give24 : Int, r23 = .int .i64 Give24 ∧
  R (.tuple #[]) h8))
theorem stage_Space_clear.eq (p0sb p0so : Nat) (p1first : Int) (h : Hp) (R : Value → Hp → Prop) : evBody Try.prog calls stage_Space_clear.hints Try.f62 [.ptr p0sb p0so, .int .i64 p1first] h R = stage_Space_clear.P p0sb p0so p1first h R := by kernel_rfl
theorem stage_Space_clear.calls (p0sb p0so : Nat) (p1first : Int) (h : Hp) (R : Value → Hp → Prop) (hp : stage_Space_clear.P p0sb p0so p1first h R) : CallsH Try.prog 62 [.pointer (some ⟨p0sb, p0so, none⟩), .int .i64 p1first] h R :=
  calls_of_body calls_ok Try.func62 (args := [.ptr p0sb p0so, .int .i64 p1first]) (by rw [stage_Space_clear.eq]; exact hp)
/-! ### warderref11_Space_Map: function 63 -/
def warderref11_Space_Map.hints : Hints := { loops := [], cuts := [(3, [0, 1, 2, 3, 4], [])], orders := [] }
def warderref11_Space_Map.P (p0sb p0so : Nat) (p1page : Int) (p2frame : Int) (p3write : Bool) (p4exec : Bool) (h : Hp) (R : Value → Hp → Prop) : Prop :=
  ∃ I1 : Hp → Prop, (CallsH Try.prog 103 [.int .i64 p1page, .int .i64 4096] h fun r2 h1 => ∃ span3 : Bool, r2 = .bool span3 ∧ ((!span3) = true → (R (.int .i64 11) h1)) ∧ ((!span3) = false → (∃ Frames4 : Int, cellAt h1 p0sb (p0so + 2) = some (.int .i64 Frames4) ∧
  CallsH Try.prog 103 [.int .i64 p2frame, .int .i64 Frames4] h1 fun r5 h2 => ∃ span6 : Bool, r5 = .bool span6 ∧ ((!span6) = true → (R (.int .i64 11) h2)) ∧ ((!span6) = false → (I1 h2))))) ∧ ∀ h3 : Hp, I1 h3 →
  ∃ Pagesa7 : Option Addr, ∃ Pagesl8 : Nat, ∃ Pagesc9 : Nat, cellAt h3 p0sb p0so = some (.slice Pagesa7 Pagesl8 Pagesc9) ∧ (0 : Int) ≤ p1page ∧ p1page < ((Pagesl8 : Nat) : Int) ∧ ∃ b10 : Nat, ∃ o11 : Nat, (Pagesa7 : Option Addr) = some ⟨b10, o11, none⟩ ∧
  ∃ There12 : Bool, cellAt h3 b10 (o11 + p1page.toNat * 4 + 1) = some (.bool There12) ∧ ((There12) = true → (R (.int .i64 13) h3)) ∧ ((There12) = false → (64 ≠ (0 : Int) ∧ CallsH Try.prog 104 [.pointer (some ⟨p0sb, p0so, none⟩), .int .i64 (IntKind.wrap .i64 (Int.tdiv p1page 64))] h3 fun r13 h4 => ∃ table14 : Bool, r13 = .bool table14 ∧
  ((!table14) = true → (R (.int .i64 15) h4)) ∧ ((!table14) = false → (∃ Pagesa15 : Option Addr, ∃ Pagesl16 : Nat, ∃ Pagesc17 : Nat, cellAt h4 p0sb p0so = some (.slice Pagesa15 Pagesl16 Pagesc17) ∧ (0 : Int) ≤ p1page ∧
  p1page < ((Pagesl16 : Nat) : Int) ∧ ∃ b18 : Nat, ∃ o19 : Nat, (Pagesa15 : Option Addr) = some ⟨b18, o19, none⟩ ∧ truly true ∧ ∃ T20 : TypeId, ∃ l21 : List Value, bk h4 b18 = some (blk T20 l21) ∧ (o19 + p1page.toNat * 4) + 4 ≤ l21.length ∧
  ∀ h5 : Hp, h5 = upd h4 b18 T20 (writeAt l21 (o19 + p1page.toNat * 4) [.int .i64 p2frame, .bool true, .bool p3write, .bool p4exec]) → R (.int .i64 0) h5))))
theorem warderref11_Space_Map.eq (p0sb p0so : Nat) (p1page : Int) (p2frame : Int) (p3write : Bool) (p4exec : Bool) (h : Hp) (R : Value → Hp → Prop) : evBody Try.prog calls warderref11_Space_Map.hints Try.f63 [.ptr p0sb p0so, .int .i64 p1page, .int .i64 p2frame, .bool p3write, .bool p4exec] h R = warderref11_Space_Map.P p0sb p0so p1page p2frame p3write p4exec h R := by kernel_rfl
theorem warderref11_Space_Map.calls (p0sb p0so : Nat) (p1page : Int) (p2frame : Int) (p3write : Bool) (p4exec : Bool) (h : Hp) (R : Value → Hp → Prop) (hp : warderref11_Space_Map.P p0sb p0so p1page p2frame p3write p4exec h R) : CallsH Try.prog 63 [.pointer (some ⟨p0sb, p0so, none⟩), .int .i64 p1page, .int .i64 p2frame, .bool p3write, .bool p4exec] h R :=
  calls_of_body calls_ok Try.func63 (args := [.ptr p0sb p0so, .int .i64 p1page, .int .i64 p2frame, .bool p3write, .bool p4exec]) (by rw [warderref11_Space_Map.eq]; exact hp)
/-! ### warderref11_Space_MapRun: function 64 -/
def warderref11_Space_MapRun.hints : Hints := { loops := [(7, [0, 1, 2, 3, 4], [(11, (.one (.int .i64)))])], cuts := [(3, [0, 1, 2, 3, 4], [])], orders := [] }
def warderref11_Space_MapRun.P (p0sb p0so : Nat) (p1first : Int) (p2frame : Int) (p3write : Bool) (p4exec : Bool) (h : Hp) (R : Value → Hp → Prop) : Prop :=
  ∃ I1 : Hp → Prop, (CallsH Try.prog 103 [.int .i64 p1first, .int .i64 64] h fun r2 h1 => ∃ span3 : Bool, r2 = .bool span3 ∧ ((!span3) = true → (R (.int .i64 11) h1)) ∧ ((!span3) = false → (∃ Frames4 : Int, cellAt h1 p0sb (p0so + 2) = some (.int .i64 Frames4) ∧
  CallsH Try.prog 103 [.int .i64 p2frame, .int .i64 Frames4] h1 fun r5 h2 => ∃ span6 : Bool, r5 = .bool span6 ∧ ((!span6) = true → (R (.int .i64 11) h2)) ∧ ((!span6) = false → (64 ≠ (0 : Int) ∧ (((Int.tmod p2frame 64) != 0) = true →
  (R (.int .i64 11) h2)) ∧ (((Int.tmod p2frame 64) != 0) = false → (∃ Frames7 : Int, cellAt h2 p0sb (p0so + 2) = some (.int .i64 Frames7) ∧ ((decide ((IntKind.wrap .i64 (p2frame + 64)) > Frames7)) = true →
  (R (.int .i64 11) h2)) ∧ ((decide ((IntKind.wrap .i64 (p2frame + 64)) > Frames7)) = false → (I1 h2))))))))) ∧ ∀ h3 : Hp, I1 h3 → ∃ Firstsa8 : Option Addr, ∃ Firstsl9 : Nat, ∃ Firstsc10 : Nat, cellAt h3 p0sb (p0so + 1) = some (.slice Firstsa8 Firstsl9 Firstsc10) ∧
  (0 : Int) ≤ p1first ∧ p1first < ((Firstsl9 : Nat) : Int) ∧ ∃ b11 : Nat, ∃ o12 : Nat, (Firstsa8 : Option Addr) = some ⟨b11, o12, none⟩ ∧ ∃ x13 : Int, cellAt h3 b11 (o12 + p1first.toNat * 1) = some (.int .i64 x13) ∧
  ((x13 != 0) = true → (R (.int .i64 13) h3)) ∧ ((x13 != 0) = false → (∃ Firstsa14 : Option Addr, ∃ Firstsl15 : Nat, ∃ Firstsc16 : Nat, cellAt h3 p0sb (p0so + 1) = some (.slice Firstsa14 Firstsl15 Firstsc16) ∧
  (0 : Int) ≤ p1first ∧ p1first < ((Firstsl15 : Nat) : Int) ∧ ∃ b17 : Nat, ∃ o18 : Nat, (Firstsa14 : Option Addr) = some ⟨b17, o18, none⟩ ∧ truly true ∧ ∃ T19 : TypeId, ∃ l20 : List Value, bk h3 b17 = some (blk T19 l20) ∧
  (o18 + p1first.toNat * 1) + 1 ≤ l20.length ∧ ∀ h4 : Hp, h4 = upd h3 b17 T19 (writeAt l20 (o18 + p1first.toNat * 1) [.int .i64 1]) → ∃ I21 : Int → Hp → Prop, ∃ m22 : Int → Hp → Nat, I21 0 h4 ∧ ∀ i23 : Int, ∀ h5 : Hp, I21 i23 h5 →
  ((decide (i23 < 64)) = true → (∃ Pagesa24 : Option Addr, ∃ Pagesl25 : Nat, ∃ Pagesc26 : Nat, cellAt h5 p0sb p0so = some (.slice Pagesa24 Pagesl25 Pagesc26) ∧ (0 : Int) ≤ (IntKind.wrap .i64 ((IntKind.wrap .i64 (64 * p1first)) + i23)) ∧
  (IntKind.wrap .i64 ((IntKind.wrap .i64 (64 * p1first)) + i23)) < ((Pagesl25 : Nat) : Int) ∧ ∃ b27 : Nat, ∃ o28 : Nat, (Pagesa24 : Option Addr) = some ⟨b27, o28, none⟩ ∧ truly true ∧ ∃ T29 : TypeId, ∃ l30 : List Value, bk h5 b27 = some (blk T29 l30) ∧
  (o28 + (IntKind.wrap .i64 ((IntKind.wrap .i64 (64 * p1first)) + i23)).toNat * 4) + 4 ≤ l30.length ∧ ∀ h6 : Hp, h6 = upd h5 b27 T29 (writeAt l30 (o28 + (IntKind.wrap .i64 ((IntKind.wrap .i64 (64 * p1first)) + i23)).toNat * 4) [.int .i64 (IntKind.wrap .i64 (p2frame + i23)), .bool true, .bool p3write, .bool p4exec]) →
  I21 (IntKind.wrap .i64 (i23 + 1)) h6 ∧ m22 (IntKind.wrap .i64 (i23 + 1)) h6 < m22 i23 h5)) ∧ ((decide (i23 < 64)) = false → (R (.int .i64 0) h5))))
theorem warderref11_Space_MapRun.eq (p0sb p0so : Nat) (p1first : Int) (p2frame : Int) (p3write : Bool) (p4exec : Bool) (h : Hp) (R : Value → Hp → Prop) : evBody Try.prog calls warderref11_Space_MapRun.hints Try.f64 [.ptr p0sb p0so, .int .i64 p1first, .int .i64 p2frame, .bool p3write, .bool p4exec] h R = warderref11_Space_MapRun.P p0sb p0so p1first p2frame p3write p4exec h R := by kernel_rfl
theorem warderref11_Space_MapRun.calls (p0sb p0so : Nat) (p1first : Int) (p2frame : Int) (p3write : Bool) (p4exec : Bool) (h : Hp) (R : Value → Hp → Prop) (hp : warderref11_Space_MapRun.P p0sb p0so p1first p2frame p3write p4exec h R) : CallsH Try.prog 64 [.pointer (some ⟨p0sb, p0so, none⟩), .int .i64 p1first, .int .i64 p2frame, .bool p3write, .bool p4exec] h R :=
  calls_of_body calls_ok Try.func64 (args := [.ptr p0sb p0so, .int .i64 p1first, .int .i64 p2frame, .bool p3write, .bool p4exec]) (by rw [warderref11_Space_MapRun.eq]; exact hp)
/-! ### warderref11_Space_Unmap: function 65 -/
def warderref11_Space_Unmap.hints : Hints := { loops := [], cuts := [], orders := [] }
def warderref11_Space_Unmap.P (p0sb p0so : Nat) (p1page : Int) (h : Hp) (R : Value → Hp → Prop) : Prop :=
  CallsH Try.prog 105 [.pointer (some ⟨p0sb, p0so, none⟩), .int .i64 p1page, .agg #[.int .i64 0, .bool false, .bool false, .bool false]] h fun r1 h1 => ∃ change2 : Int, r1 = .int .i64 change2 ∧ R (.int .i64 change2) h1
theorem warderref11_Space_Unmap.eq (p0sb p0so : Nat) (p1page : Int) (h : Hp) (R : Value → Hp → Prop) : evBody Try.prog calls warderref11_Space_Unmap.hints Try.f65 [.ptr p0sb p0so, .int .i64 p1page] h R = warderref11_Space_Unmap.P p0sb p0so p1page h R := by kernel_rfl
theorem warderref11_Space_Unmap.calls (p0sb p0so : Nat) (p1page : Int) (h : Hp) (R : Value → Hp → Prop) (hp : warderref11_Space_Unmap.P p0sb p0so p1page h R) : CallsH Try.prog 65 [.pointer (some ⟨p0sb, p0so, none⟩), .int .i64 p1page] h R :=
  calls_of_body calls_ok Try.func65 (args := [.ptr p0sb p0so, .int .i64 p1page]) (by rw [warderref11_Space_Unmap.eq]; exact hp)
/-! ### warderref11_Space_Protect: function 66 -/
def warderref11_Space_Protect.hints : Hints := { loops := [], cuts := [], orders := [] }
def warderref11_Space_Protect.P (p0sb p0so : Nat) (p1page : Int) (p2write : Bool) (p3exec : Bool) (h : Hp) (R : Value → Hp → Prop) : Prop :=
  CallsH Try.prog 105 [.pointer (some ⟨p0sb, p0so, none⟩), .int .i64 p1page, .agg #[.int .i64 0, .bool true, .bool p2write, .bool p3exec]] h fun r1 h1 => ∃ change2 : Int, r1 = .int .i64 change2 ∧ R (.int .i64 change2) h1
theorem warderref11_Space_Protect.eq (p0sb p0so : Nat) (p1page : Int) (p2write : Bool) (p3exec : Bool) (h : Hp) (R : Value → Hp → Prop) : evBody Try.prog calls warderref11_Space_Protect.hints Try.f66 [.ptr p0sb p0so, .int .i64 p1page, .bool p2write, .bool p3exec] h R = warderref11_Space_Protect.P p0sb p0so p1page p2write p3exec h R := by kernel_rfl
theorem warderref11_Space_Protect.calls (p0sb p0so : Nat) (p1page : Int) (p2write : Bool) (p3exec : Bool) (h : Hp) (R : Value → Hp → Prop) (hp : warderref11_Space_Protect.P p0sb p0so p1page p2write p3exec h R) : CallsH Try.prog 66 [.pointer (some ⟨p0sb, p0so, none⟩), .int .i64 p1page, .bool p2write, .bool p3exec] h R :=
  calls_of_body calls_ok Try.func66 (args := [.ptr p0sb p0so, .int .i64 p1page, .bool p2write, .bool p3exec]) (by rw [warderref11_Space_Protect.eq]; exact hp)
/-! ### warderref11_Space_Split: function 67 -/
def warderref11_Space_Split.hints : Hints := { loops := [], cuts := [], orders := [] }
def warderref11_Space_Split.P (p0sb p0so : Nat) (p1first : Int) (h : Hp) (R : Value → Hp → Prop) : Prop :=
  CallsH Try.prog 103 [.int .i64 p1first, .int .i64 64] h fun r1 h1 => ∃ span2 : Bool, r1 = .bool span2 ∧ ((!span2) = true → (R (.int .i64 11) h1)) ∧ ((!span2) = false → (∃ Firstsa3 : Option Addr, ∃ Firstsl4 : Nat, ∃ Firstsc5 : Nat, cellAt h1 p0sb (p0so + 1) = some (.slice Firstsa3 Firstsl4 Firstsc5) ∧
  (0 : Int) ≤ p1first ∧ p1first < ((Firstsl4 : Nat) : Int) ∧ ∃ b6 : Nat, ∃ o7 : Nat, (Firstsa3 : Option Addr) = some ⟨b6, o7, none⟩ ∧ ∃ x8 : Int, cellAt h1 b6 (o7 + p1first.toNat * 1) = some (.int .i64 x8) ∧
  ((x8 != 1) = true → (R (.int .i64 12) h1)) ∧ ((x8 != 1) = false → (CallsH Try.prog 104 [.pointer (some ⟨p0sb, p0so, none⟩), .int .i64 p1first] h1 fun r9 h2 => ∃ table10 : Bool, r9 = .bool table10 ∧ ((!table10) = true →
  (R (.int .i64 15) h2)) ∧ ((!table10) = false → (R (.int .i64 0) h2))))))
theorem warderref11_Space_Split.eq (p0sb p0so : Nat) (p1first : Int) (h : Hp) (R : Value → Hp → Prop) : evBody Try.prog calls warderref11_Space_Split.hints Try.f67 [.ptr p0sb p0so, .int .i64 p1first] h R = warderref11_Space_Split.P p0sb p0so p1first h R := by kernel_rfl
theorem warderref11_Space_Split.calls (p0sb p0so : Nat) (p1first : Int) (h : Hp) (R : Value → Hp → Prop) (hp : warderref11_Space_Split.P p0sb p0so p1first h R) : CallsH Try.prog 67 [.pointer (some ⟨p0sb, p0so, none⟩), .int .i64 p1first] h R :=
  calls_of_body calls_ok Try.func67 (args := [.ptr p0sb p0so, .int .i64 p1first]) (by rw [warderref11_Space_Split.eq]; exact hp)
/-! ### warderref11_Space_Merge: function 68 -/
def warderref11_Space_Merge.hints : Hints := { loops := [(7, [0, 1, 5], [(6, (.one (.int .i64)))])], cuts := [], orders := [(11, [0, 1, 3, 7, 15, 31, 63, 127, 255, 511, 1023, 2047, 4095, 8191, 1023, 17407, 1023, 115711, 262143, 524287, 1023, 2097151, 4194303], (.leaf [0, 1, 2, 3, 4, 5, 6, 7, 8, 9, 10, 11, 12, 13, 14, 15, 16, 17, 18, 19, 20, 21, 22]))] }
def warderref11_Space_Merge.P (p0sb p0so : Nat) (p1first : Int) (h : Hp) (R : Value → Hp → Prop) : Prop :=
  CallsH Try.prog 103 [.int .i64 p1first, .int .i64 64] h fun r1 h1 => ∃ span2 : Bool, r1 = .bool span2 ∧ ((!span2) = true → (R (.int .i64 11) h1)) ∧ ((!span2) = false → (∃ Firstsa3 : Option Addr, ∃ Firstsl4 : Nat, ∃ Firstsc5 : Nat, cellAt h1 p0sb (p0so + 1) = some (.slice Firstsa3 Firstsl4 Firstsc5) ∧
  (0 : Int) ≤ p1first ∧ p1first < ((Firstsl4 : Nat) : Int) ∧ ∃ b6 : Nat, ∃ o7 : Nat, (Firstsa3 : Option Addr) = some ⟨b6, o7, none⟩ ∧ ∃ x8 : Int, cellAt h1 b6 (o7 + p1first.toNat * 1) = some (.int .i64 x8) ∧
  ((x8 != 2) = true → (R (.int .i64 12) h1)) ∧ ((x8 != 2) = false → (∃ Pagesa9 : Option Addr, ∃ Pagesl10 : Nat, ∃ Pagesc11 : Nat, cellAt h1 p0sb p0so = some (.slice Pagesa9 Pagesl10 Pagesc11) ∧ (0 : Int) ≤ (IntKind.wrap .i64 (64 * p1first)) ∧
  (IntKind.wrap .i64 (64 * p1first)) < ((Pagesl10 : Nat) : Int) ∧ ∃ b12 : Nat, ∃ o13 : Nat, (Pagesa9 : Option Addr) = some ⟨b12, o13, none⟩ ∧ ∃ x14 : Int, cellAt h1 b12 (o13 + (IntKind.wrap .i64 (64 * p1first)).toNat * 4 + 0) = some (.int .i64 x14) ∧
  ∃ x15 : Bool, cellAt h1 b12 (o13 + (IntKind.wrap .i64 (64 * p1first)).toNat * 4 + 1) = some (.bool x15) ∧ ∃ x16 : Bool, cellAt h1 b12 (o13 + (IntKind.wrap .i64 (64 * p1first)).toNat * 4 + 2) = some (.bool x16) ∧
  ∃ x17 : Bool, cellAt h1 b12 (o13 + (IntKind.wrap .i64 (64 * p1first)).toNat * 4 + 3) = some (.bool x17) ∧ ∀ h2 : Hp, h2 = new h1 (blk 106 [.int .i64 0, .bool false, .bool false, .bool false]) → truly true ∧
  ∃ T18 : TypeId, ∃ l19 : List Value, bk h2 (sz h1) = some (blk T18 l19) ∧ 0 + 4 ≤ l19.length ∧ ∀ h3 : Hp, h3 = upd h2 (sz h1) T18 (writeAt l19 0 [.int .i64 x14, .bool x15, .bool x16, .bool x17]) → ∃ I20 : Int →
  Hp → Prop, ∃ m21 : Int → Hp → Nat, I20 0 h3 ∧ ∀ i22 : Int, ∀ h4 : Hp, I20 i22 h4 → ((decide (i22 < 64)) = true → (∃ x23 : Int, cellAt h4 (sz h1) (0 + 0) = some (.int .i64 x23) ∧ ∃ x24 : Bool, cellAt h4 (sz h1) (0 + 1) = some (.bool x24) ∧
  ∃ x25 : Bool, cellAt h4 (sz h1) (0 + 2) = some (.bool x25) ∧ ∃ x26 : Bool, cellAt h4 (sz h1) (0 + 3) = some (.bool x26) ∧ ∀ h5 : Hp, h5 = new h4 (blk 106 [.int .i64 0, .bool false, .bool false, .bool false]) →
  truly true ∧ ∃ T27 : TypeId, ∃ l28 : List Value, bk h5 (sz h4) = some (blk T27 l28) ∧ 0 + 4 ≤ l28.length ∧ ∀ h6 : Hp, h6 = upd h5 (sz h4) T27 (writeAt l28 0 [.int .i64 x23, .bool x24, .bool x25, .bool x26]) →
  ∃ Frame29 : Int, cellAt h6 (sz h1) 0 = some (.int .i64 Frame29) ∧ truly true ∧ ∃ T30 : TypeId, ∃ l31 : List Value, bk h6 (sz h4) = some (blk T30 l31) ∧ 0 + 1 ≤ l31.length ∧ ∀ h7 : Hp, h7 = upd h6 (sz h4) T30 (writeAt l31 0 [.int .i64 (IntKind.wrap .i64 (Frame29 + i22))]) →
  ∃ There32 : Bool, cellAt h7 (sz h1) 1 = some (.bool There32) ∧ ((!There32) = true → (R (.int .i64 20) h7)) ∧ ((!There32) = false → (∃ Frame33 : Int, cellAt h7 (sz h1) 0 = some (.int .i64 Frame33) ∧ 64 ≠ (0 : Int) ∧
  (((Int.tmod Frame33 64) != 0) = true → (R (.int .i64 20) h7)) ∧ (((Int.tmod Frame33 64) != 0) = false → (∃ Pagesa34 : Option Addr, ∃ Pagesl35 : Nat, ∃ Pagesc36 : Nat, cellAt h7 p0sb p0so = some (.slice Pagesa34 Pagesl35 Pagesc36) ∧
  (0 : Int) ≤ (IntKind.wrap .i64 ((IntKind.wrap .i64 (64 * p1first)) + i22)) ∧ (IntKind.wrap .i64 ((IntKind.wrap .i64 (64 * p1first)) + i22)) < ((Pagesl35 : Nat) : Int) ∧ ∃ b37 : Nat, ∃ o38 : Nat, (Pagesa34 : Option Addr) = some ⟨b37, o38, none⟩ ∧
  ∃ x39 : Int, cellAt h7 b37 (o38 + (IntKind.wrap .i64 ((IntKind.wrap .i64 (64 * p1first)) + i22)).toNat * 4 + 0) = some (.int .i64 x39) ∧ ∃ x40 : Bool, cellAt h7 b37 (o38 + (IntKind.wrap .i64 ((IntKind.wrap .i64 (64 * p1first)) + i22)).toNat * 4 + 1) = some (.bool x40) ∧
  ∃ x41 : Bool, cellAt h7 b37 (o38 + (IntKind.wrap .i64 ((IntKind.wrap .i64 (64 * p1first)) + i22)).toNat * 4 + 2) = some (.bool x41) ∧ ∃ x42 : Bool, cellAt h7 b37 (o38 + (IntKind.wrap .i64 ((IntKind.wrap .i64 (64 * p1first)) + i22)).toNat * 4 + 3) = some (.bool x42) ∧
  ∃ x43 : Int, cellAt h7 (sz h4) (0 + 0) = some (.int .i64 x43) ∧ ∃ x44 : Bool, cellAt h7 (sz h4) (0 + 1) = some (.bool x44) ∧ ∃ x45 : Bool, cellAt h7 (sz h4) (0 + 2) = some (.bool x45) ∧ ∃ x46 : Bool, cellAt h7 (sz h4) (0 + 3) = some (.bool x46) ∧
  ((notIf false ((x39 == x43) && (((x40 : Bool) == x44) && (((x41 : Bool) == x45) && (((x42 : Bool) == x46) && true))))) = true → (R (.int .i64 20) h7)) ∧ ((notIf false ((x39 == x43) && (((x40 : Bool) == x44) && (((x41 : Bool) == x45) && (((x42 : Bool) == x46) && true))))) = false →
  (I20 (IntKind.wrap .i64 (i22 + 1)) h7 ∧ m21 (IntKind.wrap .i64 (i22 + 1)) h7 < m21 i22 h4)))))))) ∧ ((decide (i22 < 64)) = false → (∃ Firstsa47 : Option Addr, ∃ Firstsl48 : Nat, ∃ Firstsc49 : Nat, cellAt h4 p0sb (p0so + 1) = some (.slice Firstsa47 Firstsl48 Firstsc49) ∧
  (0 : Int) ≤ p1first ∧ p1first < ((Firstsl48 : Nat) : Int) ∧ ∃ b50 : Nat, ∃ o51 : Nat, (Firstsa47 : Option Addr) = some ⟨b50, o51, none⟩ ∧ truly true ∧ ∃ T52 : TypeId, ∃ l53 : List Value, bk h4 b50 = some (blk T52 l53) ∧
  (o51 + p1first.toNat * 1) + 1 ≤ l53.length ∧ ∀ h8 : Hp, h8 = upd h4 b50 T52 (writeAt l53 (o51 + p1first.toNat * 1) [.int .i64 1]) → ∃ Free54 : Int, cellAt h8 p0sb (p0so + 3) = some (.int .i64 Free54) ∧
  truly true ∧ ∃ T55 : TypeId, ∃ l56 : List Value, bk h8 p0sb = some (blk T55 l56) ∧ (p0so + 3) + 1 ≤ l56.length ∧ ∀ h9 : Hp, h9 = upd h8 p0sb T55 (writeAt l56 (p0so + 3) [.int .i64 (IntKind.wrap .i64 (Free54 + 1))]) →
  R (.int .i64 0) h9))))))
theorem warderref11_Space_Merge.eq (p0sb p0so : Nat) (p1first : Int) (h : Hp) (R : Value → Hp → Prop) : evBody Try.prog calls warderref11_Space_Merge.hints Try.f68 [.ptr p0sb p0so, .int .i64 p1first] h R = warderref11_Space_Merge.P p0sb p0so p1first h R := by kernel_rfl
theorem warderref11_Space_Merge.calls (p0sb p0so : Nat) (p1first : Int) (h : Hp) (R : Value → Hp → Prop) (hp : warderref11_Space_Merge.P p0sb p0so p1first h R) : CallsH Try.prog 68 [.pointer (some ⟨p0sb, p0so, none⟩), .int .i64 p1first] h R :=
  calls_of_body calls_ok Try.func68 (args := [.ptr p0sb p0so, .int .i64 p1first]) (by rw [warderref11_Space_Merge.eq]; exact hp)
/-! ### warderref11_Space_Tables: function 69 -/
def warderref11_Space_Tables.hints : Hints := { loops := [(3, [0], [(3, (.one (.int .i64))), (4, (.one (.int .i64)))])], cuts := [], orders := [] }
def warderref11_Space_Tables.P (p0sb p0so : Nat) (h : Hp) (R : Value → Hp → Prop) : Prop :=
  ∃ I1 : Int → Int → Hp → Prop, ∃ m2 : Int → Int → Hp → Nat, I1 0 0 h ∧ ∀ n3 : Int, ∀ i4 : Int, ∀ h1 : Hp, I1 n3 i4 h1 → ((decide (i4 < 64)) = true → (∃ Firstsa5 : Option Addr, ∃ Firstsl6 : Nat, ∃ Firstsc7 : Nat, cellAt h1 p0sb (p0so + 1) = some (.slice Firstsa5 Firstsl6 Firstsc7) ∧
  (0 : Int) ≤ i4 ∧ i4 < ((Firstsl6 : Nat) : Int) ∧ ∃ b8 : Nat, ∃ o9 : Nat, (Firstsa5 : Option Addr) = some ⟨b8, o9, none⟩ ∧ ∃ x10 : Int, cellAt h1 b8 (o9 + i4.toNat * 1) = some (.int .i64 x10) ∧ ((x10 == 2) = true →
  (I1 (IntKind.wrap .i64 (n3 + 1)) (IntKind.wrap .i64 (i4 + 1)) h1 ∧ m2 (IntKind.wrap .i64 (n3 + 1)) (IntKind.wrap .i64 (i4 + 1)) h1 < m2 n3 i4 h1)) ∧ ((x10 == 2) = false → (I1 n3 (IntKind.wrap .i64 (i4 + 1)) h1 ∧
  m2 n3 (IntKind.wrap .i64 (i4 + 1)) h1 < m2 n3 i4 h1)))) ∧ ((decide (i4 < 64)) = false → (R (.int .i64 n3) h1))
theorem warderref11_Space_Tables.eq (p0sb p0so : Nat) (h : Hp) (R : Value → Hp → Prop) : evBody Try.prog calls warderref11_Space_Tables.hints Try.f69 [.ptr p0sb p0so] h R = warderref11_Space_Tables.P p0sb p0so h R := by kernel_rfl
theorem warderref11_Space_Tables.calls (p0sb p0so : Nat) (h : Hp) (R : Value → Hp → Prop) (hp : warderref11_Space_Tables.P p0sb p0so h R) : CallsH Try.prog 69 [.pointer (some ⟨p0sb, p0so, none⟩)] h R :=
  calls_of_body calls_ok Try.func69 (args := [.ptr p0sb p0so]) (by rw [warderref11_Space_Tables.eq]; exact hp)
/-! ### walk_Pages: function 70 -/
def walk_Pages.hints : Hints := { loops := [(3, [0, 1], [(5, (.one .slice)), (9, (.one (.int .i64)))])], cuts := [], orders := [] }
def walk_Pages.P (p0mb p0mo : Nat) (p1root : Int) (h : Hp) (R : Value → Hp → Prop) : Prop :=
  ∃ I1 : Option Addr → Nat → Nat → Int → Hp → Prop, ∃ m2 : Option Addr → Nat → Nat → Int → Hp → Nat, I1 none 0 0 0 h ∧ ∀ outa3 : Option Addr, ∀ outl4 : Nat, ∀ outc5 : Nat, ∀ x6 : Int, ∀ h1 : Hp, I1 outa3 outl4 outc5 x6 h1 →
  ((decide (x6 < 4096)) = true → (CallsH Try.prog 71 [.pointer (some ⟨p0mb, p0mo, none⟩), .int .i64 p1root, .int .i64 x6] h1 fun r7 h2 => ∃ Look8 : Bool, ∃ Look9 : Bool, ∃ Look10 : Bool, ∃ Look11 : Bool, ∃ Look12 : Int, ∃ Look13 : Bool, r7 = .tuple #[.agg #[.bool Look8, .bool Look9, .bool Look10, .bool Look11, .int .i64 Look12], .bool Look13] ∧
  ∀ h3 : Hp, h3 = new h2 (blk 54 [.bool false, .bool false, .bool false, .bool false, .int .i64 0]) → truly true ∧ ∃ T14 : TypeId, ∃ l15 : List Value, bk h3 (sz h2) = some (blk T14 l15) ∧ 0 + 5 ≤ l15.length ∧
  ∀ h4 : Hp, h4 = upd h3 (sz h2) T14 (writeAt l15 0 [.bool Look8, .bool Look9, .bool Look10, .bool Look11, .int .i64 Look12]) → ((Look13) = true → (∀ h5 : Hp, h5 = new h4 (blk 3 [.int .i64 x6]) → appendN h5 3 1 8 [.int .i64 0] outa3 outl4 outc5 (some ⟨sz h4, 0, none⟩) 1 fun a16 l17 c18 h6 => I1 a16 l17 c18 (IntKind.wrap .i64 (x6 + 1)) h6 ∧
  m2 a16 l17 c18 (IntKind.wrap .i64 (x6 + 1)) h6 < m2 outa3 outl4 outc5 x6 h1)) ∧ ((Look13) = false → (I1 outa3 outl4 outc5 (IntKind.wrap .i64 (x6 + 1)) h4 ∧ m2 outa3 outl4 outc5 (IntKind.wrap .i64 (x6 + 1)) h4 < m2 outa3 outl4 outc5 x6 h1)))) ∧
  ((decide (x6 < 4096)) = false → (R (.slice outa3 outl4 outc5) h1))
theorem walk_Pages.eq (p0mb p0mo : Nat) (p1root : Int) (h : Hp) (R : Value → Hp → Prop) : evBody Try.prog calls walk_Pages.hints Try.f70 [.ptr p0mb p0mo, .int .i64 p1root] h R = walk_Pages.P p0mb p0mo p1root h R := by kernel_rfl
theorem walk_Pages.calls (p0mb p0mo : Nat) (p1root : Int) (h : Hp) (R : Value → Hp → Prop) (hp : walk_Pages.P p0mb p0mo p1root h R) : CallsH Try.prog 70 [.pointer (some ⟨p0mb, p0mo, none⟩), .int .i64 p1root] h R :=
  calls_of_body calls_ok Try.func70 (args := [.ptr p0mb p0mo, .int .i64 p1root]) (by rw [walk_Pages.eq]; exact hp)
/-! ### walk_Look: function 71 -/
def walk_Look.hints : Hints := { loops := [], cuts := [(5, [6, 10], [])], orders := [] }
def walk_Look.P (p0mb p0mo : Nat) (p1root : Int) (p2page : Int) (h : Hp) (R : Value → Hp → Prop) : Prop :=
  ∀ h1 : Hp, h1 = new h (blk 54 [.bool false, .bool false, .bool false, .bool false, .int .i64 0]) → CallsH Try.prog 106 [.int .i64 p2page, .int .i64 0] h1 fun r1 h2 => ∃ Join2 : Int, ∃ Join3 : Bool, r1 = .tuple #[.int .u32 Join2, .bool Join3] ∧
  CallsH Try.prog 15 [.pointer (some ⟨p0mb, p0mo, none⟩), .int .i64 p1root, .int .u32 Join2, .int .i64 0] h2 fun r4 h3 => ∃ Walk5 : Int, ∃ Walk6 : Int, ∃ Walk7 : Int, ∃ Walk8 : Bool, ∃ Walk9 : Bool, ∃ Walk10 : Bool, r4 = .agg #[.int .i64 Walk5, .int .i64 Walk6, .int .i64 Walk7, .bool Walk8, .bool Walk9, .bool Walk10] ∧
  ∀ h4 : Hp, h4 = new h3 (blk 40 [.int .i64 0, .int .i64 0, .int .i64 0, .bool false, .bool false, .bool false]) → truly true ∧ ∃ T11 : TypeId, ∃ l12 : List Value, bk h4 (sz h3) = some (blk T11 l12) ∧
  0 + 6 ≤ l12.length ∧ ∀ h5 : Hp, h5 = upd h4 (sz h3) T11 (writeAt l12 0 [.int .i64 Walk5, .int .i64 Walk6, .int .i64 Walk7, .bool Walk8, .bool Walk9, .bool Walk10]) → ∃ I13 : Hp → Prop, (((!Join3) = true →
  (truly true ∧ ∃ T14 : TypeId, ∃ l15 : List Value, bk h5 (sz h) = some (blk T14 l15) ∧ 0 + 5 ≤ l15.length ∧ ∀ h6 : Hp, h6 = upd h5 (sz h) T14 (writeAt l15 0 [.bool false, .bool false, .bool false, .bool false, .int .i64 0]) →
  ∃ res16 : Bool, cellAt h6 (sz h) (0 + 0) = some (.bool res16) ∧ ∃ res17 : Bool, cellAt h6 (sz h) (0 + 1) = some (.bool res17) ∧ ∃ res18 : Bool, cellAt h6 (sz h) (0 + 2) = some (.bool res18) ∧ ∃ res19 : Bool, cellAt h6 (sz h) (0 + 3) = some (.bool res19) ∧
  ∃ res20 : Int, cellAt h6 (sz h) (0 + 4) = some (.int .i64 res20) ∧ R (.tuple #[.agg #[.bool res16, .bool res17, .bool res18, .bool res19, .int .i64 res20], .bool false]) h6)) ∧ ((!Join3) = false → (∃ Fault21 : Int, cellAt h5 (sz h3) 0 = some (.int .i64 Fault21) ∧
  ((Fault21 != 0) = true → (truly true ∧ ∃ T22 : TypeId, ∃ l23 : List Value, bk h5 (sz h) = some (blk T22 l23) ∧ 0 + 5 ≤ l23.length ∧ ∀ h7 : Hp, h7 = upd h5 (sz h) T22 (writeAt l23 0 [.bool false, .bool false, .bool false, .bool false, .int .i64 0]) →
  ∃ res24 : Bool, cellAt h7 (sz h) (0 + 0) = some (.bool res24) ∧ ∃ res25 : Bool, cellAt h7 (sz h) (0 + 1) = some (.bool res25) ∧ ∃ res26 : Bool, cellAt h7 (sz h) (0 + 2) = some (.bool res26) ∧ ∃ res27 : Bool, cellAt h7 (sz h) (0 + 3) = some (.bool res27) ∧
  ∃ res28 : Int, cellAt h7 (sz h) (0 + 4) = some (.int .i64 res28) ∧ R (.tuple #[.agg #[.bool res24, .bool res25, .bool res26, .bool res27, .int .i64 res28], .bool false]) h7)) ∧ ((Fault21 != 0) = false →
  (I13 h5))))) ∧ ∀ h8 : Hp, I13 h8 → ∃ Write29 : Bool, cellAt h8 (sz h3) 3 = some (.bool Write29) ∧ ∃ Exec30 : Bool, cellAt h8 (sz h3) 4 = some (.bool Exec30) ∧ ∃ Block31 : Bool, cellAt h8 (sz h3) 5 = some (.bool Block31) ∧
  ∃ Frame32 : Int, cellAt h8 (sz h3) 2 = some (.int .i64 Frame32) ∧ truly true ∧ ∃ T33 : TypeId, ∃ l34 : List Value, bk h8 (sz h) = some (blk T33 l34) ∧ 0 + 5 ≤ l34.length ∧ ∀ h9 : Hp, h9 = upd h8 (sz h) T33 (writeAt l34 0 [.bool true, .bool Write29, .bool Exec30, .bool Block31, .int .i64 Frame32]) →
  ∃ res35 : Bool, cellAt h9 (sz h) (0 + 0) = some (.bool res35) ∧ ∃ res36 : Bool, cellAt h9 (sz h) (0 + 1) = some (.bool res36) ∧ ∃ res37 : Bool, cellAt h9 (sz h) (0 + 2) = some (.bool res37) ∧ ∃ res38 : Bool, cellAt h9 (sz h) (0 + 3) = some (.bool res38) ∧
  ∃ res39 : Int, cellAt h9 (sz h) (0 + 4) = some (.int .i64 res39) ∧ R (.tuple #[.agg #[.bool res35, .bool res36, .bool res37, .bool res38, .int .i64 res39], .bool true]) h9
theorem walk_Look.eq (p0mb p0mo : Nat) (p1root : Int) (p2page : Int) (h : Hp) (R : Value → Hp → Prop) : evBody Try.prog calls walk_Look.hints Try.f71 [.ptr p0mb p0mo, .int .i64 p1root, .int .i64 p2page] h R = walk_Look.P p0mb p0mo p1root p2page h R := by kernel_rfl
theorem walk_Look.calls (p0mb p0mo : Nat) (p1root : Int) (p2page : Int) (h : Hp) (R : Value → Hp → Prop) (hp : walk_Look.P p0mb p0mo p1root p2page h R) : CallsH Try.prog 71 [.pointer (some ⟨p0mb, p0mo, none⟩), .int .i64 p1root, .int .i64 p2page] h R :=
  calls_of_body calls_ok Try.func71 (args := [.ptr p0mb p0mo, .int .i64 p1root, .int .i64 p2page]) (by rw [walk_Look.eq]; exact hp)
/-! ### stage_Space_Split_1: function 72 -/
def stage_Space_Split_1.hints : Hints := { loops := [], cuts := [], orders := [] }
def stage_Space_Split_1.P (v0cb v0co : Nat) (v1cb v1co : Nat) (h : Hp) (R X : Value → Hp → Prop) : Prop :=
  ∃ x1 : Int, cellAt h v0cb v0co = some (.int .i64 x1) ∧ CallsH Try.prog 73 [.int .i64 x1] h fun r2 h1 => ∃ index3 : Bool, r2 = .bool index3 ∧ CallsX Try.prog 50 [.bool index3, .int .i64 11] h1 (fun r4 h2 => r4 = .tuple #[] ∧
  ∃ x6 : Option Addr, cellAt h2 v1cb v1co = some (.pointer x6) ∧ ∃ x7 : Int, cellAt h2 v0cb v0co = some (.int .i64 x7) ∧ CallsH Try.prog 53 [.pointer x6, .int .i64 x7] h2 fun r8 h4 => ∃ first9 : Int, ∃ first10 : Bool, ∃ first11 : Bool, ∃ first12 : Bool, ∃ first13 : Bool, ∃ first14 : Int, r8 = .tuple #[.int .u32 first9, .agg #[.bool first10, .bool first11, .bool first12, .bool first13, .int .i64 first14]] ∧
  ∀ h5 : Hp, h5 = new h4 (blk 54 [.bool false, .bool false, .bool false, .bool false, .int .i64 0]) → truly true ∧ ∃ T15 : TypeId, ∃ l16 : List Value, bk h5 (sz h4) = some (blk T15 l16) ∧ 0 + 5 ≤ l16.length ∧
  ∀ h6 : Hp, h6 = upd h5 (sz h4) T15 (writeAt l16 0 [.bool first10, .bool first11, .bool first12, .bool first13, .int .i64 first14]) → ∃ Block17 : Bool, cellAt h6 (sz h4) 3 = some (.bool Block17) ∧ CallsX Try.prog 50 [.bool Block17, .int .i64 12] h6 (fun r18 h7 => r18 = .tuple #[] ∧
  ∃ x20 : Option Addr, cellAt h7 v1cb v1co = some (.pointer x20) ∧ ∃ x21 : Int, cellAt h7 v0cb v0co = some (.int .i64 x21) ∧ CallsX Try.prog 74 [.pointer x20, .int .i64 x21] h7 (fun r22 h9 => r22 = .tuple #[] ∧
  R (.tuple #[]) h9) (fun px23 h10 => X (px23) h10)) (fun px19 h8 => X (px19) h8)) (fun px5 h3 => X (px5) h3)
theorem stage_Space_Split_1.eq (v0cb v0co : Nat) (v1cb v1co : Nat) (h : Hp) (R X : Value → Hp → Prop) : evBodyX Try.prog calls stage_Space_Split_1.hints Try.f72 [.ptr v0cb v0co, .ptr v1cb v1co] h R X = stage_Space_Split_1.P v0cb v0co v1cb v1co h R X := by kernel_rfl
theorem stage_Space_Split_1.calls (v0cb v0co : Nat) (v1cb v1co : Nat) (h : Hp) (R X : Value → Hp → Prop) (hp : stage_Space_Split_1.P v0cb v0co v1cb v1co h R X) : CallsX Try.prog 72 [.pointer (some ⟨v0cb, v0co, none⟩), .pointer (some ⟨v1cb, v1co, none⟩)] h R X :=
  callsX_of_body calls_ok Try.func72 (args := [.ptr v0cb v0co, .ptr v1cb v1co]) (by rw [stage_Space_Split_1.eq]; exact hp)
/-! ### stage_index: function 73 -/
def stage_index.hints : Hints := { loops := [], cuts := [], orders := [] }
def stage_index.P (p0n : Int) (h : Hp) (R : Value → Hp → Prop) : Prop :=
  ((decide (p0n ≥ 0)) = true → (R (.bool (decide (p0n < 64))) h)) ∧ ((decide (p0n ≥ 0)) = false → (R (.bool false) h))
theorem stage_index.eq (p0n : Int) (h : Hp) (R : Value → Hp → Prop) : evBody Try.prog calls stage_index.hints Try.f73 [.int .i64 p0n] h R = stage_index.P p0n h R := by kernel_rfl
theorem stage_index.calls (p0n : Int) (h : Hp) (R : Value → Hp → Prop) (hp : stage_index.P p0n h R) : CallsH Try.prog 73 [.int .i64 p0n] h R :=
  calls_of_body calls_ok Try.func73 (args := [.int .i64 p0n]) (by rw [stage_index.eq]; exact hp)
/-! ### stage_Space_split: function 74 -/
def stage_Space_split.hints : Hints := { loops := [(3, [0, 4, 5, 6], [(18, (.one (.int .i64)))])], cuts := [], orders := [] }
def stage_Space_split.P (p0sb p0so : Nat) (p1index : Int) (h : Hp) (R X : Value → Hp → Prop) : Prop :=
  CallsH Try.prog 53 [.pointer (some ⟨p0sb, p0so, none⟩), .int .i64 p1index] h fun r1 h1 => ∃ first2 : Int, ∃ first3 : Bool, ∃ first4 : Bool, ∃ first5 : Bool, ∃ first6 : Bool, ∃ first7 : Int, r1 = .tuple #[.int .u32 first2, .agg #[.bool first3, .bool first4, .bool first5, .bool first6, .int .i64 first7]] ∧
  ∀ h2 : Hp, h2 = new h1 (blk 54 [.bool false, .bool false, .bool false, .bool false, .int .i64 0]) → truly true ∧ ∃ T8 : TypeId, ∃ l9 : List Value, bk h2 (sz h1) = some (blk T8 l9) ∧ 0 + 5 ≤ l9.length ∧
  ∀ h3 : Hp, h3 = upd h2 (sz h1) T8 (writeAt l9 0 [.bool first3, .bool first4, .bool first5, .bool first6, .int .i64 first7]) → CallsX Try.prog 54 [.pointer (some ⟨p0sb, p0so, none⟩)] h3 (fun r10 h4 => ∃ table12 : Int, r10 = .int .i64 table12 ∧
  ∃ I13 : Int → Hp → Prop, ∃ m14 : Int → Hp → Nat, I13 0 h4 ∧ ∀ x15 : Int, ∀ h6 : Hp, I13 x15 h6 → ((decide (x15 < 64)) = true → (∃ Write16 : Bool, cellAt h6 (sz h1) 1 = some (.bool Write16) ∧ ∃ Exec17 : Bool, cellAt h6 (sz h1) 2 = some (.bool Exec17) ∧
  ∃ Frame18 : Int, cellAt h6 (sz h1) 4 = some (.int .i64 Frame18) ∧ CallsH Try.prog 97 [.agg #[.bool true, .bool Write16, .bool Exec17, .bool false, .int .i64 (IntKind.wrap .i64 (Frame18 + x15))]] h6 fun r19 h7 => ∃ Encode20 : Int, ∃ Encode21 : Bool, r19 = .tuple #[.int .u32 Encode20, .bool Encode21] ∧
  CallsH Try.prog 56 [.int .i64 table12, .int .i64 x15] h7 fun r22 h8 => ∃ atx23 : Int, r22 = .int .u32 atx23 ∧ CallsH Try.prog 98 [.pointer (some ⟨p0sb, p0so, none⟩), .int .u32 atx23, .int .u32 Encode20] h8 fun r24 h9 => r24 = .tuple #[] ∧
  I13 (IntKind.wrap .i64 (x15 + 1)) h9 ∧ m14 (IntKind.wrap .i64 (x15 + 1)) h9 < m14 x15 h6)) ∧ ((decide (x15 < 64)) = false → (CallsH Try.prog 55 [.pointer (some ⟨p0sb, p0so, none⟩), .int .u32 first2, .agg #[.bool true, .bool false, .bool false, .bool false, .int .i64 table12]] h6 fun r25 h10 => r25 = .tuple #[] ∧
  R (.tuple #[]) h10))) (fun px11 h5 => X (px11) h5)
theorem stage_Space_split.eq (p0sb p0so : Nat) (p1index : Int) (h : Hp) (R X : Value → Hp → Prop) : evBodyX Try.prog calls stage_Space_split.hints Try.f74 [.ptr p0sb p0so, .int .i64 p1index] h R X = stage_Space_split.P p0sb p0so p1index h R X := by kernel_rfl
theorem stage_Space_split.calls (p0sb p0so : Nat) (p1index : Int) (h : Hp) (R X : Value → Hp → Prop) (hp : stage_Space_split.P p0sb p0so p1index h R X) : CallsX Try.prog 74 [.pointer (some ⟨p0sb, p0so, none⟩), .int .i64 p1index] h R X :=
  callsX_of_body calls_ok Try.func74 (args := [.ptr p0sb p0so, .int .i64 p1index]) (by rw [stage_Space_split.eq]; exact hp)
/-! ### stage_Space_Merge_1: function 75 -/
def stage_Space_Merge_1.hints : Hints := { loops := [], cuts := [(3, [1, 2, 3], [])], orders := [(6, [0, 1, 3, 7, 0, 16, 63], (.leaf [0, 1, 2, 3, 4, 5, 6]))] }
def stage_Space_Merge_1.P (v0cb v0co : Nat) (v1cb v1co : Nat) (h : Hp) (R X : Value → Hp → Prop) : Prop :=
  ∃ x1 : Int, cellAt h v0cb v0co = some (.int .i64 x1) ∧ CallsH Try.prog 73 [.int .i64 x1] h fun r2 h1 => ∃ index3 : Bool, r2 = .bool index3 ∧ CallsX Try.prog 50 [.bool index3, .int .i64 11] h1 (fun r4 h2 => r4 = .tuple #[] ∧
  ∃ x6 : Option Addr, cellAt h2 v1cb v1co = some (.pointer x6) ∧ ∃ x7 : Int, cellAt h2 v0cb v0co = some (.int .i64 x7) ∧ CallsH Try.prog 53 [.pointer x6, .int .i64 x7] h2 fun r8 h4 => ∃ first9 : Int, ∃ first10 : Bool, ∃ first11 : Bool, ∃ first12 : Bool, ∃ first13 : Bool, ∃ first14 : Int, r8 = .tuple #[.int .u32 first9, .agg #[.bool first10, .bool first11, .bool first12, .bool first13, .int .i64 first14]] ∧
  ∀ h5 : Hp, h5 = new h4 (blk 54 [.bool false, .bool false, .bool false, .bool false, .int .i64 0]) → truly true ∧ ∃ T15 : TypeId, ∃ l16 : List Value, bk h5 (sz h4) = some (blk T15 l16) ∧ 0 + 5 ≤ l16.length ∧
  ∀ h6 : Hp, h6 = upd h5 (sz h4) T15 (writeAt l16 0 [.bool first10, .bool first11, .bool first12, .bool first13, .int .i64 first14]) → ∃ I17 : Hp → Prop, (∃ Valid18 : Bool, cellAt h6 (sz h4) 0 = some (.bool Valid18) ∧
  ((Valid18) = true → (∃ Block19 : Bool, cellAt h6 (sz h4) 3 = some (.bool Block19) ∧ CallsX Try.prog 50 [.bool (!Block19), .int .i64 12] h6 (fun r20 h7 => r20 = .tuple #[] ∧ I17 h7) (fun px21 h8 => X (px21) h8))) ∧
  ((Valid18) = false → (CallsX Try.prog 50 [.bool false, .int .i64 12] h6 (fun r22 h9 => r22 = .tuple #[] ∧ I17 h9) (fun px23 h10 => X (px23) h10)))) ∧ ∀ h11 : Hp, I17 h11 → ∃ x24 : Option Addr, cellAt h11 v1cb v1co = some (.pointer x24) ∧
  ∃ Frame25 : Int, cellAt h11 (sz h4) 4 = some (.int .i64 Frame25) ∧ CallsH Try.prog 76 [.pointer x24, .int .i64 Frame25] h11 fun r26 h12 => ∃ whole27 : Bool, ∃ whole28 : Bool, ∃ whole29 : Bool, ∃ whole30 : Bool, ∃ whole31 : Int, ∃ whole32 : Bool, r26 = .tuple #[.agg #[.bool whole27, .bool whole28, .bool whole29, .bool whole30, .int .i64 whole31], .bool whole32] ∧
  ∀ h13 : Hp, h13 = new h12 (blk 54 [.bool false, .bool false, .bool false, .bool false, .int .i64 0]) → truly true ∧ ∃ T33 : TypeId, ∃ l34 : List Value, bk h13 (sz h12) = some (blk T33 l34) ∧ 0 + 5 ≤ l34.length ∧
  ∀ h14 : Hp, h14 = upd h13 (sz h12) T33 (writeAt l34 0 [.bool whole27, .bool whole28, .bool whole29, .bool whole30, .int .i64 whole31]) → CallsX Try.prog 50 [.bool whole32, .int .i64 20] h14 (fun r35 h15 => r35 = .tuple #[] ∧
  ∃ x37 : Option Addr, cellAt h15 v1cb v1co = some (.pointer x37) ∧ ∃ x38 : Bool, cellAt h15 (sz h12) (0 + 0) = some (.bool x38) ∧ ∃ x39 : Bool, cellAt h15 (sz h12) (0 + 1) = some (.bool x39) ∧ ∃ x40 : Bool, cellAt h15 (sz h12) (0 + 2) = some (.bool x40) ∧
  ∃ x41 : Bool, cellAt h15 (sz h12) (0 + 3) = some (.bool x41) ∧ ∃ x42 : Int, cellAt h15 (sz h12) (0 + 4) = some (.int .i64 x42) ∧ CallsH Try.prog 55 [.pointer x37, .int .u32 first9, .agg #[.bool x38, .bool x39, .bool x40, .bool x41, .int .i64 x42]] h15 fun r43 h17 => r43 = .tuple #[] ∧
  ∃ x44 : Option Addr, cellAt h17 v1cb v1co = some (.pointer x44) ∧ ∃ b45 : Nat, ∃ o46 : Nat, x44 = some ⟨b45, o46, none⟩ ∧ ∃ frames47 : Option Addr, cellAt h17 b45 (o46 + 1) = some (.pointer frames47) ∧
  ∃ Frame48 : Int, cellAt h17 (sz h4) 4 = some (.int .i64 Frame48) ∧ CallsH Try.prog 46 [.pointer frames47, .int .i64 1, .int .i64 Frame48] h17 fun r49 h18 => ∃ Give50 : Int, r49 = .int .i64 Give50 ∧ R (.tuple #[]) h18) (fun px36 h16 => X (px36) h16)) (fun px5 h3 => X (px5) h3)
theorem stage_Space_Merge_1.eq (v0cb v0co : Nat) (v1cb v1co : Nat) (h : Hp) (R X : Value → Hp → Prop) : evBodyX Try.prog calls stage_Space_Merge_1.hints Try.f75 [.ptr v0cb v0co, .ptr v1cb v1co] h R X = stage_Space_Merge_1.P v0cb v0co v1cb v1co h R X := by kernel_rfl
theorem stage_Space_Merge_1.calls (v0cb v0co : Nat) (v1cb v1co : Nat) (h : Hp) (R X : Value → Hp → Prop) (hp : stage_Space_Merge_1.P v0cb v0co v1cb v1co h R X) : CallsX Try.prog 75 [.pointer (some ⟨v0cb, v0co, none⟩), .pointer (some ⟨v1cb, v1co, none⟩)] h R X :=
  callsX_of_body calls_ok Try.func75 (args := [.ptr v0cb v0co, .ptr v1cb v1co]) (by rw [stage_Space_Merge_1.eq]; exact hp)
/-! ### stage_Space_whole: function 76 -/
def stage_Space_whole.hints : Hints := { loops := [(3, [0, 1, 4, 6], [(13, (.one (.int .i64)))])], cuts := [], orders := [(11, [0, 0, 2, 6, 14, 1, 63], (.leaf [0, 1, 2, 3, 4, 5, 6]))] }
def stage_Space_whole.P (p0sb p0so : Nat) (p1table : Int) (h : Hp) (R : Value → Hp → Prop) : Prop :=
  ∀ h1 : Hp, h1 = new h (blk 54 [.bool false, .bool false, .bool false, .bool false, .int .i64 0]) → CallsH Try.prog 56 [.int .i64 p1table, .int .i64 0] h1 fun r1 h2 => ∃ atx2 : Int, r1 = .int .u32 atx2 ∧
  CallsH Try.prog 78 [.pointer (some ⟨p0sb, p0so, none⟩), .int .u32 atx2] h2 fun r3 h3 => ∃ read4 : Bool, ∃ read5 : Bool, ∃ read6 : Bool, ∃ read7 : Bool, ∃ read8 : Int, r3 = .agg #[.bool read4, .bool read5, .bool read6, .bool read7, .int .i64 read8] ∧
  ∀ h4 : Hp, h4 = new h3 (blk 54 [.bool false, .bool false, .bool false, .bool false, .int .i64 0]) → truly true ∧ ∃ T9 : TypeId, ∃ l10 : List Value, bk h4 (sz h3) = some (blk T9 l10) ∧ 0 + 5 ≤ l10.length ∧
  ∀ h5 : Hp, h5 = upd h4 (sz h3) T9 (writeAt l10 0 [.bool read4, .bool read5, .bool read6, .bool read7, .int .i64 read8]) → ∃ I11 : Int → Hp → Prop, ∃ m12 : Int → Hp → Nat, I11 0 h5 ∧ ∀ x13 : Int, ∀ h6 : Hp, I11 x13 h6 →
  ((decide (x13 < 64)) = true → (CallsH Try.prog 56 [.int .i64 p1table, .int .i64 x13] h6 fun r14 h7 => ∃ atx15 : Int, r14 = .int .u32 atx15 ∧ CallsH Try.prog 78 [.pointer (some ⟨p0sb, p0so, none⟩), .int .u32 atx15] h7 fun r16 h8 => ∃ read17 : Bool, ∃ read18 : Bool, ∃ read19 : Bool, ∃ read20 : Bool, ∃ read21 : Int, r16 = .agg #[.bool read17, .bool read18, .bool read19, .bool read20, .int .i64 read21] ∧
  ∀ h9 : Hp, h9 = new h8 (blk 54 [.bool false, .bool false, .bool false, .bool false, .int .i64 0]) → truly true ∧ ∃ T22 : TypeId, ∃ l23 : List Value, bk h9 (sz h8) = some (blk T22 l23) ∧ 0 + 5 ≤ l23.length ∧
  ∀ h10 : Hp, h10 = upd h9 (sz h8) T22 (writeAt l23 0 [.bool read17, .bool read18, .bool read19, .bool read20, .int .i64 read21]) → ∃ Frame24 : Int, cellAt h10 (sz h8) 4 = some (.int .i64 Frame24) ∧ truly true ∧
  ∃ T25 : TypeId, ∃ l26 : List Value, bk h10 (sz h8) = some (blk T25 l26) ∧ 4 + 1 ≤ l26.length ∧ ∀ h11 : Hp, h11 = upd h10 (sz h8) T25 (writeAt l26 4 [.int .i64 (IntKind.wrap .i64 (Frame24 - x13))]) →
  ∃ Valid27 : Bool, cellAt h11 (sz h8) 0 = some (.bool Valid27) ∧ ((!Valid27) = true → (truly true ∧ ∃ T28 : TypeId, ∃ l29 : List Value, bk h11 (sz h) = some (blk T28 l29) ∧ 0 + 5 ≤ l29.length ∧ ∀ h12 : Hp, h12 = upd h11 (sz h) T28 (writeAt l29 0 [.bool false, .bool false, .bool false, .bool false, .int .i64 0]) →
  ∃ res30 : Bool, cellAt h12 (sz h) (0 + 0) = some (.bool res30) ∧ ∃ res31 : Bool, cellAt h12 (sz h) (0 + 1) = some (.bool res31) ∧ ∃ res32 : Bool, cellAt h12 (sz h) (0 + 2) = some (.bool res32) ∧ ∃ res33 : Bool, cellAt h12 (sz h) (0 + 3) = some (.bool res33) ∧
  ∃ res34 : Int, cellAt h12 (sz h) (0 + 4) = some (.int .i64 res34) ∧ R (.tuple #[.agg #[.bool res30, .bool res31, .bool res32, .bool res33, .int .i64 res34], .bool false]) h12)) ∧ ((!Valid27) = false →
  (∃ x35 : Bool, cellAt h11 (sz h8) (0 + 0) = some (.bool x35) ∧ ∃ x36 : Bool, cellAt h11 (sz h8) (0 + 1) = some (.bool x36) ∧ ∃ x37 : Bool, cellAt h11 (sz h8) (0 + 2) = some (.bool x37) ∧ ∃ x38 : Bool, cellAt h11 (sz h8) (0 + 3) = some (.bool x38) ∧
  ∃ x39 : Int, cellAt h11 (sz h8) (0 + 4) = some (.int .i64 x39) ∧ ∃ x40 : Bool, cellAt h11 (sz h3) (0 + 0) = some (.bool x40) ∧ ∃ x41 : Bool, cellAt h11 (sz h3) (0 + 1) = some (.bool x41) ∧ ∃ x42 : Bool, cellAt h11 (sz h3) (0 + 2) = some (.bool x42) ∧
  ∃ x43 : Bool, cellAt h11 (sz h3) (0 + 3) = some (.bool x43) ∧ ∃ x44 : Int, cellAt h11 (sz h3) (0 + 4) = some (.int .i64 x44) ∧ ((notIf false (((x35 : Bool) == x40) && (((x36 : Bool) == x41) && (((x37 : Bool) == x42) && (((x38 : Bool) == x43) && ((x39 == x44) && true)))))) = true →
  (truly true ∧ ∃ T45 : TypeId, ∃ l46 : List Value, bk h11 (sz h) = some (blk T45 l46) ∧ 0 + 5 ≤ l46.length ∧ ∀ h13 : Hp, h13 = upd h11 (sz h) T45 (writeAt l46 0 [.bool false, .bool false, .bool false, .bool false, .int .i64 0]) →
  ∃ res47 : Bool, cellAt h13 (sz h) (0 + 0) = some (.bool res47) ∧ ∃ res48 : Bool, cellAt h13 (sz h) (0 + 1) = some (.bool res48) ∧ ∃ res49 : Bool, cellAt h13 (sz h) (0 + 2) = some (.bool res49) ∧ ∃ res50 : Bool, cellAt h13 (sz h) (0 + 3) = some (.bool res50) ∧
  ∃ res51 : Int, cellAt h13 (sz h) (0 + 4) = some (.int .i64 res51) ∧ R (.tuple #[.agg #[.bool res47, .bool res48, .bool res49, .bool res50, .int .i64 res51], .bool false]) h13)) ∧ ((notIf false (((x35 : Bool) == x40) && (((x36 : Bool) == x41) && (((x37 : Bool) == x42) && (((x38 : Bool) == x43) && ((x39 == x44) && true)))))) = false →
  (I11 (IntKind.wrap .i64 (x13 + 1)) h11 ∧ m12 (IntKind.wrap .i64 (x13 + 1)) h11 < m12 x13 h6)))))) ∧ ((decide (x13 < 64)) = false → (truly true ∧ ∃ T52 : TypeId, ∃ l53 : List Value, bk h6 (sz h3) = some (blk T52 l53) ∧
  3 + 1 ≤ l53.length ∧ ∀ h14 : Hp, h14 = upd h6 (sz h3) T52 (writeAt l53 3 [.bool true]) → ∃ x54 : Bool, cellAt h14 (sz h3) (0 + 0) = some (.bool x54) ∧ ∃ x55 : Bool, cellAt h14 (sz h3) (0 + 1) = some (.bool x55) ∧
  ∃ x56 : Bool, cellAt h14 (sz h3) (0 + 2) = some (.bool x56) ∧ ∃ x57 : Bool, cellAt h14 (sz h3) (0 + 3) = some (.bool x57) ∧ ∃ x58 : Int, cellAt h14 (sz h3) (0 + 4) = some (.int .i64 x58) ∧ ∃ Frame59 : Int, cellAt h14 (sz h3) 4 = some (.int .i64 Frame59) ∧
  64 ≠ (0 : Int) ∧ truly true ∧ ∃ T60 : TypeId, ∃ l61 : List Value, bk h14 (sz h) = some (blk T60 l61) ∧ 0 + 5 ≤ l61.length ∧ ∀ h15 : Hp, h15 = upd h14 (sz h) T60 (writeAt l61 0 [.bool x54, .bool x55, .bool x56, .bool x57, .int .i64 x58]) →
  cellAt h15 (sz h3) 4 = some (.int .i64 Frame59) ∧ ∃ res62 : Bool, cellAt h15 (sz h) (0 + 0) = some (.bool res62) ∧ ∃ res63 : Bool, cellAt h15 (sz h) (0 + 1) = some (.bool res63) ∧ ∃ res64 : Bool, cellAt h15 (sz h) (0 + 2) = some (.bool res64) ∧
  ∃ res65 : Bool, cellAt h15 (sz h) (0 + 3) = some (.bool res65) ∧ ∃ res66 : Int, cellAt h15 (sz h) (0 + 4) = some (.int .i64 res66) ∧ R (.tuple #[.agg #[.bool res62, .bool res63, .bool res64, .bool res65, .int .i64 res66], .bool ((Int.tmod Frame59 64) == 0)]) h15))
theorem stage_Space_whole.eq (p0sb p0so : Nat) (p1table : Int) (h : Hp) (R : Value → Hp → Prop) : evBody Try.prog calls stage_Space_whole.hints Try.f76 [.ptr p0sb p0so, .int .i64 p1table] h R = stage_Space_whole.P p0sb p0so p1table h R := by kernel_rfl
theorem stage_Space_whole.calls (p0sb p0so : Nat) (p1table : Int) (h : Hp) (R : Value → Hp → Prop) (hp : stage_Space_whole.P p0sb p0so p1table h R) : CallsH Try.prog 76 [.pointer (some ⟨p0sb, p0so, none⟩), .int .i64 p1table] h R :=
  calls_of_body calls_ok Try.func76 (args := [.ptr p0sb p0so, .int .i64 p1table]) (by rw [stage_Space_whole.eq]; exact hp)
/-! ### stage_Space_Protect_1: function 77 -/
def stage_Space_Protect_1.hints : Hints := { loops := [], cuts := [], orders := [(2, [0, 0, 1, 5, 15, 31], (.leaf [0, 1, 2, 3, 4, 5]))] }
def stage_Space_Protect_1.P (v0cb v0co : Nat) (v1cb v1co : Nat) (v2cb v2co : Nat) (v3cb v3co : Nat) (h : Hp) (R X : Value → Hp → Prop) : Prop :=
  ∃ x1 : Option Addr, cellAt h v0cb v0co = some (.pointer x1) ∧ ∃ x2 : Int, cellAt h v1cb v1co = some (.int .i64 x2) ∧ CallsX Try.prog 61 [.pointer x1, .int .i64 x2] h (fun r3 h1 => ∃ inner5 : Int, r3 = .int .u32 inner5 ∧
  ∃ x6 : Option Addr, cellAt h1 v0cb v0co = some (.pointer x6) ∧ CallsH Try.prog 78 [.pointer x6, .int .u32 inner5] h1 fun r7 h3 => ∃ read8 : Bool, ∃ read9 : Bool, ∃ read10 : Bool, ∃ read11 : Bool, ∃ read12 : Int, r7 = .agg #[.bool read8, .bool read9, .bool read10, .bool read11, .int .i64 read12] ∧
  ∀ h4 : Hp, h4 = new h3 (blk 54 [.bool false, .bool false, .bool false, .bool false, .int .i64 0]) → truly true ∧ ∃ T13 : TypeId, ∃ l14 : List Value, bk h4 (sz h3) = some (blk T13 l14) ∧ 0 + 5 ≤ l14.length ∧
  ∀ h5 : Hp, h5 = upd h4 (sz h3) T13 (writeAt l14 0 [.bool read8, .bool read9, .bool read10, .bool read11, .int .i64 read12]) → ∃ x15 : Bool, cellAt h5 v2cb v2co = some (.bool x15) ∧ ∃ x16 : Bool, cellAt h5 v3cb v3co = some (.bool x16) ∧
  truly true ∧ ∃ T17 : TypeId, ∃ l18 : List Value, bk h5 (sz h3) = some (blk T17 l18) ∧ 1 + 1 ≤ l18.length ∧ ∀ h6 : Hp, h6 = upd h5 (sz h3) T17 (writeAt l18 1 [.bool x15]) → cellAt h6 v3cb v3co = some (.bool x16) ∧
  truly true ∧ ∃ T19 : TypeId, ∃ l20 : List Value, bk h6 (sz h3) = some (blk T19 l20) ∧ 2 + 1 ≤ l20.length ∧ ∀ h7 : Hp, h7 = upd h6 (sz h3) T19 (writeAt l20 2 [.bool x16]) → ∃ x21 : Option Addr, cellAt h7 v0cb v0co = some (.pointer x21) ∧
  ∃ x22 : Bool, cellAt h7 (sz h3) (0 + 0) = some (.bool x22) ∧ ∃ x23 : Bool, cellAt h7 (sz h3) (0 + 1) = some (.bool x23) ∧ ∃ x24 : Bool, cellAt h7 (sz h3) (0 + 2) = some (.bool x24) ∧ ∃ x25 : Bool, cellAt h7 (sz h3) (0 + 3) = some (.bool x25) ∧
  ∃ x26 : Int, cellAt h7 (sz h3) (0 + 4) = some (.int .i64 x26) ∧ CallsH Try.prog 55 [.pointer x21, .int .u32 inner5, .agg #[.bool x22, .bool x23, .bool x24, .bool x25, .int .i64 x26]] h7 fun r27 h8 => r27 = .tuple #[] ∧
  R (.tuple #[]) h8) (fun px4 h2 => X (px4) h2)
theorem stage_Space_Protect_1.eq (v0cb v0co : Nat) (v1cb v1co : Nat) (v2cb v2co : Nat) (v3cb v3co : Nat) (h : Hp) (R X : Value → Hp → Prop) : evBodyX Try.prog calls stage_Space_Protect_1.hints Try.f77 [.ptr v0cb v0co, .ptr v1cb v1co, .ptr v2cb v2co, .ptr v3cb v3co] h R X = stage_Space_Protect_1.P v0cb v0co v1cb v1co v2cb v2co v3cb v3co h R X := by kernel_rfl
theorem stage_Space_Protect_1.calls (v0cb v0co : Nat) (v1cb v1co : Nat) (v2cb v2co : Nat) (v3cb v3co : Nat) (h : Hp) (R X : Value → Hp → Prop) (hp : stage_Space_Protect_1.P v0cb v0co v1cb v1co v2cb v2co v3cb v3co h R X) : CallsX Try.prog 77 [.pointer (some ⟨v0cb, v0co, none⟩), .pointer (some ⟨v1cb, v1co, none⟩), .pointer (some ⟨v2cb, v2co, none⟩), .pointer (some ⟨v3cb, v3co, none⟩)] h R X :=
  callsX_of_body calls_ok Try.func77 (args := [.ptr v0cb v0co, .ptr v1cb v1co, .ptr v2cb v2co, .ptr v3cb v3co]) (by rw [stage_Space_Protect_1.eq]; exact hp)
/-! ### stage_Space_read: function 78 -/
def stage_Space_read.hints : Hints := { loops := [], cuts := [], orders := [] }
def stage_Space_read.P (p0sb p0so : Nat) (p1addr : Int) (h : Hp) (R : Value → Hp → Prop) : Prop :=
  ∀ h1 : Hp, h1 = new h (blk 54 [.bool false, .bool false, .bool false, .bool false, .int .i64 0]) → ∃ mem1 : Option Addr, cellAt h1 p0sb p0so = some (.pointer mem1) ∧ CallsH Try.prog 85 [.pointer mem1, .int .u32 p1addr] h1 fun r2 h2 => ∃ Word3 : Int, ∃ Word4 : Bool, r2 = .tuple #[.int .u32 Word3, .bool Word4] ∧
  CallsH Try.prog 86 [.int .u32 Word3] h2 fun r5 h3 => ∃ Decode6 : Bool, ∃ Decode7 : Bool, ∃ Decode8 : Bool, ∃ Decode9 : Bool, ∃ Decode10 : Int, r5 = .agg #[.bool Decode6, .bool Decode7, .bool Decode8, .bool Decode9, .int .i64 Decode10] ∧
  truly true ∧ ∃ T11 : TypeId, ∃ l12 : List Value, bk h3 (sz h) = some (blk T11 l12) ∧ 0 + 5 ≤ l12.length ∧ ∀ h4 : Hp, h4 = upd h3 (sz h) T11 (writeAt l12 0 [.bool Decode6, .bool Decode7, .bool Decode8, .bool Decode9, .int .i64 Decode10]) →
  ∃ res13 : Bool, cellAt h4 (sz h) (0 + 0) = some (.bool res13) ∧ ∃ res14 : Bool, cellAt h4 (sz h) (0 + 1) = some (.bool res14) ∧ ∃ res15 : Bool, cellAt h4 (sz h) (0 + 2) = some (.bool res15) ∧ ∃ res16 : Bool, cellAt h4 (sz h) (0 + 3) = some (.bool res16) ∧
  ∃ res17 : Int, cellAt h4 (sz h) (0 + 4) = some (.int .i64 res17) ∧ R (.agg #[.bool res13, .bool res14, .bool res15, .bool res16, .int .i64 res17]) h4
theorem stage_Space_read.eq (p0sb p0so : Nat) (p1addr : Int) (h : Hp) (R : Value → Hp → Prop) : evBody Try.prog calls stage_Space_read.hints Try.f78 [.ptr p0sb p0so, .int .u32 p1addr] h R = stage_Space_read.P p0sb p0so p1addr h R := by kernel_rfl
theorem stage_Space_read.calls (p0sb p0so : Nat) (p1addr : Int) (h : Hp) (R : Value → Hp → Prop) (hp : stage_Space_read.P p0sb p0so p1addr h R) : CallsH Try.prog 78 [.pointer (some ⟨p0sb, p0so, none⟩), .int .u32 p1addr] h R :=
  calls_of_body calls_ok Try.func78 (args := [.ptr p0sb p0so, .int .u32 p1addr]) (by rw [stage_Space_read.eq]; exact hp)
/-! ### slices_Clone: function 79 -/
def slices_Clone.hints : Hints := { loops := [], cuts := [], orders := [] }
def slices_Clone.P (p0sa : Option Addr) (p0sl : Nat) (p0sc : Nat) (h : Hp) (R : Value → Hp → Prop) : Prop :=
  ((notIf true p0sa.isNone) = true → (R (.slice none 0 0) h)) ∧ ((notIf true p0sa.isNone) = false → (∀ h1 : Hp, h1 = new h (blk 113 []) → appendN h1 113 256 256 (List.replicate 256 (.int .u8 0)) (some ⟨sz h, 0, none⟩) 0 0 p0sa p0sl fun a1 l2 c3 h2 => R (.slice a1 l2 c3) h2))
theorem slices_Clone.eq (p0sa : Option Addr) (p0sl : Nat) (p0sc : Nat) (h : Hp) (R : Value → Hp → Prop) : evBody Try.prog calls slices_Clone.hints Try.f79 [.slice p0sa p0sl p0sc] h R = slices_Clone.P p0sa p0sl p0sc h R := by kernel_rfl
theorem slices_Clone.calls (p0sa : Option Addr) (p0sl : Nat) (p0sc : Nat) (h : Hp) (R : Value → Hp → Prop) (hp : slices_Clone.P p0sa p0sl p0sc h R) : CallsH Try.prog 79 [.slice p0sa p0sl p0sc] h R :=
  calls_of_body calls_ok Try.func79 (args := [.slice p0sa p0sl p0sc]) (by rw [slices_Clone.eq]; exact hp)
/-! ### slices_Clip: function 80 -/
def slices_Clip.hints : Hints := { loops := [], cuts := [], orders := [] }
def slices_Clip.P (p0sa : Option Addr) (p0sl : Nat) (p0sc : Nat) (h : Hp) (R : Value → Hp → Prop) : Prop :=
  ((true : Bool) = true → (true : Bool) = true) ∧ (0 : Int) ≤ (0 : Int) ∧ (0 : Int) ≤ ((p0sl : Nat) : Int) ∧ ((p0sl : Nat) : Int) ≤ ((p0sl : Nat) : Int) ∧ ((p0sl : Nat) : Int) ≤ ((p0sc : Nat) : Int) ∧
  R (.slice (sliceBase p0sa ((0 : Int)).toNat (((p0sl : Nat) : Int)).toNat 1) ((((p0sl : Nat) : Int)).toNat - ((0 : Int)).toNat) ((((p0sl : Nat) : Int)).toNat - ((0 : Int)).toNat)) h
theorem slices_Clip.eq (p0sa : Option Addr) (p0sl : Nat) (p0sc : Nat) (h : Hp) (R : Value → Hp → Prop) : evBody Try.prog calls slices_Clip.hints Try.f80 [.slice p0sa p0sl p0sc] h R = slices_Clip.P p0sa p0sl p0sc h R := by kernel_rfl
theorem slices_Clip.calls (p0sa : Option Addr) (p0sl : Nat) (p0sc : Nat) (h : Hp) (R : Value → Hp → Prop) (hp : slices_Clip.P p0sa p0sl p0sc h R) : CallsH Try.prog 80 [.slice p0sa p0sl p0sc] h R :=
  calls_of_body calls_ok Try.func80 (args := [.slice p0sa p0sl p0sc]) (by rw [slices_Clip.eq]; exact hp)
/-! ### tlb_Tlb_free: function 81 -/
def tlb_Tlb_free.hints : Hints := { loops := [], cuts := [], orders := [(2, [0, 1, 3, 7, 0, 16, 48, 112, 0, 256, 768, 1792, 4080, 8191], (.leaf [0, 1, 2, 3, 4, 5, 6, 7, 8, 9, 10, 11, 12, 13]))] }
def tlb_Tlb_free.P (p0tb p0to : Nat) (p1at : Int) (h : Hp) (R : Value → Hp → Prop) : Prop :=
  ∃ placesa1 : Option Addr, ∃ placesl2 : Nat, ∃ placesc3 : Nat, cellAt h p0tb p0to = some (.slice placesa1 placesl2 placesc3) ∧ (0 : Int) ≤ p1at ∧ p1at < ((placesl2 : Nat) : Int) ∧ ∃ b4 : Nat, ∃ o5 : Nat, (placesa1 : Option Addr) = some ⟨b4, o5, none⟩ ∧
  ∃ x6 : Option Addr, cellAt h b4 (o5 + p1at.toNat * 1) = some (.pointer x6) ∧ ((notIf false x6.isNone) = true → (∃ index7 : Option Nat, cellAt h p0tb (p0to + 1) = some (.map index7) ∧ ∃ b8 : Nat, ∃ o9 : Nat, x6 = some ⟨b8, o9, none⟩ ∧
  ∃ Vmid10 : Int, cellAt h b8 o9 = some (.int .i64 Vmid10) ∧ ∃ b11 : Nat, ∃ o12 : Nat, x6 = some ⟨b11, o12, none⟩ ∧ ∃ Page13 : Int, cellAt h b11 (o12 + 1) = some (.int .i64 Page13) ∧ ∃ r14 : Nat, ∃ es15 : List MapEntry, ∃ c16 : Nat, ∃ q17 : Option (Nat × Value), index7 = some r14 ∧
  bk h r14 = some (.map ⟨es15⟩ c16) ∧ lookM true [.int .i64, .int .i64] [.int .i64 Vmid10, .int .i64 Page13] es15 0 = some q17 ∧ ∀ h1 : Hp, h1 = updO h r14 (.map ⟨dropM es15 q17⟩ c16) → ∃ placesa18 : Option Addr, ∃ placesl19 : Nat, ∃ placesc20 : Nat, cellAt h1 p0tb p0to = some (.slice placesa18 placesl19 placesc20) ∧
  (0 : Int) ≤ p1at ∧ p1at < ((placesl19 : Nat) : Int) ∧ ∃ b21 : Nat, ∃ o22 : Nat, (placesa18 : Option Addr) = some ⟨b21, o22, none⟩ ∧ truly true ∧ ∃ T23 : TypeId, ∃ l24 : List Value, bk h1 b21 = some (blk T23 l24) ∧
  (o22 + p1at.toNat * 1) + 1 ≤ l24.length ∧ ∀ h2 : Hp, h2 = upd h1 b21 T23 (writeAt l24 (o22 + p1at.toNat * 1) [.pointer none]) → R (.tuple #[]) h2)) ∧ ((notIf false x6.isNone) = false → (R (.tuple #[]) h))
theorem tlb_Tlb_free.eq (p0tb p0to : Nat) (p1at : Int) (h : Hp) (R : Value → Hp → Prop) : evBody Try.prog calls tlb_Tlb_free.hints Try.f81 [.ptr p0tb p0to, .int .i64 p1at] h R = tlb_Tlb_free.P p0tb p0to p1at h R := by kernel_rfl
theorem tlb_Tlb_free.calls (p0tb p0to : Nat) (p1at : Int) (h : Hp) (R : Value → Hp → Prop) (hp : tlb_Tlb_free.P p0tb p0to p1at h R) : CallsH Try.prog 81 [.pointer (some ⟨p0tb, p0to, none⟩), .int .i64 p1at] h R :=
  calls_of_body calls_ok Try.func81 (args := [.ptr p0tb p0to, .int .i64 p1at]) (by rw [tlb_Tlb_free.eq]; exact hp)
/-! ### slices_Clone_f82: function 82 -/
def slices_Clone_f82.hints : Hints := { loops := [], cuts := [], orders := [] }
def slices_Clone_f82.P (p0sa : Option Addr) (p0sl : Nat) (p0sc : Nat) (h : Hp) (R : Value → Hp → Prop) : Prop :=
  ((notIf true p0sa.isNone) = true → (R (.slice none 0 0) h)) ∧ ((notIf true p0sa.isNone) = false → (∀ h1 : Hp, h1 = new h (blk 71 []) → appendN h1 71 3 16 [.int .i64 0, .int .u32 0, .int .u32 0] (some ⟨sz h, 0, none⟩) 0 0 p0sa p0sl fun a1 l2 c3 h2 => R (.slice a1 l2 c3) h2))
theorem slices_Clone_f82.eq (p0sa : Option Addr) (p0sl : Nat) (p0sc : Nat) (h : Hp) (R : Value → Hp → Prop) : evBody Try.prog calls slices_Clone_f82.hints Try.f82 [.slice p0sa p0sl p0sc] h R = slices_Clone_f82.P p0sa p0sl p0sc h R := by kernel_rfl
theorem slices_Clone_f82.calls (p0sa : Option Addr) (p0sl : Nat) (p0sc : Nat) (h : Hp) (R : Value → Hp → Prop) (hp : slices_Clone_f82.P p0sa p0sl p0sc h R) : CallsH Try.prog 82 [.slice p0sa p0sl p0sc] h R :=
  calls_of_body calls_ok Try.func82 (args := [.slice p0sa p0sl p0sc]) (by rw [slices_Clone_f82.eq]; exact hp)
/-! ### phys_Mem_there: function 83 -/
def phys_Mem_there.hints : Hints := { loops := [], cuts := [], orders := [] }
def phys_Mem_there.P (p0mb p0mo : Nat) (p1n : Int) (h : Hp) (R : Value → Hp → Prop) : Prop :=
  ((decide (p1n ≥ 0)) = true → (∃ framesa1 : Option Addr, ∃ framesl2 : Nat, ∃ framesc3 : Nat, cellAt h p0mb p0mo = some (.slice framesa1 framesl2 framesc3) ∧ R (.bool (decide (p1n < ((framesl2 : Nat) : Int)))) h)) ∧
  ((decide (p1n ≥ 0)) = false → (R (.bool false) h))
theorem phys_Mem_there.eq (p0mb p0mo : Nat) (p1n : Int) (h : Hp) (R : Value → Hp → Prop) : evBody Try.prog calls phys_Mem_there.hints Try.f83 [.ptr p0mb p0mo, .int .i64 p1n] h R = phys_Mem_there.P p0mb p0mo p1n h R := by kernel_rfl
theorem phys_Mem_there.calls (p0mb p0mo : Nat) (p1n : Int) (h : Hp) (R : Value → Hp → Prop) (hp : phys_Mem_there.P p0mb p0mo p1n h R) : CallsH Try.prog 83 [.pointer (some ⟨p0mb, p0mo, none⟩), .int .i64 p1n] h R :=
  calls_of_body calls_ok Try.func83 (args := [.ptr p0mb p0mo, .int .i64 p1n]) (by rw [phys_Mem_there.eq]; exact hp)
/-! ### phys_Mem_Fill: function 84 -/
def phys_Mem_Fill.hints : Hints := { loops := [], cuts := [], orders := [(7, [0, 1, 3, 7, 0, 0, 63, 127], (.leaf [0, 1, 2, 3, 4, 5, 6, 7]))] }
def phys_Mem_Fill.P (p0mb p0mo : Nat) (p1n : Int) (p2ba : Option Addr) (p2bl : Nat) (p2bc : Nat) (h : Hp) (R : Value → Hp → Prop) : Prop :=
  CallsH Try.prog 83 [.pointer (some ⟨p0mb, p0mo, none⟩), .int .i64 p1n] h fun r1 h1 => ∃ there2 : Bool, r1 = .bool there2 ∧ ((!there2) = true → (R (.int .i64 11) h1)) ∧ ((!there2) = false → (((decide (((p2bl : Nat) : Int) > 256)) = true →
  (R (.int .i64 14) h1)) ∧ ((decide (((p2bl : Nat) : Int) > 256)) = false → (∀ h2 : Hp, h2 = new h1 (blk 113 (List.replicate 256 (.int .u8 0))) → ((false : Bool) = true → (false : Bool) = true) ∧ (0 : Int) ≤ (0 : Int) ∧
  (0 : Int) ≤ ((256 : Nat) : Int) ∧ ((256 : Nat) : Int) ≤ ((256 : Nat) : Int) ∧ ((256 : Nat) : Int) ≤ ((256 : Nat) : Int) ∧ copyN h2 1 (arrBase (sz h1) 0 ((0 : Int)).toNat (((256 : Nat) : Int)).toNat 1) ((((256 : Nat) : Int)).toNat - ((0 : Int)).toNat) p2ba p2bl fun n3 h3 => ∃ framesa4 : Option Addr, ∃ framesl5 : Nat, ∃ framesc6 : Nat, cellAt h3 p0mb p0mo = some (.slice framesa4 framesl5 framesc6) ∧
  ∃ x7 : List Value, x7.length = 256 ∧ readAt h3 (sz h1) 0 x7 ∧ (0 : Int) ≤ p1n ∧ p1n < ((framesl5 : Nat) : Int) ∧ ∃ b8 : Nat, ∃ o9 : Nat, (framesa4 : Option Addr) = some ⟨b8, o9, none⟩ ∧ lenIs x7 256 (truly (oneCells x7) ∧
  ∃ T10 : TypeId, ∃ l11 : List Value, bk h3 b8 = some (blk T10 l11) ∧ (o9 + p1n.toNat * 256) + x7.length ≤ l11.length ∧ ∀ h4 : Hp, h4 = upd h3 b8 T10 (writeAt l11 (o9 + p1n.toNat * 256) x7) → R (.int .i64 0) h4)))))
theorem phys_Mem_Fill.eq (p0mb p0mo : Nat) (p1n : Int) (p2ba : Option Addr) (p2bl : Nat) (p2bc : Nat) (h : Hp) (R : Value → Hp → Prop) : evBody Try.prog calls phys_Mem_Fill.hints Try.f84 [.ptr p0mb p0mo, .int .i64 p1n, .slice p2ba p2bl p2bc] h R = phys_Mem_Fill.P p0mb p0mo p1n p2ba p2bl p2bc h R := by kernel_rfl
theorem phys_Mem_Fill.calls (p0mb p0mo : Nat) (p1n : Int) (p2ba : Option Addr) (p2bl : Nat) (p2bc : Nat) (h : Hp) (R : Value → Hp → Prop) (hp : phys_Mem_Fill.P p0mb p0mo p1n p2ba p2bl p2bc h R) : CallsH Try.prog 84 [.pointer (some ⟨p0mb, p0mo, none⟩), .int .i64 p1n, .slice p2ba p2bl p2bc] h R :=
  calls_of_body calls_ok Try.func84 (args := [.ptr p0mb p0mo, .int .i64 p1n, .slice p2ba p2bl p2bc]) (by rw [phys_Mem_Fill.eq]; exact hp)
/-! ### phys_Mem_Word: function 85 -/
def phys_Mem_Word.hints : Hints := { loops := [], cuts := [(4, [6, 7], [])], orders := [] }
def phys_Mem_Word.P (p0mb p0mo : Nat) (p1addr : Int) (h : Hp) (R : Value → Hp → Prop) : Prop :=
  CallsH Try.prog 107 [.pointer (some ⟨p0mb, p0mo, none⟩), .int .u32 p1addr] h fun r1 h1 => ∃ atx2 : Option Addr, ∃ atx3 : Int, ∃ atx4 : Bool, r1 = .tuple #[.pointer atx2, .int .i64 atx3, .bool atx4] ∧
  ∃ I5 : Hp → Prop, (((!atx4) = true → (R (.tuple #[.int .u32 0, .bool false]) h1)) ∧ ((!atx4) = false → (4 ≠ (0 : Int) ∧ (((Int.tmod atx3 4) != 0) = true → (R (.tuple #[.int .u32 0, .bool false]) h1)) ∧
  (((Int.tmod atx3 4) != 0) = false → (I5 h1))))) ∧ ∀ h2 : Hp, I5 h2 → ∃ b6 : Nat, ∃ o7 : Nat, atx2 = some ⟨b6, o7, none⟩ ∧ ((false : Bool) = true → (false : Bool) = true) ∧ (0 : Int) ≤ (0 : Int) ∧ (0 : Int) ≤ ((256 : Nat) : Int) ∧
  ((256 : Nat) : Int) ≤ ((256 : Nat) : Int) ∧ ((256 : Nat) : Int) ≤ ((256 : Nat) : Int) ∧ CallsH Try.prog 108 [.slice (arrBase b6 o7 ((0 : Int)).toNat (((256 : Nat) : Int)).toNat 1) ((((256 : Nat) : Int)).toNat - ((0 : Int)).toNat) ((((256 : Nat) : Int)).toNat - ((0 : Int)).toNat), .int .i64 atx3] h2 fun r8 h3 => ∃ Get9 : Int, ∃ Get10 : Bool, r8 = .tuple #[.int .u32 Get9, .bool Get10] ∧
  R (.tuple #[.int .u32 Get9, .bool Get10]) h3
theorem phys_Mem_Word.eq (p0mb p0mo : Nat) (p1addr : Int) (h : Hp) (R : Value → Hp → Prop) : evBody Try.prog calls phys_Mem_Word.hints Try.f85 [.ptr p0mb p0mo, .int .u32 p1addr] h R = phys_Mem_Word.P p0mb p0mo p1addr h R := by kernel_rfl
theorem phys_Mem_Word.calls (p0mb p0mo : Nat) (p1addr : Int) (h : Hp) (R : Value → Hp → Prop) (hp : phys_Mem_Word.P p0mb p0mo p1addr h R) : CallsH Try.prog 85 [.pointer (some ⟨p0mb, p0mo, none⟩), .int .u32 p1addr] h R :=
  calls_of_body calls_ok Try.func85 (args := [.ptr p0mb p0mo, .int .u32 p1addr]) (by rw [phys_Mem_Word.eq]; exact hp)
/-! ### entry_Decode: function 86 -/
def entry_Decode.hints : Hints := { loops := [], cuts := [], orders := [(4, [0, 1, 0, 7, 0, 31, 0, 127, 255, 511, 1023], (.leaf [0, 2, 4, 6, 1, 3, 5, 7, 8, 9, 10]))] }
def entry_Decode.P (p0w : Int) (h : Hp) (R : Value → Hp → Prop) : Prop :=
  ∀ h1 : Hp, h1 = new h (blk 42 [.int .u32 p0w]) → ∀ h2 : Hp, h2 = new h1 (blk 54 [.bool false, .bool false, .bool false, .bool false, .int .i64 0]) → CallsH Try.prog 109 [.int .i64 0, .pointer (some ⟨(sz h), 0, none⟩)] h2 fun r1 h3 => ∃ Decode2 : Bool, r1 = .bool Decode2 ∧
  ((!Decode2) = true → (truly true ∧ ∃ T3 : TypeId, ∃ l4 : List Value, bk h3 (sz h1) = some (blk T3 l4) ∧ 0 + 5 ≤ l4.length ∧ ∀ h4 : Hp, h4 = upd h3 (sz h1) T3 (writeAt l4 0 [.bool false, .bool false, .bool false, .bool false, .int .i64 0]) →
  ∃ res5 : Bool, cellAt h4 (sz h1) (0 + 0) = some (.bool res5) ∧ ∃ res6 : Bool, cellAt h4 (sz h1) (0 + 1) = some (.bool res6) ∧ ∃ res7 : Bool, cellAt h4 (sz h1) (0 + 2) = some (.bool res7) ∧ ∃ res8 : Bool, cellAt h4 (sz h1) (0 + 3) = some (.bool res8) ∧
  ∃ res9 : Int, cellAt h4 (sz h1) (0 + 4) = some (.int .i64 res9) ∧ R (.agg #[.bool res5, .bool res6, .bool res7, .bool res8, .int .i64 res9]) h4)) ∧ ((!Decode2) = false → (∃ x10 : Int, cellAt h3 (sz h) 0 = some (.int .u32 x10) ∧
  CallsH Try.prog 109 [.int .i64 1, .pointer (some ⟨(sz h), 0, none⟩)] h3 fun r11 h5 => ∃ Decode12 : Bool, r11 = .bool Decode12 ∧ cellAt h5 (sz h) 0 = some (.int .u32 x10) ∧ CallsH Try.prog 109 [.int .i64 2, .pointer (some ⟨(sz h), 0, none⟩)] h5 fun r13 h6 => ∃ Decode14 : Bool, r13 = .bool Decode14 ∧
  cellAt h6 (sz h) 0 = some (.int .u32 x10) ∧ CallsH Try.prog 109 [.int .i64 3, .pointer (some ⟨(sz h), 0, none⟩)] h6 fun r15 h7 => ∃ Decode16 : Bool, r15 = .bool Decode16 ∧ cellAt h7 (sz h) 0 = some (.int .u32 x10) ∧
  CallsH Try.prog 110 [.int .u32 x10, .int .i64 8, .int .i64 16] h7 fun r17 h8 => ∃ Field18 : Int, r17 = .int .u32 Field18 ∧ truly true ∧ ∃ T19 : TypeId, ∃ l20 : List Value, bk h8 (sz h1) = some (blk T19 l20) ∧
  0 + 5 ≤ l20.length ∧ ∀ h9 : Hp, h9 = upd h8 (sz h1) T19 (writeAt l20 0 [.bool true, .bool Decode12, .bool Decode14, .bool Decode16, .int .i64 (IntKind.wrap .i64 Field18)]) → ∃ res21 : Bool, cellAt h9 (sz h1) (0 + 0) = some (.bool res21) ∧
  ∃ res22 : Bool, cellAt h9 (sz h1) (0 + 1) = some (.bool res22) ∧ ∃ res23 : Bool, cellAt h9 (sz h1) (0 + 2) = some (.bool res23) ∧ ∃ res24 : Bool, cellAt h9 (sz h1) (0 + 3) = some (.bool res24) ∧ ∃ res25 : Int, cellAt h9 (sz h1) (0 + 4) = some (.int .i64 res25) ∧
  R (.agg #[.bool res21, .bool res22, .bool res23, .bool res24, .int .i64 res25]) h9))
theorem entry_Decode.eq (p0w : Int) (h : Hp) (R : Value → Hp → Prop) : evBody Try.prog calls entry_Decode.hints Try.f86 [.int .u32 p0w] h R = entry_Decode.P p0w h R := by kernel_rfl
theorem entry_Decode.calls (p0w : Int) (h : Hp) (R : Value → Hp → Prop) (hp : entry_Decode.P p0w h R) : CallsH Try.prog 86 [.int .u32 p0w] h R :=
  calls_of_body calls_ok Try.func86 (args := [.int .u32 p0w]) (by rw [entry_Decode.eq]; exact hp)
/-! ### phys_Mem_PutWord: function 87 -/
def phys_Mem_PutWord.hints : Hints := { loops := [], cuts := [], orders := [] }
def phys_Mem_PutWord.P (p0mb p0mo : Nat) (p1addr : Int) (p2w : Int) (h : Hp) (R : Value → Hp → Prop) : Prop :=
  CallsH Try.prog 107 [.pointer (some ⟨p0mb, p0mo, none⟩), .int .u32 p1addr] h fun r1 h1 => ∃ atx2 : Option Addr, ∃ atx3 : Int, ∃ atx4 : Bool, r1 = .tuple #[.pointer atx2, .int .i64 atx3, .bool atx4] ∧
  ((atx4) = true → (4 ≠ (0 : Int) ∧ (((Int.tmod atx3 4) == 0) = true → (∃ b5 : Nat, ∃ o6 : Nat, atx2 = some ⟨b5, o6, none⟩ ∧ ((false : Bool) = true → (false : Bool) = true) ∧ (0 : Int) ≤ (0 : Int) ∧ (0 : Int) ≤ ((256 : Nat) : Int) ∧
  ((256 : Nat) : Int) ≤ ((256 : Nat) : Int) ∧ ((256 : Nat) : Int) ≤ ((256 : Nat) : Int) ∧ CallsH Try.prog 111 [.slice (arrBase b5 o6 ((0 : Int)).toNat (((256 : Nat) : Int)).toNat 1) ((((256 : Nat) : Int)).toNat - ((0 : Int)).toNat) ((((256 : Nat) : Int)).toNat - ((0 : Int)).toNat), .int .i64 atx3, .int .u32 p2w] h1 fun r7 h2 => ∃ Set8 : Bool, r7 = .bool Set8 ∧
  R (.bool Set8) h2)) ∧ (((Int.tmod atx3 4) == 0) = false → (R (.bool false) h1)))) ∧ ((atx4) = false → (R (.bool false) h1))
theorem phys_Mem_PutWord.eq (p0mb p0mo : Nat) (p1addr : Int) (p2w : Int) (h : Hp) (R : Value → Hp → Prop) : evBody Try.prog calls phys_Mem_PutWord.hints Try.f87 [.ptr p0mb p0mo, .int .u32 p1addr, .int .u32 p2w] h R = phys_Mem_PutWord.P p0mb p0mo p1addr p2w h R := by kernel_rfl
theorem phys_Mem_PutWord.calls (p0mb p0mo : Nat) (p1addr : Int) (p2w : Int) (h : Hp) (R : Value → Hp → Prop) (hp : phys_Mem_PutWord.P p0mb p0mo p1addr p2w h R) : CallsH Try.prog 87 [.pointer (some ⟨p0mb, p0mo, none⟩), .int .u32 p1addr, .int .u32 p2w] h R :=
  calls_of_body calls_ok Try.func87 (args := [.ptr p0mb p0mo, .int .u32 p1addr, .int .u32 p2w]) (by rw [phys_Mem_PutWord.eq]; exact hp)
/-! ### frames_Table_there: function 90 -/
def frames_Table_there.hints : Hints := { loops := [], cuts := [], orders := [] }
def frames_Table_there.P (p0tb p0to : Nat) (p1frame : Int) (h : Hp) (R : Value → Hp → Prop) : Prop :=
  ((decide (p1frame ≥ 0)) = true → (∃ ownersa1 : Option Addr, ∃ ownersl2 : Nat, ∃ ownersc3 : Nat, cellAt h p0tb p0to = some (.slice ownersa1 ownersl2 ownersc3) ∧ R (.bool (decide (p1frame < ((ownersl2 : Nat) : Int)))) h)) ∧
  ((decide (p1frame ≥ 0)) = false → (R (.bool false) h))
theorem frames_Table_there.eq (p0tb p0to : Nat) (p1frame : Int) (h : Hp) (R : Value → Hp → Prop) : evBody Try.prog calls frames_Table_there.hints Try.f90 [.ptr p0tb p0to, .int .i64 p1frame] h R = frames_Table_there.P p0tb p0to p1frame h R := by kernel_rfl
theorem frames_Table_there.calls (p0tb p0to : Nat) (p1frame : Int) (h : Hp) (R : Value → Hp → Prop) (hp : frames_Table_there.P p0tb p0to p1frame h R) : CallsH Try.prog 90 [.pointer (some ⟨p0tb, p0to, none⟩), .int .i64 p1frame] h R :=
  calls_of_body calls_ok Try.func90 (args := [.ptr p0tb p0to, .int .i64 p1frame]) (by rw [frames_Table_there.eq]; exact hp)
/-! ### tlb_Tlb_DropAll: function 91 -/
def tlb_Tlb_DropAll.hints : Hints := { loops := [], cuts := [], orders := [] }
def tlb_Tlb_DropAll.P (p0tb p0to : Nat) (p1vmid : Int) (h : Hp) (R : Value → Hp → Prop) : Prop :=
  ∀ h1 : Hp, h1 = new h (blk 3 [.int .i64 p1vmid]) → CallsH Try.prog 112 [.pointer (some ⟨p0tb, p0to, none⟩), .func (.func 113) #[] #[.pointer (some ⟨(sz h), 0, none⟩)]] h1 fun r1 h2 => ∃ drop2 : Int, r1 = .int .i64 drop2 ∧
  R (.int .i64 drop2) h2
theorem tlb_Tlb_DropAll.eq (p0tb p0to : Nat) (p1vmid : Int) (h : Hp) (R : Value → Hp → Prop) : evBody Try.prog calls tlb_Tlb_DropAll.hints Try.f91 [.ptr p0tb p0to, .int .i64 p1vmid] h R = tlb_Tlb_DropAll.P p0tb p0to p1vmid h R := by kernel_rfl
theorem tlb_Tlb_DropAll.calls (p0tb p0to : Nat) (p1vmid : Int) (h : Hp) (R : Value → Hp → Prop) (hp : tlb_Tlb_DropAll.P p0tb p0to p1vmid h R) : CallsH Try.prog 91 [.pointer (some ⟨p0tb, p0to, none⟩), .int .i64 p1vmid] h R :=
  calls_of_body calls_ok Try.func91 (args := [.ptr p0tb p0to, .int .i64 p1vmid]) (by rw [tlb_Tlb_DropAll.eq]; exact hp)
/-! ### frames_some: function 92 -/
def frames_some.hints : Hints := { loops := [], cuts := [], orders := [] }
def frames_some.P (p0owner : Int) (h : Hp) (R : Value → Hp → Prop) : Prop :=
  ((decide (p0owner ≥ 1)) = true → (R (.bool (decide (p0owner ≤ 9))) h)) ∧ ((decide (p0owner ≥ 1)) = false → (R (.bool false) h))
theorem frames_some.eq (p0owner : Int) (h : Hp) (R : Value → Hp → Prop) : evBody Try.prog calls frames_some.hints Try.f92 [.int .i64 p0owner] h R = frames_some.P p0owner h R := by kernel_rfl
theorem frames_some.calls (p0owner : Int) (h : Hp) (R : Value → Hp → Prop) (hp : frames_some.P p0owner h R) : CallsH Try.prog 92 [.int .i64 p0owner] h R :=
  calls_of_body calls_ok Try.func92 (args := [.int .i64 p0owner]) (by rw [frames_some.eq]; exact hp)
/-! ### stage_Space_MapRun_1: function 93 -/
def stage_Space_MapRun_1.hints : Hints := { loops := [], cuts := [(1, [0, 1, 2, 3, 4], [])], orders := [] }
def stage_Space_MapRun_1.P (v0cb v0co : Nat) (v1cb v1co : Nat) (v2cb v2co : Nat) (v3cb v3co : Nat) (v4cb v4co : Nat) (h : Hp) (R X : Value → Hp → Prop) : Prop :=
  ∃ I1 : Hp → Prop, (∃ x2 : Int, cellAt h v0cb v0co = some (.int .i64 x2) ∧ CallsH Try.prog 73 [.int .i64 x2] h fun r3 h1 => ∃ index4 : Bool, r3 = .bool index4 ∧ ((index4) = true → (∃ x5 : Option Addr, cellAt h1 v1cb v1co = some (.pointer x5) ∧
  ∃ x6 : Int, cellAt h1 v2cb v2co = some (.int .i64 x6) ∧ CallsH Try.prog 52 [.pointer x5, .int .i64 x6] h1 fun r7 h2 => ∃ frame8 : Bool, r7 = .bool frame8 ∧ ((frame8) = true → (∃ x9 : Int, cellAt h2 v2cb v2co = some (.int .i64 x9) ∧
  64 ≠ (0 : Int) ∧ (((Int.tmod x9 64) == 0) = true → (∃ x10 : Option Addr, cellAt h2 v1cb v1co = some (.pointer x10) ∧ ∃ x11 : Int, cellAt h2 v2cb v2co = some (.int .i64 x11) ∧ CallsH Try.prog 52 [.pointer x10, .int .i64 (IntKind.wrap .i64 ((IntKind.wrap .i64 (x11 + 64)) - 1))] h2 fun r12 h3 => ∃ frame13 : Bool, r12 = .bool frame13 ∧
  CallsX Try.prog 50 [.bool frame13, .int .i64 11] h3 (fun r14 h4 => r14 = .tuple #[] ∧ I1 h4) (fun px15 h5 => X (px15) h5))) ∧ (((Int.tmod x9 64) == 0) = false → (CallsX Try.prog 50 [.bool false, .int .i64 11] h2 (fun r16 h6 => r16 = .tuple #[] ∧
  I1 h6) (fun px17 h7 => X (px17) h7))))) ∧ ((frame8) = false → (CallsX Try.prog 50 [.bool false, .int .i64 11] h2 (fun r18 h8 => r18 = .tuple #[] ∧ I1 h8) (fun px19 h9 => X (px19) h9))))) ∧ ((index4) = false →
  (CallsX Try.prog 50 [.bool false, .int .i64 11] h1 (fun r20 h10 => r20 = .tuple #[] ∧ I1 h10) (fun px21 h11 => X (px21) h11)))) ∧ ∀ h12 : Hp, I1 h12 → ∃ x22 : Option Addr, cellAt h12 v1cb v1co = some (.pointer x22) ∧
  ∃ x23 : Int, cellAt h12 v0cb v0co = some (.int .i64 x23) ∧ CallsH Try.prog 53 [.pointer x22, .int .i64 x23] h12 fun r24 h13 => ∃ first25 : Int, ∃ first26 : Bool, ∃ first27 : Bool, ∃ first28 : Bool, ∃ first29 : Bool, ∃ first30 : Int, r24 = .tuple #[.int .u32 first25, .agg #[.bool first26, .bool first27, .bool first28, .bool first29, .int .i64 first30]] ∧
  ∀ h14 : Hp, h14 = new h13 (blk 54 [.bool false, .bool false, .bool false, .bool false, .int .i64 0]) → truly true ∧ ∃ T31 : TypeId, ∃ l32 : List Value, bk h14 (sz h13) = some (blk T31 l32) ∧ 0 + 5 ≤ l32.length ∧
  ∀ h15 : Hp, h15 = upd h14 (sz h13) T31 (writeAt l32 0 [.bool first26, .bool first27, .bool first28, .bool first29, .int .i64 first30]) → ∃ Valid33 : Bool, cellAt h15 (sz h13) 0 = some (.bool Valid33) ∧
  CallsX Try.prog 50 [.bool (!Valid33), .int .i64 13] h15 (fun r34 h16 => r34 = .tuple #[] ∧ ∃ x36 : Option Addr, cellAt h16 v1cb v1co = some (.pointer x36) ∧ ∃ x37 : Bool, cellAt h16 v3cb v3co = some (.bool x37) ∧
  ∃ x38 : Bool, cellAt h16 v4cb v4co = some (.bool x38) ∧ ∃ x39 : Int, cellAt h16 v2cb v2co = some (.int .i64 x39) ∧ CallsH Try.prog 55 [.pointer x36, .int .u32 first25, .agg #[.bool true, .bool x37, .bool x38, .bool true, .int .i64 x39]] h16 fun r40 h18 => r40 = .tuple #[] ∧
  R (.tuple #[]) h18) (fun px35 h17 => X (px35) h17)
theorem stage_Space_MapRun_1.eq (v0cb v0co : Nat) (v1cb v1co : Nat) (v2cb v2co : Nat) (v3cb v3co : Nat) (v4cb v4co : Nat) (h : Hp) (R X : Value → Hp → Prop) : evBodyX Try.prog calls stage_Space_MapRun_1.hints Try.f93 [.ptr v0cb v0co, .ptr v1cb v1co, .ptr v2cb v2co, .ptr v3cb v3co, .ptr v4cb v4co] h R X = stage_Space_MapRun_1.P v0cb v0co v1cb v1co v2cb v2co v3cb v3co v4cb v4co h R X := by kernel_rfl
theorem stage_Space_MapRun_1.calls (v0cb v0co : Nat) (v1cb v1co : Nat) (v2cb v2co : Nat) (v3cb v3co : Nat) (v4cb v4co : Nat) (h : Hp) (R X : Value → Hp → Prop) (hp : stage_Space_MapRun_1.P v0cb v0co v1cb v1co v2cb v2co v3cb v3co v4cb v4co h R X) : CallsX Try.prog 93 [.pointer (some ⟨v0cb, v0co, none⟩), .pointer (some ⟨v1cb, v1co, none⟩), .pointer (some ⟨v2cb, v2co, none⟩), .pointer (some ⟨v3cb, v3co, none⟩), .pointer (some ⟨v4cb, v4co, none⟩)] h R X :=
  callsX_of_body calls_ok Try.func93 (args := [.ptr v0cb v0co, .ptr v1cb v1co, .ptr v2cb v2co, .ptr v3cb v3co, .ptr v4cb v4co]) (by rw [stage_Space_MapRun_1.eq]; exact hp)
/-! ### frames_Table_take: function 94 -/
def frames_Table_take.hints : Hints := { loops := [(4, [0, 1, 2], [(8, (.one (.int .i64)))]), (7, [0, 1, 2, 8, 35, 36], [(37, (.one (.int .i64)))]), (12, [0, 1, 8, 44], [(45, (.one (.int .i64)))])], cuts := [], orders := [] }
def frames_Table_take.P (p0tb p0to : Nat) (p1owner : Int) (p2n : Int) (h : Hp) (R : Value → Hp → Prop) : Prop :=
  CallsH Try.prog 92 [.int .i64 p1owner] h fun r1 h1 => ∃ some2 : Bool, r1 = .bool some2 ∧ ((!some2) = true → (R (.tuple #[.int .i64 (-1), .int .i64 11]) h1)) ∧ ((!some2) = false → (∃ I3 : Int → Hp → Prop, ∃ m4 : Int →
  Hp → Nat, I3 0 h1 ∧ ∀ atx5 : Int, ∀ h2 : Hp, I3 atx5 h2 → ∃ ownersa6 : Option Addr, ∃ ownersl7 : Nat, ∃ ownersc8 : Nat, cellAt h2 p0tb p0to = some (.slice ownersa6 ownersl7 ownersc8) ∧ ((decide ((IntKind.wrap .i64 (atx5 + p2n)) ≤ ((ownersl7 : Nat) : Int))) = true →
  (∃ ownersa9 : Option Addr, ∃ ownersl10 : Nat, ∃ ownersc11 : Nat, cellAt h2 p0tb p0to = some (.slice ownersa9 ownersl10 ownersc11) ∧ ((false : Bool) = true → (true : Bool) = true) ∧ (0 : Int) ≤ atx5 ∧
  atx5 ≤ (IntKind.wrap .i64 (atx5 + p2n)) ∧ (IntKind.wrap .i64 (atx5 + p2n)) ≤ ((ownersc11 : Nat) : Int) ∧ ((ownersc11 : Nat) : Int) ≤ ((ownersc11 : Nat) : Int) ∧ ∃ I12 : Int → Hp → Prop, ∃ m13 : Int →
  Hp → Nat, I12 0 h2 ∧ ∀ x14 : Int, ∀ h3 : Hp, I12 x14 h3 → ((decide (x14 < ((((IntKind.wrap .i64 (atx5 + p2n))).toNat - (atx5).toNat : Nat) : Int))) = true → ((0 : Int) ≤ x14 ∧ x14 < ((((IntKind.wrap .i64 (atx5 + p2n))).toNat - (atx5).toNat : Nat) : Int) ∧
  ∃ b15 : Nat, ∃ o16 : Nat, (sliceBase ownersa9 (atx5).toNat (((ownersc11 : Nat) : Int)).toNat 1 : Option Addr) = some ⟨b15, o16, none⟩ ∧ ∃ x17 : Int, cellAt h3 b15 (o16 + x14.toNat * 1) = some (.int .i64 x17) ∧
  ((x17 != 0) = true → (I3 (IntKind.wrap .i64 (atx5 + p2n)) h3 ∧ m4 (IntKind.wrap .i64 (atx5 + p2n)) h3 < m4 atx5 h2)) ∧ ((x17 != 0) = false → (I12 (IntKind.wrap .i64 (x14 + 1)) h3 ∧ m13 (IntKind.wrap .i64 (x14 + 1)) h3 < m13 x14 h3)))) ∧
  ((decide (x14 < ((((IntKind.wrap .i64 (atx5 + p2n))).toNat - (atx5).toNat : Nat) : Int))) = false → (∃ I18 : Int → Hp → Prop, ∃ m19 : Int → Hp → Nat, I18 0 h3 ∧ ∀ x20 : Int, ∀ h4 : Hp, I18 x20 h4 → ((decide (x20 < p2n)) = true →
  (CallsH Try.prog 114 [.pointer (some ⟨p0tb, p0to, none⟩), .int .i64 (IntKind.wrap .i64 (atx5 + x20)), .int .i64 p1owner] h4 fun r21 h5 => r21 = .tuple #[] ∧ I18 (IntKind.wrap .i64 (x20 + 1)) h5 ∧ m19 (IntKind.wrap .i64 (x20 + 1)) h5 < m19 x20 h4)) ∧
  ((decide (x20 < p2n)) = false → (R (.tuple #[.int .i64 atx5, .int .i64 0]) h4)))))) ∧ ((decide ((IntKind.wrap .i64 (atx5 + p2n)) ≤ ((ownersl7 : Nat) : Int))) = false → (R (.tuple #[.int .i64 (-1), .int .i64 15]) h2))))
theorem frames_Table_take.eq (p0tb p0to : Nat) (p1owner : Int) (p2n : Int) (h : Hp) (R : Value → Hp → Prop) : evBody Try.prog calls frames_Table_take.hints Try.f94 [.ptr p0tb p0to, .int .i64 p1owner, .int .i64 p2n] h R = frames_Table_take.P p0tb p0to p1owner p2n h R := by kernel_rfl
theorem frames_Table_take.calls (p0tb p0to : Nat) (p1owner : Int) (p2n : Int) (h : Hp) (R : Value → Hp → Prop) (hp : frames_Table_take.P p0tb p0to p1owner p2n h R) : CallsH Try.prog 94 [.pointer (some ⟨p0tb, p0to, none⟩), .int .i64 p1owner, .int .i64 p2n] h R :=
  calls_of_body calls_ok Try.func94 (args := [.ptr p0tb p0to, .int .i64 p1owner, .int .i64 p2n]) (by rw [frames_Table_take.eq]; exact hp)
/-! ### frames_Table_move: function 95 -/
def frames_Table_move.hints : Hints := { loops := [], cuts := [(2, [0, 1, 2, 3], [(9, (.one .bool))])], orders := [] }
def frames_Table_move.P (p0tb p0to : Nat) (p1frame : Int) (p2from : Int) (p3to : Int) (h : Hp) (R : Value → Hp → Prop) : Prop :=
  ∃ I1 : Bool → Hp → Prop, (CallsH Try.prog 90 [.pointer (some ⟨p0tb, p0to, none⟩), .int .i64 p1frame] h fun r2 h1 => ∃ there3 : Bool, r2 = .bool there3 ∧ ((!there3) = true → (I1 true h1)) ∧ ((!there3) = false →
  (CallsH Try.prog 92 [.int .i64 p2from] h1 fun r4 h2 => ∃ some5 : Bool, r4 = .bool some5 ∧ I1 (!some5) h2))) ∧ ∀ x6 : Bool, ∀ h3 : Hp, I1 x6 h3 → ((x6) = true → (R (.int .i64 11) h3)) ∧ ((x6) = false →
  (∃ ownersa7 : Option Addr, ∃ ownersl8 : Nat, ∃ ownersc9 : Nat, cellAt h3 p0tb p0to = some (.slice ownersa7 ownersl8 ownersc9) ∧ (0 : Int) ≤ p1frame ∧ p1frame < ((ownersl8 : Nat) : Int) ∧ ∃ b10 : Nat, ∃ o11 : Nat, (ownersa7 : Option Addr) = some ⟨b10, o11, none⟩ ∧
  ∃ x12 : Int, cellAt h3 b10 (o11 + p1frame.toNat * 1) = some (.int .i64 x12) ∧ ((x12 != p2from) = true → (R (.int .i64 16) h3)) ∧ ((x12 != p2from) = false → (CallsH Try.prog 114 [.pointer (some ⟨p0tb, p0to, none⟩), .int .i64 p1frame, .int .i64 p3to] h3 fun r13 h4 => r13 = .tuple #[] ∧
  R (.int .i64 0) h4))))
theorem frames_Table_move.eq (p0tb p0to : Nat) (p1frame : Int) (p2from : Int) (p3to : Int) (h : Hp) (R : Value → Hp → Prop) : evBody Try.prog calls frames_Table_move.hints Try.f95 [.ptr p0tb p0to, .int .i64 p1frame, .int .i64 p2from, .int .i64 p3to] h R = frames_Table_move.P p0tb p0to p1frame p2from p3to h R := by kernel_rfl
theorem frames_Table_move.calls (p0tb p0to : Nat) (p1frame : Int) (p2from : Int) (p3to : Int) (h : Hp) (R : Value → Hp → Prop) (hp : frames_Table_move.P p0tb p0to p1frame p2from p3to h R) : CallsH Try.prog 95 [.pointer (some ⟨p0tb, p0to, none⟩), .int .i64 p1frame, .int .i64 p2from, .int .i64 p3to] h R :=
  calls_of_body calls_ok Try.func95 (args := [.ptr p0tb p0to, .int .i64 p1frame, .int .i64 p2from, .int .i64 p3to]) (by rw [frames_Table_move.eq]; exact hp)
/-! ### entry_Encode: function 97 -/
def entry_Encode.hints : Hints := { loops := [(5, [37], [(4, (.one (.int .u32))), (38, (.one (.int .i64)))])], cuts := [], orders := [] }
def entry_Encode.P (p0e_0 : Bool) (p0e_1 : Bool) (p0e_2 : Bool) (p0e_3 : Bool) (p0e_4 : Int) (h : Hp) (R : Value → Hp → Prop) : Prop :=
  ∀ h1 : Hp, h1 = new h (blk 54 [.bool p0e_0, .bool p0e_1, .bool p0e_2, .bool p0e_3, .int .i64 p0e_4]) → ∃ Frame1 : Int, cellAt h1 (sz h) 4 = some (.int .i64 Frame1) ∧ ((decide (Frame1 < 0)) = true → (R (.tuple #[.int .u32 0, .bool false]) h1)) ∧
  ((decide (Frame1 < 0)) = false → (∃ Frame2 : Int, cellAt h1 (sz h) 4 = some (.int .i64 Frame2) ∧ ((decide (Frame2 ≥ 65536)) = true → (R (.tuple #[.int .u32 0, .bool false]) h1)) ∧ ((decide (Frame2 ≥ 65536)) = false →
  (∃ Valid3 : Bool, cellAt h1 (sz h) 0 = some (.bool Valid3) ∧ ((!Valid3) = true → (∃ x4 : Bool, cellAt h1 (sz h) (0 + 0) = some (.bool x4) ∧ ∃ x5 : Bool, cellAt h1 (sz h) (0 + 1) = some (.bool x5) ∧ ∃ x6 : Bool, cellAt h1 (sz h) (0 + 2) = some (.bool x6) ∧
  ∃ x7 : Bool, cellAt h1 (sz h) (0 + 3) = some (.bool x7) ∧ ∃ x8 : Int, cellAt h1 (sz h) (0 + 4) = some (.int .i64 x8) ∧ ((notIf false (((x4 : Bool) == false) && (((x5 : Bool) == false) && (((x6 : Bool) == false) && (((x7 : Bool) == false) && ((x8 == 0) && true)))))) = true →
  (R (.tuple #[.int .u32 0, .bool false]) h1)) ∧ ((notIf false (((x4 : Bool) == false) && (((x5 : Bool) == false) && (((x6 : Bool) == false) && (((x7 : Bool) == false) && ((x8 == 0) && true)))))) = false →
  (∃ Frame9 : Int, cellAt h1 (sz h) 4 = some (.int .i64 Frame9) ∧ CallsH Try.prog 115 [.int .u32 0, .int .i64 8, .int .i64 16, .int .u32 (IntKind.wrap .u32 Frame9)] h1 fun r10 h2 => ∃ Put11 : Int, r10 = .int .u32 Put11 ∧
  ∃ Valid12 : Bool, cellAt h2 (sz h) 0 = some (.bool Valid12) ∧ ∃ Write13 : Bool, cellAt h2 (sz h) 1 = some (.bool Write13) ∧ ∃ Exec14 : Bool, cellAt h2 (sz h) 2 = some (.bool Exec14) ∧ ∃ Block15 : Bool, cellAt h2 (sz h) 3 = some (.bool Block15) ∧
  ∃ I16 : Int → Int → Hp → Prop, ∃ m17 : Int → Int → Hp → Nat, I16 Put11 0 h2 ∧ ∀ w18 : Int, ∀ x19 : Int, ∀ h3 : Hp, I16 w18 x19 h3 → ((decide (x19 < 4)) = true → ((0 : Int) ≤ x19 ∧ x19 < ((4 : Nat) : Int) ∧
  ∃ x20 : Bool, ([.bool Valid12, .bool Write13, .bool Exec14, .bool Block15] : List Value)[x19.toNat * 1]? = some (.bool x20) ∧ ((x20) = true → ((0 : Int) ≤ x19 ∧ I16 (borV .u32 w18 (shlV .u32 1 x19)) (IntKind.wrap .i64 (x19 + 1)) h3 ∧
  m17 (borV .u32 w18 (shlV .u32 1 x19)) (IntKind.wrap .i64 (x19 + 1)) h3 < m17 w18 x19 h3)) ∧ ((x20) = false → (I16 w18 (IntKind.wrap .i64 (x19 + 1)) h3 ∧ m17 w18 (IntKind.wrap .i64 (x19 + 1)) h3 < m17 w18 x19 h3)))) ∧
  ((decide (x19 < 4)) = false → (R (.tuple #[.int .u32 w18, .bool true]) h3)))))) ∧ ((!Valid3) = false → (∃ Frame21 : Int, cellAt h1 (sz h) 4 = some (.int .i64 Frame21) ∧ CallsH Try.prog 115 [.int .u32 0, .int .i64 8, .int .i64 16, .int .u32 (IntKind.wrap .u32 Frame21)] h1 fun r22 h4 => ∃ Put23 : Int, r22 = .int .u32 Put23 ∧
  ∃ Valid24 : Bool, cellAt h4 (sz h) 0 = some (.bool Valid24) ∧ ∃ Write25 : Bool, cellAt h4 (sz h) 1 = some (.bool Write25) ∧ ∃ Exec26 : Bool, cellAt h4 (sz h) 2 = some (.bool Exec26) ∧ ∃ Block27 : Bool, cellAt h4 (sz h) 3 = some (.bool Block27) ∧
  ∃ I28 : Int → Int → Hp → Prop, ∃ m29 : Int → Int → Hp → Nat, I28 Put23 0 h4 ∧ ∀ w30 : Int, ∀ x31 : Int, ∀ h5 : Hp, I28 w30 x31 h5 → ((decide (x31 < 4)) = true → ((0 : Int) ≤ x31 ∧ x31 < ((4 : Nat) : Int) ∧
  ∃ x32 : Bool, ([.bool Valid24, .bool Write25, .bool Exec26, .bool Block27] : List Value)[x31.toNat * 1]? = some (.bool x32) ∧ ((x32) = true → ((0 : Int) ≤ x31 ∧ I28 (borV .u32 w30 (shlV .u32 1 x31)) (IntKind.wrap .i64 (x31 + 1)) h5 ∧
  m29 (borV .u32 w30 (shlV .u32 1 x31)) (IntKind.wrap .i64 (x31 + 1)) h5 < m29 w30 x31 h5)) ∧ ((x32) = false → (I28 w30 (IntKind.wrap .i64 (x31 + 1)) h5 ∧ m29 w30 (IntKind.wrap .i64 (x31 + 1)) h5 < m29 w30 x31 h5)))) ∧
  ((decide (x31 < 4)) = false → (R (.tuple #[.int .u32 w30, .bool true]) h5))))))))
theorem entry_Encode.eq (p0e_0 : Bool) (p0e_1 : Bool) (p0e_2 : Bool) (p0e_3 : Bool) (p0e_4 : Int) (h : Hp) (R : Value → Hp → Prop) : evBody Try.prog calls entry_Encode.hints Try.f97 [.agg [.bool p0e_0, .bool p0e_1, .bool p0e_2, .bool p0e_3, .int .i64 p0e_4]] h R = entry_Encode.P p0e_0 p0e_1 p0e_2 p0e_3 p0e_4 h R := by kernel_rfl
theorem entry_Encode.calls (p0e_0 : Bool) (p0e_1 : Bool) (p0e_2 : Bool) (p0e_3 : Bool) (p0e_4 : Int) (h : Hp) (R : Value → Hp → Prop) (hp : entry_Encode.P p0e_0 p0e_1 p0e_2 p0e_3 p0e_4 h R) : CallsH Try.prog 97 [.agg #[.bool p0e_0, .bool p0e_1, .bool p0e_2, .bool p0e_3, .int .i64 p0e_4]] h R :=
  calls_of_body calls_ok Try.func97 (args := [.agg [.bool p0e_0, .bool p0e_1, .bool p0e_2, .bool p0e_3, .int .i64 p0e_4]]) (by rw [entry_Encode.eq]; exact hp)
/-! ### stage_Space_put: function 98 -/
def stage_Space_put.hints : Hints := { loops := [], cuts := [], orders := [] }
def stage_Space_put.P (p0sb p0so : Nat) (p1addr : Int) (p2w : Int) (h : Hp) (R : Value → Hp → Prop) : Prop :=
  ∃ mem1 : Option Addr, cellAt h p0sb p0so = some (.pointer mem1) ∧ CallsH Try.prog 87 [.pointer mem1, .int .u32 p1addr, .int .u32 p2w] h fun r2 h1 => ∃ PutWord3 : Bool, r2 = .bool PutWord3 ∧ ∃ loga4 : Option Addr, ∃ logl5 : Nat, ∃ logc6 : Nat, cellAt h1 p0sb (p0so + 6) = some (.slice loga4 logl5 logc6) ∧
  ∀ h2 : Hp, h2 = new h1 (blk 71 [.int .i64 1, .int .u32 p1addr, .int .u32 p2w]) → appendN h2 71 3 16 [.int .i64 0, .int .u32 0, .int .u32 0] loga4 logl5 logc6 (some ⟨sz h1, 0, none⟩) 1 fun a7 l8 c9 h3 => truly true ∧
  ∃ T10 : TypeId, ∃ l11 : List Value, bk h3 p0sb = some (blk T10 l11) ∧ (p0so + 6) + 1 ≤ l11.length ∧ ∀ h4 : Hp, h4 = upd h3 p0sb T10 (writeAt l11 (p0so + 6) [.slice a7 l8 c9]) → R (.tuple #[]) h4
theorem stage_Space_put.eq (p0sb p0so : Nat) (p1addr : Int) (p2w : Int) (h : Hp) (R : Value → Hp → Prop) : evBody Try.prog calls stage_Space_put.hints Try.f98 [.ptr p0sb p0so, .int .u32 p1addr, .int .u32 p2w] h R = stage_Space_put.P p0sb p0so p1addr p2w h R := by kernel_rfl
theorem stage_Space_put.calls (p0sb p0so : Nat) (p1addr : Int) (p2w : Int) (h : Hp) (R : Value → Hp → Prop) (hp : stage_Space_put.P p0sb p0so p1addr p2w h R) : CallsH Try.prog 98 [.pointer (some ⟨p0sb, p0so, none⟩), .int .u32 p1addr, .int .u32 p2w] h R :=
  calls_of_body calls_ok Try.func98 (args := [.ptr p0sb p0so, .int .u32 p1addr, .int .u32 p2w]) (by rw [stage_Space_put.eq]; exact hp)
/-! ### entry_Inside: function 99 -/
def entry_Inside.hints : Hints := { loops := [], cuts := [], orders := [] }
def entry_Inside.P (p0addr : Int) (h : Hp) (R : Value → Hp → Prop) : Prop :=
  R (.bool (decide (p0addr < 1048576))) h
theorem entry_Inside.eq (p0addr : Int) (h : Hp) (R : Value → Hp → Prop) : evBody Try.prog calls entry_Inside.hints Try.f99 [.int .u32 p0addr] h R = entry_Inside.P p0addr h R := by kernel_rfl
theorem entry_Inside.calls (p0addr : Int) (h : Hp) (R : Value → Hp → Prop) (hp : entry_Inside.P p0addr h R) : CallsH Try.prog 99 [.int .u32 p0addr] h R :=
  calls_of_body calls_ok Try.func99 (args := [.int .u32 p0addr]) (by rw [entry_Inside.eq]; exact hp)
/-! ### walk_read: function 100 -/
def walk_read.hints : Hints := { loops := [], cuts := [(3, [0, 1, 2, 6], [])], orders := [] }
def walk_read.P (p0mb p0mo : Nat) (p1table : Int) (p2index : Int) (h : Hp) (R : Value → Hp → Prop) : Prop :=
  ∀ h1 : Hp, h1 = new h (blk 54 [.bool false, .bool false, .bool false, .bool false, .int .i64 0]) → ∃ I1 : Hp → Prop, (((decide (p1table < 0)) = true → (truly true ∧ ∃ T2 : TypeId, ∃ l3 : List Value, bk h1 (sz h) = some (blk T2 l3) ∧
  0 + 5 ≤ l3.length ∧ ∀ h2 : Hp, h2 = upd h1 (sz h) T2 (writeAt l3 0 [.bool false, .bool false, .bool false, .bool false, .int .i64 0]) → ∃ res4 : Bool, cellAt h2 (sz h) (0 + 0) = some (.bool res4) ∧ ∃ res5 : Bool, cellAt h2 (sz h) (0 + 1) = some (.bool res5) ∧
  ∃ res6 : Bool, cellAt h2 (sz h) (0 + 2) = some (.bool res6) ∧ ∃ res7 : Bool, cellAt h2 (sz h) (0 + 3) = some (.bool res7) ∧ ∃ res8 : Int, cellAt h2 (sz h) (0 + 4) = some (.int .i64 res8) ∧ R (.tuple #[.agg #[.bool res4, .bool res5, .bool res6, .bool res7, .int .i64 res8], .bool false]) h2)) ∧
  ((decide (p1table < 0)) = false → (CallsH Try.prog 59 [.pointer (some ⟨p0mb, p0mo, none⟩)] h1 fun r9 h3 => ∃ Frames10 : Int, r9 = .int .i64 Frames10 ∧ ((decide (p1table ≥ Frames10)) = true → (truly true ∧
  ∃ T11 : TypeId, ∃ l12 : List Value, bk h3 (sz h) = some (blk T11 l12) ∧ 0 + 5 ≤ l12.length ∧ ∀ h4 : Hp, h4 = upd h3 (sz h) T11 (writeAt l12 0 [.bool false, .bool false, .bool false, .bool false, .int .i64 0]) →
  ∃ res13 : Bool, cellAt h4 (sz h) (0 + 0) = some (.bool res13) ∧ ∃ res14 : Bool, cellAt h4 (sz h) (0 + 1) = some (.bool res14) ∧ ∃ res15 : Bool, cellAt h4 (sz h) (0 + 2) = some (.bool res15) ∧ ∃ res16 : Bool, cellAt h4 (sz h) (0 + 3) = some (.bool res16) ∧
  ∃ res17 : Int, cellAt h4 (sz h) (0 + 4) = some (.int .i64 res17) ∧ R (.tuple #[.agg #[.bool res13, .bool res14, .bool res15, .bool res16, .int .i64 res17], .bool false]) h4)) ∧ ((decide (p1table ≥ Frames10)) = false →
  (I1 h3))))) ∧ ∀ h5 : Hp, I1 h5 → CallsH Try.prog 85 [.pointer (some ⟨p0mb, p0mo, none⟩), .int .u32 (IntKind.wrap .u32 (IntKind.wrap .i64 ((IntKind.wrap .i64 (256 * p1table)) + (IntKind.wrap .i64 (4 * p2index)))))] h5 fun r18 h6 => ∃ Word19 : Int, ∃ Word20 : Bool, r18 = .tuple #[.int .u32 Word19, .bool Word20] ∧
  CallsH Try.prog 86 [.int .u32 Word19] h6 fun r21 h7 => ∃ Decode22 : Bool, ∃ Decode23 : Bool, ∃ Decode24 : Bool, ∃ Decode25 : Bool, ∃ Decode26 : Int, r21 = .agg #[.bool Decode22, .bool Decode23, .bool Decode24, .bool Decode25, .int .i64 Decode26] ∧
  truly true ∧ ∃ T27 : TypeId, ∃ l28 : List Value, bk h7 (sz h) = some (blk T27 l28) ∧ 0 + 5 ≤ l28.length ∧ ∀ h8 : Hp, h8 = upd h7 (sz h) T27 (writeAt l28 0 [.bool Decode22, .bool Decode23, .bool Decode24, .bool Decode25, .int .i64 Decode26]) →
  ∃ res29 : Bool, cellAt h8 (sz h) (0 + 0) = some (.bool res29) ∧ ∃ res30 : Bool, cellAt h8 (sz h) (0 + 1) = some (.bool res30) ∧ ∃ res31 : Bool, cellAt h8 (sz h) (0 + 2) = some (.bool res31) ∧ ∃ res32 : Bool, cellAt h8 (sz h) (0 + 3) = some (.bool res32) ∧
  ∃ res33 : Int, cellAt h8 (sz h) (0 + 4) = some (.int .i64 res33) ∧ R (.tuple #[.agg #[.bool res29, .bool res30, .bool res31, .bool res32, .int .i64 res33], .bool Word20]) h8
theorem walk_read.eq (p0mb p0mo : Nat) (p1table : Int) (p2index : Int) (h : Hp) (R : Value → Hp → Prop) : evBody Try.prog calls walk_read.hints Try.f100 [.ptr p0mb p0mo, .int .i64 p1table, .int .i64 p2index] h R = walk_read.P p0mb p0mo p1table p2index h R := by kernel_rfl
theorem walk_read.calls (p0mb p0mo : Nat) (p1table : Int) (p2index : Int) (h : Hp) (R : Value → Hp → Prop) (hp : walk_read.P p0mb p0mo p1table p2index h R) : CallsH Try.prog 100 [.pointer (some ⟨p0mb, p0mo, none⟩), .int .i64 p1table, .int .i64 p2index] h R :=
  calls_of_body calls_ok Try.func100 (args := [.ptr p0mb p0mo, .int .i64 p1table, .int .i64 p2index]) (by rw [walk_read.eq]; exact hp)
/-! ### entry_First: function 101 -/
def entry_First.hints : Hints := { loops := [], cuts := [], orders := [] }
def entry_First.P (p0addr : Int) (h : Hp) (R : Value → Hp → Prop) : Prop :=
  CallsH Try.prog 110 [.int .u32 p0addr, .int .i64 14, .int .i64 6] h fun r1 h1 => ∃ Field2 : Int, r1 = .int .u32 Field2 ∧ R (.int .i64 (IntKind.wrap .i64 Field2)) h1
theorem entry_First.eq (p0addr : Int) (h : Hp) (R : Value → Hp → Prop) : evBody Try.prog calls entry_First.hints Try.f101 [.int .u32 p0addr] h R = entry_First.P p0addr h R := by kernel_rfl
theorem entry_First.calls (p0addr : Int) (h : Hp) (R : Value → Hp → Prop) (hp : entry_First.P p0addr h R) : CallsH Try.prog 101 [.int .u32 p0addr] h R :=
  calls_of_body calls_ok Try.func101 (args := [.int .u32 p0addr]) (by rw [entry_First.eq]; exact hp)
/-! ### entry_Second: function 102 -/
def entry_Second.hints : Hints := { loops := [], cuts := [], orders := [] }
def entry_Second.P (p0addr : Int) (h : Hp) (R : Value → Hp → Prop) : Prop :=
  CallsH Try.prog 110 [.int .u32 p0addr, .int .i64 8, .int .i64 6] h fun r1 h1 => ∃ Field2 : Int, r1 = .int .u32 Field2 ∧ R (.int .i64 (IntKind.wrap .i64 Field2)) h1
theorem entry_Second.eq (p0addr : Int) (h : Hp) (R : Value → Hp → Prop) : evBody Try.prog calls entry_Second.hints Try.f102 [.int .u32 p0addr] h R = entry_Second.P p0addr h R := by kernel_rfl
theorem entry_Second.calls (p0addr : Int) (h : Hp) (R : Value → Hp → Prop) (hp : entry_Second.P p0addr h R) : CallsH Try.prog 102 [.int .u32 p0addr] h R :=
  calls_of_body calls_ok Try.func102 (args := [.int .u32 p0addr]) (by rw [entry_Second.eq]; exact hp)
/-! ### warderref11_span: function 103 -/
def warderref11_span.hints : Hints := { loops := [], cuts := [], orders := [] }
def warderref11_span.P (p0n : Int) (p1most : Int) (h : Hp) (R : Value → Hp → Prop) : Prop :=
  ((decide (p0n ≥ 0)) = true → (R (.bool (decide (p0n < p1most))) h)) ∧ ((decide (p0n ≥ 0)) = false → (R (.bool false) h))
theorem warderref11_span.eq (p0n : Int) (p1most : Int) (h : Hp) (R : Value → Hp → Prop) : evBody Try.prog calls warderref11_span.hints Try.f103 [.int .i64 p0n, .int .i64 p1most] h R = warderref11_span.P p0n p1most h R := by kernel_rfl
theorem warderref11_span.calls (p0n : Int) (p1most : Int) (h : Hp) (R : Value → Hp → Prop) (hp : warderref11_span.P p0n p1most h R) : CallsH Try.prog 103 [.int .i64 p0n, .int .i64 p1most] h R :=
  calls_of_body calls_ok Try.func103 (args := [.int .i64 p0n, .int .i64 p1most]) (by rw [warderref11_span.eq]; exact hp)
/-! ### warderref11_Space_table: function 104 -/
def warderref11_Space_table.hints : Hints := { loops := [], cuts := [], orders := [] }
def warderref11_Space_table.P (p0sb p0so : Nat) (p1first : Int) (h : Hp) (R : Value → Hp → Prop) : Prop :=
  ∃ Firstsa1 : Option Addr, ∃ Firstsl2 : Nat, ∃ Firstsc3 : Nat, cellAt h p0sb (p0so + 1) = some (.slice Firstsa1 Firstsl2 Firstsc3) ∧ (0 : Int) ≤ p1first ∧ p1first < ((Firstsl2 : Nat) : Int) ∧ ∃ b4 : Nat, ∃ o5 : Nat, (Firstsa1 : Option Addr) = some ⟨b4, o5, none⟩ ∧
  ∃ x6 : Int, cellAt h b4 (o5 + p1first.toNat * 1) = some (.int .i64 x6) ∧ ((x6 == 2) = true → (R (.bool true) h)) ∧ ((x6 == 2) = false → (∃ Free7 : Int, cellAt h p0sb (p0so + 3) = some (.int .i64 Free7) ∧
  ((decide (Free7 ≤ 0)) = true → (R (.bool false) h)) ∧ ((decide (Free7 ≤ 0)) = false → (∃ Free8 : Int, cellAt h p0sb (p0so + 3) = some (.int .i64 Free8) ∧ truly true ∧ ∃ T9 : TypeId, ∃ l10 : List Value, bk h p0sb = some (blk T9 l10) ∧
  (p0so + 3) + 1 ≤ l10.length ∧ ∀ h1 : Hp, h1 = upd h p0sb T9 (writeAt l10 (p0so + 3) [.int .i64 (IntKind.wrap .i64 (Free8 - 1))]) → ∃ Firstsa11 : Option Addr, ∃ Firstsl12 : Nat, ∃ Firstsc13 : Nat, cellAt h1 p0sb (p0so + 1) = some (.slice Firstsa11 Firstsl12 Firstsc13) ∧
  (0 : Int) ≤ p1first ∧ p1first < ((Firstsl12 : Nat) : Int) ∧ ∃ b14 : Nat, ∃ o15 : Nat, (Firstsa11 : Option Addr) = some ⟨b14, o15, none⟩ ∧ truly true ∧ ∃ T16 : TypeId, ∃ l17 : List Value, bk h1 b14 = some (blk T16 l17) ∧
  (o15 + p1first.toNat * 1) + 1 ≤ l17.length ∧ ∀ h2 : Hp, h2 = upd h1 b14 T16 (writeAt l17 (o15 + p1first.toNat * 1) [.int .i64 2]) → R (.bool true) h2))))
theorem warderref11_Space_table.eq (p0sb p0so : Nat) (p1first : Int) (h : Hp) (R : Value → Hp → Prop) : evBody Try.prog calls warderref11_Space_table.hints Try.f104 [.ptr p0sb p0so, .int .i64 p1first] h R = warderref11_Space_table.P p0sb p0so p1first h R := by kernel_rfl
theorem warderref11_Space_table.calls (p0sb p0so : Nat) (p1first : Int) (h : Hp) (R : Value → Hp → Prop) (hp : warderref11_Space_table.P p0sb p0so p1first h R) : CallsH Try.prog 104 [.pointer (some ⟨p0sb, p0so, none⟩), .int .i64 p1first] h R :=
  calls_of_body calls_ok Try.func104 (args := [.ptr p0sb p0so, .int .i64 p1first]) (by rw [warderref11_Space_table.eq]; exact hp)
/-! ### warderref11_Space_change: function 105 -/
def warderref11_Space_change.hints : Hints := { loops := [(12, [0, 1], [(7, (.one .bool)), (8, (.one (.int .i64)))])], cuts := [(9, [0, 1, 5], [])], orders := [(9, [0, 1, 3, 7, 0, 0, 63, 127], (.leaf [0, 1, 2, 3, 4, 5, 6, 7]))] }
def warderref11_Space_change.P (p0sb p0so : Nat) (p1page : Int) (p2to_0 : Int) (p2to_1 : Bool) (p2to_2 : Bool) (p2to_3 : Bool) (h : Hp) (R : Value → Hp → Prop) : Prop :=
  ∀ h1 : Hp, h1 = new h (blk 106 [.int .i64 p2to_0, .bool p2to_1, .bool p2to_2, .bool p2to_3]) → CallsH Try.prog 103 [.int .i64 p1page, .int .i64 4096] h1 fun r1 h2 => ∃ span2 : Bool, r1 = .bool span2 ∧
  ((!span2) = true → (R (.int .i64 11) h2)) ∧ ((!span2) = false → (∃ Pagesa3 : Option Addr, ∃ Pagesl4 : Nat, ∃ Pagesc5 : Nat, cellAt h2 p0sb p0so = some (.slice Pagesa3 Pagesl4 Pagesc5) ∧ (0 : Int) ≤ p1page ∧
  p1page < ((Pagesl4 : Nat) : Int) ∧ ∃ b6 : Nat, ∃ o7 : Nat, (Pagesa3 : Option Addr) = some ⟨b6, o7, none⟩ ∧ ∃ There8 : Bool, cellAt h2 b6 (o7 + p1page.toNat * 4 + 1) = some (.bool There8) ∧ ((!There8) = true →
  (R (.int .i64 12) h2)) ∧ ((!There8) = false → (64 ≠ (0 : Int) ∧ CallsH Try.prog 104 [.pointer (some ⟨p0sb, p0so, none⟩), .int .i64 (IntKind.wrap .i64 (Int.tdiv p1page 64))] h2 fun r9 h3 => ∃ table10 : Bool, r9 = .bool table10 ∧
  ((!table10) = true → (R (.int .i64 15) h3)) ∧ ((!table10) = false → (∃ I11 : Hp → Prop, (∃ There12 : Bool, cellAt h3 (sz h) 1 = some (.bool There12) ∧ ((There12) = true → (∃ Pagesa13 : Option Addr, ∃ Pagesl14 : Nat, ∃ Pagesc15 : Nat, cellAt h3 p0sb p0so = some (.slice Pagesa13 Pagesl14 Pagesc15) ∧
  (0 : Int) ≤ p1page ∧ p1page < ((Pagesl14 : Nat) : Int) ∧ ∃ b16 : Nat, ∃ o17 : Nat, (Pagesa13 : Option Addr) = some ⟨b16, o17, none⟩ ∧ ∃ Frame18 : Int, cellAt h3 b16 (o17 + p1page.toNat * 4) = some (.int .i64 Frame18) ∧
  truly true ∧ ∃ T19 : TypeId, ∃ l20 : List Value, bk h3 (sz h) = some (blk T19 l20) ∧ 0 + 1 ≤ l20.length ∧ ∀ h4 : Hp, h4 = upd h3 (sz h) T19 (writeAt l20 0 [.int .i64 Frame18]) → I11 h4)) ∧ ((There12) = false →
  (I11 h3))) ∧ ∀ h5 : Hp, I11 h5 → ∃ Pagesa21 : Option Addr, ∃ Pagesl22 : Nat, ∃ Pagesc23 : Nat, cellAt h5 p0sb p0so = some (.slice Pagesa21 Pagesl22 Pagesc23) ∧ ∃ x24 : Int, cellAt h5 (sz h) (0 + 0) = some (.int .i64 x24) ∧
  ∃ x25 : Bool, cellAt h5 (sz h) (0 + 1) = some (.bool x25) ∧ ∃ x26 : Bool, cellAt h5 (sz h) (0 + 2) = some (.bool x26) ∧ ∃ x27 : Bool, cellAt h5 (sz h) (0 + 3) = some (.bool x27) ∧ (0 : Int) ≤ p1page ∧
  p1page < ((Pagesl22 : Nat) : Int) ∧ ∃ b28 : Nat, ∃ o29 : Nat, (Pagesa21 : Option Addr) = some ⟨b28, o29, none⟩ ∧ truly true ∧ ∃ T30 : TypeId, ∃ l31 : List Value, bk h5 b28 = some (blk T30 l31) ∧ (o29 + p1page.toNat * 4) + 4 ≤ l31.length ∧
  ∀ h6 : Hp, h6 = upd h5 b28 T30 (writeAt l31 (o29 + p1page.toNat * 4) [.int .i64 x24, .bool x25, .bool x26, .bool x27]) → ∃ I32 : Bool → Int → Hp → Prop, ∃ m33 : Bool → Int → Hp → Nat, I32 false 0 h6 ∧
  ∀ left34 : Bool, ∀ i35 : Int, ∀ h7 : Hp, I32 left34 i35 h7 → ((decide (i35 < 64)) = true → (((left34) = true → (I32 true (IntKind.wrap .i64 (i35 + 1)) h7 ∧ m33 true (IntKind.wrap .i64 (i35 + 1)) h7 < m33 left34 i35 h7)) ∧
  ((left34) = false → (∃ Pagesa36 : Option Addr, ∃ Pagesl37 : Nat, ∃ Pagesc38 : Nat, cellAt h7 p0sb p0so = some (.slice Pagesa36 Pagesl37 Pagesc38) ∧ 64 ≠ (0 : Int) ∧ (0 : Int) ≤ (IntKind.wrap .i64 ((IntKind.wrap .i64 ((IntKind.wrap .i64 (Int.tdiv p1page 64)) * 64)) + i35)) ∧
  (IntKind.wrap .i64 ((IntKind.wrap .i64 ((IntKind.wrap .i64 (Int.tdiv p1page 64)) * 64)) + i35)) < ((Pagesl37 : Nat) : Int) ∧ ∃ b39 : Nat, ∃ o40 : Nat, (Pagesa36 : Option Addr) = some ⟨b39, o40, none⟩ ∧
  ∃ There41 : Bool, cellAt h7 b39 (o40 + (IntKind.wrap .i64 ((IntKind.wrap .i64 ((IntKind.wrap .i64 (Int.tdiv p1page 64)) * 64)) + i35)).toNat * 4 + 1) = some (.bool There41) ∧ I32 There41 (IntKind.wrap .i64 (i35 + 1)) h7 ∧
  m33 There41 (IntKind.wrap .i64 (i35 + 1)) h7 < m33 left34 i35 h7)))) ∧ ((decide (i35 < 64)) = false → (((!left34) = true → (∃ Firstsa42 : Option Addr, ∃ Firstsl43 : Nat, ∃ Firstsc44 : Nat, cellAt h7 p0sb (p0so + 1) = some (.slice Firstsa42 Firstsl43 Firstsc44) ∧
  64 ≠ (0 : Int) ∧ (0 : Int) ≤ (IntKind.wrap .i64 (Int.tdiv p1page 64)) ∧ (IntKind.wrap .i64 (Int.tdiv p1page 64)) < ((Firstsl43 : Nat) : Int) ∧ ∃ b45 : Nat, ∃ o46 : Nat, (Firstsa42 : Option Addr) = some ⟨b45, o46, none⟩ ∧
  truly true ∧ ∃ T47 : TypeId, ∃ l48 : List Value, bk h7 b45 = some (blk T47 l48) ∧ (o46 + (IntKind.wrap .i64 (Int.tdiv p1page 64)).toNat * 1) + 1 ≤ l48.length ∧ ∀ h8 : Hp, h8 = upd h7 b45 T47 (writeAt l48 (o46 + (IntKind.wrap .i64 (Int.tdiv p1page 64)).toNat * 1) [.int .i64 0]) →
  ∃ Free49 : Int, cellAt h8 p0sb (p0so + 3) = some (.int .i64 Free49) ∧ truly true ∧ ∃ T50 : TypeId, ∃ l51 : List Value, bk h8 p0sb = some (blk T50 l51) ∧ (p0so + 3) + 1 ≤ l51.length ∧ ∀ h9 : Hp, h9 = upd h8 p0sb T50 (writeAt l51 (p0so + 3) [.int .i64 (IntKind.wrap .i64 (Free49 + 1))]) →
  R (.int .i64 0) h9)) ∧ ((!left34) = false → (R (.int .i64 0) h7))))))))))
theorem warderref11_Space_change.eq (p0sb p0so : Nat) (p1page : Int) (p2to_0 : Int) (p2to_1 : Bool) (p2to_2 : Bool) (p2to_3 : Bool) (h : Hp) (R : Value → Hp → Prop) : evBody Try.prog calls warderref11_Space_change.hints Try.f105 [.ptr p0sb p0so, .int .i64 p1page, .agg [.int .i64 p2to_0, .bool p2to_1, .bool p2to_2, .bool p2to_3]] h R = warderref11_Space_change.P p0sb p0so p1page p2to_0 p2to_1 p2to_2 p2to_3 h R := by kernel_rfl
theorem warderref11_Space_change.calls (p0sb p0so : Nat) (p1page : Int) (p2to_0 : Int) (p2to_1 : Bool) (p2to_2 : Bool) (p2to_3 : Bool) (h : Hp) (R : Value → Hp → Prop) (hp : warderref11_Space_change.P p0sb p0so p1page p2to_0 p2to_1 p2to_2 p2to_3 h R) : CallsH Try.prog 105 [.pointer (some ⟨p0sb, p0so, none⟩), .int .i64 p1page, .agg #[.int .i64 p2to_0, .bool p2to_1, .bool p2to_2, .bool p2to_3]] h R :=
  calls_of_body calls_ok Try.func105 (args := [.ptr p0sb p0so, .int .i64 p1page, .agg [.int .i64 p2to_0, .bool p2to_1, .bool p2to_2, .bool p2to_3]]) (by rw [warderref11_Space_change.eq]; exact hp)
/-! ### entry_Join: function 106 -/
def entry_Join.hints : Hints := { loops := [], cuts := [], orders := [] }
def entry_Join.P (p0page : Int) (p1offset : Int) (h : Hp) (R : Value → Hp → Prop) : Prop :=
  ((decide (p0page < 0)) = true → (R (.tuple #[.int .u32 0, .bool false]) h)) ∧ ((decide (p0page < 0)) = false → (((decide (p0page ≥ 4096)) = true → (R (.tuple #[.int .u32 0, .bool false]) h)) ∧ ((decide (p0page ≥ 4096)) = false →
  (((decide (p1offset < 0)) = true → (R (.tuple #[.int .u32 0, .bool false]) h)) ∧ ((decide (p1offset < 0)) = false → (((decide (p1offset ≥ 256)) = true → (R (.tuple #[.int .u32 0, .bool false]) h)) ∧
  ((decide (p1offset ≥ 256)) = false → ((0 : Int) ≤ 8 ∧ R (.tuple #[.int .u32 (IntKind.wrap .u32 (borV .i64 (shlV .i64 p0page 8) p1offset)), .bool true]) h))))))))
theorem entry_Join.eq (p0page : Int) (p1offset : Int) (h : Hp) (R : Value → Hp → Prop) : evBody Try.prog calls entry_Join.hints Try.f106 [.int .i64 p0page, .int .i64 p1offset] h R = entry_Join.P p0page p1offset h R := by kernel_rfl
theorem entry_Join.calls (p0page : Int) (p1offset : Int) (h : Hp) (R : Value → Hp → Prop) (hp : entry_Join.P p0page p1offset h R) : CallsH Try.prog 106 [.int .i64 p0page, .int .i64 p1offset] h R :=
  calls_of_body calls_ok Try.func106 (args := [.int .i64 p0page, .int .i64 p1offset]) (by rw [entry_Join.eq]; exact hp)
/-! ### phys_Mem_at: function 107 -/
def phys_Mem_at.hints : Hints := { loops := [], cuts := [], orders := [] }
def phys_Mem_at.P (p0mb p0mo : Nat) (p1addr : Int) (h : Hp) (R : Value → Hp → Prop) : Prop :=
  256 ≠ (0 : Int) ∧ ∃ framesa1 : Option Addr, ∃ framesl2 : Nat, ∃ framesc3 : Nat, cellAt h p0mb p0mo = some (.slice framesa1 framesl2 framesc3) ∧ ((decide ((IntKind.wrap .i64 (IntKind.wrap .u32 (Int.tdiv p1addr 256))) ≥ ((framesl2 : Nat) : Int))) = true →
  (R (.tuple #[.pointer none, .int .i64 0, .bool false]) h)) ∧ ((decide ((IntKind.wrap .i64 (IntKind.wrap .u32 (Int.tdiv p1addr 256))) ≥ ((framesl2 : Nat) : Int))) = false → (∃ framesa4 : Option Addr, ∃ framesl5 : Nat, ∃ framesc6 : Nat, cellAt h p0mb p0mo = some (.slice framesa4 framesl5 framesc6) ∧
  (0 : Int) ≤ (IntKind.wrap .i64 (IntKind.wrap .u32 (Int.tdiv p1addr 256))) ∧ (IntKind.wrap .i64 (IntKind.wrap .u32 (Int.tdiv p1addr 256))) < ((framesl5 : Nat) : Int) ∧ ∃ b7 : Nat, ∃ o8 : Nat, (framesa4 : Option Addr) = some ⟨b7, o8, none⟩ ∧
  256 ≠ (0 : Int) ∧ R (.tuple #[.pointer (some ⟨b7, o8 + (IntKind.wrap .i64 (IntKind.wrap .u32 (Int.tdiv p1addr 256))).toNat * 256, none⟩), .int .i64 (IntKind.wrap .i64 (Int.tmod p1addr 256)), .bool true]) h))
theorem phys_Mem_at.eq (p0mb p0mo : Nat) (p1addr : Int) (h : Hp) (R : Value → Hp → Prop) : evBody Try.prog calls phys_Mem_at.hints Try.f107 [.ptr p0mb p0mo, .int .u32 p1addr] h R = phys_Mem_at.P p0mb p0mo p1addr h R := by kernel_rfl
theorem phys_Mem_at.calls (p0mb p0mo : Nat) (p1addr : Int) (h : Hp) (R : Value → Hp → Prop) (hp : phys_Mem_at.P p0mb p0mo p1addr h R) : CallsH Try.prog 107 [.pointer (some ⟨p0mb, p0mo, none⟩), .int .u32 p1addr] h R :=
  calls_of_body calls_ok Try.func107 (args := [.ptr p0mb p0mo, .int .u32 p1addr]) (by rw [phys_Mem_at.eq]; exact hp)
/-! ### word_Get: function 108 -/
def word_Get.hints : Hints := { loops := [(5, [22, 23], [(6, (.one (.int .u32))), (24, (.one (.int .i64)))])], cuts := [(3, [0, 1], [])], orders := [] }
def word_Get.P (p0ba : Option Addr) (p0bl : Nat) (p0bc : Nat) (p1at : Int) (h : Hp) (R : Value → Hp → Prop) : Prop :=
  ∃ I1 : Hp → Prop, (((decide (p1at < 0)) = true → (R (.tuple #[.int .u32 0, .bool false]) h)) ∧ ((decide (p1at < 0)) = false → (((decide (p1at > (IntKind.wrap .i64 (((p0bl : Nat) : Int) - 4)))) = true →
  (R (.tuple #[.int .u32 0, .bool false]) h)) ∧ ((decide (p1at > (IntKind.wrap .i64 (((p0bl : Nat) : Int) - 4)))) = false → (I1 h))))) ∧ ∀ h1 : Hp, I1 h1 → ((false : Bool) = true → (true : Bool) = true) ∧
  (0 : Int) ≤ p1at ∧ p1at ≤ (IntKind.wrap .i64 (p1at + 4)) ∧ (IntKind.wrap .i64 (p1at + 4)) ≤ ((p0bc : Nat) : Int) ∧ ((p0bc : Nat) : Int) ≤ ((p0bc : Nat) : Int) ∧ ∃ I2 : Int → Int → Hp → Prop, ∃ m3 : Int →
  Int → Hp → Nat, I2 0 0 h1 ∧ ∀ w4 : Int, ∀ x5 : Int, ∀ h2 : Hp, I2 w4 x5 h2 → ((decide (x5 < ((((IntKind.wrap .i64 (p1at + 4))).toNat - (p1at).toNat : Nat) : Int))) = true → ((0 : Int) ≤ x5 ∧ x5 < ((((IntKind.wrap .i64 (p1at + 4))).toNat - (p1at).toNat : Nat) : Int) ∧
  ∃ b6 : Nat, ∃ o7 : Nat, (sliceBase p0ba (p1at).toNat (((p0bc : Nat) : Int)).toNat 1 : Option Addr) = some ⟨b6, o7, none⟩ ∧ ∃ x8 : Int, cellAt h2 b6 (o7 + x5.toNat * 1) = some (.int .u8 x8) ∧ (0 : Int) ≤ (IntKind.wrap .i64 (8 * x5)) ∧
  I2 (borV .u32 w4 (shlV .u32 (IntKind.wrap .u32 x8) (IntKind.wrap .i64 (8 * x5)))) (IntKind.wrap .i64 (x5 + 1)) h2 ∧ m3 (borV .u32 w4 (shlV .u32 (IntKind.wrap .u32 x8) (IntKind.wrap .i64 (8 * x5)))) (IntKind.wrap .i64 (x5 + 1)) h2 < m3 w4 x5 h2)) ∧
  ((decide (x5 < ((((IntKind.wrap .i64 (p1at + 4))).toNat - (p1at).toNat : Nat) : Int))) = false → (R (.tuple #[.int .u32 w4, .bool true]) h2))
theorem word_Get.eq (p0ba : Option Addr) (p0bl : Nat) (p0bc : Nat) (p1at : Int) (h : Hp) (R : Value → Hp → Prop) : evBody Try.prog calls word_Get.hints Try.f108 [.slice p0ba p0bl p0bc, .int .i64 p1at] h R = word_Get.P p0ba p0bl p0bc p1at h R := by kernel_rfl
theorem word_Get.calls (p0ba : Option Addr) (p0bl : Nat) (p0bc : Nat) (p1at : Int) (h : Hp) (R : Value → Hp → Prop) (hp : word_Get.P p0ba p0bl p0bc p1at h R) : CallsH Try.prog 108 [.slice p0ba p0bl p0bc, .int .i64 p1at] h R :=
  calls_of_body calls_ok Try.func108 (args := [.slice p0ba p0bl p0bc, .int .i64 p1at]) (by rw [word_Get.eq]; exact hp)
/-! ### entry_Decode_1: function 109 -/
def entry_Decode_1.hints : Hints := { loops := [], cuts := [], orders := [] }
def entry_Decode_1.P (p0at : Int) (v0cb v0co : Nat) (h : Hp) (R : Value → Hp → Prop) : Prop :=
  ∃ x1 : Int, cellAt h v0cb v0co = some (.int .u32 x1) ∧ CallsH Try.prog 110 [.int .u32 x1, .int .i64 p0at, .int .i64 1] h fun r2 h1 => ∃ Field3 : Int, r2 = .int .u32 Field3 ∧ R (.bool (Field3 == 1)) h1
theorem entry_Decode_1.eq (p0at : Int) (v0cb v0co : Nat) (h : Hp) (R : Value → Hp → Prop) : evBody Try.prog calls entry_Decode_1.hints Try.f109 [.int .i64 p0at, .ptr v0cb v0co] h R = entry_Decode_1.P p0at v0cb v0co h R := by kernel_rfl
theorem entry_Decode_1.calls (p0at : Int) (v0cb v0co : Nat) (h : Hp) (R : Value → Hp → Prop) (hp : entry_Decode_1.P p0at v0cb v0co h R) : CallsH Try.prog 109 [.int .i64 p0at, .pointer (some ⟨v0cb, v0co, none⟩)] h R :=
  calls_of_body calls_ok Try.func109 (args := [.int .i64 p0at, .ptr v0cb v0co]) (by rw [entry_Decode_1.eq]; exact hp)
/-! ### word_Field: function 110 -/
def word_Field.hints : Hints := { loops := [], cuts := [], orders := [(3, [0, 0, 3, 0, 8, 31, 63], (.leaf [0, 1, 2, 3, 4, 5, 6]))] }
def word_Field.P (p0w : Int) (p1at : Int) (p2n : Int) (h : Hp) (R : Value → Hp → Prop) : Prop :=
  CallsH Try.prog 116 [.int .i64 p1at, .int .i64 p2n] h fun r1 h1 => ∃ fits2 : Bool, r1 = .bool fits2 ∧ ((!fits2) = true → (R (.int .u32 0) h1)) ∧ ((!fits2) = false → ((0 : Int) ≤ p1at ∧ CallsH Try.prog 117 [.int .i64 p2n] h1 fun r3 h2 => ∃ mask4 : Int, r3 = .int .u32 mask4 ∧
  R (.int .u32 (bandV .u32 (shrV .u32 p0w p1at) mask4)) h2))
theorem word_Field.eq (p0w : Int) (p1at : Int) (p2n : Int) (h : Hp) (R : Value → Hp → Prop) : evBody Try.prog calls word_Field.hints Try.f110 [.int .u32 p0w, .int .i64 p1at, .int .i64 p2n] h R = word_Field.P p0w p1at p2n h R := by kernel_rfl
theorem word_Field.calls (p0w : Int) (p1at : Int) (p2n : Int) (h : Hp) (R : Value → Hp → Prop) (hp : word_Field.P p0w p1at p2n h R) : CallsH Try.prog 110 [.int .u32 p0w, .int .i64 p1at, .int .i64 p2n] h R :=
  calls_of_body calls_ok Try.func110 (args := [.int .u32 p0w, .int .i64 p1at, .int .i64 p2n]) (by rw [word_Field.eq]; exact hp)
/-! ### word_Set: function 111 -/
def word_Set.hints : Hints := { loops := [(4, [0, 1, 2], [(17, (.one (.int .i64)))])], cuts := [(3, [0, 1, 2], [])], orders := [] }
def word_Set.P (p0ba : Option Addr) (p0bl : Nat) (p0bc : Nat) (p1at : Int) (p2w : Int) (h : Hp) (R : Value → Hp → Prop) : Prop :=
  ∃ I1 : Hp → Prop, (((decide (p1at < 0)) = true → (R (.bool false) h)) ∧ ((decide (p1at < 0)) = false → (((decide (p1at > (IntKind.wrap .i64 (((p0bl : Nat) : Int) - 4)))) = true → (R (.bool false) h)) ∧
  ((decide (p1at > (IntKind.wrap .i64 (((p0bl : Nat) : Int) - 4)))) = false → (I1 h))))) ∧ ∀ h1 : Hp, I1 h1 → ∃ I2 : Int → Hp → Prop, ∃ m3 : Int → Hp → Nat, I2 0 h1 ∧ ∀ x4 : Int, ∀ h2 : Hp, I2 x4 h2 →
  ((decide (x4 < 4)) = true → ((0 : Int) ≤ (IntKind.wrap .i64 (8 * x4)) ∧ (0 : Int) ≤ (IntKind.wrap .i64 (p1at + x4)) ∧ (IntKind.wrap .i64 (p1at + x4)) < ((p0bl : Nat) : Int) ∧ ∃ b5 : Nat, ∃ o6 : Nat, (p0ba : Option Addr) = some ⟨b5, o6, none⟩ ∧
  truly true ∧ ∃ T7 : TypeId, ∃ l8 : List Value, bk h2 b5 = some (blk T7 l8) ∧ (o6 + (IntKind.wrap .i64 (p1at + x4)).toNat * 1) + 1 ≤ l8.length ∧ ∀ h3 : Hp, h3 = upd h2 b5 T7 (writeAt l8 (o6 + (IntKind.wrap .i64 (p1at + x4)).toNat * 1) [.int .u8 (IntKind.wrap .u8 (shrV .u32 p2w (IntKind.wrap .i64 (8 * x4))))]) →
  I2 (IntKind.wrap .i64 (x4 + 1)) h3 ∧ m3 (IntKind.wrap .i64 (x4 + 1)) h3 < m3 x4 h2)) ∧ ((decide (x4 < 4)) = false → (R (.bool true) h2))
theorem word_Set.eq (p0ba : Option Addr) (p0bl : Nat) (p0bc : Nat) (p1at : Int) (p2w : Int) (h : Hp) (R : Value → Hp → Prop) : evBody Try.prog calls word_Set.hints Try.f111 [.slice p0ba p0bl p0bc, .int .i64 p1at, .int .u32 p2w] h R = word_Set.P p0ba p0bl p0bc p1at p2w h R := by kernel_rfl
theorem word_Set.calls (p0ba : Option Addr) (p0bl : Nat) (p0bc : Nat) (p1at : Int) (p2w : Int) (h : Hp) (R : Value → Hp → Prop) (hp : word_Set.P p0ba p0bl p0bc p1at p2w h R) : CallsH Try.prog 111 [.slice p0ba p0bl p0bc, .int .i64 p1at, .int .u32 p2w] h R :=
  calls_of_body calls_ok Try.func111 (args := [.slice p0ba p0bl p0bc, .int .i64 p1at, .int .u32 p2w]) (by rw [word_Set.eq]; exact hp)
/-! ### tlb_Tlb_DropAll_1: function 113 -/
def tlb_Tlb_DropAll_1.hints : Hints := { loops := [], cuts := [], orders := [(1, [0, 1, 3, 7, 0, 31, 63], (.leaf [0, 1, 2, 3, 4, 5, 6]))] }
def tlb_Tlb_DropAll_1.P (p0sb p0so : Nat) (v0cb v0co : Nat) (h : Hp) (R : Value → Hp → Prop) : Prop :=
  ∃ Vmid1 : Int, cellAt h p0sb p0so = some (.int .i64 Vmid1) ∧ ∃ x2 : Int, cellAt h v0cb v0co = some (.int .i64 x2) ∧ R (.bool (Vmid1 == x2)) h
theorem tlb_Tlb_DropAll_1.eq (p0sb p0so : Nat) (v0cb v0co : Nat) (h : Hp) (R : Value → Hp → Prop) : evBody Try.prog calls tlb_Tlb_DropAll_1.hints Try.f113 [.ptr p0sb p0so, .ptr v0cb v0co] h R = tlb_Tlb_DropAll_1.P p0sb p0so v0cb v0co h R := by kernel_rfl
theorem tlb_Tlb_DropAll_1.calls (p0sb p0so : Nat) (v0cb v0co : Nat) (h : Hp) (R : Value → Hp → Prop) (hp : tlb_Tlb_DropAll_1.P p0sb p0so v0cb v0co h R) : CallsH Try.prog 113 [.pointer (some ⟨p0sb, p0so, none⟩), .pointer (some ⟨v0cb, v0co, none⟩)] h R :=
  calls_of_body calls_ok Try.func113 (args := [.ptr p0sb p0so, .ptr v0cb v0co]) (by rw [tlb_Tlb_DropAll_1.eq]; exact hp)
/-! ### frames_Table_set: function 114 -/
def frames_Table_set.hints : Hints := { loops := [], cuts := [], orders := [(0, [0, 0, 2, 6, 14, 0, 62, 126, 1, 257, 1023, 2047, 4095, 1, 8193, 32767, 65535], (.leaf [0, 1, 2, 3, 4, 5, 6, 7, 8, 9, 10, 11, 12, 13, 14, 15, 16])), (1, [0, 0, 1, 5, 15, 31, 63, 1, 129, 511, 1023], (.leaf [0, 1, 2, 3, 4, 5, 6, 7, 8, 9, 10]))] }
def frames_Table_set.P (p0tb p0to : Nat) (p1frame : Int) (p2owner : Int) (h : Hp) (R : Value → Hp → Prop) : Prop :=
  ∃ ownersa1 : Option Addr, ∃ ownersl2 : Nat, ∃ ownersc3 : Nat, cellAt h p0tb p0to = some (.slice ownersa1 ownersl2 ownersc3) ∧ (0 : Int) ≤ p1frame ∧ p1frame < ((ownersl2 : Nat) : Int) ∧ ∃ b4 : Nat, ∃ o5 : Nat, (ownersa1 : Option Addr) = some ⟨b4, o5, none⟩ ∧
  ∃ x6 : Int, cellAt h b4 (o5 + p1frame.toNat * 1) = some (.int .i64 x6) ∧ (0 : Int) ≤ x6 ∧ x6 < ((10 : Nat) : Int) ∧ ∃ x7 : Int, cellAt h p0tb (p0to + 1 + x6.toNat * 1) = some (.int .i64 x7) ∧ (0 : Int) ≤ x6 ∧
  x6 < ((10 : Nat) : Int) ∧ truly true ∧ ∃ T8 : TypeId, ∃ l9 : List Value, bk h p0tb = some (blk T8 l9) ∧ (p0to + 1 + x6.toNat * 1) + 1 ≤ l9.length ∧ ∀ h1 : Hp, h1 = upd h p0tb T8 (writeAt l9 (p0to + 1 + x6.toNat * 1) [.int .i64 (IntKind.wrap .i64 (x7 - 1))]) →
  (0 : Int) ≤ p2owner ∧ p2owner < ((10 : Nat) : Int) ∧ ∃ x10 : Int, cellAt h1 p0tb (p0to + 1 + p2owner.toNat * 1) = some (.int .i64 x10) ∧ (0 : Int) ≤ p2owner ∧ p2owner < ((10 : Nat) : Int) ∧ truly true ∧
  ∃ T11 : TypeId, ∃ l12 : List Value, bk h1 p0tb = some (blk T11 l12) ∧ (p0to + 1 + p2owner.toNat * 1) + 1 ≤ l12.length ∧ ∀ h2 : Hp, h2 = upd h1 p0tb T11 (writeAt l12 (p0to + 1 + p2owner.toNat * 1) [.int .i64 (IntKind.wrap .i64 (x10 + 1))]) →
  ∃ ownersa13 : Option Addr, ∃ ownersl14 : Nat, ∃ ownersc15 : Nat, cellAt h2 p0tb p0to = some (.slice ownersa13 ownersl14 ownersc15) ∧ (0 : Int) ≤ p1frame ∧ p1frame < ((ownersl14 : Nat) : Int) ∧ ∃ b16 : Nat, ∃ o17 : Nat, (ownersa13 : Option Addr) = some ⟨b16, o17, none⟩ ∧
  truly true ∧ ∃ T18 : TypeId, ∃ l19 : List Value, bk h2 b16 = some (blk T18 l19) ∧ (o17 + p1frame.toNat * 1) + 1 ≤ l19.length ∧ ∀ h3 : Hp, h3 = upd h2 b16 T18 (writeAt l19 (o17 + p1frame.toNat * 1) [.int .i64 p2owner]) →
  R (.tuple #[]) h3
theorem frames_Table_set.eq (p0tb p0to : Nat) (p1frame : Int) (p2owner : Int) (h : Hp) (R : Value → Hp → Prop) : evBody Try.prog calls frames_Table_set.hints Try.f114 [.ptr p0tb p0to, .int .i64 p1frame, .int .i64 p2owner] h R = frames_Table_set.P p0tb p0to p1frame p2owner h R := by kernel_rfl
theorem frames_Table_set.calls (p0tb p0to : Nat) (p1frame : Int) (p2owner : Int) (h : Hp) (R : Value → Hp → Prop) (hp : frames_Table_set.P p0tb p0to p1frame p2owner h R) : CallsH Try.prog 114 [.pointer (some ⟨p0tb, p0to, none⟩), .int .i64 p1frame, .int .i64 p2owner] h R :=
  calls_of_body calls_ok Try.func114 (args := [.ptr p0tb p0to, .int .i64 p1frame, .int .i64 p2owner]) (by rw [frames_Table_set.eq]; exact hp)
/-! ### word_Put: function 115 -/
def word_Put.hints : Hints := { loops := [], cuts := [], orders := [(3, [0, 0, 2, 0, 14, 31, 0, 0, 134, 454, 0, 1990, 4095, 8191], (.leaf [0, 1, 3, 6, 7, 10, 2, 4, 5, 8, 9, 11, 12, 13]))] }
def word_Put.P (p0w : Int) (p1at : Int) (p2n : Int) (p3v : Int) (h : Hp) (R : Value → Hp → Prop) : Prop :=
  CallsH Try.prog 116 [.int .i64 p1at, .int .i64 p2n] h fun r1 h1 => ∃ fits2 : Bool, r1 = .bool fits2 ∧ ((!fits2) = true → (R (.int .u32 p0w) h1)) ∧ ((!fits2) = false → (CallsH Try.prog 117 [.int .i64 p2n] h1 fun r3 h2 => ∃ mask4 : Int, r3 = .int .u32 mask4 ∧
  (0 : Int) ≤ p1at ∧ CallsH Try.prog 117 [.int .i64 p2n] h2 fun r5 h3 => ∃ mask6 : Int, r5 = .int .u32 mask6 ∧ (0 : Int) ≤ p1at ∧ R (.int .u32 (borV .u32 (bnotV .u32 p0w (shlV .u32 mask4 p1at)) (shlV .u32 (bandV .u32 p3v mask6) p1at))) h3))
theorem word_Put.eq (p0w : Int) (p1at : Int) (p2n : Int) (p3v : Int) (h : Hp) (R : Value → Hp → Prop) : evBody Try.prog calls word_Put.hints Try.f115 [.int .u32 p0w, .int .i64 p1at, .int .i64 p2n, .int .u32 p3v] h R = word_Put.P p0w p1at p2n p3v h R := by kernel_rfl
theorem word_Put.calls (p0w : Int) (p1at : Int) (p2n : Int) (p3v : Int) (h : Hp) (R : Value → Hp → Prop) (hp : word_Put.P p0w p1at p2n p3v h R) : CallsH Try.prog 115 [.int .u32 p0w, .int .i64 p1at, .int .i64 p2n, .int .u32 p3v] h R :=
  calls_of_body calls_ok Try.func115 (args := [.int .u32 p0w, .int .i64 p1at, .int .i64 p2n, .int .u32 p3v]) (by rw [word_Put.eq]; exact hp)
/-! ### word_fits: function 116 -/
def word_fits.hints : Hints := { loops := [], cuts := [], orders := [] }
def word_fits.P (p0at : Int) (p1n : Int) (h : Hp) (R : Value → Hp → Prop) : Prop :=
  ((decide (p1n ≥ 1)) = true → (((decide (p1n ≤ 32)) = true → (((decide (p0at ≥ 0)) = true → (R (.bool (decide (p0at ≤ (IntKind.wrap .i64 (32 - p1n))))) h)) ∧ ((decide (p0at ≥ 0)) = false → (R (.bool false) h)))) ∧
  ((decide (p1n ≤ 32)) = false → (R (.bool false) h)))) ∧ ((decide (p1n ≥ 1)) = false → (R (.bool false) h))
theorem word_fits.eq (p0at : Int) (p1n : Int) (h : Hp) (R : Value → Hp → Prop) : evBody Try.prog calls word_fits.hints Try.f116 [.int .i64 p0at, .int .i64 p1n] h R = word_fits.P p0at p1n h R := by kernel_rfl
theorem word_fits.calls (p0at : Int) (p1n : Int) (h : Hp) (R : Value → Hp → Prop) (hp : word_fits.P p0at p1n h R) : CallsH Try.prog 116 [.int .i64 p0at, .int .i64 p1n] h R :=
  calls_of_body calls_ok Try.func116 (args := [.int .i64 p0at, .int .i64 p1n]) (by rw [word_fits.eq]; exact hp)
/-! ### word_mask: function 117 -/
def word_mask.hints : Hints := { loops := [], cuts := [], orders := [] }
def word_mask.P (p0n : Int) (h : Hp) (R : Value → Hp → Prop) : Prop :=
  (0 : Int) ≤ (IntKind.wrap .i64 (32 - p0n)) ∧ R (.int .u32 (shrV .u32 4294967295 (IntKind.wrap .i64 (32 - p0n)))) h
theorem word_mask.eq (p0n : Int) (h : Hp) (R : Value → Hp → Prop) : evBody Try.prog calls word_mask.hints Try.f117 [.int .i64 p0n] h R = word_mask.P p0n h R := by kernel_rfl
theorem word_mask.calls (p0n : Int) (h : Hp) (R : Value → Hp → Prop) (hp : word_mask.P p0n h R) : CallsH Try.prog 117 [.int .i64 p0n] h R :=
  calls_of_body calls_ok Try.func117 (args := [.int .i64 p0n]) (by rw [word_mask.eq]; exact hp)
/-! ### stage_Space_by_49: function 48 -/
def stage_Space_by_49.hints : Hints := { loops := [], cuts := [], orders := [] }
def stage_Space_by_49.P (p0sb p0so : Nat) (p1what0b p1what0o : Nat) (p1what1b p1what1o : Nat) (p1what2b p1what2o : Nat) (p1what3b p1what3o : Nat) (p1what4b p1what4o : Nat) (h : Hp) (R : Value → Hp → Prop) : Prop :=
  ∀ h1 : Hp, h1 = new h (blk 34 [.pointer (some ⟨p0sb, p0so, none⟩)]) → ∀ h2 : Hp, h2 = new h1 (blk 29 [.int .i64 0]) → ∃ x1 : Option Addr, cellAt h2 (sz h) 0 = some (.pointer x1) ∧ ∃ b2 : Nat, ∃ o3 : Nat, x1 = some ⟨b2, o3, none⟩ ∧
  truly true ∧ ∃ T4 : TypeId, ∃ l5 : List Value, bk h2 b2 = some (blk T4 l5) ∧ (o3 + 6) + 1 ≤ l5.length ∧ ∀ h3 : Hp, h3 = upd h2 b2 T4 (writeAt l5 (o3 + 6) [.slice none 0 0]) → ∃ x6 : Option Addr, cellAt h3 (sz h) 0 = some (.pointer x6) ∧
  ∃ b7 : Nat, ∃ o8 : Nat, x6 = some ⟨b7, o8, none⟩ ∧ ∃ dead9 : Bool, cellAt h3 b7 (o8 + 5) = some (.bool dead9) ∧ CallsX Try.prog 50 [.bool (!dead9), .int .i64 20] h3 (fun r10 h4 => r10 = .tuple #[] ∧
  CallsX Try.prog 49 [.pointer (some ⟨p1what0b, p1what0o, none⟩), .pointer (some ⟨p1what1b, p1what1o, none⟩), .pointer (some ⟨p1what2b, p1what2o, none⟩), .pointer (some ⟨p1what3b, p1what3o, none⟩), .pointer (some ⟨p1what4b, p1what4o, none⟩)] h4 (fun r12 h6 => r12 = .tuple #[] ∧
  truly true ∧ ∃ T14 : TypeId, ∃ l15 : List Value, bk h6 (sz h1) = some (blk T14 l15) ∧ 0 + 1 ≤ l15.length ∧ ∀ h8 : Hp, h8 = upd h6 (sz h1) T14 (writeAt l15 0 [.int .i64 0]) → CallsDH Try.prog 96 [.pointer (some ⟨(sz h1), 0, none⟩), .pointer (some ⟨(sz h), 0, none⟩)] none h8 fun h9 => ∃ res16 : Int, cellAt h9 (sz h1) 0 = some (.int .i64 res16) ∧
  R (.int .i64 res16) h9) (fun px13 h7 => CallsDH Try.prog 96 [.pointer (some ⟨(sz h1), 0, none⟩), .pointer (some ⟨(sz h), 0, none⟩)] (some px13) h7 fun h10 => ∃ res17 : Int, cellAt h10 (sz h1) 0 = some (.int .i64 res17) ∧
  R (.int .i64 res17) h10)) (fun px11 h5 => CallsDH Try.prog 96 [.pointer (some ⟨(sz h1), 0, none⟩), .pointer (some ⟨(sz h), 0, none⟩)] (some px11) h5 fun h11 => ∃ res18 : Int, cellAt h11 (sz h1) 0 = some (.int .i64 res18) ∧
  R (.int .i64 res18) h11)
theorem stage_Space_by_49.eq (p0sb p0so : Nat) (p1what0b p1what0o : Nat) (p1what1b p1what1o : Nat) (p1what2b p1what2o : Nat) (p1what3b p1what3o : Nat) (p1what4b p1what4o : Nat) (h : Hp) (R : Value → Hp → Prop) : evBodyD Try.prog calls stage_Space_by_49.hints Try.f48 [.ptr p0sb p0so, .fn (.func 49) [] [.pointer (some ⟨p1what0b, p1what0o, none⟩), .pointer (some ⟨p1what1b, p1what1o, none⟩), .pointer (some ⟨p1what2b, p1what2o, none⟩), .pointer (some ⟨p1what3b, p1what3o, none⟩), .pointer (some ⟨p1what4b, p1what4o, none⟩)]] h R = stage_Space_by_49.P p0sb p0so p1what0b p1what0o p1what1b p1what1o p1what2b p1what2o p1what3b p1what3o p1what4b p1what4o h R := by kernel_rfl
theorem stage_Space_by_49.calls (p0sb p0so : Nat) (p1what0b p1what0o : Nat) (p1what1b p1what1o : Nat) (p1what2b p1what2o : Nat) (p1what3b p1what3o : Nat) (p1what4b p1what4o : Nat) (h : Hp) (R : Value → Hp → Prop) (hp : stage_Space_by_49.P p0sb p0so p1what0b p1what0o p1what1b p1what1o p1what2b p1what2o p1what3b p1what3o p1what4b p1what4o h R) : CallsH Try.prog 48 [.pointer (some ⟨p0sb, p0so, none⟩), .func (.func 49) #[] #[.pointer (some ⟨p1what0b, p1what0o, none⟩), .pointer (some ⟨p1what1b, p1what1o, none⟩), .pointer (some ⟨p1what2b, p1what2o, none⟩), .pointer (some ⟨p1what3b, p1what3o, none⟩), .pointer (some ⟨p1what4b, p1what4o, none⟩)]] h R :=
  calls_of_bodyD calls_ok Try.func48 (args := [.ptr p0sb p0so, .fn (.func 49) [] [.pointer (some ⟨p1what0b, p1what0o, none⟩), .pointer (some ⟨p1what1b, p1what1o, none⟩), .pointer (some ⟨p1what2b, p1what2o, none⟩), .pointer (some ⟨p1what3b, p1what3o, none⟩), .pointer (some ⟨p1what4b, p1what4o, none⟩)]]) (by rw [stage_Space_by_49.eq]; exact hp)
/-! ### stage_Space_by_60: function 48 -/
def stage_Space_by_60.hints : Hints := { loops := [], cuts := [], orders := [] }
def stage_Space_by_60.P (p0sb p0so : Nat) (p1what0b p1what0o : Nat) (p1what1b p1what1o : Nat) (h : Hp) (R : Value → Hp → Prop) : Prop :=
  ∀ h1 : Hp, h1 = new h (blk 34 [.pointer (some ⟨p0sb, p0so, none⟩)]) → ∀ h2 : Hp, h2 = new h1 (blk 29 [.int .i64 0]) → ∃ x1 : Option Addr, cellAt h2 (sz h) 0 = some (.pointer x1) ∧ ∃ b2 : Nat, ∃ o3 : Nat, x1 = some ⟨b2, o3, none⟩ ∧
  truly true ∧ ∃ T4 : TypeId, ∃ l5 : List Value, bk h2 b2 = some (blk T4 l5) ∧ (o3 + 6) + 1 ≤ l5.length ∧ ∀ h3 : Hp, h3 = upd h2 b2 T4 (writeAt l5 (o3 + 6) [.slice none 0 0]) → ∃ x6 : Option Addr, cellAt h3 (sz h) 0 = some (.pointer x6) ∧
  ∃ b7 : Nat, ∃ o8 : Nat, x6 = some ⟨b7, o8, none⟩ ∧ ∃ dead9 : Bool, cellAt h3 b7 (o8 + 5) = some (.bool dead9) ∧ CallsX Try.prog 50 [.bool (!dead9), .int .i64 20] h3 (fun r10 h4 => r10 = .tuple #[] ∧
  CallsX Try.prog 60 [.pointer (some ⟨p1what0b, p1what0o, none⟩), .pointer (some ⟨p1what1b, p1what1o, none⟩)] h4 (fun r12 h6 => r12 = .tuple #[] ∧ truly true ∧ ∃ T14 : TypeId, ∃ l15 : List Value, bk h6 (sz h1) = some (blk T14 l15) ∧
  0 + 1 ≤ l15.length ∧ ∀ h8 : Hp, h8 = upd h6 (sz h1) T14 (writeAt l15 0 [.int .i64 0]) → CallsDH Try.prog 96 [.pointer (some ⟨(sz h1), 0, none⟩), .pointer (some ⟨(sz h), 0, none⟩)] none h8 fun h9 => ∃ res16 : Int, cellAt h9 (sz h1) 0 = some (.int .i64 res16) ∧
  R (.int .i64 res16) h9) (fun px13 h7 => CallsDH Try.prog 96 [.pointer (some ⟨(sz h1), 0, none⟩), .pointer (some ⟨(sz h), 0, none⟩)] (some px13) h7 fun h10 => ∃ res17 : Int, cellAt h10 (sz h1) 0 = some (.int .i64 res17) ∧
  R (.int .i64 res17) h10)) (fun px11 h5 => CallsDH Try.prog 96 [.pointer (some ⟨(sz h1), 0, none⟩), .pointer (some ⟨(sz h), 0, none⟩)] (some px11) h5 fun h11 => ∃ res18 : Int, cellAt h11 (sz h1) 0 = some (.int .i64 res18) ∧
  R (.int .i64 res18) h11)
theorem stage_Space_by_60.eq (p0sb p0so : Nat) (p1what0b p1what0o : Nat) (p1what1b p1what1o : Nat) (h : Hp) (R : Value → Hp → Prop) : evBodyD Try.prog calls stage_Space_by_60.hints Try.f48 [.ptr p0sb p0so, .fn (.func 60) [] [.pointer (some ⟨p1what0b, p1what0o, none⟩), .pointer (some ⟨p1what1b, p1what1o, none⟩)]] h R = stage_Space_by_60.P p0sb p0so p1what0b p1what0o p1what1b p1what1o h R := by kernel_rfl
theorem stage_Space_by_60.calls (p0sb p0so : Nat) (p1what0b p1what0o : Nat) (p1what1b p1what1o : Nat) (h : Hp) (R : Value → Hp → Prop) (hp : stage_Space_by_60.P p0sb p0so p1what0b p1what0o p1what1b p1what1o h R) : CallsH Try.prog 48 [.pointer (some ⟨p0sb, p0so, none⟩), .func (.func 60) #[] #[.pointer (some ⟨p1what0b, p1what0o, none⟩), .pointer (some ⟨p1what1b, p1what1o, none⟩)]] h R :=
  calls_of_bodyD calls_ok Try.func48 (args := [.ptr p0sb p0so, .fn (.func 60) [] [.pointer (some ⟨p1what0b, p1what0o, none⟩), .pointer (some ⟨p1what1b, p1what1o, none⟩)]]) (by rw [stage_Space_by_60.eq]; exact hp)
/-! ### stage_Space_by_72: function 48 -/
def stage_Space_by_72.hints : Hints := { loops := [], cuts := [], orders := [] }
def stage_Space_by_72.P (p0sb p0so : Nat) (p1what0b p1what0o : Nat) (p1what1b p1what1o : Nat) (h : Hp) (R : Value → Hp → Prop) : Prop :=
  ∀ h1 : Hp, h1 = new h (blk 34 [.pointer (some ⟨p0sb, p0so, none⟩)]) → ∀ h2 : Hp, h2 = new h1 (blk 29 [.int .i64 0]) → ∃ x1 : Option Addr, cellAt h2 (sz h) 0 = some (.pointer x1) ∧ ∃ b2 : Nat, ∃ o3 : Nat, x1 = some ⟨b2, o3, none⟩ ∧
  truly true ∧ ∃ T4 : TypeId, ∃ l5 : List Value, bk h2 b2 = some (blk T4 l5) ∧ (o3 + 6) + 1 ≤ l5.length ∧ ∀ h3 : Hp, h3 = upd h2 b2 T4 (writeAt l5 (o3 + 6) [.slice none 0 0]) → ∃ x6 : Option Addr, cellAt h3 (sz h) 0 = some (.pointer x6) ∧
  ∃ b7 : Nat, ∃ o8 : Nat, x6 = some ⟨b7, o8, none⟩ ∧ ∃ dead9 : Bool, cellAt h3 b7 (o8 + 5) = some (.bool dead9) ∧ CallsX Try.prog 50 [.bool (!dead9), .int .i64 20] h3 (fun r10 h4 => r10 = .tuple #[] ∧
  CallsX Try.prog 72 [.pointer (some ⟨p1what0b, p1what0o, none⟩), .pointer (some ⟨p1what1b, p1what1o, none⟩)] h4 (fun r12 h6 => r12 = .tuple #[] ∧ truly true ∧ ∃ T14 : TypeId, ∃ l15 : List Value, bk h6 (sz h1) = some (blk T14 l15) ∧
  0 + 1 ≤ l15.length ∧ ∀ h8 : Hp, h8 = upd h6 (sz h1) T14 (writeAt l15 0 [.int .i64 0]) → CallsDH Try.prog 96 [.pointer (some ⟨(sz h1), 0, none⟩), .pointer (some ⟨(sz h), 0, none⟩)] none h8 fun h9 => ∃ res16 : Int, cellAt h9 (sz h1) 0 = some (.int .i64 res16) ∧
  R (.int .i64 res16) h9) (fun px13 h7 => CallsDH Try.prog 96 [.pointer (some ⟨(sz h1), 0, none⟩), .pointer (some ⟨(sz h), 0, none⟩)] (some px13) h7 fun h10 => ∃ res17 : Int, cellAt h10 (sz h1) 0 = some (.int .i64 res17) ∧
  R (.int .i64 res17) h10)) (fun px11 h5 => CallsDH Try.prog 96 [.pointer (some ⟨(sz h1), 0, none⟩), .pointer (some ⟨(sz h), 0, none⟩)] (some px11) h5 fun h11 => ∃ res18 : Int, cellAt h11 (sz h1) 0 = some (.int .i64 res18) ∧
  R (.int .i64 res18) h11)
theorem stage_Space_by_72.eq (p0sb p0so : Nat) (p1what0b p1what0o : Nat) (p1what1b p1what1o : Nat) (h : Hp) (R : Value → Hp → Prop) : evBodyD Try.prog calls stage_Space_by_72.hints Try.f48 [.ptr p0sb p0so, .fn (.func 72) [] [.pointer (some ⟨p1what0b, p1what0o, none⟩), .pointer (some ⟨p1what1b, p1what1o, none⟩)]] h R = stage_Space_by_72.P p0sb p0so p1what0b p1what0o p1what1b p1what1o h R := by kernel_rfl
theorem stage_Space_by_72.calls (p0sb p0so : Nat) (p1what0b p1what0o : Nat) (p1what1b p1what1o : Nat) (h : Hp) (R : Value → Hp → Prop) (hp : stage_Space_by_72.P p0sb p0so p1what0b p1what0o p1what1b p1what1o h R) : CallsH Try.prog 48 [.pointer (some ⟨p0sb, p0so, none⟩), .func (.func 72) #[] #[.pointer (some ⟨p1what0b, p1what0o, none⟩), .pointer (some ⟨p1what1b, p1what1o, none⟩)]] h R :=
  calls_of_bodyD calls_ok Try.func48 (args := [.ptr p0sb p0so, .fn (.func 72) [] [.pointer (some ⟨p1what0b, p1what0o, none⟩), .pointer (some ⟨p1what1b, p1what1o, none⟩)]]) (by rw [stage_Space_by_72.eq]; exact hp)
/-! ### stage_Space_by_75: function 48 -/
def stage_Space_by_75.hints : Hints := { loops := [], cuts := [], orders := [] }
def stage_Space_by_75.P (p0sb p0so : Nat) (p1what0b p1what0o : Nat) (p1what1b p1what1o : Nat) (h : Hp) (R : Value → Hp → Prop) : Prop :=
  ∀ h1 : Hp, h1 = new h (blk 34 [.pointer (some ⟨p0sb, p0so, none⟩)]) → ∀ h2 : Hp, h2 = new h1 (blk 29 [.int .i64 0]) → ∃ x1 : Option Addr, cellAt h2 (sz h) 0 = some (.pointer x1) ∧ ∃ b2 : Nat, ∃ o3 : Nat, x1 = some ⟨b2, o3, none⟩ ∧
  truly true ∧ ∃ T4 : TypeId, ∃ l5 : List Value, bk h2 b2 = some (blk T4 l5) ∧ (o3 + 6) + 1 ≤ l5.length ∧ ∀ h3 : Hp, h3 = upd h2 b2 T4 (writeAt l5 (o3 + 6) [.slice none 0 0]) → ∃ x6 : Option Addr, cellAt h3 (sz h) 0 = some (.pointer x6) ∧
  ∃ b7 : Nat, ∃ o8 : Nat, x6 = some ⟨b7, o8, none⟩ ∧ ∃ dead9 : Bool, cellAt h3 b7 (o8 + 5) = some (.bool dead9) ∧ CallsX Try.prog 50 [.bool (!dead9), .int .i64 20] h3 (fun r10 h4 => r10 = .tuple #[] ∧
  CallsX Try.prog 75 [.pointer (some ⟨p1what0b, p1what0o, none⟩), .pointer (some ⟨p1what1b, p1what1o, none⟩)] h4 (fun r12 h6 => r12 = .tuple #[] ∧ truly true ∧ ∃ T14 : TypeId, ∃ l15 : List Value, bk h6 (sz h1) = some (blk T14 l15) ∧
  0 + 1 ≤ l15.length ∧ ∀ h8 : Hp, h8 = upd h6 (sz h1) T14 (writeAt l15 0 [.int .i64 0]) → CallsDH Try.prog 96 [.pointer (some ⟨(sz h1), 0, none⟩), .pointer (some ⟨(sz h), 0, none⟩)] none h8 fun h9 => ∃ res16 : Int, cellAt h9 (sz h1) 0 = some (.int .i64 res16) ∧
  R (.int .i64 res16) h9) (fun px13 h7 => CallsDH Try.prog 96 [.pointer (some ⟨(sz h1), 0, none⟩), .pointer (some ⟨(sz h), 0, none⟩)] (some px13) h7 fun h10 => ∃ res17 : Int, cellAt h10 (sz h1) 0 = some (.int .i64 res17) ∧
  R (.int .i64 res17) h10)) (fun px11 h5 => CallsDH Try.prog 96 [.pointer (some ⟨(sz h1), 0, none⟩), .pointer (some ⟨(sz h), 0, none⟩)] (some px11) h5 fun h11 => ∃ res18 : Int, cellAt h11 (sz h1) 0 = some (.int .i64 res18) ∧
  R (.int .i64 res18) h11)
theorem stage_Space_by_75.eq (p0sb p0so : Nat) (p1what0b p1what0o : Nat) (p1what1b p1what1o : Nat) (h : Hp) (R : Value → Hp → Prop) : evBodyD Try.prog calls stage_Space_by_75.hints Try.f48 [.ptr p0sb p0so, .fn (.func 75) [] [.pointer (some ⟨p1what0b, p1what0o, none⟩), .pointer (some ⟨p1what1b, p1what1o, none⟩)]] h R = stage_Space_by_75.P p0sb p0so p1what0b p1what0o p1what1b p1what1o h R := by kernel_rfl
theorem stage_Space_by_75.calls (p0sb p0so : Nat) (p1what0b p1what0o : Nat) (p1what1b p1what1o : Nat) (h : Hp) (R : Value → Hp → Prop) (hp : stage_Space_by_75.P p0sb p0so p1what0b p1what0o p1what1b p1what1o h R) : CallsH Try.prog 48 [.pointer (some ⟨p0sb, p0so, none⟩), .func (.func 75) #[] #[.pointer (some ⟨p1what0b, p1what0o, none⟩), .pointer (some ⟨p1what1b, p1what1o, none⟩)]] h R :=
  calls_of_bodyD calls_ok Try.func48 (args := [.ptr p0sb p0so, .fn (.func 75) [] [.pointer (some ⟨p1what0b, p1what0o, none⟩), .pointer (some ⟨p1what1b, p1what1o, none⟩)]]) (by rw [stage_Space_by_75.eq]; exact hp)
/-! ### stage_Space_by_77: function 48 -/
def stage_Space_by_77.hints : Hints := { loops := [], cuts := [], orders := [] }
def stage_Space_by_77.P (p0sb p0so : Nat) (p1what0b p1what0o : Nat) (p1what1b p1what1o : Nat) (p1what2b p1what2o : Nat) (p1what3b p1what3o : Nat) (h : Hp) (R : Value → Hp → Prop) : Prop :=
  ∀ h1 : Hp, h1 = new h (blk 34 [.pointer (some ⟨p0sb, p0so, none⟩)]) → ∀ h2 : Hp, h2 = new h1 (blk 29 [.int .i64 0]) → ∃ x1 : Option Addr, cellAt h2 (sz h) 0 = some (.pointer x1) ∧ ∃ b2 : Nat, ∃ o3 : Nat, x1 = some ⟨b2, o3, none⟩ ∧
  truly true ∧ ∃ T4 : TypeId, ∃ l5 : List Value, bk h2 b2 = some (blk T4 l5) ∧ (o3 + 6) + 1 ≤ l5.length ∧ ∀ h3 : Hp, h3 = upd h2 b2 T4 (writeAt l5 (o3 + 6) [.slice none 0 0]) → ∃ x6 : Option Addr, cellAt h3 (sz h) 0 = some (.pointer x6) ∧
  ∃ b7 : Nat, ∃ o8 : Nat, x6 = some ⟨b7, o8, none⟩ ∧ ∃ dead9 : Bool, cellAt h3 b7 (o8 + 5) = some (.bool dead9) ∧ CallsX Try.prog 50 [.bool (!dead9), .int .i64 20] h3 (fun r10 h4 => r10 = .tuple #[] ∧
  CallsX Try.prog 77 [.pointer (some ⟨p1what0b, p1what0o, none⟩), .pointer (some ⟨p1what1b, p1what1o, none⟩), .pointer (some ⟨p1what2b, p1what2o, none⟩), .pointer (some ⟨p1what3b, p1what3o, none⟩)] h4 (fun r12 h6 => r12 = .tuple #[] ∧
  truly true ∧ ∃ T14 : TypeId, ∃ l15 : List Value, bk h6 (sz h1) = some (blk T14 l15) ∧ 0 + 1 ≤ l15.length ∧ ∀ h8 : Hp, h8 = upd h6 (sz h1) T14 (writeAt l15 0 [.int .i64 0]) → CallsDH Try.prog 96 [.pointer (some ⟨(sz h1), 0, none⟩), .pointer (some ⟨(sz h), 0, none⟩)] none h8 fun h9 => ∃ res16 : Int, cellAt h9 (sz h1) 0 = some (.int .i64 res16) ∧
  R (.int .i64 res16) h9) (fun px13 h7 => CallsDH Try.prog 96 [.pointer (some ⟨(sz h1), 0, none⟩), .pointer (some ⟨(sz h), 0, none⟩)] (some px13) h7 fun h10 => ∃ res17 : Int, cellAt h10 (sz h1) 0 = some (.int .i64 res17) ∧
  R (.int .i64 res17) h10)) (fun px11 h5 => CallsDH Try.prog 96 [.pointer (some ⟨(sz h1), 0, none⟩), .pointer (some ⟨(sz h), 0, none⟩)] (some px11) h5 fun h11 => ∃ res18 : Int, cellAt h11 (sz h1) 0 = some (.int .i64 res18) ∧
  R (.int .i64 res18) h11)
theorem stage_Space_by_77.eq (p0sb p0so : Nat) (p1what0b p1what0o : Nat) (p1what1b p1what1o : Nat) (p1what2b p1what2o : Nat) (p1what3b p1what3o : Nat) (h : Hp) (R : Value → Hp → Prop) : evBodyD Try.prog calls stage_Space_by_77.hints Try.f48 [.ptr p0sb p0so, .fn (.func 77) [] [.pointer (some ⟨p1what0b, p1what0o, none⟩), .pointer (some ⟨p1what1b, p1what1o, none⟩), .pointer (some ⟨p1what2b, p1what2o, none⟩), .pointer (some ⟨p1what3b, p1what3o, none⟩)]] h R = stage_Space_by_77.P p0sb p0so p1what0b p1what0o p1what1b p1what1o p1what2b p1what2o p1what3b p1what3o h R := by kernel_rfl
theorem stage_Space_by_77.calls (p0sb p0so : Nat) (p1what0b p1what0o : Nat) (p1what1b p1what1o : Nat) (p1what2b p1what2o : Nat) (p1what3b p1what3o : Nat) (h : Hp) (R : Value → Hp → Prop) (hp : stage_Space_by_77.P p0sb p0so p1what0b p1what0o p1what1b p1what1o p1what2b p1what2o p1what3b p1what3o h R) : CallsH Try.prog 48 [.pointer (some ⟨p0sb, p0so, none⟩), .func (.func 77) #[] #[.pointer (some ⟨p1what0b, p1what0o, none⟩), .pointer (some ⟨p1what1b, p1what1o, none⟩), .pointer (some ⟨p1what2b, p1what2o, none⟩), .pointer (some ⟨p1what3b, p1what3o, none⟩)]] h R :=
  calls_of_bodyD calls_ok Try.func48 (args := [.ptr p0sb p0so, .fn (.func 77) [] [.pointer (some ⟨p1what0b, p1what0o, none⟩), .pointer (some ⟨p1what1b, p1what1o, none⟩), .pointer (some ⟨p1what2b, p1what2o, none⟩), .pointer (some ⟨p1what3b, p1what3o, none⟩)]]) (by rw [stage_Space_by_77.eq]; exact hp)
/-! ### stage_Space_by_93: function 48 -/
def stage_Space_by_93.hints : Hints := { loops := [], cuts := [], orders := [] }
def stage_Space_by_93.P (p0sb p0so : Nat) (p1what0b p1what0o : Nat) (p1what1b p1what1o : Nat) (p1what2b p1what2o : Nat) (p1what3b p1what3o : Nat) (p1what4b p1what4o : Nat) (h : Hp) (R : Value → Hp → Prop) : Prop :=
  ∀ h1 : Hp, h1 = new h (blk 34 [.pointer (some ⟨p0sb, p0so, none⟩)]) → ∀ h2 : Hp, h2 = new h1 (blk 29 [.int .i64 0]) → ∃ x1 : Option Addr, cellAt h2 (sz h) 0 = some (.pointer x1) ∧ ∃ b2 : Nat, ∃ o3 : Nat, x1 = some ⟨b2, o3, none⟩ ∧
  truly true ∧ ∃ T4 : TypeId, ∃ l5 : List Value, bk h2 b2 = some (blk T4 l5) ∧ (o3 + 6) + 1 ≤ l5.length ∧ ∀ h3 : Hp, h3 = upd h2 b2 T4 (writeAt l5 (o3 + 6) [.slice none 0 0]) → ∃ x6 : Option Addr, cellAt h3 (sz h) 0 = some (.pointer x6) ∧
  ∃ b7 : Nat, ∃ o8 : Nat, x6 = some ⟨b7, o8, none⟩ ∧ ∃ dead9 : Bool, cellAt h3 b7 (o8 + 5) = some (.bool dead9) ∧ CallsX Try.prog 50 [.bool (!dead9), .int .i64 20] h3 (fun r10 h4 => r10 = .tuple #[] ∧
  CallsX Try.prog 93 [.pointer (some ⟨p1what0b, p1what0o, none⟩), .pointer (some ⟨p1what1b, p1what1o, none⟩), .pointer (some ⟨p1what2b, p1what2o, none⟩), .pointer (some ⟨p1what3b, p1what3o, none⟩), .pointer (some ⟨p1what4b, p1what4o, none⟩)] h4 (fun r12 h6 => r12 = .tuple #[] ∧
  truly true ∧ ∃ T14 : TypeId, ∃ l15 : List Value, bk h6 (sz h1) = some (blk T14 l15) ∧ 0 + 1 ≤ l15.length ∧ ∀ h8 : Hp, h8 = upd h6 (sz h1) T14 (writeAt l15 0 [.int .i64 0]) → CallsDH Try.prog 96 [.pointer (some ⟨(sz h1), 0, none⟩), .pointer (some ⟨(sz h), 0, none⟩)] none h8 fun h9 => ∃ res16 : Int, cellAt h9 (sz h1) 0 = some (.int .i64 res16) ∧
  R (.int .i64 res16) h9) (fun px13 h7 => CallsDH Try.prog 96 [.pointer (some ⟨(sz h1), 0, none⟩), .pointer (some ⟨(sz h), 0, none⟩)] (some px13) h7 fun h10 => ∃ res17 : Int, cellAt h10 (sz h1) 0 = some (.int .i64 res17) ∧
  R (.int .i64 res17) h10)) (fun px11 h5 => CallsDH Try.prog 96 [.pointer (some ⟨(sz h1), 0, none⟩), .pointer (some ⟨(sz h), 0, none⟩)] (some px11) h5 fun h11 => ∃ res18 : Int, cellAt h11 (sz h1) 0 = some (.int .i64 res18) ∧
  R (.int .i64 res18) h11)
theorem stage_Space_by_93.eq (p0sb p0so : Nat) (p1what0b p1what0o : Nat) (p1what1b p1what1o : Nat) (p1what2b p1what2o : Nat) (p1what3b p1what3o : Nat) (p1what4b p1what4o : Nat) (h : Hp) (R : Value → Hp → Prop) : evBodyD Try.prog calls stage_Space_by_93.hints Try.f48 [.ptr p0sb p0so, .fn (.func 93) [] [.pointer (some ⟨p1what0b, p1what0o, none⟩), .pointer (some ⟨p1what1b, p1what1o, none⟩), .pointer (some ⟨p1what2b, p1what2o, none⟩), .pointer (some ⟨p1what3b, p1what3o, none⟩), .pointer (some ⟨p1what4b, p1what4o, none⟩)]] h R = stage_Space_by_93.P p0sb p0so p1what0b p1what0o p1what1b p1what1o p1what2b p1what2o p1what3b p1what3o p1what4b p1what4o h R := by kernel_rfl
theorem stage_Space_by_93.calls (p0sb p0so : Nat) (p1what0b p1what0o : Nat) (p1what1b p1what1o : Nat) (p1what2b p1what2o : Nat) (p1what3b p1what3o : Nat) (p1what4b p1what4o : Nat) (h : Hp) (R : Value → Hp → Prop) (hp : stage_Space_by_93.P p0sb p0so p1what0b p1what0o p1what1b p1what1o p1what2b p1what2o p1what3b p1what3o p1what4b p1what4o h R) : CallsH Try.prog 48 [.pointer (some ⟨p0sb, p0so, none⟩), .func (.func 93) #[] #[.pointer (some ⟨p1what0b, p1what0o, none⟩), .pointer (some ⟨p1what1b, p1what1o, none⟩), .pointer (some ⟨p1what2b, p1what2o, none⟩), .pointer (some ⟨p1what3b, p1what3o, none⟩), .pointer (some ⟨p1what4b, p1what4o, none⟩)]] h R :=
  calls_of_bodyD calls_ok Try.func48 (args := [.ptr p0sb p0so, .fn (.func 93) [] [.pointer (some ⟨p1what0b, p1what0o, none⟩), .pointer (some ⟨p1what1b, p1what1o, none⟩), .pointer (some ⟨p1what2b, p1what2o, none⟩), .pointer (some ⟨p1what3b, p1what3o, none⟩), .pointer (some ⟨p1what4b, p1what4o, none⟩)]]) (by rw [stage_Space_by_93.eq]; exact hp)
/-! ### tlb_Tlb_drop_113: function 112 -/
def tlb_Tlb_drop_113.hints : Hints := { loops := [(3, [0, 1, 11, 12], [(5, (.one (.int .i64))), (13, (.one (.int .i64)))])], cuts := [], orders := [] }
def tlb_Tlb_drop_113.P (p0tb p0to : Nat) (p1so0b p1so0o : Nat) (h : Hp) (R : Value → Hp → Prop) : Prop :=
  ∃ placesa1 : Option Addr, ∃ placesl2 : Nat, ∃ placesc3 : Nat, cellAt h p0tb p0to = some (.slice placesa1 placesl2 placesc3) ∧ ∃ I4 : Int → Int → Hp → Prop, ∃ m5 : Int → Int → Hp → Nat, I4 0 0 h ∧ ∀ n6 : Int, ∀ x7 : Int, ∀ h1 : Hp, I4 n6 x7 h1 →
  ((decide (x7 < ((placesl2 : Nat) : Int))) = true → ((0 : Int) ≤ x7 ∧ x7 < ((placesl2 : Nat) : Int) ∧ ∃ b8 : Nat, ∃ o9 : Nat, (placesa1 : Option Addr) = some ⟨b8, o9, none⟩ ∧ ∃ x10 : Option Addr, cellAt h1 b8 (o9 + x7.toNat * 1) = some (.pointer x10) ∧
  ((notIf false x10.isNone) = true → (CallsH Try.prog 113 [.pointer x10, .pointer (some ⟨p1so0b, p1so0o, none⟩)] h1 fun r11 h2 => ∃ DropAll12 : Bool, r11 = .bool DropAll12 ∧ ((DropAll12) = true → (CallsH Try.prog 81 [.pointer (some ⟨p0tb, p0to, none⟩), .int .i64 x7] h2 fun r13 h3 => r13 = .tuple #[] ∧
  I4 (IntKind.wrap .i64 (n6 + 1)) (IntKind.wrap .i64 (x7 + 1)) h3 ∧ m5 (IntKind.wrap .i64 (n6 + 1)) (IntKind.wrap .i64 (x7 + 1)) h3 < m5 n6 x7 h1)) ∧ ((DropAll12) = false → (I4 n6 (IntKind.wrap .i64 (x7 + 1)) h2 ∧
  m5 n6 (IntKind.wrap .i64 (x7 + 1)) h2 < m5 n6 x7 h1)))) ∧ ((notIf false x10.isNone) = false → (I4 n6 (IntKind.wrap .i64 (x7 + 1)) h1 ∧ m5 n6 (IntKind.wrap .i64 (x7 + 1)) h1 < m5 n6 x7 h1)))) ∧ ((decide (x7 < ((placesl2 : Nat) : Int))) = false →
  (R (.int .i64 n6) h1))
theorem tlb_Tlb_drop_113.eq (p0tb p0to : Nat) (p1so0b p1so0o : Nat) (h : Hp) (R : Value → Hp → Prop) : evBody Try.prog calls tlb_Tlb_drop_113.hints Try.f112 [.ptr p0tb p0to, .fn (.func 113) [] [.pointer (some ⟨p1so0b, p1so0o, none⟩)]] h R = tlb_Tlb_drop_113.P p0tb p0to p1so0b p1so0o h R := by kernel_rfl
theorem tlb_Tlb_drop_113.calls (p0tb p0to : Nat) (p1so0b p1so0o : Nat) (h : Hp) (R : Value → Hp → Prop) (hp : tlb_Tlb_drop_113.P p0tb p0to p1so0b p1so0o h R) : CallsH Try.prog 112 [.pointer (some ⟨p0tb, p0to, none⟩), .func (.func 113) #[] #[.pointer (some ⟨p1so0b, p1so0o, none⟩)]] h R :=
  calls_of_body calls_ok Try.func112 (args := [.ptr p0tb p0to, .fn (.func 113) [] [.pointer (some ⟨p1so0b, p1so0o, none⟩)]]) (by rw [tlb_Tlb_drop_113.eq]; exact hp)
/-! ### stage_caught_i139: function 89 -/
def stage_caught_i139.hints : Hints := { loops := [], cuts := [], orders := [] }
def stage_caught_i139.P (p0x_0 : Int) (p1eb p1eo : Nat) (h : Hp) (R X : Value → Hp → Prop) : Prop :=
  ∀ h1 : Hp, h1 = new h (blk 139 [.int .i64 0]) → truly true ∧ ∃ T1 : TypeId, ∃ l2 : List Value, bk h1 (sz h) = some (blk T1 l2) ∧ 0 + 1 ≤ l2.length ∧ ∀ h2 : Hp, h2 = upd h1 (sz h) T1 (writeAt l2 0 [.int .i64 p0x_0]) →
  ((!true) = true → (X (.iface 139 (.agg #[.int .i64 p0x_0])) h2)) ∧ ((!true) = false → (∃ err3 : Int, cellAt h2 (sz h) 0 = some (.int .i64 err3) ∧ truly true ∧ ∃ T4 : TypeId, ∃ l5 : List Value, bk h2 p1eb = some (blk T4 l5) ∧
  p1eo + 1 ≤ l5.length ∧ ∀ h3 : Hp, h3 = upd h2 p1eb T4 (writeAt l5 p1eo [.int .i64 err3]) → R (.tuple #[]) h3))
theorem stage_caught_i139.eq (p0x_0 : Int) (p1eb p1eo : Nat) (h : Hp) (R X : Value → Hp → Prop) : evBodyX Try.prog calls stage_caught_i139.hints Try.f89 [.raw (.iface 139 (.agg #[.int .i64 p0x_0])), .ptr p1eb p1eo] h R X = stage_caught_i139.P p0x_0 p1eb p1eo h R X := by kernel_rfl
theorem stage_caught_i139.calls (p0x_0 : Int) (p1eb p1eo : Nat) (h : Hp) (R X : Value → Hp → Prop) (hp : stage_caught_i139.P p0x_0 p1eb p1eo h R X) : CallsX Try.prog 89 [.iface 139 (.agg #[.int .i64 p0x_0]), .pointer (some ⟨p1eb, p1eo, none⟩)] h R X :=
  callsX_of_body calls_ok Try.func89 (args := [.raw (.iface 139 (.agg #[.int .i64 p0x_0])), .ptr p1eb p1eo]) (by rw [stage_caught_i139.eq]; exact hp)
/-! ### stage_New_1_nil: function 88, deferred -/
def stage_New_1_nil.hints : Hints := { loops := [], cuts := [], orders := [] }
def stage_New_1_nil.P (v0cb v0co : Nat) (v1cb v1co : Nat) (h : Hp) (D : Hp → Prop) : Prop :=
  D h
theorem stage_New_1_nil.eq (v0cb v0co : Nat) (v1cb v1co : Nat) (h : Hp) (D : Hp → Prop) : evBodyR Try.prog calls stage_New_1_nil.hints Try.f88 [.ptr v0cb v0co, .ptr v1cb v1co] (.raw (.nilIface)) h D = stage_New_1_nil.P v0cb v0co v1cb v1co h D := by kernel_rfl
theorem stage_New_1_nil.calls (v0cb v0co : Nat) (v1cb v1co : Nat) (h : Hp) (D : Hp → Prop) (hp : stage_New_1_nil.P v0cb v0co v1cb v1co h D) : CallsDH Try.prog 88 [.pointer (some ⟨v0cb, v0co, none⟩), .pointer (some ⟨v1cb, v1co, none⟩)] none h D :=
  callsD_of_body (x := none) calls_ok Try.func88 (args := [.ptr v0cb v0co, .ptr v1cb v1co]) (by show evBodyR _ _ stage_New_1_nil.hints _ _ (.raw (.nilIface)) _ _; rw [stage_New_1_nil.eq]; exact hp)
/-! ### stage_New_1_139: function 88, deferred -/
def stage_New_1_139.hints : Hints := { loops := [], cuts := [], orders := [] }
def stage_New_1_139.P (v0cb v0co : Nat) (v1cb v1co : Nat) (x_0 : Int) (h : Hp) (D : Hp → Prop) : Prop :=
  CallsX Try.prog 89 [.iface 139 (.agg #[.int .i64 x_0]), .pointer (some ⟨v0cb, v0co, none⟩)] h (fun r1 h1 => r1 = .tuple #[] ∧ truly true ∧ ∃ T3 : TypeId, ∃ l4 : List Value, bk h1 v1cb = some (blk T3 l4) ∧
  v1co + 1 ≤ l4.length ∧ ∀ h3 : Hp, h3 = upd h1 v1cb T3 (writeAt l4 v1co [.pointer none]) → D h3) (fun px2 h2 => False)
theorem stage_New_1_139.eq (v0cb v0co : Nat) (v1cb v1co : Nat) (x_0 : Int) (h : Hp) (D : Hp → Prop) : evBodyR Try.prog calls stage_New_1_139.hints Try.f88 [.ptr v0cb v0co, .ptr v1cb v1co] (.raw (.iface 139 (.agg #[.int .i64 x_0]))) h D = stage_New_1_139.P v0cb v0co v1cb v1co x_0 h D := by kernel_rfl
theorem stage_New_1_139.calls (v0cb v0co : Nat) (v1cb v1co : Nat) (x_0 : Int) (h : Hp) (D : Hp → Prop) (hp : stage_New_1_139.P v0cb v0co v1cb v1co x_0 h D) : CallsDH Try.prog 88 [.pointer (some ⟨v0cb, v0co, none⟩), .pointer (some ⟨v1cb, v1co, none⟩)] (some (.iface 139 (.agg #[.int .i64 x_0]))) h D :=
  callsD_of_body (x := some (.iface 139 (.agg #[.int .i64 x_0]))) calls_ok Try.func88 (args := [.ptr v0cb v0co, .ptr v1cb v1co]) (by show evBodyR _ _ stage_New_1_139.hints _ _ (.raw (.iface 139 (.agg #[.int .i64 x_0]))) _ _; rw [stage_New_1_139.eq]; exact hp)
/-! ### stage_Space_by_1_nil: function 96, deferred -/
def stage_Space_by_1_nil.hints : Hints := { loops := [], cuts := [], orders := [] }
def stage_Space_by_1_nil.P (v0cb v0co : Nat) (v1cb v1co : Nat) (h : Hp) (D : Hp → Prop) : Prop :=
  D h
theorem stage_Space_by_1_nil.eq (v0cb v0co : Nat) (v1cb v1co : Nat) (h : Hp) (D : Hp → Prop) : evBodyR Try.prog calls stage_Space_by_1_nil.hints Try.f96 [.ptr v0cb v0co, .ptr v1cb v1co] (.raw (.nilIface)) h D = stage_Space_by_1_nil.P v0cb v0co v1cb v1co h D := by kernel_rfl
theorem stage_Space_by_1_nil.calls (v0cb v0co : Nat) (v1cb v1co : Nat) (h : Hp) (D : Hp → Prop) (hp : stage_Space_by_1_nil.P v0cb v0co v1cb v1co h D) : CallsDH Try.prog 96 [.pointer (some ⟨v0cb, v0co, none⟩), .pointer (some ⟨v1cb, v1co, none⟩)] none h D :=
  callsD_of_body (x := none) calls_ok Try.func96 (args := [.ptr v0cb v0co, .ptr v1cb v1co]) (by show evBodyR _ _ stage_Space_by_1_nil.hints _ _ (.raw (.nilIface)) _ _; rw [stage_Space_by_1_nil.eq]; exact hp)
/-! ### stage_Space_by_1_139: function 96, deferred -/
def stage_Space_by_1_139.hints : Hints := { loops := [], cuts := [], orders := [] }
def stage_Space_by_1_139.P (v0cb v0co : Nat) (v1cb v1co : Nat) (x_0 : Int) (h : Hp) (D : Hp → Prop) : Prop :=
  CallsX Try.prog 89 [.iface 139 (.agg #[.int .i64 x_0]), .pointer (some ⟨v0cb, v0co, none⟩)] h (fun r1 h1 => r1 = .tuple #[] ∧ ∃ x3 : Option Addr, cellAt h1 v1cb v1co = some (.pointer x3) ∧ ∃ b4 : Nat, ∃ o5 : Nat, x3 = some ⟨b4, o5, none⟩ ∧
  truly true ∧ ∃ T6 : TypeId, ∃ l7 : List Value, bk h1 b4 = some (blk T6 l7) ∧ (o5 + 6) + 1 ≤ l7.length ∧ ∀ h3 : Hp, h3 = upd h1 b4 T6 (writeAt l7 (o5 + 6) [.slice none 0 0]) → D h3) (fun px2 h2 => False)
theorem stage_Space_by_1_139.eq (v0cb v0co : Nat) (v1cb v1co : Nat) (x_0 : Int) (h : Hp) (D : Hp → Prop) : evBodyR Try.prog calls stage_Space_by_1_139.hints Try.f96 [.ptr v0cb v0co, .ptr v1cb v1co] (.raw (.iface 139 (.agg #[.int .i64 x_0]))) h D = stage_Space_by_1_139.P v0cb v0co v1cb v1co x_0 h D := by kernel_rfl
theorem stage_Space_by_1_139.calls (v0cb v0co : Nat) (v1cb v1co : Nat) (x_0 : Int) (h : Hp) (D : Hp → Prop) (hp : stage_Space_by_1_139.P v0cb v0co v1cb v1co x_0 h D) : CallsDH Try.prog 96 [.pointer (some ⟨v0cb, v0co, none⟩), .pointer (some ⟨v1cb, v1co, none⟩)] (some (.iface 139 (.agg #[.int .i64 x_0]))) h D :=
  callsD_of_body (x := some (.iface 139 (.agg #[.int .i64 x_0]))) calls_ok Try.func96 (args := [.ptr v0cb v0co, .ptr v1cb v1co]) (by show evBodyR _ _ stage_Space_by_1_139.hints _ _ (.raw (.iface 139 (.agg #[.int .i64 x_0]))) _ _; rw [stage_Space_by_1_139.eq]; exact hp)
end Go.Proofs.Ytmldiibfmhkgjaa
