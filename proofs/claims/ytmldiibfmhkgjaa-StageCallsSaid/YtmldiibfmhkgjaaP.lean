/-
  Printed by this repo's own wip/tools/pr.py: what each function owes, as a proposition over heaps, read out of its body by the core.
-/
import Derived.Test.YtmldiibfmhkgjaaProg
import Derived.Test.YtmldiibfmhkgjaaWdFn
import Derived.KernelRfl
namespace Go.Proofs.Ytmldiibfmhkgjaa
open Go Go.Wd
set_option linter.unusedVariables false
set_option maxRecDepth 100000
def calls : Known := ⟨fun f => [9, 10, 11, 12, 13, 14, 15, 16, 17, 18, 19, 20, 21, 22, 23, 24, 25, 26, 27, 28, 29, 30, 31, 32, 33, 34, 35, 36, 37, 38, 39, 40, 41, 42, 43, 44, 45, 46, 47, 48, 49, 50, 51, 52, 53, 54, 55, 56, 57, 58, 59, 60, 61, 62, 63, 64, 65, 66, 67, 68, 69, 70, 71, 72, 73, 74, 75, 76, 77, 78, 79, 80, 81, 82, 83, 84, 85, 86, 87, 88, 89, 90, 91, 92, 93, 94, 95, 96, 97, 98, 99, 100, 101, 102, 103, 104, 105, 106, 107, 108, 109, 110, 111, 112, 113, 114, 115, 116, 117].any (Nat.beq f), fun f => [49, 50, 54, 60, 61, 72, 74, 75, 77, 88, 89, 93, 96].any (Nat.beq f)⟩
theorem calls_ok : CallsOk Try.prog calls := by
  intro f hf
  simp only [calls, List.any_cons, List.any_nil, Bool.or_eq_true, Bool.or_false] at hf
  rcases hf with hf | hf | hf | hf | hf | hf | hf | hf | hf | hf | hf | hf | hf | hf | hf | hf | hf | hf | hf | hf | hf | hf | hf | hf | hf | hf | hf | hf | hf | hf | hf | hf | hf | hf | hf | hf | hf | hf | hf | hf | hf | hf | hf | hf | hf | hf | hf | hf | hf | hf | hf | hf | hf | hf | hf | hf | hf | hf | hf | hf | hf | hf | hf | hf | hf | hf | hf | hf | hf | hf | hf | hf | hf | hf | hf | hf | hf | hf | hf | hf | hf | hf | hf | hf | hf | hf | hf | hf | hf | hf | hf | hf | hf | hf | hf | hf | hf | hf | hf | hf | hf | hf | hf | hf | hf | hf | hf | hf | hf
  · obtain rfl := Nat.eq_of_beq_eq_true hf; exact Try.call9
  · obtain rfl := Nat.eq_of_beq_eq_true hf; exact Try.call10
  · obtain rfl := Nat.eq_of_beq_eq_true hf; exact Try.call11
  · obtain rfl := Nat.eq_of_beq_eq_true hf; exact Try.call12
  · obtain rfl := Nat.eq_of_beq_eq_true hf; exact Try.call13
  · obtain rfl := Nat.eq_of_beq_eq_true hf; exact Try.call14
  · obtain rfl := Nat.eq_of_beq_eq_true hf; exact Try.call15
  · obtain rfl := Nat.eq_of_beq_eq_true hf; exact Try.call16
  · obtain rfl := Nat.eq_of_beq_eq_true hf; exact Try.call17
  · obtain rfl := Nat.eq_of_beq_eq_true hf; exact Try.call18
  · obtain rfl := Nat.eq_of_beq_eq_true hf; exact Try.call19
  · obtain rfl := Nat.eq_of_beq_eq_true hf; exact Try.call20
  · obtain rfl := Nat.eq_of_beq_eq_true hf; exact Try.call21
  · obtain rfl := Nat.eq_of_beq_eq_true hf; exact Try.call22
  · obtain rfl := Nat.eq_of_beq_eq_true hf; exact Try.call23
  · obtain rfl := Nat.eq_of_beq_eq_true hf; exact Try.call24
  · obtain rfl := Nat.eq_of_beq_eq_true hf; exact Try.call25
  · obtain rfl := Nat.eq_of_beq_eq_true hf; exact Try.call26
  · obtain rfl := Nat.eq_of_beq_eq_true hf; exact Try.call27
  · obtain rfl := Nat.eq_of_beq_eq_true hf; exact Try.call28
  · obtain rfl := Nat.eq_of_beq_eq_true hf; exact Try.call29
  · obtain rfl := Nat.eq_of_beq_eq_true hf; exact Try.call30
  · obtain rfl := Nat.eq_of_beq_eq_true hf; exact Try.call31
  · obtain rfl := Nat.eq_of_beq_eq_true hf; exact Try.call32
  · obtain rfl := Nat.eq_of_beq_eq_true hf; exact Try.call33
  · obtain rfl := Nat.eq_of_beq_eq_true hf; exact Try.call34
  · obtain rfl := Nat.eq_of_beq_eq_true hf; exact Try.call35
  · obtain rfl := Nat.eq_of_beq_eq_true hf; exact Try.call36
  · obtain rfl := Nat.eq_of_beq_eq_true hf; exact Try.call37
  · obtain rfl := Nat.eq_of_beq_eq_true hf; exact Try.call38
  · obtain rfl := Nat.eq_of_beq_eq_true hf; exact Try.call39
  · obtain rfl := Nat.eq_of_beq_eq_true hf; exact Try.call40
  · obtain rfl := Nat.eq_of_beq_eq_true hf; exact Try.call41
  · obtain rfl := Nat.eq_of_beq_eq_true hf; exact Try.call42
  · obtain rfl := Nat.eq_of_beq_eq_true hf; exact Try.call43
  · obtain rfl := Nat.eq_of_beq_eq_true hf; exact Try.call44
  · obtain rfl := Nat.eq_of_beq_eq_true hf; exact Try.call45
  · obtain rfl := Nat.eq_of_beq_eq_true hf; exact Try.call46
  · obtain rfl := Nat.eq_of_beq_eq_true hf; exact Try.call47
  · obtain rfl := Nat.eq_of_beq_eq_true hf; exact Try.call48
  · obtain rfl := Nat.eq_of_beq_eq_true hf; exact Try.call49
  · obtain rfl := Nat.eq_of_beq_eq_true hf; exact Try.call50
  · obtain rfl := Nat.eq_of_beq_eq_true hf; exact Try.call51
  · obtain rfl := Nat.eq_of_beq_eq_true hf; exact Try.call52
  · obtain rfl := Nat.eq_of_beq_eq_true hf; exact Try.call53
  · obtain rfl := Nat.eq_of_beq_eq_true hf; exact Try.call54
  · obtain rfl := Nat.eq_of_beq_eq_true hf; exact Try.call55
  · obtain rfl := Nat.eq_of_beq_eq_true hf; exact Try.call56
  · obtain rfl := Nat.eq_of_beq_eq_true hf; exact Try.call57
  · obtain rfl := Nat.eq_of_beq_eq_true hf; exact Try.call58
  · obtain rfl := Nat.eq_of_beq_eq_true hf; exact Try.call59
  · obtain rfl := Nat.eq_of_beq_eq_true hf; exact Try.call60
  · obtain rfl := Nat.eq_of_beq_eq_true hf; exact Try.call61
  · obtain rfl := Nat.eq_of_beq_eq_true hf; exact Try.call62
  · obtain rfl := Nat.eq_of_beq_eq_true hf; exact Try.call63
  · obtain rfl := Nat.eq_of_beq_eq_true hf; exact Try.call64
  · obtain rfl := Nat.eq_of_beq_eq_true hf; exact Try.call65
  · obtain rfl := Nat.eq_of_beq_eq_true hf; exact Try.call66
  · obtain rfl := Nat.eq_of_beq_eq_true hf; exact Try.call67
  · obtain rfl := Nat.eq_of_beq_eq_true hf; exact Try.call68
  · obtain rfl := Nat.eq_of_beq_eq_true hf; exact Try.call69
  · obtain rfl := Nat.eq_of_beq_eq_true hf; exact Try.call70
  · obtain rfl := Nat.eq_of_beq_eq_true hf; exact Try.call71
  · obtain rfl := Nat.eq_of_beq_eq_true hf; exact Try.call72
  · obtain rfl := Nat.eq_of_beq_eq_true hf; exact Try.call73
  · obtain rfl := Nat.eq_of_beq_eq_true hf; exact Try.call74
  · obtain rfl := Nat.eq_of_beq_eq_true hf; exact Try.call75
  · obtain rfl := Nat.eq_of_beq_eq_true hf; exact Try.call76
  · obtain rfl := Nat.eq_of_beq_eq_true hf; exact Try.call77
  · obtain rfl := Nat.eq_of_beq_eq_true hf; exact Try.call78
  · obtain rfl := Nat.eq_of_beq_eq_true hf; exact Try.call79
  · obtain rfl := Nat.eq_of_beq_eq_true hf; exact Try.call80
  · obtain rfl := Nat.eq_of_beq_eq_true hf; exact Try.call81
  · obtain rfl := Nat.eq_of_beq_eq_true hf; exact Try.call82
  · obtain rfl := Nat.eq_of_beq_eq_true hf; exact Try.call83
  · obtain rfl := Nat.eq_of_beq_eq_true hf; exact Try.call84
  · obtain rfl := Nat.eq_of_beq_eq_true hf; exact Try.call85
  · obtain rfl := Nat.eq_of_beq_eq_true hf; exact Try.call86
  · obtain rfl := Nat.eq_of_beq_eq_true hf; exact Try.call87
  · obtain rfl := Nat.eq_of_beq_eq_true hf; exact Try.call88
  · obtain rfl := Nat.eq_of_beq_eq_true hf; exact Try.call89
  · obtain rfl := Nat.eq_of_beq_eq_true hf; exact Try.call90
  · obtain rfl := Nat.eq_of_beq_eq_true hf; exact Try.call91
  · obtain rfl := Nat.eq_of_beq_eq_true hf; exact Try.call92
  · obtain rfl := Nat.eq_of_beq_eq_true hf; exact Try.call93
  · obtain rfl := Nat.eq_of_beq_eq_true hf; exact Try.call94
  · obtain rfl := Nat.eq_of_beq_eq_true hf; exact Try.call95
  · obtain rfl := Nat.eq_of_beq_eq_true hf; exact Try.call96
  · obtain rfl := Nat.eq_of_beq_eq_true hf; exact Try.call97
  · obtain rfl := Nat.eq_of_beq_eq_true hf; exact Try.call98
  · obtain rfl := Nat.eq_of_beq_eq_true hf; exact Try.call99
  · obtain rfl := Nat.eq_of_beq_eq_true hf; exact Try.call100
  · obtain rfl := Nat.eq_of_beq_eq_true hf; exact Try.call101
  · obtain rfl := Nat.eq_of_beq_eq_true hf; exact Try.call102
  · obtain rfl := Nat.eq_of_beq_eq_true hf; exact Try.call103
  · obtain rfl := Nat.eq_of_beq_eq_true hf; exact Try.call104
  · obtain rfl := Nat.eq_of_beq_eq_true hf; exact Try.call105
  · obtain rfl := Nat.eq_of_beq_eq_true hf; exact Try.call106
  · obtain rfl := Nat.eq_of_beq_eq_true hf; exact Try.call107
  · obtain rfl := Nat.eq_of_beq_eq_true hf; exact Try.call108
  · obtain rfl := Nat.eq_of_beq_eq_true hf; exact Try.call109
  · obtain rfl := Nat.eq_of_beq_eq_true hf; exact Try.call110
  · obtain rfl := Nat.eq_of_beq_eq_true hf; exact Try.call111
  · obtain rfl := Nat.eq_of_beq_eq_true hf; exact Try.call112
  · obtain rfl := Nat.eq_of_beq_eq_true hf; exact Try.call113
  · obtain rfl := Nat.eq_of_beq_eq_true hf; exact Try.call114
  · obtain rfl := Nat.eq_of_beq_eq_true hf; exact Try.call115
  · obtain rfl := Nat.eq_of_beq_eq_true hf; exact Try.call116
  · obtain rfl := Nat.eq_of_beq_eq_true hf; exact Try.call117
/-! ### warderlaw11_StageWalks: function 3 -/
def warderlaw11_StageWalks.hints : Hints := { loops := [(9, [2, 7, 9], [(10, (.one (.int .i64)))])], cuts := [(16, [7, 9, 11], [(12, (.one .addr))]), (18, [7, 9, 11], []), (21, [9, 11], [(13, (.one .addr))])], orders := [(11, [0, 1, 3, 7, 0, 0, 48, 112, 255], (.leaf [0, 1, 2, 3, 4, 5, 6, 7, 8])), (13, [0, 1, 3, 7, 0, 16, 0, 64, 0, 256, 0, 1024, 4095, 8191], (.leaf [0, 1, 2, 3, 4, 5, 6, 7, 8, 9, 10, 11, 12, 13])), (15, [0, 1, 3, 7, 0, 16, 48, 112, 240, 0, 512, 1536, 3584, 8191, 0, 32767], (.fork [0, 1, 2, 3, 4, 5, 6, 7, 9, 10, 11, 12] 8 (.fork [] 13 (.leaf [14, 15]) 14 (.leaf [13, 15])) 14 (.leaf [8, 13, 15]))), (18, [0, 1, 3, 7, 0, 16, 63, 127], (.leaf [0, 1, 2, 3, 4, 5, 6, 7])), (20, [0, 1, 3, 7, 0, 16, 48, 112, 240, 0, 512, 1536, 3584, 8191, 0, 32767], (.fork [0, 1, 2, 3, 4, 5, 6, 7, 9, 10, 11, 12] 8 (.fork [] 13 (.leaf [14, 15]) 14 (.leaf [13, 15])) 14 (.leaf [8, 13, 15])))] }
def warderlaw11_StageWalks.P (p0n : Int) (p1away : Int) (p2callsa : Option Addr) (p2callsl : Nat) (p2callsc : Nat) (p3c_0 : Int) (p3c_1 : Int) (p3c_2 : Int) (p3c_3 : Bool) (p3c_4 : Bool) (h : Hp) (R : Value → Hp → Prop) : Prop :=
  ∀ h1 : Hp, h1 = new h (blk 24 [.int .i64 p3c_0, .int .i64 p3c_1, .int .i64 p3c_2, .bool p3c_3, .bool p3c_4]) → CallsH Try.prog 9 [] h1 fun r1 h2 => ∃ alive2 : Bool, r1 = .bool alive2 ∧ ((!alive2) = true →
  (R (.bool false) h2)) ∧ ((!alive2) = false → (CallsH Try.prog 10 [.int .i64 p0n, .int .i64 p1away, .slice p2callsa p2callsl p2callsc] h2 fun r3 h3 => ∃ great4 : Bool, r3 = .bool great4 ∧ ((great4) = true →
  (R (.bool true) h3)) ∧ ((great4) = false → (CallsH Try.prog 11 [.int .i64 p0n, .int .i64 p1away] h3 fun r5 h4 => ∃ Begin6 : Option Addr, r5 = .pointer Begin6 ∧ ((notIf true Begin6.isNone) = true → (R (.bool false) h4)) ∧
  ((notIf true Begin6.isNone) = false → (∃ I7 : Int → Hp → Prop, ∃ m8 : Int → Hp → Nat, I7 0 h4 ∧ ∀ i9 : Int, ∀ h5 : Hp, I7 i9 h5 → ((decide (i9 < ((p2callsl : Nat) : Int))) = true → (∃ b10 : Nat, ∃ o11 : Nat, Begin6 = some ⟨b10, o11, none⟩ ∧
  ∃ Space12 : Option Addr, cellAt h5 b10 (o11 + 3) = some (.pointer Space12) ∧ (0 : Int) ≤ i9 ∧ i9 < ((p2callsl : Nat) : Int) ∧ ∃ b13 : Nat, ∃ o14 : Nat, (p2callsa : Option Addr) = some ⟨b13, o14, none⟩ ∧
  ∃ x15 : Int, cellAt h5 b13 (o14 + i9.toNat * 5 + 0) = some (.int .i64 x15) ∧ ∃ x16 : Int, cellAt h5 b13 (o14 + i9.toNat * 5 + 1) = some (.int .i64 x16) ∧ ∃ x17 : Int, cellAt h5 b13 (o14 + i9.toNat * 5 + 2) = some (.int .i64 x17) ∧
  ∃ x18 : Bool, cellAt h5 b13 (o14 + i9.toNat * 5 + 3) = some (.bool x18) ∧ ∃ x19 : Bool, cellAt h5 b13 (o14 + i9.toNat * 5 + 4) = some (.bool x19) ∧ CallsH Try.prog 12 [.pointer Space12, .agg #[.int .i64 x15, .int .i64 x16, .int .i64 x17, .bool x18, .bool x19]] h5 fun r20 h6 => ∃ Do21 : Int, r20 = .int .i64 Do21 ∧
  I7 (IntKind.wrap .i64 (i9 + 1)) h6 ∧ m8 (IntKind.wrap .i64 (i9 + 1)) h6 < m8 i9 h5)) ∧ ((decide (i9 < ((p2callsl : Nat) : Int))) = false → (∃ b22 : Nat, ∃ o23 : Nat, Begin6 = some ⟨b22, o23, none⟩ ∧
  ∃ Space24 : Option Addr, cellAt h5 b22 (o23 + 3) = some (.pointer Space24) ∧ CallsH Try.prog 13 [.pointer Space24] h5 fun r25 h7 => ∃ Tables26 : Int, r25 = .int .i64 Tables26 ∧ ∃ b27 : Nat, ∃ o28 : Nat, Begin6 = some ⟨b27, o28, none⟩ ∧
  ∃ Space29 : Option Addr, cellAt h7 b27 (o28 + 3) = some (.pointer Space29) ∧ ∃ Page30 : Int, cellAt h7 (sz h) 1 = some (.int .i64 Page30) ∧ ∃ Frame31 : Int, cellAt h7 (sz h) 2 = some (.int .i64 Frame31) ∧
  ∃ Write32 : Bool, cellAt h7 (sz h) 3 = some (.bool Write32) ∧ ∃ Exec33 : Bool, cellAt h7 (sz h) 4 = some (.bool Exec33) ∧ CallsH Try.prog 14 [.pointer Space29, .int .i64 Page30, .int .i64 Frame31, .bool Write32, .bool Exec33] h7 fun r34 h8 => ∃ Map35 : Int, r34 = .int .i64 Map35 ∧
  ((Map35 != 0) = true → (∃ b36 : Nat, ∃ o37 : Nat, Begin6 = some ⟨b36, o37, none⟩ ∧ ∃ Space38 : Option Addr, cellAt h8 b36 (o37 + 3) = some (.pointer Space38) ∧ CallsH Try.prog 13 [.pointer Space38] h8 fun r39 h9 => ∃ Tables40 : Int, r39 = .int .i64 Tables40 ∧
  R (.bool (Tables40 == Tables26)) h9)) ∧ ((Map35 != 0) = false → (∃ I41 : Nat → Nat → Hp → Prop, (∃ b42 : Nat, ∃ o43 : Nat, Begin6 = some ⟨b42, o43, none⟩ ∧ ∃ Mem44 : Option Addr, cellAt h8 b42 o43 = some (.pointer Mem44) ∧
  ∃ b45 : Nat, ∃ o46 : Nat, Begin6 = some ⟨b45, o46, none⟩ ∧ ∃ Space47 : Option Addr, cellAt h8 b45 (o46 + 3) = some (.pointer Space47) ∧ ∃ Page48 : Int, cellAt h8 (sz h) 1 = some (.int .i64 Page48) ∧
  (0 : Int) ≤ 8 ∧ (CallsH Try.prog 16 [.pointer Space47] h8 fun r49 h10 => ∃ Root50 : Int, r49 = .int .i64 Root50 ∧ cellAt h10 b42 o43 = some (.pointer Mem44) ∧ cellAt h10 (sz h) 1 = some (.int .i64 Page48) ∧
  (CallsH Try.prog 15 [.pointer Mem44, .int .i64 Root50, .int .u32 (shlV .u32 (IntKind.wrap .u32 Page48) 8), .int .i64 0] h10 fun r51 h11 => ∃ Walk52 : Int, ∃ Walk53 : Int, ∃ Walk54 : Int, ∃ Walk55 : Bool, ∃ Walk56 : Bool, ∃ Walk57 : Bool, r51 = .agg #[.int .i64 Walk52, .int .i64 Walk53, .int .i64 Walk54, .bool Walk55, .bool Walk56, .bool Walk57] ∧
  ∀ h12 : Hp, h12 = new h11 (blk 40 [.int .i64 0, .int .i64 0, .int .i64 0, .bool false, .bool false, .bool false]) → cellAt h12 b42 o43 = some (.pointer Mem44) ∧ cellAt h12 b45 (o46 + 3) = some (.pointer Space47) ∧
  cellAt h12 (sz h) 1 = some (.int .i64 Page48) ∧ truly true ∧ ∃ T58 : TypeId, ∃ l59 : List Value, bk h12 (sz h11) = some (blk T58 l59) ∧ 0 + 6 ≤ l59.length ∧ ∀ h13 : Hp, h13 = upd h12 (sz h11) T58 (writeAt l59 0 [.int .i64 Walk52, .int .i64 Walk53, .int .i64 Walk54, .bool Walk55, .bool Walk56, .bool Walk57]) →
  I41 (sz h11) 0 h13) ∧ (∀ h14 : Hp, h14 = new h10 (blk 40 [.int .i64 0, .int .i64 0, .int .i64 0, .bool false, .bool false, .bool false]) → cellAt h14 b42 o43 = some (.pointer Mem44) ∧ cellAt h14 b45 (o46 + 3) = some (.pointer Space47) ∧
  cellAt h14 (sz h) 1 = some (.int .i64 Page48) ∧ CallsH Try.prog 15 [.pointer Mem44, .int .i64 Root50, .int .u32 (shlV .u32 (IntKind.wrap .u32 Page48) 8), .int .i64 0] h14 fun r60 h15 => ∃ Walk61 : Int, ∃ Walk62 : Int, ∃ Walk63 : Int, ∃ Walk64 : Bool, ∃ Walk65 : Bool, ∃ Walk66 : Bool, r60 = .agg #[.int .i64 Walk61, .int .i64 Walk62, .int .i64 Walk63, .bool Walk64, .bool Walk65, .bool Walk66] ∧
  truly true ∧ ∃ T67 : TypeId, ∃ l68 : List Value, bk h15 (sz h10) = some (blk T67 l68) ∧ 0 + 6 ≤ l68.length ∧ ∀ h16 : Hp, h16 = upd h15 (sz h10) T67 (writeAt l68 0 [.int .i64 Walk61, .int .i64 Walk62, .int .i64 Walk63, .bool Walk64, .bool Walk65, .bool Walk66]) →
  I41 (sz h10) 0 h16)) ∧ (∀ h17 : Hp, h17 = new h8 (blk 40 [.int .i64 0, .int .i64 0, .int .i64 0, .bool false, .bool false, .bool false]) → cellAt h17 b42 o43 = some (.pointer Mem44) ∧ cellAt h17 b45 (o46 + 3) = some (.pointer Space47) ∧
  cellAt h17 (sz h) 1 = some (.int .i64 Page48) ∧ CallsH Try.prog 16 [.pointer Space47] h17 fun r69 h18 => ∃ Root70 : Int, r69 = .int .i64 Root70 ∧ cellAt h18 b42 o43 = some (.pointer Mem44) ∧ cellAt h18 (sz h) 1 = some (.int .i64 Page48) ∧
  CallsH Try.prog 15 [.pointer Mem44, .int .i64 Root70, .int .u32 (shlV .u32 (IntKind.wrap .u32 Page48) 8), .int .i64 0] h18 fun r71 h19 => ∃ Walk72 : Int, ∃ Walk73 : Int, ∃ Walk74 : Int, ∃ Walk75 : Bool, ∃ Walk76 : Bool, ∃ Walk77 : Bool, r71 = .agg #[.int .i64 Walk72, .int .i64 Walk73, .int .i64 Walk74, .bool Walk75, .bool Walk76, .bool Walk77] ∧
  truly true ∧ ∃ T78 : TypeId, ∃ l79 : List Value, bk h19 (sz h8) = some (blk T78 l79) ∧ 0 + 6 ≤ l79.length ∧ ∀ h20 : Hp, h20 = upd h19 (sz h8) T78 (writeAt l79 0 [.int .i64 Walk72, .int .i64 Walk73, .int .i64 Walk74, .bool Walk75, .bool Walk76, .bool Walk77]) →
  I41 (sz h8) 0 h20)) ∧ ∀ hb80 : Nat, ∀ ho81 : Nat, ∀ h21 : Hp, I41 hb80 ho81 h21 → ∃ I82 : Hp → Prop, (∃ Fault83 : Int, cellAt h21 hb80 ho81 = some (.int .i64 Fault83) ∧ ((Fault83 != 0) = true → (R (.bool false) h21)) ∧
  ((Fault83 != 0) = false → (∃ Frame84 : Int, cellAt h21 hb80 (ho81 + 2) = some (.int .i64 Frame84) ∧ ∃ Frame85 : Int, cellAt h21 (sz h) 2 = some (.int .i64 Frame85) ∧ ((Frame84 != Frame85) = true → (R (.bool false) h21)) ∧
  ((Frame84 != Frame85) = false → (∃ Write86 : Bool, cellAt h21 hb80 (ho81 + 3) = some (.bool Write86) ∧ ∃ Write87 : Bool, cellAt h21 (sz h) 3 = some (.bool Write87) ∧ ((notIf false (Write86 == Write87)) = true →
  (R (.bool false) h21)) ∧ ((notIf false (Write86 == Write87)) = false → (∃ Exec88 : Bool, cellAt h21 hb80 (ho81 + 4) = some (.bool Exec88) ∧ ∃ Exec89 : Bool, cellAt h21 (sz h) 4 = some (.bool Exec89) ∧
  ((notIf false (Exec88 == Exec89)) = true → (R (.bool false) h21)) ∧ ((notIf false (Exec88 == Exec89)) = false → (∃ Block90 : Bool, cellAt h21 hb80 (ho81 + 5) = some (.bool Block90) ∧ ((Block90) = true →
  (R (.bool false) h21)) ∧ ((Block90) = false → (I82 h21))))))))))) ∧ ∀ h22 : Hp, I82 h22 → ∃ b91 : Nat, ∃ o92 : Nat, Begin6 = some ⟨b91, o92, none⟩ ∧ ∃ Space93 : Option Addr, cellAt h22 b91 (o92 + 3) = some (.pointer Space93) ∧
  ∃ Page94 : Int, cellAt h22 (sz h) 1 = some (.int .i64 Page94) ∧ CallsH Try.prog 17 [.pointer Space93, .int .i64 Page94] h22 fun r95 h23 => ∃ Unmap96 : Int, r95 = .int .i64 Unmap96 ∧ ((Unmap96 != 0) = true →
  (R (.bool false) h23)) ∧ ((Unmap96 != 0) = false → (∃ I97 : Nat → Nat → Hp → Prop, (∃ b98 : Nat, ∃ o99 : Nat, Begin6 = some ⟨b98, o99, none⟩ ∧ ∃ Mem100 : Option Addr, cellAt h23 b98 o99 = some (.pointer Mem100) ∧
  ∃ b101 : Nat, ∃ o102 : Nat, Begin6 = some ⟨b101, o102, none⟩ ∧ ∃ Space103 : Option Addr, cellAt h23 b101 (o102 + 3) = some (.pointer Space103) ∧ ∃ Page104 : Int, cellAt h23 (sz h) 1 = some (.int .i64 Page104) ∧
  (0 : Int) ≤ 8 ∧ (CallsH Try.prog 16 [.pointer Space103] h23 fun r105 h24 => ∃ Root106 : Int, r105 = .int .i64 Root106 ∧ cellAt h24 b98 o99 = some (.pointer Mem100) ∧ cellAt h24 (sz h) 1 = some (.int .i64 Page104) ∧
  (CallsH Try.prog 15 [.pointer Mem100, .int .i64 Root106, .int .u32 (shlV .u32 (IntKind.wrap .u32 Page104) 8), .int .i64 0] h24 fun r107 h25 => ∃ Walk108 : Int, ∃ Walk109 : Int, ∃ Walk110 : Int, ∃ Walk111 : Bool, ∃ Walk112 : Bool, ∃ Walk113 : Bool, r107 = .agg #[.int .i64 Walk108, .int .i64 Walk109, .int .i64 Walk110, .bool Walk111, .bool Walk112, .bool Walk113] ∧
  ∀ h26 : Hp, h26 = new h25 (blk 40 [.int .i64 0, .int .i64 0, .int .i64 0, .bool false, .bool false, .bool false]) → cellAt h26 b98 o99 = some (.pointer Mem100) ∧ cellAt h26 b101 (o102 + 3) = some (.pointer Space103) ∧
  cellAt h26 (sz h) 1 = some (.int .i64 Page104) ∧ truly true ∧ ∃ T114 : TypeId, ∃ l115 : List Value, bk h26 (sz h25) = some (blk T114 l115) ∧ 0 + 6 ≤ l115.length ∧ ∀ h27 : Hp, h27 = upd h26 (sz h25) T114 (writeAt l115 0 [.int .i64 Walk108, .int .i64 Walk109, .int .i64 Walk110, .bool Walk111, .bool Walk112, .bool Walk113]) →
  I97 (sz h25) 0 h27) ∧ (∀ h28 : Hp, h28 = new h24 (blk 40 [.int .i64 0, .int .i64 0, .int .i64 0, .bool false, .bool false, .bool false]) → cellAt h28 b98 o99 = some (.pointer Mem100) ∧ cellAt h28 b101 (o102 + 3) = some (.pointer Space103) ∧
  cellAt h28 (sz h) 1 = some (.int .i64 Page104) ∧ CallsH Try.prog 15 [.pointer Mem100, .int .i64 Root106, .int .u32 (shlV .u32 (IntKind.wrap .u32 Page104) 8), .int .i64 0] h28 fun r116 h29 => ∃ Walk117 : Int, ∃ Walk118 : Int, ∃ Walk119 : Int, ∃ Walk120 : Bool, ∃ Walk121 : Bool, ∃ Walk122 : Bool, r116 = .agg #[.int .i64 Walk117, .int .i64 Walk118, .int .i64 Walk119, .bool Walk120, .bool Walk121, .bool Walk122] ∧
  truly true ∧ ∃ T123 : TypeId, ∃ l124 : List Value, bk h29 (sz h24) = some (blk T123 l124) ∧ 0 + 6 ≤ l124.length ∧ ∀ h30 : Hp, h30 = upd h29 (sz h24) T123 (writeAt l124 0 [.int .i64 Walk117, .int .i64 Walk118, .int .i64 Walk119, .bool Walk120, .bool Walk121, .bool Walk122]) →
  I97 (sz h24) 0 h30)) ∧ (∀ h31 : Hp, h31 = new h23 (blk 40 [.int .i64 0, .int .i64 0, .int .i64 0, .bool false, .bool false, .bool false]) → cellAt h31 b98 o99 = some (.pointer Mem100) ∧ cellAt h31 b101 (o102 + 3) = some (.pointer Space103) ∧
  cellAt h31 (sz h) 1 = some (.int .i64 Page104) ∧ CallsH Try.prog 16 [.pointer Space103] h31 fun r125 h32 => ∃ Root126 : Int, r125 = .int .i64 Root126 ∧ cellAt h32 b98 o99 = some (.pointer Mem100) ∧ cellAt h32 (sz h) 1 = some (.int .i64 Page104) ∧
  CallsH Try.prog 15 [.pointer Mem100, .int .i64 Root126, .int .u32 (shlV .u32 (IntKind.wrap .u32 Page104) 8), .int .i64 0] h32 fun r127 h33 => ∃ Walk128 : Int, ∃ Walk129 : Int, ∃ Walk130 : Int, ∃ Walk131 : Bool, ∃ Walk132 : Bool, ∃ Walk133 : Bool, r127 = .agg #[.int .i64 Walk128, .int .i64 Walk129, .int .i64 Walk130, .bool Walk131, .bool Walk132, .bool Walk133] ∧
  truly true ∧ ∃ T134 : TypeId, ∃ l135 : List Value, bk h33 (sz h23) = some (blk T134 l135) ∧ 0 + 6 ≤ l135.length ∧ ∀ h34 : Hp, h34 = upd h33 (sz h23) T134 (writeAt l135 0 [.int .i64 Walk128, .int .i64 Walk129, .int .i64 Walk130, .bool Walk131, .bool Walk132, .bool Walk133]) →
  I97 (sz h23) 0 h34)) ∧ ∀ gb136 : Nat, ∀ go137 : Nat, ∀ h35 : Hp, I97 gb136 go137 h35 → ∃ Fault138 : Int, cellAt h35 gb136 go137 = some (.int .i64 Fault138) ∧ ((Fault138 != 0) = true → (∃ b139 : Nat, ∃ o140 : Nat, Begin6 = some ⟨b139, o140, none⟩ ∧
  ∃ Space141 : Option Addr, cellAt h35 b139 (o140 + 3) = some (.pointer Space141) ∧ CallsH Try.prog 13 [.pointer Space141] h35 fun r142 h36 => ∃ Tables143 : Int, r142 = .int .i64 Tables143 ∧ R (.bool (Tables143 == Tables26)) h36)) ∧
  ((Fault138 != 0) = false → (R (.bool false) h35))))))))))))))
theorem warderlaw11_StageWalks.eq (p0n : Int) (p1away : Int) (p2callsa : Option Addr) (p2callsl : Nat) (p2callsc : Nat) (p3c_0 : Int) (p3c_1 : Int) (p3c_2 : Int) (p3c_3 : Bool) (p3c_4 : Bool) (h : Hp) (R : Value → Hp → Prop) : evBody Try.prog calls warderlaw11_StageWalks.hints Try.f3 [.int .i64 p0n, .int .i64 p1away, .slice p2callsa p2callsl p2callsc, .agg [.int .i64 p3c_0, .int .i64 p3c_1, .int .i64 p3c_2, .bool p3c_3, .bool p3c_4]] h R = warderlaw11_StageWalks.P p0n p1away p2callsa p2callsl p2callsc p3c_0 p3c_1 p3c_2 p3c_3 p3c_4 h R := by kernel_rfl
theorem warderlaw11_StageWalks.calls (p0n : Int) (p1away : Int) (p2callsa : Option Addr) (p2callsl : Nat) (p2callsc : Nat) (p3c_0 : Int) (p3c_1 : Int) (p3c_2 : Int) (p3c_3 : Bool) (p3c_4 : Bool) (h : Hp) (R : Value → Hp → Prop) (hp : warderlaw11_StageWalks.P p0n p1away p2callsa p2callsl p2callsc p3c_0 p3c_1 p3c_2 p3c_3 p3c_4 h R) : CallsH Try.prog 3 [.int .i64 p0n, .int .i64 p1away, .slice p2callsa p2callsl p2callsc, .agg #[.int .i64 p3c_0, .int .i64 p3c_1, .int .i64 p3c_2, .bool p3c_3, .bool p3c_4]] h R :=
  calls_of_body calls_ok Try.func3 (args := [.int .i64 p0n, .int .i64 p1away, .slice p2callsa p2callsl p2callsc, .agg [.int .i64 p3c_0, .int .i64 p3c_1, .int .i64 p3c_2, .bool p3c_3, .bool p3c_4]]) (by rw [warderlaw11_StageWalks.eq]; exact hp)
/-! ### warderlaw11_StageCalls: function 4 -/
def warderlaw11_StageCalls.hints : Hints := { loops := [(10, [2, 7, 8], [(9, (.one (.int .i64)))])], cuts := [], orders := [(12, [0, 1, 3, 7, 0, 0, 48, 112, 255, 0, 0, 0, 3072, 7168, 16383, 32767, 65535, 131071, 131071, 524287, 1048575, 2097151], (.leaf [0, 1, 2, 3, 4, 5, 6, 7, 9, 10, 11, 12, 13, 8, 14, 15, 16, 17, 18, 19, 20, 21]))] }
def warderlaw11_StageCalls.P (p0n : Int) (p1away : Int) (p2callsa : Option Addr) (p2callsl : Nat) (p2callsc : Nat) (h : Hp) (R : Value → Hp → Prop) : Prop :=
  CallsH Try.prog 9 [] h fun r1 h1 => ∃ alive2 : Bool, r1 = .bool alive2 ∧ ((!alive2) = true → (R (.bool false) h1)) ∧ ((!alive2) = false → (CallsH Try.prog 10 [.int .i64 p0n, .int .i64 p1away, .slice p2callsa p2callsl p2callsc] h1 fun r3 h2 => ∃ great4 : Bool, r3 = .bool great4 ∧
  ((great4) = true → (R (.bool true) h2)) ∧ ((great4) = false → (CallsH Try.prog 11 [.int .i64 p0n, .int .i64 p1away] h2 fun r5 h3 => ∃ Begin6 : Option Addr, r5 = .pointer Begin6 ∧ ((notIf true Begin6.isNone) = true →
  (R (.bool false) h3)) ∧ ((notIf true Begin6.isNone) = false → (CallsH Try.prog 18 [.int .i64 p0n, .int .i64 (IntKind.wrap .i64 ((IntKind.wrap .i64 (p0n - p1away)) - 1))] h3 fun r7 h4 => ∃ New8 : Option Addr, r7 = .pointer New8 ∧
  ∃ I9 : Int → Hp → Prop, ∃ m10 : Int → Hp → Nat, I9 0 h4 ∧ ∀ i11 : Int, ∀ h5 : Hp, I9 i11 h5 → ((decide (i11 < ((p2callsl : Nat) : Int))) = true → (∃ b12 : Nat, ∃ o13 : Nat, Begin6 = some ⟨b12, o13, none⟩ ∧
  ∃ Space14 : Option Addr, cellAt h5 b12 (o13 + 3) = some (.pointer Space14) ∧ (0 : Int) ≤ i11 ∧ i11 < ((p2callsl : Nat) : Int) ∧ ∃ b15 : Nat, ∃ o16 : Nat, (p2callsa : Option Addr) = some ⟨b15, o16, none⟩ ∧
  ∃ x17 : Int, cellAt h5 b15 (o16 + i11.toNat * 5 + 0) = some (.int .i64 x17) ∧ ∃ x18 : Int, cellAt h5 b15 (o16 + i11.toNat * 5 + 1) = some (.int .i64 x18) ∧ ∃ x19 : Int, cellAt h5 b15 (o16 + i11.toNat * 5 + 2) = some (.int .i64 x19) ∧
  ∃ x20 : Bool, cellAt h5 b15 (o16 + i11.toNat * 5 + 3) = some (.bool x20) ∧ ∃ x21 : Bool, cellAt h5 b15 (o16 + i11.toNat * 5 + 4) = some (.bool x21) ∧ (0 : Int) ≤ i11 ∧ i11 < ((p2callsl : Nat) : Int) ∧
  ∃ b22 : Nat, ∃ o23 : Nat, (p2callsa : Option Addr) = some ⟨b22, o23, none⟩ ∧ ∃ x24 : Int, cellAt h5 b22 (o23 + i11.toNat * 5 + 0) = some (.int .i64 x24) ∧ ∃ x25 : Int, cellAt h5 b22 (o23 + i11.toNat * 5 + 1) = some (.int .i64 x25) ∧
  ∃ x26 : Int, cellAt h5 b22 (o23 + i11.toNat * 5 + 2) = some (.int .i64 x26) ∧ ∃ x27 : Bool, cellAt h5 b22 (o23 + i11.toNat * 5 + 3) = some (.bool x27) ∧ ∃ x28 : Bool, cellAt h5 b22 (o23 + i11.toNat * 5 + 4) = some (.bool x28) ∧
  CallsH Try.prog 12 [.pointer Space14, .agg #[.int .i64 x17, .int .i64 x18, .int .i64 x19, .bool x20, .bool x21]] h5 fun r29 h6 => ∃ Do30 : Int, r29 = .int .i64 Do30 ∧ cellAt h6 b22 (o23 + i11.toNat * 5 + 0) = some (.int .i64 x24) ∧
  cellAt h6 b22 (o23 + i11.toNat * 5 + 1) = some (.int .i64 x25) ∧ cellAt h6 b22 (o23 + i11.toNat * 5 + 2) = some (.int .i64 x26) ∧ cellAt h6 b22 (o23 + i11.toNat * 5 + 3) = some (.bool x27) ∧ cellAt h6 b22 (o23 + i11.toNat * 5 + 4) = some (.bool x28) ∧
  CallsH Try.prog 19 [.pointer New8, .agg #[.int .i64 x24, .int .i64 x25, .int .i64 x26, .bool x27, .bool x28]] h6 fun r31 h7 => ∃ doRef32 : Int, r31 = .int .i64 doRef32 ∧ ((Do30 != doRef32) = true → (R (.bool false) h7)) ∧
  ((Do30 != doRef32) = false → (CallsH Try.prog 20 [.pointer Begin6, .pointer New8] h7 fun r33 h8 => ∃ same34 : Bool, r33 = .bool same34 ∧ ((!same34) = true → (R (.bool false) h8)) ∧ ((!same34) = false →
  (I9 (IntKind.wrap .i64 (i11 + 1)) h8 ∧ m10 (IntKind.wrap .i64 (i11 + 1)) h8 < m10 i11 h5)))))) ∧ ((decide (i11 < ((p2callsl : Nat) : Int))) = false → (R (.bool true) h5))))))))
theorem warderlaw11_StageCalls.eq (p0n : Int) (p1away : Int) (p2callsa : Option Addr) (p2callsl : Nat) (p2callsc : Nat) (h : Hp) (R : Value → Hp → Prop) : evBody Try.prog calls warderlaw11_StageCalls.hints Try.f4 [.int .i64 p0n, .int .i64 p1away, .slice p2callsa p2callsl p2callsc] h R = warderlaw11_StageCalls.P p0n p1away p2callsa p2callsl p2callsc h R := by kernel_rfl
theorem warderlaw11_StageCalls.calls (p0n : Int) (p1away : Int) (p2callsa : Option Addr) (p2callsl : Nat) (p2callsc : Nat) (h : Hp) (R : Value → Hp → Prop) (hp : warderlaw11_StageCalls.P p0n p1away p2callsa p2callsl p2callsc h R) : CallsH Try.prog 4 [.int .i64 p0n, .int .i64 p1away, .slice p2callsa p2callsl p2callsc] h R :=
  calls_of_body calls_ok Try.func4 (args := [.int .i64 p0n, .int .i64 p1away, .slice p2callsa p2callsl p2callsc]) (by rw [warderlaw11_StageCalls.eq]; exact hp)
/-! ### warderlaw11_StageSplits: function 5 -/
def warderlaw11_StageSplits.hints : Hints := { loops := [(9, [2, 3, 4, 11], [(12, (.one (.int .i64)))]), (15, [3, 4, 11, 13], [(14, (.one .slice)), (15, (.one (.int .i64)))])], cuts := [(22, [4, 11, 13, 14], []), (26, [4, 11, 13, 14, 18], [])], orders := [(11, [0, 1, 3, 7, 0, 0, 48, 112, 255], (.leaf [0, 1, 2, 3, 4, 5, 6, 7, 8])), (17, [0, 1, 3, 7, 0, 0, 48, 112, 255, 511, 1023, 1023, 0, 6143, 16383], (.fork [0, 1, 2, 3, 4, 5, 6, 7] 8 (.leaf [9, 10, 11, 12, 13, 14]) 12 (.leaf [8, 9, 10, 11, 13, 14]))), (23, [0, 1, 3, 7, 0, 0, 32, 96, 0, 256, 1023, 2047], (.leaf [0, 1, 2, 3, 4, 5, 6, 7, 8, 9, 10, 11]))] }
def warderlaw11_StageSplits.P (p0n : Int) (p1away : Int) (p2callsa : Option Addr) (p2callsl : Nat) (p2callsc : Nat) (p3first : Int) (p4page : Int) (h : Hp) (R : Value → Hp → Prop) : Prop :=
  CallsH Try.prog 9 [] h fun r1 h1 => ∃ alive2 : Bool, r1 = .bool alive2 ∧ ((!alive2) = true → (R (.bool false) h1)) ∧ ((!alive2) = false → (CallsH Try.prog 10 [.int .i64 p0n, .int .i64 p1away, .slice p2callsa p2callsl p2callsc] h1 fun r3 h2 => ∃ great4 : Bool, r3 = .bool great4 ∧
  ((great4) = true → (R (.bool true) h2)) ∧ ((great4) = false → (CallsH Try.prog 11 [.int .i64 p0n, .int .i64 p1away] h2 fun r5 h3 => ∃ Begin6 : Option Addr, r5 = .pointer Begin6 ∧ ((notIf true Begin6.isNone) = true →
  (R (.bool false) h3)) ∧ ((notIf true Begin6.isNone) = false → (∃ I7 : Int → Hp → Prop, ∃ m8 : Int → Hp → Nat, I7 0 h3 ∧ ∀ i9 : Int, ∀ h4 : Hp, I7 i9 h4 → ((decide (i9 < ((p2callsl : Nat) : Int))) = true →
  (∃ b10 : Nat, ∃ o11 : Nat, Begin6 = some ⟨b10, o11, none⟩ ∧ ∃ Space12 : Option Addr, cellAt h4 b10 (o11 + 3) = some (.pointer Space12) ∧ (0 : Int) ≤ i9 ∧ i9 < ((p2callsl : Nat) : Int) ∧ ∃ b13 : Nat, ∃ o14 : Nat, (p2callsa : Option Addr) = some ⟨b13, o14, none⟩ ∧
  ∃ x15 : Int, cellAt h4 b13 (o14 + i9.toNat * 5 + 0) = some (.int .i64 x15) ∧ ∃ x16 : Int, cellAt h4 b13 (o14 + i9.toNat * 5 + 1) = some (.int .i64 x16) ∧ ∃ x17 : Int, cellAt h4 b13 (o14 + i9.toNat * 5 + 2) = some (.int .i64 x17) ∧
  ∃ x18 : Bool, cellAt h4 b13 (o14 + i9.toNat * 5 + 3) = some (.bool x18) ∧ ∃ x19 : Bool, cellAt h4 b13 (o14 + i9.toNat * 5 + 4) = some (.bool x19) ∧ CallsH Try.prog 12 [.pointer Space12, .agg #[.int .i64 x15, .int .i64 x16, .int .i64 x17, .bool x18, .bool x19]] h4 fun r20 h5 => ∃ Do21 : Int, r20 = .int .i64 Do21 ∧
  I7 (IntKind.wrap .i64 (i9 + 1)) h5 ∧ m8 (IntKind.wrap .i64 (i9 + 1)) h5 < m8 i9 h4)) ∧ ((decide (i9 < ((p2callsl : Nat) : Int))) = false → (∃ b22 : Nat, ∃ o23 : Nat, Begin6 = some ⟨b22, o23, none⟩ ∧
  ∃ Space24 : Option Addr, cellAt h4 b22 (o23 + 3) = some (.pointer Space24) ∧ CallsH Try.prog 21 [.pointer Space24] h4 fun r25 h6 => ∃ Pagesa26 : Option Addr, ∃ Pagesl27 : Nat, ∃ Pagesc28 : Nat, r25 = .slice Pagesa26 Pagesl27 Pagesc28 ∧
  ∀ h7 : Hp, h7 = new h6 (blk 54 []) → ∃ I29 : Option Addr → Nat → Nat → Int → Hp → Prop, ∃ m30 : Option Addr → Nat → Nat → Int → Hp → Nat, I29 (some ⟨sz h6, 0, none⟩) 0 0 0 h7 ∧ ∀ olda31 : Option Addr, ∀ oldl32 : Nat, ∀ oldc33 : Nat, ∀ i34 : Int, ∀ h8 : Hp, I29 olda31 oldl32 oldc33 i34 h8 →
  ((decide (i34 < ((Pagesl27 : Nat) : Int))) = true → (∃ b35 : Nat, ∃ o36 : Nat, Begin6 = some ⟨b35, o36, none⟩ ∧ ∃ Space37 : Option Addr, cellAt h8 b35 (o36 + 3) = some (.pointer Space37) ∧ (0 : Int) ≤ i34 ∧
  i34 < ((Pagesl27 : Nat) : Int) ∧ ∃ b38 : Nat, ∃ o39 : Nat, (Pagesa26 : Option Addr) = some ⟨b38, o39, none⟩ ∧ ∃ x40 : Int, cellAt h8 b38 (o39 + i34.toNat * 1) = some (.int .i64 x40) ∧ (CallsH Try.prog 22 [.pointer Space37, .int .i64 x40] h8 fun r41 h9 => ∃ Look42 : Bool, ∃ Look43 : Bool, ∃ Look44 : Bool, ∃ Look45 : Bool, ∃ Look46 : Int, ∃ Look47 : Bool, r41 = .tuple #[.agg #[.bool Look42, .bool Look43, .bool Look44, .bool Look45, .int .i64 Look46], .bool Look47] ∧
  ∀ h10 : Hp, h10 = new h9 (blk 54 [.bool false, .bool false, .bool false, .bool false, .int .i64 0]) → cellAt h10 b35 (o36 + 3) = some (.pointer Space37) ∧ cellAt h10 b38 (o39 + i34.toNat * 1) = some (.int .i64 x40) ∧
  truly true ∧ ∃ T48 : TypeId, ∃ l49 : List Value, bk h10 (sz h9) = some (blk T48 l49) ∧ 0 + 5 ≤ l49.length ∧ ∀ h11 : Hp, h11 = upd h10 (sz h9) T48 (writeAt l49 0 [.bool Look42, .bool Look43, .bool Look44, .bool Look45, .int .i64 Look46]) →
  ∃ x50 : Bool, cellAt h11 (sz h9) (0 + 0) = some (.bool x50) ∧ ∃ x51 : Bool, cellAt h11 (sz h9) (0 + 1) = some (.bool x51) ∧ ∃ x52 : Bool, cellAt h11 (sz h9) (0 + 2) = some (.bool x52) ∧ ∃ x53 : Bool, cellAt h11 (sz h9) (0 + 3) = some (.bool x53) ∧
  ∃ x54 : Int, cellAt h11 (sz h9) (0 + 4) = some (.int .i64 x54) ∧ ∀ h12 : Hp, h12 = new h11 (blk 54 [.bool x50, .bool x51, .bool x52, .bool x53, .int .i64 x54]) → appendN h12 54 5 16 [.bool false, .bool false, .bool false, .bool false, .int .i64 0] olda31 oldl32 oldc33 (some ⟨sz h11, 0, none⟩) 1 fun a55 l56 c57 h13 => I29 a55 l56 c57 (IntKind.wrap .i64 (i34 + 1)) h13 ∧
  m30 a55 l56 c57 (IntKind.wrap .i64 (i34 + 1)) h13 < m30 olda31 oldl32 oldc33 i34 h8) ∧ (∀ h14 : Hp, h14 = new h8 (blk 54 [.bool false, .bool false, .bool false, .bool false, .int .i64 0]) → cellAt h14 b35 (o36 + 3) = some (.pointer Space37) ∧
  cellAt h14 b38 (o39 + i34.toNat * 1) = some (.int .i64 x40) ∧ CallsH Try.prog 22 [.pointer Space37, .int .i64 x40] h14 fun r58 h15 => ∃ Look59 : Bool, ∃ Look60 : Bool, ∃ Look61 : Bool, ∃ Look62 : Bool, ∃ Look63 : Int, ∃ Look64 : Bool, r58 = .tuple #[.agg #[.bool Look59, .bool Look60, .bool Look61, .bool Look62, .int .i64 Look63], .bool Look64] ∧
  truly true ∧ ∃ T65 : TypeId, ∃ l66 : List Value, bk h15 (sz h8) = some (blk T65 l66) ∧ 0 + 5 ≤ l66.length ∧ ∀ h16 : Hp, h16 = upd h15 (sz h8) T65 (writeAt l66 0 [.bool Look59, .bool Look60, .bool Look61, .bool Look62, .int .i64 Look63]) →
  ∃ x67 : Bool, cellAt h16 (sz h8) (0 + 0) = some (.bool x67) ∧ ∃ x68 : Bool, cellAt h16 (sz h8) (0 + 1) = some (.bool x68) ∧ ∃ x69 : Bool, cellAt h16 (sz h8) (0 + 2) = some (.bool x69) ∧ ∃ x70 : Bool, cellAt h16 (sz h8) (0 + 3) = some (.bool x70) ∧
  ∃ x71 : Int, cellAt h16 (sz h8) (0 + 4) = some (.int .i64 x71) ∧ ∀ h17 : Hp, h17 = new h16 (blk 54 [.bool x67, .bool x68, .bool x69, .bool x70, .int .i64 x71]) → appendN h17 54 5 16 [.bool false, .bool false, .bool false, .bool false, .int .i64 0] olda31 oldl32 oldc33 (some ⟨sz h16, 0, none⟩) 1 fun a72 l73 c74 h18 => I29 a72 l73 c74 (IntKind.wrap .i64 (i34 + 1)) h18 ∧
  m30 a72 l73 c74 (IntKind.wrap .i64 (i34 + 1)) h18 < m30 olda31 oldl32 oldc33 i34 h8))) ∧ ((decide (i34 < ((Pagesl27 : Nat) : Int))) = false → (∃ I75 : Hp → Prop, (∃ b76 : Nat, ∃ o77 : Nat, Begin6 = some ⟨b76, o77, none⟩ ∧
  ∃ Space78 : Option Addr, cellAt h8 b76 (o77 + 3) = some (.pointer Space78) ∧ CallsH Try.prog 23 [.pointer Space78, .int .i64 p3first] h8 fun r79 h19 => ∃ Split80 : Int, r79 = .int .i64 Split80 ∧ ((Split80 == 0) = true →
  (CallsH Try.prog 24 [.pointer Begin6, .slice Pagesa26 Pagesl27 Pagesc28, .slice olda31 oldl32 oldc33, .int .i64 (-1)] h19 fun r81 h20 => ∃ told82 : Bool, r81 = .bool told82 ∧ ((!told82) = true → (R (.bool false) h20)) ∧
  ((!told82) = false → (∃ b83 : Nat, ∃ o84 : Nat, Begin6 = some ⟨b83, o84, none⟩ ∧ ∃ Space85 : Option Addr, cellAt h20 b83 (o84 + 3) = some (.pointer Space85) ∧ CallsH Try.prog 25 [.pointer Space85, .int .i64 p3first] h20 fun r86 h21 => ∃ Merge87 : Int, r86 = .int .i64 Merge87 ∧
  ((Merge87 != 0) = true → (R (.bool false) h21)) ∧ ((Merge87 != 0) = false → (CallsH Try.prog 24 [.pointer Begin6, .slice Pagesa26 Pagesl27 Pagesc28, .slice olda31 oldl32 oldc33, .int .i64 (-1)] h21 fun r88 h22 => ∃ told89 : Bool, r88 = .bool told89 ∧
  ((!told89) = true → (R (.bool false) h22)) ∧ ((!told89) = false → (I75 h22)))))))) ∧ ((Split80 == 0) = false → (I75 h19))) ∧ ∀ h23 : Hp, I75 h23 → ∃ b90 : Nat, ∃ o91 : Nat, Begin6 = some ⟨b90, o91, none⟩ ∧
  ∃ Space92 : Option Addr, cellAt h23 b90 (o91 + 3) = some (.pointer Space92) ∧ CallsH Try.prog 22 [.pointer Space92, .int .i64 p4page] h23 fun r93 h24 => ∃ Look94 : Bool, ∃ Look95 : Bool, ∃ Look96 : Bool, ∃ Look97 : Bool, ∃ Look98 : Int, ∃ Look99 : Bool, r93 = .tuple #[.agg #[.bool Look94, .bool Look95, .bool Look96, .bool Look97, .int .i64 Look98], .bool Look99] ∧
  ∀ h25 : Hp, h25 = new h24 (blk 54 [.bool false, .bool false, .bool false, .bool false, .int .i64 0]) → truly true ∧ ∃ T100 : TypeId, ∃ l101 : List Value, bk h25 (sz h24) = some (blk T100 l101) ∧ 0 + 5 ≤ l101.length ∧
  ∀ h26 : Hp, h26 = upd h25 (sz h24) T100 (writeAt l101 0 [.bool Look94, .bool Look95, .bool Look96, .bool Look97, .int .i64 Look98]) → ∃ b102 : Nat, ∃ o103 : Nat, Begin6 = some ⟨b102, o103, none⟩ ∧ ∃ Space104 : Option Addr, cellAt h26 b102 (o103 + 3) = some (.pointer Space104) ∧
  ∃ Write105 : Bool, cellAt h26 (sz h24) 1 = some (.bool Write105) ∧ ∃ Exec106 : Bool, cellAt h26 (sz h24) 2 = some (.bool Exec106) ∧ CallsH Try.prog 26 [.pointer Space104, .int .i64 p4page, .bool (!Write105), .bool Exec106] h26 fun r107 h27 => ∃ Protect108 : Int, r107 = .int .i64 Protect108 ∧
  ∃ I109 : Hp → Prop, (((!Look99) = true → (CallsH Try.prog 24 [.pointer Begin6, .slice Pagesa26 Pagesl27 Pagesc28, .slice olda31 oldl32 oldc33, .int .i64 (-1)] h27 fun r110 h28 => ∃ told111 : Bool, r110 = .bool told111 ∧
  R (.bool told111) h28)) ∧ ((!Look99) = false → (((Protect108 != 0) = true → (CallsH Try.prog 24 [.pointer Begin6, .slice Pagesa26 Pagesl27 Pagesc28, .slice olda31 oldl32 oldc33, .int .i64 (-1)] h27 fun r112 h29 => ∃ told113 : Bool, r112 = .bool told113 ∧
  R (.bool told113) h29)) ∧ ((Protect108 != 0) = false → (I109 h27))))) ∧ ∀ h30 : Hp, I109 h30 → ∃ b114 : Nat, ∃ o115 : Nat, Begin6 = some ⟨b114, o115, none⟩ ∧ ∃ Space116 : Option Addr, cellAt h30 b114 (o115 + 3) = some (.pointer Space116) ∧
  CallsH Try.prog 22 [.pointer Space116, .int .i64 p4page] h30 fun r117 h31 => ∃ Look118 : Bool, ∃ Look119 : Bool, ∃ Look120 : Bool, ∃ Look121 : Bool, ∃ Look122 : Int, ∃ Look123 : Bool, r117 = .tuple #[.agg #[.bool Look118, .bool Look119, .bool Look120, .bool Look121, .int .i64 Look122], .bool Look123] ∧
  ∀ h32 : Hp, h32 = new h31 (blk 54 [.bool false, .bool false, .bool false, .bool false, .int .i64 0]) → truly true ∧ ∃ T124 : TypeId, ∃ l125 : List Value, bk h32 (sz h31) = some (blk T124 l125) ∧ 0 + 5 ≤ l125.length ∧
  ∀ h33 : Hp, h33 = upd h32 (sz h31) T124 (writeAt l125 0 [.bool Look118, .bool Look119, .bool Look120, .bool Look121, .int .i64 Look122]) → ((Look123) = true → (∃ Write126 : Bool, cellAt h33 (sz h31) 1 = some (.bool Write126) ∧
  ∃ Write127 : Bool, cellAt h33 (sz h24) 1 = some (.bool Write127) ∧ ((notIf true (Write126 == (!Write127))) = true → (∃ Exec128 : Bool, cellAt h33 (sz h31) 2 = some (.bool Exec128) ∧ ∃ Exec129 : Bool, cellAt h33 (sz h24) 2 = some (.bool Exec129) ∧
  ((notIf true (Exec128 == Exec129)) = true → (∃ Frame130 : Int, cellAt h33 (sz h31) 4 = some (.int .i64 Frame130) ∧ ∃ Frame131 : Int, cellAt h33 (sz h24) 4 = some (.int .i64 Frame131) ∧ ((Frame130 == Frame131) = true →
  (CallsH Try.prog 24 [.pointer Begin6, .slice Pagesa26 Pagesl27 Pagesc28, .slice olda31 oldl32 oldc33, .int .i64 p4page] h33 fun r132 h34 => ∃ told133 : Bool, r132 = .bool told133 ∧ R (.bool told133) h34)) ∧
  ((Frame130 == Frame131) = false → (R (.bool false) h33)))) ∧ ((notIf true (Exec128 == Exec129)) = false → (R (.bool false) h33)))) ∧ ((notIf true (Write126 == (!Write127))) = false → (R (.bool false) h33)))) ∧
  ((Look123) = false → (R (.bool false) h33))))))))))))
theorem warderlaw11_StageSplits.eq (p0n : Int) (p1away : Int) (p2callsa : Option Addr) (p2callsl : Nat) (p2callsc : Nat) (p3first : Int) (p4page : Int) (h : Hp) (R : Value → Hp → Prop) : evBody Try.prog calls warderlaw11_StageSplits.hints Try.f5 [.int .i64 p0n, .int .i64 p1away, .slice p2callsa p2callsl p2callsc, .int .i64 p3first, .int .i64 p4page] h R = warderlaw11_StageSplits.P p0n p1away p2callsa p2callsl p2callsc p3first p4page h R := by kernel_rfl
theorem warderlaw11_StageSplits.calls (p0n : Int) (p1away : Int) (p2callsa : Option Addr) (p2callsl : Nat) (p2callsc : Nat) (p3first : Int) (p4page : Int) (h : Hp) (R : Value → Hp → Prop) (hp : warderlaw11_StageSplits.P p0n p1away p2callsa p2callsl p2callsc p3first p4page h R) : CallsH Try.prog 5 [.int .i64 p0n, .int .i64 p1away, .slice p2callsa p2callsl p2callsc, .int .i64 p3first, .int .i64 p4page] h R :=
  calls_of_body calls_ok Try.func5 (args := [.int .i64 p0n, .int .i64 p1away, .slice p2callsa p2callsl p2callsc, .int .i64 p3first, .int .i64 p4page]) (by rw [warderlaw11_StageSplits.eq]; exact hp)
/-! ### warderlaw11_StageBreaks: function 6 -/
def warderlaw11_StageBreaks.hints : Hints := { loops := [(9, [2, 7], [(8, (.one (.int .i64)))]), (24, [2, 7, 8, 12], [(13, (.one .bool)), (14, (.one (.int .i64)))])], cuts := [(19, [2, 7, 8, 9, 10, 12], []), (22, [2, 7, 8, 12], [])], orders := [(15, [0, 1, 3, 7, 0, 0, 48, 112, 255, 511], (.leaf [0, 1, 2, 3, 4, 5, 6, 7, 8, 9]))] }
def warderlaw11_StageBreaks.P (p0n : Int) (p1away : Int) (p2callsa : Option Addr) (p2callsl : Nat) (p2callsc : Nat) (h : Hp) (R : Value → Hp → Prop) : Prop :=
  CallsH Try.prog 9 [] h fun r1 h1 => ∃ alive2 : Bool, r1 = .bool alive2 ∧ ((!alive2) = true → (R (.bool false) h1)) ∧ ((!alive2) = false → (CallsH Try.prog 10 [.int .i64 p0n, .int .i64 p1away, .slice p2callsa p2callsl p2callsc] h1 fun r3 h2 => ∃ great4 : Bool, r3 = .bool great4 ∧
  ((great4) = true → (R (.bool true) h2)) ∧ ((great4) = false → (CallsH Try.prog 11 [.int .i64 p0n, .int .i64 p1away] h2 fun r5 h3 => ∃ Begin6 : Option Addr, r5 = .pointer Begin6 ∧ ((notIf true Begin6.isNone) = true →
  (R (.bool false) h3)) ∧ ((notIf true Begin6.isNone) = false → (∃ I7 : Int → Hp → Prop, ∃ m8 : Int → Hp → Nat, I7 0 h3 ∧ ∀ i9 : Int, ∀ h4 : Hp, I7 i9 h4 → ((decide (i9 < ((p2callsl : Nat) : Int))) = true →
  (∃ b10 : Nat, ∃ o11 : Nat, Begin6 = some ⟨b10, o11, none⟩ ∧ ∃ Mem12 : Option Addr, cellAt h4 b10 o11 = some (.pointer Mem12) ∧ CallsH Try.prog 27 [.pointer Mem12] h4 fun r13 h5 => ∃ Clone14 : Option Addr, r13 = .pointer Clone14 ∧
  ∃ b15 : Nat, ∃ o16 : Nat, Begin6 = some ⟨b15, o16, none⟩ ∧ ∃ Frames17 : Option Addr, cellAt h5 b15 (o16 + 1) = some (.pointer Frames17) ∧ CallsH Try.prog 28 [.pointer Frames17, .int .i64 1] h5 fun r18 h6 => ∃ Lista19 : Option Addr, ∃ Listl20 : Nat, ∃ Listc21 : Nat, r18 = .slice Lista19 Listl20 Listc21 ∧
  ∃ b22 : Nat, ∃ o23 : Nat, Begin6 = some ⟨b22, o23, none⟩ ∧ ∃ Tlb24 : Option Addr, cellAt h6 b22 (o23 + 2) = some (.pointer Tlb24) ∧ CallsH Try.prog 29 [.pointer Tlb24, .agg #[.int .i64 7, .int .i64 1, .int .i64 0, .bool false, .bool false]] h6 fun r25 h7 => r25 = .tuple #[] ∧
  ∃ b26 : Nat, ∃ o27 : Nat, Begin6 = some ⟨b26, o27, none⟩ ∧ ∃ Tlb28 : Option Addr, cellAt h7 b26 (o27 + 2) = some (.pointer Tlb28) ∧ CallsH Try.prog 29 [.pointer Tlb28, .agg #[.int .i64 8, .int .i64 1, .int .i64 0, .bool false, .bool false]] h7 fun r29 h8 => r29 = .tuple #[] ∧
  ∃ b30 : Nat, ∃ o31 : Nat, Begin6 = some ⟨b30, o31, none⟩ ∧ ∃ Space32 : Option Addr, cellAt h8 b30 (o31 + 3) = some (.pointer Space32) ∧ (0 : Int) ≤ i9 ∧ i9 < ((p2callsl : Nat) : Int) ∧ ∃ b33 : Nat, ∃ o34 : Nat, (p2callsa : Option Addr) = some ⟨b33, o34, none⟩ ∧
  ∃ x35 : Int, cellAt h8 b33 (o34 + i9.toNat * 5 + 0) = some (.int .i64 x35) ∧ ∃ x36 : Int, cellAt h8 b33 (o34 + i9.toNat * 5 + 1) = some (.int .i64 x36) ∧ ∃ x37 : Int, cellAt h8 b33 (o34 + i9.toNat * 5 + 2) = some (.int .i64 x37) ∧
  ∃ x38 : Bool, cellAt h8 b33 (o34 + i9.toNat * 5 + 3) = some (.bool x38) ∧ ∃ x39 : Bool, cellAt h8 b33 (o34 + i9.toNat * 5 + 4) = some (.bool x39) ∧ CallsH Try.prog 12 [.pointer Space32, .agg #[.int .i64 x35, .int .i64 x36, .int .i64 x37, .bool x38, .bool x39]] h8 fun r40 h9 => ∃ Do41 : Int, r40 = .int .i64 Do41 ∧
  ∃ b42 : Nat, ∃ o43 : Nat, Begin6 = some ⟨b42, o43, none⟩ ∧ ∃ Space44 : Option Addr, cellAt h9 b42 (o43 + 3) = some (.pointer Space44) ∧ CallsH Try.prog 30 [.pointer Space44] h9 fun r45 h10 => ∃ Loga46 : Option Addr, ∃ Logl47 : Nat, ∃ Logc48 : Nat, r45 = .slice Loga46 Logl47 Logc48 ∧
  ∃ I49 : Hp → Prop, (((Do41 != 0) = true → (((decide (((Logl47 : Nat) : Int) > 0)) = true → (R (.bool false) h10)) ∧ ((decide (((Logl47 : Nat) : Int) > 0)) = false → (∃ b50 : Nat, ∃ o51 : Nat, Begin6 = some ⟨b50, o51, none⟩ ∧
  ∃ Mem52 : Option Addr, cellAt h10 b50 o51 = some (.pointer Mem52) ∧ CallsH Try.prog 31 [.pointer Mem52, .pointer Clone14] h10 fun r53 h11 => ∃ Differa54 : Option Addr, ∃ Differl55 : Nat, ∃ Differc56 : Nat, r53 = .slice Differa54 Differl55 Differc56 ∧
  ((decide (((Differl55 : Nat) : Int) > 0)) = true → (R (.bool false) h11)) ∧ ((decide (((Differl55 : Nat) : Int) > 0)) = false → (I49 h11)))))) ∧ ((Do41 != 0) = false → (I49 h10))) ∧ ∀ h12 : Hp, I49 h12 →
  ∃ b57 : Nat, ∃ o58 : Nat, Begin6 = some ⟨b57, o58, none⟩ ∧ ∃ Frames59 : Option Addr, cellAt h12 b57 (o58 + 1) = some (.pointer Frames59) ∧ CallsH Try.prog 28 [.pointer Frames59, .int .i64 1] h12 fun r60 h13 => ∃ Lista61 : Option Addr, ∃ Listl62 : Nat, ∃ Listc63 : Nat, r60 = .slice Lista61 Listl62 Listc63 ∧
  CallsH Try.prog 32 [.pointer Clone14, .slice Lista19 Listl20 Listc21, .slice Lista61 Listl62 Listc63] h13 fun r64 h14 => r64 = .tuple #[] ∧ ∃ I65 : Hp → Prop, (CallsH Try.prog 33 [.pointer Clone14, .slice Loga46 Logl47 Logc48] h14 fun r66 h15 => ∃ replay67 : Bool, r66 = .bool replay67 ∧
  ((!replay67) = true → (R (.bool false) h15)) ∧ ((!replay67) = false → (∃ b68 : Nat, ∃ o69 : Nat, Begin6 = some ⟨b68, o69, none⟩ ∧ ∃ Mem70 : Option Addr, cellAt h15 b68 o69 = some (.pointer Mem70) ∧ CallsH Try.prog 31 [.pointer Clone14, .pointer Mem70] h15 fun r71 h16 => ∃ Differa72 : Option Addr, ∃ Differl73 : Nat, ∃ Differc74 : Nat, r71 = .slice Differa72 Differl73 Differc74 ∧
  ((decide (((Differl73 : Nat) : Int) > 0)) = true → (R (.bool false) h16)) ∧ ((decide (((Differl73 : Nat) : Int) > 0)) = false → (I65 h16))))) ∧ ∀ h17 : Hp, I65 h17 → ∃ I75 : Bool → Int → Hp → Prop, ∃ m76 : Bool →
  Int → Hp → Nat, I75 false 0 h17 ∧ ∀ dropped77 : Bool, ∀ k78 : Int, ∀ h18 : Hp, I75 dropped77 k78 h18 → ((decide (k78 < ((Logl47 : Nat) : Int))) = true → (((dropped77) = true → (I75 true (IntKind.wrap .i64 (k78 + 1)) h18 ∧
  m76 true (IntKind.wrap .i64 (k78 + 1)) h18 < m76 dropped77 k78 h18)) ∧ ((dropped77) = false → ((0 : Int) ≤ k78 ∧ k78 < ((Logl47 : Nat) : Int) ∧ ∃ b79 : Nat, ∃ o80 : Nat, (Loga46 : Option Addr) = some ⟨b79, o80, none⟩ ∧
  ∃ Kind81 : Int, cellAt h18 b79 (o80 + k78.toNat * 3) = some (.int .i64 Kind81) ∧ I75 (Kind81 == 2) (IntKind.wrap .i64 (k78 + 1)) h18 ∧ m76 (Kind81 == 2) (IntKind.wrap .i64 (k78 + 1)) h18 < m76 dropped77 k78 h18)))) ∧
  ((decide (k78 < ((Logl47 : Nat) : Int))) = false → (∃ b82 : Nat, ∃ o83 : Nat, Begin6 = some ⟨b82, o83, none⟩ ∧ ∃ Tlb84 : Option Addr, cellAt h18 b82 (o83 + 2) = some (.pointer Tlb84) ∧ CallsH Try.prog 34 [.pointer Tlb84, .int .i64 7, .int .i64 1] h18 fun r85 h19 => ∃ Find86 : Int, ∃ Find87 : Int, ∃ Find88 : Int, ∃ Find89 : Bool, ∃ Find90 : Bool, ∃ Find91 : Bool, r85 = .tuple #[.agg #[.int .i64 Find86, .int .i64 Find87, .int .i64 Find88, .bool Find89, .bool Find90], .bool Find91] ∧
  ∀ h20 : Hp, h20 = new h19 (blk 64 [.int .i64 0, .int .i64 0, .int .i64 0, .bool false, .bool false]) → truly true ∧ ∃ T92 : TypeId, ∃ l93 : List Value, bk h20 (sz h19) = some (blk T92 l93) ∧ 0 + 5 ≤ l93.length ∧
  ∀ h21 : Hp, h21 = upd h20 (sz h19) T92 (writeAt l93 0 [.int .i64 Find86, .int .i64 Find87, .int .i64 Find88, .bool Find89, .bool Find90]) → ∃ b94 : Nat, ∃ o95 : Nat, Begin6 = some ⟨b94, o95, none⟩ ∧
  ∃ Tlb96 : Option Addr, cellAt h21 b94 (o95 + 2) = some (.pointer Tlb96) ∧ CallsH Try.prog 34 [.pointer Tlb96, .int .i64 8, .int .i64 1] h21 fun r97 h22 => ∃ Find98 : Int, ∃ Find99 : Int, ∃ Find100 : Int, ∃ Find101 : Bool, ∃ Find102 : Bool, ∃ Find103 : Bool, r97 = .tuple #[.agg #[.int .i64 Find98, .int .i64 Find99, .int .i64 Find100, .bool Find101, .bool Find102], .bool Find103] ∧
  ∀ h23 : Hp, h23 = new h22 (blk 64 [.int .i64 0, .int .i64 0, .int .i64 0, .bool false, .bool false]) → truly true ∧ ∃ T104 : TypeId, ∃ l105 : List Value, bk h23 (sz h22) = some (blk T104 l105) ∧ 0 + 5 ≤ l105.length ∧
  ∀ h24 : Hp, h24 = upd h23 (sz h22) T104 (writeAt l105 0 [.int .i64 Find98, .int .i64 Find99, .int .i64 Find100, .bool Find101, .bool Find102]) → ((notIf true (Find91 == dropped77)) = true → (R (.bool false) h24)) ∧
  ((notIf true (Find91 == dropped77)) = false → (((!Find103) = true → (R (.bool false) h24)) ∧ ((!Find103) = false → (I7 (IntKind.wrap .i64 (i9 + 1)) h24 ∧ m8 (IntKind.wrap .i64 (i9 + 1)) h24 < m8 i9 h4)))))))) ∧
  ((decide (i9 < ((p2callsl : Nat) : Int))) = false → (R (.bool true) h4))))))))
theorem warderlaw11_StageBreaks.eq (p0n : Int) (p1away : Int) (p2callsa : Option Addr) (p2callsl : Nat) (p2callsc : Nat) (h : Hp) (R : Value → Hp → Prop) : evBody Try.prog calls warderlaw11_StageBreaks.hints Try.f6 [.int .i64 p0n, .int .i64 p1away, .slice p2callsa p2callsl p2callsc] h R = warderlaw11_StageBreaks.P p0n p1away p2callsa p2callsl p2callsc h R := by kernel_rfl
theorem warderlaw11_StageBreaks.calls (p0n : Int) (p1away : Int) (p2callsa : Option Addr) (p2callsl : Nat) (p2callsc : Nat) (h : Hp) (R : Value → Hp → Prop) (hp : warderlaw11_StageBreaks.P p0n p1away p2callsa p2callsl p2callsc h R) : CallsH Try.prog 6 [.int .i64 p0n, .int .i64 p1away, .slice p2callsa p2callsl p2callsc] h R :=
  calls_of_body calls_ok Try.func6 (args := [.int .i64 p0n, .int .i64 p1away, .slice p2callsa p2callsl p2callsc]) (by rw [warderlaw11_StageBreaks.eq]; exact hp)
/-! ### warderlaw11_StageOwn: function 7 -/
def warderlaw11_StageOwn.hints : Hints := { loops := [(12, [2, 3, 9, 10], [(12, (.one (.int .i64)))]), (17, [2, 9, 10, 13], [(14, (.one (.int .i64)))]), (24, [2, 9, 10, 13, 14, 16, 17], [(18, (.one (.int .i64)))])], cuts := [(5, [0, 1, 2, 3], []), (11, [2, 3, 9, 10], [])], orders := [(8, [0, 1, 3, 7, 0, 16, 48, 112, 0, 256, 768, 1792, 4095, 8191, 16383, 16383, 32767, 131071], (.leaf [0, 1, 2, 3, 4, 5, 6, 7, 8, 9, 10, 11, 12, 13, 14, 15, 16, 17])), (21, [0, 1, 3, 7, 0, 0, 48, 112, 255], (.leaf [0, 1, 2, 3, 4, 5, 6, 7, 8])), (26, [0, 1, 3, 7, 0, 0, 48, 112, 255, 511], (.leaf [0, 1, 2, 3, 4, 5, 6, 7, 8, 9]))] }
def warderlaw11_StageOwn.P (p0n : Int) (p1away : Int) (p2callsa : Option Addr) (p2callsl : Nat) (p2callsc : Nat) (p3othera : Option Addr) (p3otherl : Nat) (p3otherc : Nat) (h : Hp) (R : Value → Hp → Prop) : Prop :=
  CallsH Try.prog 9 [] h fun r1 h1 => ∃ alive2 : Bool, r1 = .bool alive2 ∧ ((!alive2) = true → (R (.bool false) h1)) ∧ ((!alive2) = false → (∃ I3 : Hp → Prop, (CallsH Try.prog 10 [.int .i64 p0n, .int .i64 p1away, .slice p2callsa p2callsl p2callsc] h1 fun r4 h2 => ∃ great5 : Bool, r4 = .bool great5 ∧
  ((great5) = true → (R (.bool true) h2)) ∧ ((great5) = false → (((decide (((p3otherl : Nat) : Int) > 24)) = true → (R (.bool true) h2)) ∧ ((decide (((p3otherl : Nat) : Int) > 24)) = false → (((decide ((IntKind.wrap .i64 (p0n - p1away)) < 2)) = true →
  (R (.bool true) h2)) ∧ ((decide ((IntKind.wrap .i64 (p0n - p1away)) < 2)) = false → (I3 h2))))))) ∧ ∀ h3 : Hp, I3 h3 → CallsH Try.prog 11 [.int .i64 p0n, .int .i64 p1away] h3 fun r6 h4 => ∃ Begin7 : Option Addr, r6 = .pointer Begin7 ∧
  ((notIf true Begin7.isNone) = true → (R (.bool false) h4)) ∧ ((notIf true Begin7.isNone) = false → (∃ b8 : Nat, ∃ o9 : Nat, Begin7 = some ⟨b8, o9, none⟩ ∧ ∃ Mem10 : Option Addr, cellAt h4 b8 o9 = some (.pointer Mem10) ∧
  ∃ b11 : Nat, ∃ o12 : Nat, Begin7 = some ⟨b11, o12, none⟩ ∧ ∃ Frames13 : Option Addr, cellAt h4 b11 (o12 + 1) = some (.pointer Frames13) ∧ ∃ b14 : Nat, ∃ o15 : Nat, Begin7 = some ⟨b14, o15, none⟩ ∧ ∃ Tlb16 : Option Addr, cellAt h4 b14 (o15 + 2) = some (.pointer Tlb16) ∧
  CallsH Try.prog 35 [.pointer Mem10, .pointer Frames13, .pointer Tlb16, .int .i64 9] h4 fun r17 h5 => ∃ New18 : Option Addr, ∃ New19 : Int, r17 = .tuple #[.pointer New18, .int .i64 New19] ∧ ∃ I20 : Hp →
  Prop, (((New19 != 0) = true → (R (.bool false) h5)) ∧ ((New19 != 0) = false → (((notIf true New18.isNone) = true → (R (.bool false) h5)) ∧ ((notIf true New18.isNone) = false → (I20 h5))))) ∧ ∀ h6 : Hp, I20 h6 →
  ∃ I21 : Int → Hp → Prop, ∃ m22 : Int → Hp → Nat, I21 0 h6 ∧ ∀ i23 : Int, ∀ h7 : Hp, I21 i23 h7 → ((decide (i23 < ((p3otherl : Nat) : Int))) = true → ((0 : Int) ≤ i23 ∧ i23 < ((p3otherl : Nat) : Int) ∧
  ∃ b24 : Nat, ∃ o25 : Nat, (p3othera : Option Addr) = some ⟨b24, o25, none⟩ ∧ ∃ x26 : Int, cellAt h7 b24 (o25 + i23.toNat * 5 + 0) = some (.int .i64 x26) ∧ ∃ x27 : Int, cellAt h7 b24 (o25 + i23.toNat * 5 + 1) = some (.int .i64 x27) ∧
  ∃ x28 : Int, cellAt h7 b24 (o25 + i23.toNat * 5 + 2) = some (.int .i64 x28) ∧ ∃ x29 : Bool, cellAt h7 b24 (o25 + i23.toNat * 5 + 3) = some (.bool x29) ∧ ∃ x30 : Bool, cellAt h7 b24 (o25 + i23.toNat * 5 + 4) = some (.bool x30) ∧
  CallsH Try.prog 12 [.pointer New18, .agg #[.int .i64 x26, .int .i64 x27, .int .i64 x28, .bool x29, .bool x30]] h7 fun r31 h8 => ∃ Do32 : Int, r31 = .int .i64 Do32 ∧ I21 (IntKind.wrap .i64 (i23 + 1)) h8 ∧
  m22 (IntKind.wrap .i64 (i23 + 1)) h8 < m22 i23 h7)) ∧ ((decide (i23 < ((p3otherl : Nat) : Int))) = false → (CallsH Try.prog 21 [.pointer New18] h7 fun r33 h9 => ∃ Pagesa34 : Option Addr, ∃ Pagesl35 : Nat, ∃ Pagesc36 : Nat, r33 = .slice Pagesa34 Pagesl35 Pagesc36 ∧
  ∃ I37 : Int → Hp → Prop, ∃ m38 : Int → Hp → Nat, I37 0 h9 ∧ ∀ i39 : Int, ∀ h10 : Hp, I37 i39 h10 → ((decide (i39 < ((p2callsl : Nat) : Int))) = true → (∃ b40 : Nat, ∃ o41 : Nat, Begin7 = some ⟨b40, o41, none⟩ ∧
  ∃ Mem42 : Option Addr, cellAt h10 b40 o41 = some (.pointer Mem42) ∧ CallsH Try.prog 27 [.pointer Mem42] h10 fun r43 h11 => ∃ Clone44 : Option Addr, r43 = .pointer Clone44 ∧ ∃ b45 : Nat, ∃ o46 : Nat, Begin7 = some ⟨b45, o46, none⟩ ∧
  ∃ Frames47 : Option Addr, cellAt h11 b45 (o46 + 1) = some (.pointer Frames47) ∧ CallsH Try.prog 28 [.pointer Frames47, .int .i64 2] h11 fun r48 h12 => ∃ Lista49 : Option Addr, ∃ Listl50 : Nat, ∃ Listc51 : Nat, r48 = .slice Lista49 Listl50 Listc51 ∧
  ∃ b52 : Nat, ∃ o53 : Nat, Begin7 = some ⟨b52, o53, none⟩ ∧ ∃ Space54 : Option Addr, cellAt h12 b52 (o53 + 3) = some (.pointer Space54) ∧ (0 : Int) ≤ i39 ∧ i39 < ((p2callsl : Nat) : Int) ∧ ∃ b55 : Nat, ∃ o56 : Nat, (p2callsa : Option Addr) = some ⟨b55, o56, none⟩ ∧
  ∃ x57 : Int, cellAt h12 b55 (o56 + i39.toNat * 5 + 0) = some (.int .i64 x57) ∧ ∃ x58 : Int, cellAt h12 b55 (o56 + i39.toNat * 5 + 1) = some (.int .i64 x58) ∧ ∃ x59 : Int, cellAt h12 b55 (o56 + i39.toNat * 5 + 2) = some (.int .i64 x59) ∧
  ∃ x60 : Bool, cellAt h12 b55 (o56 + i39.toNat * 5 + 3) = some (.bool x60) ∧ ∃ x61 : Bool, cellAt h12 b55 (o56 + i39.toNat * 5 + 4) = some (.bool x61) ∧ CallsH Try.prog 12 [.pointer Space54, .agg #[.int .i64 x57, .int .i64 x58, .int .i64 x59, .bool x60, .bool x61]] h12 fun r62 h13 => ∃ Do63 : Int, r62 = .int .i64 Do63 ∧
  ∃ b64 : Nat, ∃ o65 : Nat, Begin7 = some ⟨b64, o65, none⟩ ∧ ∃ Mem66 : Option Addr, cellAt h13 b64 o65 = some (.pointer Mem66) ∧ CallsH Try.prog 31 [.pointer Mem66, .pointer Clone44] h13 fun r67 h14 => ∃ Differa68 : Option Addr, ∃ Differl69 : Nat, ∃ Differc70 : Nat, r67 = .slice Differa68 Differl69 Differc70 ∧
  ∃ I71 : Int → Hp → Prop, ∃ m72 : Int → Hp → Nat, I71 0 h14 ∧ ∀ k73 : Int, ∀ h15 : Hp, I71 k73 h15 → ((decide (k73 < ((Differl69 : Nat) : Int))) = true → (∃ b74 : Nat, ∃ o75 : Nat, Begin7 = some ⟨b74, o75, none⟩ ∧
  ∃ Frames76 : Option Addr, cellAt h15 b74 (o75 + 1) = some (.pointer Frames76) ∧ (0 : Int) ≤ k73 ∧ k73 < ((Differl69 : Nat) : Int) ∧ ∃ b77 : Nat, ∃ o78 : Nat, (Differa68 : Option Addr) = some ⟨b77, o78, none⟩ ∧
  ∃ x79 : Int, cellAt h15 b77 (o78 + k73.toNat * 1) = some (.int .i64 x79) ∧ CallsH Try.prog 36 [.pointer Frames76, .int .i64 x79] h15 fun r80 h16 => ∃ Owner81 : Int, r80 = .int .i64 Owner81 ∧ ((Owner81 != 1) = true →
  (((Owner81 != 0) = true → (R (.bool false) h16)) ∧ ((Owner81 != 0) = false → (I71 (IntKind.wrap .i64 (k73 + 1)) h16 ∧ m72 (IntKind.wrap .i64 (k73 + 1)) h16 < m72 k73 h15)))) ∧ ((Owner81 != 1) = false →
  (I71 (IntKind.wrap .i64 (k73 + 1)) h16 ∧ m72 (IntKind.wrap .i64 (k73 + 1)) h16 < m72 k73 h15)))) ∧ ((decide (k73 < ((Differl69 : Nat) : Int))) = false → (∃ b82 : Nat, ∃ o83 : Nat, Begin7 = some ⟨b82, o83, none⟩ ∧
  ∃ Frames84 : Option Addr, cellAt h15 b82 (o83 + 1) = some (.pointer Frames84) ∧ CallsH Try.prog 28 [.pointer Frames84, .int .i64 2] h15 fun r85 h17 => ∃ Lista86 : Option Addr, ∃ Listl87 : Nat, ∃ Listc88 : Nat, r85 = .slice Lista86 Listl87 Listc88 ∧
  CallsH Try.prog 37 [.slice Lista49 Listl50 Listc51, .slice Lista86 Listl87 Listc88] h17 fun r89 h18 => ∃ SameInts90 : Bool, r89 = .bool SameInts90 ∧ ((!SameInts90) = true → (R (.bool false) h18)) ∧ ((!SameInts90) = false →
  (I37 (IntKind.wrap .i64 (i39 + 1)) h18 ∧ m38 (IntKind.wrap .i64 (i39 + 1)) h18 < m38 i39 h10)))))) ∧ ((decide (i39 < ((p2callsl : Nat) : Int))) = false → (CallsH Try.prog 21 [.pointer New18] h10 fun r91 h19 => ∃ Pagesa92 : Option Addr, ∃ Pagesl93 : Nat, ∃ Pagesc94 : Nat, r91 = .slice Pagesa92 Pagesl93 Pagesc94 ∧
  CallsH Try.prog 37 [.slice Pagesa34 Pagesl35 Pagesc36, .slice Pagesa92 Pagesl93 Pagesc94] h19 fun r95 h20 => ∃ SameInts96 : Bool, r95 = .bool SameInts96 ∧ R (.bool SameInts96) h20))))))))
theorem warderlaw11_StageOwn.eq (p0n : Int) (p1away : Int) (p2callsa : Option Addr) (p2callsl : Nat) (p2callsc : Nat) (p3othera : Option Addr) (p3otherl : Nat) (p3otherc : Nat) (h : Hp) (R : Value → Hp → Prop) : evBody Try.prog calls warderlaw11_StageOwn.hints Try.f7 [.int .i64 p0n, .int .i64 p1away, .slice p2callsa p2callsl p2callsc, .slice p3othera p3otherl p3otherc] h R = warderlaw11_StageOwn.P p0n p1away p2callsa p2callsl p2callsc p3othera p3otherl p3otherc h R := by kernel_rfl
theorem warderlaw11_StageOwn.calls (p0n : Int) (p1away : Int) (p2callsa : Option Addr) (p2callsl : Nat) (p2callsc : Nat) (p3othera : Option Addr) (p3otherl : Nat) (p3otherc : Nat) (h : Hp) (R : Value → Hp → Prop) (hp : warderlaw11_StageOwn.P p0n p1away p2callsa p2callsl p2callsc p3othera p3otherl p3otherc h R) : CallsH Try.prog 7 [.int .i64 p0n, .int .i64 p1away, .slice p2callsa p2callsl p2callsc, .slice p3othera p3otherl p3otherc] h R :=
  calls_of_body calls_ok Try.func7 (args := [.int .i64 p0n, .int .i64 p1away, .slice p2callsa p2callsl p2callsc, .slice p3othera p3otherl p3otherc]) (by rw [warderlaw11_StageOwn.eq]; exact hp)
/-! ### warderlaw11_StageGone: function 8 -/
def warderlaw11_StageGone.hints : Hints := { loops := [(9, [0, 1, 2, 7, 9], [(10, (.one (.int .i64)))])], cuts := [(18, [0, 1, 9, 11, 13], [(15, (.one .bool))])], orders := [(11, [0, 1, 3, 7, 0, 0, 48, 112, 255], (.leaf [0, 1, 2, 3, 4, 5, 6, 7, 8])), (14, [0, 1, 3, 7, 0, 31, 63], (.leaf [0, 1, 2, 3, 4, 5, 6])), (17, [0, 1, 3, 7, 0, 16, 63, 127, 255, 255, 0, 1535, 4095], (.fork [0, 1, 2, 3, 4, 5] 6 (.leaf [7, 8, 9, 10, 11, 12]) 10 (.leaf [6, 7, 8, 9, 11, 12])))] }
def warderlaw11_StageGone.P (p0n : Int) (p1away : Int) (p2callsa : Option Addr) (p2callsl : Nat) (p2callsc : Nat) (p3last_0 : Int) (p3last_1 : Int) (p3last_2 : Int) (p3last_3 : Bool) (p3last_4 : Bool) (h : Hp) (R : Value → Hp → Prop) : Prop :=
  ∀ h1 : Hp, h1 = new h (blk 24 [.int .i64 p3last_0, .int .i64 p3last_1, .int .i64 p3last_2, .bool p3last_3, .bool p3last_4]) → CallsH Try.prog 9 [] h1 fun r1 h2 => ∃ alive2 : Bool, r1 = .bool alive2 ∧
  ((!alive2) = true → (R (.bool false) h2)) ∧ ((!alive2) = false → (CallsH Try.prog 10 [.int .i64 p0n, .int .i64 p1away, .slice p2callsa p2callsl p2callsc] h2 fun r3 h3 => ∃ great4 : Bool, r3 = .bool great4 ∧
  ((great4) = true → (R (.bool true) h3)) ∧ ((great4) = false → (CallsH Try.prog 11 [.int .i64 p0n, .int .i64 p1away] h3 fun r5 h4 => ∃ Begin6 : Option Addr, r5 = .pointer Begin6 ∧ ((notIf true Begin6.isNone) = true →
  (R (.bool false) h4)) ∧ ((notIf true Begin6.isNone) = false → (∃ I7 : Int → Hp → Prop, ∃ m8 : Int → Hp → Nat, I7 0 h4 ∧ ∀ i9 : Int, ∀ h5 : Hp, I7 i9 h5 → ((decide (i9 < ((p2callsl : Nat) : Int))) = true →
  (∃ b10 : Nat, ∃ o11 : Nat, Begin6 = some ⟨b10, o11, none⟩ ∧ ∃ Space12 : Option Addr, cellAt h5 b10 (o11 + 3) = some (.pointer Space12) ∧ (0 : Int) ≤ i9 ∧ i9 < ((p2callsl : Nat) : Int) ∧ ∃ b13 : Nat, ∃ o14 : Nat, (p2callsa : Option Addr) = some ⟨b13, o14, none⟩ ∧
  ∃ x15 : Int, cellAt h5 b13 (o14 + i9.toNat * 5 + 0) = some (.int .i64 x15) ∧ ∃ x16 : Int, cellAt h5 b13 (o14 + i9.toNat * 5 + 1) = some (.int .i64 x16) ∧ ∃ x17 : Int, cellAt h5 b13 (o14 + i9.toNat * 5 + 2) = some (.int .i64 x17) ∧
  ∃ x18 : Bool, cellAt h5 b13 (o14 + i9.toNat * 5 + 3) = some (.bool x18) ∧ ∃ x19 : Bool, cellAt h5 b13 (o14 + i9.toNat * 5 + 4) = some (.bool x19) ∧ CallsH Try.prog 12 [.pointer Space12, .agg #[.int .i64 x15, .int .i64 x16, .int .i64 x17, .bool x18, .bool x19]] h5 fun r20 h6 => ∃ Do21 : Int, r20 = .int .i64 Do21 ∧
  I7 (IntKind.wrap .i64 (i9 + 1)) h6 ∧ m8 (IntKind.wrap .i64 (i9 + 1)) h6 < m8 i9 h5)) ∧ ((decide (i9 < ((p2callsl : Nat) : Int))) = false → (∃ b22 : Nat, ∃ o23 : Nat, Begin6 = some ⟨b22, o23, none⟩ ∧
  ∃ Tlb24 : Option Addr, cellAt h5 b22 (o23 + 2) = some (.pointer Tlb24) ∧ CallsH Try.prog 29 [.pointer Tlb24, .agg #[.int .i64 7, .int .i64 9, .int .i64 0, .bool false, .bool false]] h5 fun r25 h7 => r25 = .tuple #[] ∧
  ∃ b26 : Nat, ∃ o27 : Nat, Begin6 = some ⟨b26, o27, none⟩ ∧ ∃ Space28 : Option Addr, cellAt h7 b26 (o27 + 3) = some (.pointer Space28) ∧ CallsH Try.prog 38 [.pointer Space28] h7 fun r29 h8 => r29 = .tuple #[] ∧
  ∃ b30 : Nat, ∃ o31 : Nat, Begin6 = some ⟨b30, o31, none⟩ ∧ ∃ Space32 : Option Addr, cellAt h8 b30 (o31 + 3) = some (.pointer Space32) ∧ ∃ x33 : Int, cellAt h8 (sz h) (0 + 0) = some (.int .i64 x33) ∧
  ∃ x34 : Int, cellAt h8 (sz h) (0 + 1) = some (.int .i64 x34) ∧ ∃ x35 : Int, cellAt h8 (sz h) (0 + 2) = some (.int .i64 x35) ∧ ∃ x36 : Bool, cellAt h8 (sz h) (0 + 3) = some (.bool x36) ∧ ∃ x37 : Bool, cellAt h8 (sz h) (0 + 4) = some (.bool x37) ∧
  CallsH Try.prog 12 [.pointer Space32, .agg #[.int .i64 x33, .int .i64 x34, .int .i64 x35, .bool x36, .bool x37]] h8 fun r38 h9 => ∃ Do39 : Int, r38 = .int .i64 Do39 ∧ ∃ b40 : Nat, ∃ o41 : Nat, Begin6 = some ⟨b40, o41, none⟩ ∧
  ∃ Space42 : Option Addr, cellAt h9 b40 (o41 + 3) = some (.pointer Space42) ∧ CallsH Try.prog 38 [.pointer Space42] h9 fun r43 h10 => r43 = .tuple #[] ∧ ∃ b44 : Nat, ∃ o45 : Nat, Begin6 = some ⟨b44, o45, none⟩ ∧
  ∃ Tlb46 : Option Addr, cellAt h10 b44 (o45 + 2) = some (.pointer Tlb46) ∧ CallsH Try.prog 34 [.pointer Tlb46, .int .i64 7, .int .i64 9] h10 fun r47 h11 => ∃ Find48 : Int, ∃ Find49 : Int, ∃ Find50 : Int, ∃ Find51 : Bool, ∃ Find52 : Bool, ∃ Find53 : Bool, r47 = .tuple #[.agg #[.int .i64 Find48, .int .i64 Find49, .int .i64 Find50, .bool Find51, .bool Find52], .bool Find53] ∧
  ∀ h12 : Hp, h12 = new h11 (blk 64 [.int .i64 0, .int .i64 0, .int .i64 0, .bool false, .bool false]) → truly true ∧ ∃ T54 : TypeId, ∃ l55 : List Value, bk h12 (sz h11) = some (blk T54 l55) ∧ 0 + 5 ≤ l55.length ∧
  ∀ h13 : Hp, h13 = upd h12 (sz h11) T54 (writeAt l55 0 [.int .i64 Find48, .int .i64 Find49, .int .i64 Find50, .bool Find51, .bool Find52]) → ∃ I56 : Bool → Hp → Prop, (∃ b57 : Nat, ∃ o58 : Nat, Begin6 = some ⟨b57, o58, none⟩ ∧
  ∃ Space59 : Option Addr, cellAt h13 b57 (o58 + 3) = some (.pointer Space59) ∧ ∃ Page60 : Int, cellAt h13 (sz h) 1 = some (.int .i64 Page60) ∧ (CallsH Try.prog 22 [.pointer Space59, .int .i64 Page60] h13 fun r61 h14 => ∃ Look62 : Bool, ∃ Look63 : Bool, ∃ Look64 : Bool, ∃ Look65 : Bool, ∃ Look66 : Int, ∃ Look67 : Bool, r61 = .tuple #[.agg #[.bool Look62, .bool Look63, .bool Look64, .bool Look65, .int .i64 Look66], .bool Look67] ∧
  ∀ h15 : Hp, h15 = new h14 (blk 54 [.bool false, .bool false, .bool false, .bool false, .int .i64 0]) → cellAt h15 b57 (o58 + 3) = some (.pointer Space59) ∧ cellAt h15 (sz h) 1 = some (.int .i64 Page60) ∧
  truly true ∧ ∃ T68 : TypeId, ∃ l69 : List Value, bk h15 (sz h14) = some (blk T68 l69) ∧ 0 + 5 ≤ l69.length ∧ ∀ h16 : Hp, h16 = upd h15 (sz h14) T68 (writeAt l69 0 [.bool Look62, .bool Look63, .bool Look64, .bool Look65, .int .i64 Look66]) →
  I56 Look67 h16) ∧ (∀ h17 : Hp, h17 = new h13 (blk 54 [.bool false, .bool false, .bool false, .bool false, .int .i64 0]) → cellAt h17 b57 (o58 + 3) = some (.pointer Space59) ∧ cellAt h17 (sz h) 1 = some (.int .i64 Page60) ∧
  CallsH Try.prog 22 [.pointer Space59, .int .i64 Page60] h17 fun r70 h18 => ∃ Look71 : Bool, ∃ Look72 : Bool, ∃ Look73 : Bool, ∃ Look74 : Bool, ∃ Look75 : Int, ∃ Look76 : Bool, r70 = .tuple #[.agg #[.bool Look71, .bool Look72, .bool Look73, .bool Look74, .int .i64 Look75], .bool Look76] ∧
  truly true ∧ ∃ T77 : TypeId, ∃ l78 : List Value, bk h18 (sz h13) = some (blk T77 l78) ∧ 0 + 5 ≤ l78.length ∧ ∀ h19 : Hp, h19 = upd h18 (sz h13) T77 (writeAt l78 0 [.bool Look71, .bool Look72, .bool Look73, .bool Look74, .int .i64 Look75]) →
  I56 Look76 h19)) ∧ ∀ is79 : Bool, ∀ h20 : Hp, I56 is79 h20 → ((Do39 == 20) = true → (((!Find53) = true → (((!is79) = true → (∃ b80 : Nat, ∃ o81 : Nat, Begin6 = some ⟨b80, o81, none⟩ ∧ ∃ Frames82 : Option Addr, cellAt h20 b80 (o81 + 1) = some (.pointer Frames82) ∧
  CallsH Try.prog 39 [.pointer Frames82, .int .i64 1] h20 fun r83 h21 => ∃ Count84 : Int, r83 = .int .i64 Count84 ∧ ((Count84 == 0) = true → (∃ b85 : Nat, ∃ o86 : Nat, Begin6 = some ⟨b85, o86, none⟩ ∧
  ∃ Frames87 : Option Addr, cellAt h21 b85 (o86 + 1) = some (.pointer Frames87) ∧ CallsH Try.prog 39 [.pointer Frames87, .int .i64 0] h21 fun r88 h22 => ∃ Count89 : Int, r88 = .int .i64 Count89 ∧ ((Count89 == (IntKind.wrap .i64 (p0n - p1away))) = true →
  (∃ b90 : Nat, ∃ o91 : Nat, Begin6 = some ⟨b90, o91, none⟩ ∧ ∃ Space92 : Option Addr, cellAt h22 b90 (o91 + 3) = some (.pointer Space92) ∧ CallsH Try.prog 21 [.pointer Space92] h22 fun r93 h23 => ∃ Pagesa94 : Option Addr, ∃ Pagesl95 : Nat, ∃ Pagesc96 : Nat, r93 = .slice Pagesa94 Pagesl95 Pagesc96 ∧
  ((((Pagesl95 : Nat) : Int) == 0) = true → (∃ b97 : Nat, ∃ o98 : Nat, Begin6 = some ⟨b97, o98, none⟩ ∧ ∃ Space99 : Option Addr, cellAt h23 b97 (o98 + 3) = some (.pointer Space99) ∧ CallsH Try.prog 30 [.pointer Space99] h23 fun r100 h24 => ∃ Loga101 : Option Addr, ∃ Logl102 : Nat, ∃ Logc103 : Nat, r100 = .slice Loga101 Logl102 Logc103 ∧
  ((((Logl102 : Nat) : Int) == 0) = true → (∃ b104 : Nat, ∃ o105 : Nat, Begin6 = some ⟨b104, o105, none⟩ ∧ ∃ Space106 : Option Addr, cellAt h24 b104 (o105 + 3) = some (.pointer Space106) ∧ CallsH Try.prog 13 [.pointer Space106] h24 fun r107 h25 => ∃ Tables108 : Int, r107 = .int .i64 Tables108 ∧
  R (.bool (Tables108 == 0)) h25)) ∧ ((((Logl102 : Nat) : Int) == 0) = false → (R (.bool false) h24)))) ∧ ((((Pagesl95 : Nat) : Int) == 0) = false → (R (.bool false) h23)))) ∧ ((Count89 == (IntKind.wrap .i64 (p0n - p1away))) = false →
  (R (.bool false) h22)))) ∧ ((Count84 == 0) = false → (R (.bool false) h21)))) ∧ ((!is79) = false → (R (.bool false) h20)))) ∧ ((!Find53) = false → (R (.bool false) h20)))) ∧ ((Do39 == 20) = false → (R (.bool false) h20))))))))))
theorem warderlaw11_StageGone.eq (p0n : Int) (p1away : Int) (p2callsa : Option Addr) (p2callsl : Nat) (p2callsc : Nat) (p3last_0 : Int) (p3last_1 : Int) (p3last_2 : Int) (p3last_3 : Bool) (p3last_4 : Bool) (h : Hp) (R : Value → Hp → Prop) : evBody Try.prog calls warderlaw11_StageGone.hints Try.f8 [.int .i64 p0n, .int .i64 p1away, .slice p2callsa p2callsl p2callsc, .agg [.int .i64 p3last_0, .int .i64 p3last_1, .int .i64 p3last_2, .bool p3last_3, .bool p3last_4]] h R = warderlaw11_StageGone.P p0n p1away p2callsa p2callsl p2callsc p3last_0 p3last_1 p3last_2 p3last_3 p3last_4 h R := by kernel_rfl
theorem warderlaw11_StageGone.calls (p0n : Int) (p1away : Int) (p2callsa : Option Addr) (p2callsl : Nat) (p2callsc : Nat) (p3last_0 : Int) (p3last_1 : Int) (p3last_2 : Int) (p3last_3 : Bool) (p3last_4 : Bool) (h : Hp) (R : Value → Hp → Prop) (hp : warderlaw11_StageGone.P p0n p1away p2callsa p2callsl p2callsc p3last_0 p3last_1 p3last_2 p3last_3 p3last_4 h R) : CallsH Try.prog 8 [.int .i64 p0n, .int .i64 p1away, .slice p2callsa p2callsl p2callsc, .agg #[.int .i64 p3last_0, .int .i64 p3last_1, .int .i64 p3last_2, .bool p3last_3, .bool p3last_4]] h R :=
  calls_of_body calls_ok Try.func8 (args := [.int .i64 p0n, .int .i64 p1away, .slice p2callsa p2callsl p2callsc, .agg [.int .i64 p3last_0, .int .i64 p3last_1, .int .i64 p3last_2, .bool p3last_3, .bool p3last_4]]) (by rw [warderlaw11_StageGone.eq]; exact hp)
/-! ### warderlaw11_alive: function 9 -/
def warderlaw11_alive.hints : Hints := { loops := [], cuts := [], orders := [] }
def warderlaw11_alive.P  (h : Hp) (R : Value → Hp → Prop) : Prop :=
  CallsH Try.prog 11 [.int .i64 140, .int .i64 100] h fun r1 h1 => ∃ Begin2 : Option Addr, r1 = .pointer Begin2 ∧ ((notIf true Begin2.isNone) = true → (R (.bool false) h1)) ∧ ((notIf true Begin2.isNone) = false →
  (∃ b3 : Nat, ∃ o4 : Nat, Begin2 = some ⟨b3, o4, none⟩ ∧ ∃ Space5 : Option Addr, cellAt h1 b3 (o4 + 3) = some (.pointer Space5) ∧ CallsH Try.prog 14 [.pointer Space5, .int .i64 3, .int .i64 5, .bool true, .bool false] h1 fun r6 h2 => ∃ Map7 : Int, r6 = .int .i64 Map7 ∧
  CallsH Try.prog 13 [.pointer Space5] h2 fun r8 h3 => ∃ Tables9 : Int, r8 = .int .i64 Tables9 ∧ CallsH Try.prog 17 [.pointer Space5, .int .i64 3] h3 fun r10 h4 => ∃ Unmap11 : Int, r10 = .int .i64 Unmap11 ∧
  CallsH Try.prog 40 [.pointer Space5, .int .i64 1, .int .i64 64, .bool false, .bool true] h4 fun r12 h5 => ∃ MapRun13 : Int, r12 = .int .i64 MapRun13 ∧ CallsH Try.prog 26 [.pointer Space5, .int .i64 65, .bool true, .bool true] h5 fun r14 h6 => ∃ Protect15 : Int, r14 = .int .i64 Protect15 ∧
  CallsH Try.prog 22 [.pointer Space5, .int .i64 65] h6 fun r16 h7 => ∃ Look17 : Bool, ∃ Look18 : Bool, ∃ Look19 : Bool, ∃ Look20 : Bool, ∃ Look21 : Int, ∃ Look22 : Bool, r16 = .tuple #[.agg #[.bool Look17, .bool Look18, .bool Look19, .bool Look20, .int .i64 Look21], .bool Look22] ∧
  ∀ h8 : Hp, h8 = new h7 (blk 54 [.bool false, .bool false, .bool false, .bool false, .int .i64 0]) → truly true ∧ ∃ T23 : TypeId, ∃ l24 : List Value, bk h8 (sz h7) = some (blk T23 l24) ∧ 0 + 5 ≤ l24.length ∧
  ∀ h9 : Hp, h9 = upd h8 (sz h7) T23 (writeAt l24 0 [.bool Look17, .bool Look18, .bool Look19, .bool Look20, .int .i64 Look21]) → CallsH Try.prog 25 [.pointer Space5, .int .i64 1] h9 fun r25 h10 => ∃ Merge26 : Int, r25 = .int .i64 Merge26 ∧
  CallsH Try.prog 26 [.pointer Space5, .int .i64 65, .bool false, .bool true] h10 fun r27 h11 => ∃ Protect28 : Int, r27 = .int .i64 Protect28 ∧ CallsH Try.prog 25 [.pointer Space5, .int .i64 1] h11 fun r29 h12 => ∃ Merge30 : Int, r29 = .int .i64 Merge30 ∧
  CallsH Try.prog 22 [.pointer Space5, .int .i64 66] h12 fun r31 h13 => ∃ Look32 : Bool, ∃ Look33 : Bool, ∃ Look34 : Bool, ∃ Look35 : Bool, ∃ Look36 : Int, ∃ Look37 : Bool, r31 = .tuple #[.agg #[.bool Look32, .bool Look33, .bool Look34, .bool Look35, .int .i64 Look36], .bool Look37] ∧
  ∀ h14 : Hp, h14 = new h13 (blk 54 [.bool false, .bool false, .bool false, .bool false, .int .i64 0]) → truly true ∧ ∃ T38 : TypeId, ∃ l39 : List Value, bk h14 (sz h13) = some (blk T38 l39) ∧ 0 + 5 ≤ l39.length ∧
  ∀ h15 : Hp, h15 = upd h14 (sz h13) T38 (writeAt l39 0 [.bool Look32, .bool Look33, .bool Look34, .bool Look35, .int .i64 Look36]) → ((Map7 == 0) = true → (((Tables9 == 2) = true → (((Unmap11 == 0) = true →
  (((MapRun13 == 0) = true → (((Protect15 == 0) = true → (((Look22) = true → (∃ Frame40 : Int, cellAt h15 (sz h7) 4 = some (.int .i64 Frame40) ∧ ((Frame40 == 65) = true → (∃ Write41 : Bool, cellAt h15 (sz h7) 1 = some (.bool Write41) ∧
  ((Write41) = true → (((Merge26 == 20) = true → (((Protect28 == 0) = true → (((Merge30 == 0) = true → (((Look37) = true → (∃ Block42 : Bool, cellAt h15 (sz h13) 3 = some (.bool Block42) ∧ ((Block42) = true →
  (CallsH Try.prog 13 [.pointer Space5] h15 fun r43 h16 => ∃ Tables44 : Int, r43 = .int .i64 Tables44 ∧ ((Tables44 == 1) = true → (∃ b45 : Nat, ∃ o46 : Nat, Begin2 = some ⟨b45, o46, none⟩ ∧ ∃ Frames47 : Option Addr, cellAt h16 b45 (o46 + 1) = some (.pointer Frames47) ∧
  CallsH Try.prog 39 [.pointer Frames47, .int .i64 1] h16 fun r48 h17 => ∃ Count49 : Int, r48 = .int .i64 Count49 ∧ ((Count49 == 1) = true → (CallsH Try.prog 41 [.pointer Space5] h17 fun r50 h18 => ∃ Vmid51 : Int, r50 = .int .i64 Vmid51 ∧
  R (.bool (Vmid51 == 7)) h18)) ∧ ((Count49 == 1) = false → (R (.bool false) h17)))) ∧ ((Tables44 == 1) = false → (R (.bool false) h16)))) ∧ ((Block42) = false → (R (.bool false) h15)))) ∧ ((Look37) = false →
  (R (.bool false) h15)))) ∧ ((Merge30 == 0) = false → (R (.bool false) h15)))) ∧ ((Protect28 == 0) = false → (R (.bool false) h15)))) ∧ ((Merge26 == 20) = false → (R (.bool false) h15)))) ∧ ((Write41) = false →
  (R (.bool false) h15)))) ∧ ((Frame40 == 65) = false → (R (.bool false) h15)))) ∧ ((Look22) = false → (R (.bool false) h15)))) ∧ ((Protect15 == 0) = false → (R (.bool false) h15)))) ∧ ((MapRun13 == 0) = false →
  (R (.bool false) h15)))) ∧ ((Unmap11 == 0) = false → (R (.bool false) h15)))) ∧ ((Tables9 == 2) = false → (R (.bool false) h15)))) ∧ ((Map7 == 0) = false → (R (.bool false) h15))))
theorem warderlaw11_alive.eq  (h : Hp) (R : Value → Hp → Prop) : evBody Try.prog calls warderlaw11_alive.hints Try.f9 [] h R = warderlaw11_alive.P  h R := by kernel_rfl
theorem warderlaw11_alive.calls  (h : Hp) (R : Value → Hp → Prop) (hp : warderlaw11_alive.P  h R) : CallsH Try.prog 9 [] h R :=
  calls_of_body calls_ok Try.func9 (args := []) (by rw [warderlaw11_alive.eq]; exact hp)
/-! ### warderlaw11_great: function 10 -/
def warderlaw11_great.hints : Hints := { loops := [], cuts := [], orders := [] }
def warderlaw11_great.P (p0n : Int) (p1away : Int) (p2callsa : Option Addr) (p2callsl : Nat) (p2callsc : Nat) (h : Hp) (R : Value → Hp → Prop) : Prop :=
  ((decide (p0n < 1)) = true → (R (.bool true) h)) ∧ ((decide (p0n < 1)) = false → (((decide (p0n > 300)) = true → (R (.bool true) h)) ∧ ((decide (p0n > 300)) = false → (((decide (p1away < 0)) = true →
  (R (.bool true) h)) ∧ ((decide (p1away < 0)) = false → (((decide (p1away ≥ p0n)) = true → (R (.bool true) h)) ∧ ((decide (p1away ≥ p0n)) = false → (R (.bool (decide (((p2callsl : Nat) : Int) > 24))) h))))))))
theorem warderlaw11_great.eq (p0n : Int) (p1away : Int) (p2callsa : Option Addr) (p2callsl : Nat) (p2callsc : Nat) (h : Hp) (R : Value → Hp → Prop) : evBody Try.prog calls warderlaw11_great.hints Try.f10 [.int .i64 p0n, .int .i64 p1away, .slice p2callsa p2callsl p2callsc] h R = warderlaw11_great.P p0n p1away p2callsa p2callsl p2callsc h R := by kernel_rfl
theorem warderlaw11_great.calls (p0n : Int) (p1away : Int) (p2callsa : Option Addr) (p2callsl : Nat) (p2callsc : Nat) (h : Hp) (R : Value → Hp → Prop) (hp : warderlaw11_great.P p0n p1away p2callsa p2callsl p2callsc h R) : CallsH Try.prog 10 [.int .i64 p0n, .int .i64 p1away, .slice p2callsa p2callsl p2callsc] h R :=
  calls_of_body calls_ok Try.func10 (args := [.int .i64 p0n, .int .i64 p1away, .slice p2callsa p2callsl p2callsc]) (by rw [warderlaw11_great.eq]; exact hp)
/-! ### warderlaw11_Begin: function 11 -/
def warderlaw11_Begin.hints : Hints := { loops := [(7, [0, 1, 5, 7, 9], [(11, (.one (.int .i64)))]), (11, [0, 1, 5, 7, 9], [(12, (.one (.int .i64)))])], cuts := [(6, [0, 1, 5, 7, 9], [])], orders := [] }
def warderlaw11_Begin.P (p0n : Int) (p1away : Int) (h : Hp) (R : Value → Hp → Prop) : Prop :=
  CallsH Try.prog 42 [.int .i64 p0n] h fun r1 h1 => ∃ New2 : Option Addr, ∃ New3 : Int, r1 = .tuple #[.pointer New2, .int .i64 New3] ∧ CallsH Try.prog 43 [.int .i64 p0n] h1 fun r4 h2 => ∃ New5 : Option Addr, ∃ New6 : Int, r4 = .tuple #[.pointer New5, .int .i64 New6] ∧
  CallsH Try.prog 44 [.int .i64 8] h2 fun r7 h3 => ∃ New8 : Option Addr, ∃ New9 : Int, r7 = .tuple #[.pointer New8, .int .i64 New9] ∧ ∃ I10 : Hp → Prop, (((New3 != 0) = true → (R (.pointer none) h3)) ∧
  ((New3 != 0) = false → (((New6 != 0) = true → (R (.pointer none) h3)) ∧ ((New6 != 0) = false → (((New9 != 0) = true → (R (.pointer none) h3)) ∧ ((New9 != 0) = false → (((notIf true New2.isNone) = true →
  (R (.pointer none) h3)) ∧ ((notIf true New2.isNone) = false → (((notIf true New5.isNone) = true → (R (.pointer none) h3)) ∧ ((notIf true New5.isNone) = false → (((notIf true New8.isNone) = true → (R (.pointer none) h3)) ∧
  ((notIf true New8.isNone) = false → (I10 h3))))))))))))) ∧ ∀ h4 : Hp, I10 h4 → ∃ I11 : Int → Hp → Prop, ∃ m12 : Int → Hp → Nat, I11 0 h4 ∧ ∀ i13 : Int, ∀ h5 : Hp, I11 i13 h5 → ((decide (i13 < p0n)) = true →
  (CallsH Try.prog 45 [.pointer New5, .int .i64 2] h5 fun r14 h6 => ∃ Take15 : Int, ∃ Take16 : Int, r14 = .tuple #[.int .i64 Take15, .int .i64 Take16] ∧ I11 (IntKind.wrap .i64 (i13 + 1)) h6 ∧ m12 (IntKind.wrap .i64 (i13 + 1)) h6 < m12 i13 h5)) ∧
  ((decide (i13 < p0n)) = false → (∃ I17 : Int → Hp → Prop, ∃ m18 : Int → Hp → Nat, I17 0 h5 ∧ ∀ i19 : Int, ∀ h7 : Hp, I17 i19 h7 → ((decide (i19 < (IntKind.wrap .i64 (p0n - p1away)))) = true → (CallsH Try.prog 46 [.pointer New5, .int .i64 2, .int .i64 i19] h7 fun r20 h8 => ∃ Give21 : Int, r20 = .int .i64 Give21 ∧
  I17 (IntKind.wrap .i64 (i19 + 1)) h8 ∧ m18 (IntKind.wrap .i64 (i19 + 1)) h8 < m18 i19 h7)) ∧ ((decide (i19 < (IntKind.wrap .i64 (p0n - p1away)))) = false → (CallsH Try.prog 35 [.pointer New2, .pointer New5, .pointer New8, .int .i64 7] h7 fun r22 h9 => ∃ New23 : Option Addr, ∃ New24 : Int, r22 = .tuple #[.pointer New23, .int .i64 New24] ∧
  ((New24 != 0) = true → (R (.pointer none) h9)) ∧ ((New24 != 0) = false → (((notIf true New23.isNone) = true → (R (.pointer none) h9)) ∧ ((notIf true New23.isNone) = false → (∀ h10 : Hp, h10 = new h9 (blk 36 [.pointer New2, .pointer New5, .pointer New8, .pointer New23]) →
  R (.pointer (some ⟨(sz h9), 0, none⟩)) h10))))))))
theorem warderlaw11_Begin.eq (p0n : Int) (p1away : Int) (h : Hp) (R : Value → Hp → Prop) : evBody Try.prog calls warderlaw11_Begin.hints Try.f11 [.int .i64 p0n, .int .i64 p1away] h R = warderlaw11_Begin.P p0n p1away h R := by kernel_rfl
theorem warderlaw11_Begin.calls (p0n : Int) (p1away : Int) (h : Hp) (R : Value → Hp → Prop) (hp : warderlaw11_Begin.P p0n p1away h R) : CallsH Try.prog 11 [.int .i64 p0n, .int .i64 p1away] h R :=
  calls_of_body calls_ok Try.func11 (args := [.int .i64 p0n, .int .i64 p1away]) (by rw [warderlaw11_Begin.eq]; exact hp)
/-! ### warderlaw11_Do: function 12 -/
def warderlaw11_Do.hints : Hints := { loops := [], cuts := [], orders := [] }
def warderlaw11_Do.P (p0sb p0so : Nat) (p1c_0 : Int) (p1c_1 : Int) (p1c_2 : Int) (p1c_3 : Bool) (p1c_4 : Bool) (h : Hp) (R : Value → Hp → Prop) : Prop :=
  ∀ h1 : Hp, h1 = new h (blk 24 [.int .i64 p1c_0, .int .i64 p1c_1, .int .i64 p1c_2, .bool p1c_3, .bool p1c_4]) → ∃ What1 : Int, cellAt h1 (sz h) 0 = some (.int .i64 What1) ∧ ((What1 == 0) = true → (∃ Page2 : Int, cellAt h1 (sz h) 1 = some (.int .i64 Page2) ∧
  ∃ Frame3 : Int, cellAt h1 (sz h) 2 = some (.int .i64 Frame3) ∧ ∃ Write4 : Bool, cellAt h1 (sz h) 3 = some (.bool Write4) ∧ ∃ Exec5 : Bool, cellAt h1 (sz h) 4 = some (.bool Exec5) ∧ CallsH Try.prog 14 [.pointer (some ⟨p0sb, p0so, none⟩), .int .i64 Page2, .int .i64 Frame3, .bool Write4, .bool Exec5] h1 fun r6 h2 => ∃ Map7 : Int, r6 = .int .i64 Map7 ∧
  R (.int .i64 Map7) h2)) ∧ ((What1 == 0) = false → (((What1 == 1) = true → (∃ Page8 : Int, cellAt h1 (sz h) 1 = some (.int .i64 Page8) ∧ ∃ Frame9 : Int, cellAt h1 (sz h) 2 = some (.int .i64 Frame9) ∧
  ∃ Write10 : Bool, cellAt h1 (sz h) 3 = some (.bool Write10) ∧ ∃ Exec11 : Bool, cellAt h1 (sz h) 4 = some (.bool Exec11) ∧ CallsH Try.prog 40 [.pointer (some ⟨p0sb, p0so, none⟩), .int .i64 Page8, .int .i64 Frame9, .bool Write10, .bool Exec11] h1 fun r12 h3 => ∃ MapRun13 : Int, r12 = .int .i64 MapRun13 ∧
  R (.int .i64 MapRun13) h3)) ∧ ((What1 == 1) = false → (((What1 == 2) = true → (∃ Page14 : Int, cellAt h1 (sz h) 1 = some (.int .i64 Page14) ∧ CallsH Try.prog 17 [.pointer (some ⟨p0sb, p0so, none⟩), .int .i64 Page14] h1 fun r15 h4 => ∃ Unmap16 : Int, r15 = .int .i64 Unmap16 ∧
  R (.int .i64 Unmap16) h4)) ∧ ((What1 == 2) = false → (((What1 == 3) = true → (∃ Page17 : Int, cellAt h1 (sz h) 1 = some (.int .i64 Page17) ∧ ∃ Write18 : Bool, cellAt h1 (sz h) 3 = some (.bool Write18) ∧
  ∃ Exec19 : Bool, cellAt h1 (sz h) 4 = some (.bool Exec19) ∧ CallsH Try.prog 26 [.pointer (some ⟨p0sb, p0so, none⟩), .int .i64 Page17, .bool Write18, .bool Exec19] h1 fun r20 h5 => ∃ Protect21 : Int, r20 = .int .i64 Protect21 ∧
  R (.int .i64 Protect21) h5)) ∧ ((What1 == 3) = false → (((What1 == 4) = true → (∃ Page22 : Int, cellAt h1 (sz h) 1 = some (.int .i64 Page22) ∧ CallsH Try.prog 23 [.pointer (some ⟨p0sb, p0so, none⟩), .int .i64 Page22] h1 fun r23 h6 => ∃ Split24 : Int, r23 = .int .i64 Split24 ∧
  R (.int .i64 Split24) h6)) ∧ ((What1 == 4) = false → (∃ Page25 : Int, cellAt h1 (sz h) 1 = some (.int .i64 Page25) ∧ CallsH Try.prog 25 [.pointer (some ⟨p0sb, p0so, none⟩), .int .i64 Page25] h1 fun r26 h7 => ∃ Merge27 : Int, r26 = .int .i64 Merge27 ∧
  R (.int .i64 Merge27) h7))))))))))
theorem warderlaw11_Do.eq (p0sb p0so : Nat) (p1c_0 : Int) (p1c_1 : Int) (p1c_2 : Int) (p1c_3 : Bool) (p1c_4 : Bool) (h : Hp) (R : Value → Hp → Prop) : evBody Try.prog calls warderlaw11_Do.hints Try.f12 [.ptr p0sb p0so, .agg [.int .i64 p1c_0, .int .i64 p1c_1, .int .i64 p1c_2, .bool p1c_3, .bool p1c_4]] h R = warderlaw11_Do.P p0sb p0so p1c_0 p1c_1 p1c_2 p1c_3 p1c_4 h R := by kernel_rfl
theorem warderlaw11_Do.calls (p0sb p0so : Nat) (p1c_0 : Int) (p1c_1 : Int) (p1c_2 : Int) (p1c_3 : Bool) (p1c_4 : Bool) (h : Hp) (R : Value → Hp → Prop) (hp : warderlaw11_Do.P p0sb p0so p1c_0 p1c_1 p1c_2 p1c_3 p1c_4 h R) : CallsH Try.prog 12 [.pointer (some ⟨p0sb, p0so, none⟩), .agg #[.int .i64 p1c_0, .int .i64 p1c_1, .int .i64 p1c_2, .bool p1c_3, .bool p1c_4]] h R :=
  calls_of_body calls_ok Try.func12 (args := [.ptr p0sb p0so, .agg [.int .i64 p1c_0, .int .i64 p1c_1, .int .i64 p1c_2, .bool p1c_3, .bool p1c_4]]) (by rw [warderlaw11_Do.eq]; exact hp)
/-! ### stage_Space_Tables: function 13 -/
def stage_Space_Tables.hints : Hints := { loops := [], cuts := [], orders := [] }
def stage_Space_Tables.P (p0sb p0so : Nat) (h : Hp) (R : Value → Hp → Prop) : Prop :=
  ∃ dead1 : Bool, cellAt h p0sb (p0so + 5) = some (.bool dead1) ∧ ((dead1) = true → (R (.int .i64 0) h)) ∧ ((dead1) = false → (CallsH Try.prog 47 [.pointer (some ⟨p0sb, p0so, none⟩)] h fun r2 h1 => ∃ tablesa3 : Option Addr, ∃ tablesl4 : Nat, ∃ tablesc5 : Nat, r2 = .slice tablesa3 tablesl4 tablesc5 ∧
  R (.int .i64 (IntKind.wrap .i64 (((tablesl4 : Nat) : Int) + 1))) h1))
theorem stage_Space_Tables.eq (p0sb p0so : Nat) (h : Hp) (R : Value → Hp → Prop) : evBody Try.prog calls stage_Space_Tables.hints Try.f13 [.ptr p0sb p0so] h R = stage_Space_Tables.P p0sb p0so h R := by kernel_rfl
theorem stage_Space_Tables.calls (p0sb p0so : Nat) (h : Hp) (R : Value → Hp → Prop) (hp : stage_Space_Tables.P p0sb p0so h R) : CallsH Try.prog 13 [.pointer (some ⟨p0sb, p0so, none⟩)] h R :=
  calls_of_body calls_ok Try.func13 (args := [.ptr p0sb p0so]) (by rw [stage_Space_Tables.eq]; exact hp)
/-! ### stage_Space_Map: function 14 -/
def stage_Space_Map.hints : Hints := { loops := [], cuts := [], orders := [] }
def stage_Space_Map.P (p0sb p0so : Nat) (p1n : Int) (p2frame : Int) (p3write : Bool) (p4exec : Bool) (h : Hp) (R : Value → Hp → Prop) : Prop :=
  ∀ h1 : Hp, h1 = new h (blk 34 [.pointer (some ⟨p0sb, p0so, none⟩)]) → ∀ h2 : Hp, h2 = new h1 (blk 3 [.int .i64 p1n]) → ∀ h3 : Hp, h3 = new h2 (blk 3 [.int .i64 p2frame]) → ∀ h4 : Hp, h4 = new h3 (blk 4 [.bool p3write]) →
  ∀ h5 : Hp, h5 = new h4 (blk 4 [.bool p4exec]) → ∃ x1 : Option Addr, cellAt h5 (sz h) 0 = some (.pointer x1) ∧ CallsH Try.prog 48 [.pointer x1, .func (.func 49) #[] #[.pointer (some ⟨(sz h1), 0, none⟩), .pointer (some ⟨(sz h), 0, none⟩), .pointer (some ⟨(sz h2), 0, none⟩), .pointer (some ⟨(sz h3), 0, none⟩), .pointer (some ⟨(sz h4), 0, none⟩)]] h5 fun r2 h6 => ∃ byx3 : Int, r2 = .int .i64 byx3 ∧
  R (.int .i64 byx3) h6
theorem stage_Space_Map.eq (p0sb p0so : Nat) (p1n : Int) (p2frame : Int) (p3write : Bool) (p4exec : Bool) (h : Hp) (R : Value → Hp → Prop) : evBody Try.prog calls stage_Space_Map.hints Try.f14 [.ptr p0sb p0so, .int .i64 p1n, .int .i64 p2frame, .bool p3write, .bool p4exec] h R = stage_Space_Map.P p0sb p0so p1n p2frame p3write p4exec h R := by kernel_rfl
theorem stage_Space_Map.calls (p0sb p0so : Nat) (p1n : Int) (p2frame : Int) (p3write : Bool) (p4exec : Bool) (h : Hp) (R : Value → Hp → Prop) (hp : stage_Space_Map.P p0sb p0so p1n p2frame p3write p4exec h R) : CallsH Try.prog 14 [.pointer (some ⟨p0sb, p0so, none⟩), .int .i64 p1n, .int .i64 p2frame, .bool p3write, .bool p4exec] h R :=
  calls_of_body calls_ok Try.func14 (args := [.ptr p0sb p0so, .int .i64 p1n, .int .i64 p2frame, .bool p3write, .bool p4exec]) (by rw [stage_Space_Map.eq]; exact hp)
/-! ### walk_Walk: function 15 -/
def walk_Walk.hints : Hints := { loops := [], cuts := [], orders := [(6, [0, 1, 0, 4, 15, 31], (.leaf [0, 1, 2, 3, 4, 5]))] }
def walk_Walk.P (p0mb p0mo : Nat) (p1root : Int) (p2addr : Int) (p3access : Int) (h : Hp) (R : Value → Hp → Prop) : Prop :=
  ∀ h1 : Hp, h1 = new h (blk 40 [.int .i64 0, .int .i64 0, .int .i64 0, .bool false, .bool false, .bool false]) → CallsH Try.prog 57 [.pointer (some ⟨p0mb, p0mo, none⟩), .int .i64 p1root, .int .u32 p2addr] h1 fun r1 h2 => ∃ found2 : Bool, ∃ found3 : Bool, ∃ found4 : Bool, ∃ found5 : Bool, ∃ found6 : Int, ∃ found7 : Int, ∃ found8 : Int, r1 = .tuple #[.agg #[.bool found2, .bool found3, .bool found4, .bool found5, .int .i64 found6], .int .i64 found7, .int .i64 found8] ∧
  ∀ h3 : Hp, h3 = new h2 (blk 54 [.bool false, .bool false, .bool false, .bool false, .int .i64 0]) → truly true ∧ ∃ T9 : TypeId, ∃ l10 : List Value, bk h3 (sz h2) = some (blk T9 l10) ∧ 0 + 5 ≤ l10.length ∧
  ∀ h4 : Hp, h4 = upd h3 (sz h2) T9 (writeAt l10 0 [.bool found2, .bool found3, .bool found4, .bool found5, .int .i64 found6]) → ((found8 != 0) = true → (truly true ∧ ∃ T11 : TypeId, ∃ l12 : List Value, bk h4 (sz h) = some (blk T11 l12) ∧
  0 + 6 ≤ l12.length ∧ ∀ h5 : Hp, h5 = upd h4 (sz h) T11 (writeAt l12 0 [.int .i64 found8, .int .i64 found7, .int .i64 0, .bool false, .bool false, .bool false]) → ∃ res13 : Int, cellAt h5 (sz h) (0 + 0) = some (.int .i64 res13) ∧
  ∃ res14 : Int, cellAt h5 (sz h) (0 + 1) = some (.int .i64 res14) ∧ ∃ res15 : Int, cellAt h5 (sz h) (0 + 2) = some (.int .i64 res15) ∧ ∃ res16 : Bool, cellAt h5 (sz h) (0 + 3) = some (.bool res16) ∧ ∃ res17 : Bool, cellAt h5 (sz h) (0 + 4) = some (.bool res17) ∧
  ∃ res18 : Bool, cellAt h5 (sz h) (0 + 5) = some (.bool res18) ∧ R (.agg #[.int .i64 res13, .int .i64 res14, .int .i64 res15, .bool res16, .bool res17, .bool res18]) h5)) ∧ ((found8 != 0) = false → (∃ x19 : Bool, cellAt h4 (sz h2) (0 + 0) = some (.bool x19) ∧
  ∃ x20 : Bool, cellAt h4 (sz h2) (0 + 1) = some (.bool x20) ∧ ∃ x21 : Bool, cellAt h4 (sz h2) (0 + 2) = some (.bool x21) ∧ ∃ x22 : Bool, cellAt h4 (sz h2) (0 + 3) = some (.bool x22) ∧ ∃ x23 : Int, cellAt h4 (sz h2) (0 + 4) = some (.int .i64 x23) ∧
  CallsH Try.prog 58 [.agg #[.bool x19, .bool x20, .bool x21, .bool x22, .int .i64 x23], .int .i64 p3access] h4 fun r24 h6 => ∃ Allows25 : Bool, r24 = .bool Allows25 ∧ ((!Allows25) = true → (truly true ∧
  ∃ T26 : TypeId, ∃ l27 : List Value, bk h6 (sz h) = some (blk T26 l27) ∧ 0 + 6 ≤ l27.length ∧ ∀ h7 : Hp, h7 = upd h6 (sz h) T26 (writeAt l27 0 [.int .i64 4, .int .i64 found7, .int .i64 0, .bool false, .bool false, .bool false]) →
  ∃ res28 : Int, cellAt h7 (sz h) (0 + 0) = some (.int .i64 res28) ∧ ∃ res29 : Int, cellAt h7 (sz h) (0 + 1) = some (.int .i64 res29) ∧ ∃ res30 : Int, cellAt h7 (sz h) (0 + 2) = some (.int .i64 res30) ∧
  ∃ res31 : Bool, cellAt h7 (sz h) (0 + 3) = some (.bool res31) ∧ ∃ res32 : Bool, cellAt h7 (sz h) (0 + 4) = some (.bool res32) ∧ ∃ res33 : Bool, cellAt h7 (sz h) (0 + 5) = some (.bool res33) ∧ R (.agg #[.int .i64 res28, .int .i64 res29, .int .i64 res30, .bool res31, .bool res32, .bool res33]) h7)) ∧
  ((!Allows25) = false → (∃ Frame34 : Int, cellAt h6 (sz h2) 4 = some (.int .i64 Frame34) ∧ CallsH Try.prog 59 [.pointer (some ⟨p0mb, p0mo, none⟩)] h6 fun r35 h8 => ∃ Frames36 : Int, r35 = .int .i64 Frames36 ∧
  cellAt h8 (sz h2) 4 = some (.int .i64 Frame34) ∧ ((decide (Frame34 ≥ Frames36)) = true → (truly true ∧ ∃ T37 : TypeId, ∃ l38 : List Value, bk h8 (sz h) = some (blk T37 l38) ∧ 0 + 6 ≤ l38.length ∧ ∀ h9 : Hp, h9 = upd h8 (sz h) T37 (writeAt l38 0 [.int .i64 5, .int .i64 found7, .int .i64 0, .bool false, .bool false, .bool false]) →
  ∃ res39 : Int, cellAt h9 (sz h) (0 + 0) = some (.int .i64 res39) ∧ ∃ res40 : Int, cellAt h9 (sz h) (0 + 1) = some (.int .i64 res40) ∧ ∃ res41 : Int, cellAt h9 (sz h) (0 + 2) = some (.int .i64 res41) ∧
  ∃ res42 : Bool, cellAt h9 (sz h) (0 + 3) = some (.bool res42) ∧ ∃ res43 : Bool, cellAt h9 (sz h) (0 + 4) = some (.bool res43) ∧ ∃ res44 : Bool, cellAt h9 (sz h) (0 + 5) = some (.bool res44) ∧ R (.agg #[.int .i64 res39, .int .i64 res40, .int .i64 res41, .bool res42, .bool res43, .bool res44]) h9)) ∧
  ((decide (Frame34 ≥ Frames36)) = false → (∃ Frame45 : Int, cellAt h8 (sz h2) 4 = some (.int .i64 Frame45) ∧ ∃ Write46 : Bool, cellAt h8 (sz h2) 1 = some (.bool Write46) ∧ ∃ Exec47 : Bool, cellAt h8 (sz h2) 2 = some (.bool Exec47) ∧
  ∃ Block48 : Bool, cellAt h8 (sz h2) 3 = some (.bool Block48) ∧ truly true ∧ ∃ T49 : TypeId, ∃ l50 : List Value, bk h8 (sz h) = some (blk T49 l50) ∧ 0 + 6 ≤ l50.length ∧ ∀ h10 : Hp, h10 = upd h8 (sz h) T49 (writeAt l50 0 [.int .i64 0, .int .i64 found7, .int .i64 Frame45, .bool Write46, .bool Exec47, .bool Block48]) →
  ∃ res51 : Int, cellAt h10 (sz h) (0 + 0) = some (.int .i64 res51) ∧ ∃ res52 : Int, cellAt h10 (sz h) (0 + 1) = some (.int .i64 res52) ∧ ∃ res53 : Int, cellAt h10 (sz h) (0 + 2) = some (.int .i64 res53) ∧
  ∃ res54 : Bool, cellAt h10 (sz h) (0 + 3) = some (.bool res54) ∧ ∃ res55 : Bool, cellAt h10 (sz h) (0 + 4) = some (.bool res55) ∧ ∃ res56 : Bool, cellAt h10 (sz h) (0 + 5) = some (.bool res56) ∧ R (.agg #[.int .i64 res51, .int .i64 res52, .int .i64 res53, .bool res54, .bool res55, .bool res56]) h10))))))
theorem walk_Walk.eq (p0mb p0mo : Nat) (p1root : Int) (p2addr : Int) (p3access : Int) (h : Hp) (R : Value → Hp → Prop) : evBody Try.prog calls walk_Walk.hints Try.f15 [.ptr p0mb p0mo, .int .i64 p1root, .int .u32 p2addr, .int .i64 p3access] h R = walk_Walk.P p0mb p0mo p1root p2addr p3access h R := by kernel_rfl
theorem walk_Walk.calls (p0mb p0mo : Nat) (p1root : Int) (p2addr : Int) (p3access : Int) (h : Hp) (R : Value → Hp → Prop) (hp : walk_Walk.P p0mb p0mo p1root p2addr p3access h R) : CallsH Try.prog 15 [.pointer (some ⟨p0mb, p0mo, none⟩), .int .i64 p1root, .int .u32 p2addr, .int .i64 p3access] h R :=
  calls_of_body calls_ok Try.func15 (args := [.ptr p0mb p0mo, .int .i64 p1root, .int .u32 p2addr, .int .i64 p3access]) (by rw [walk_Walk.eq]; exact hp)
/-! ### stage_Space_Root: function 16 -/
def stage_Space_Root.hints : Hints := { loops := [], cuts := [], orders := [] }
def stage_Space_Root.P (p0sb p0so : Nat) (h : Hp) (R : Value → Hp → Prop) : Prop :=
  ∃ root1 : Int, cellAt h p0sb (p0so + 4) = some (.int .i64 root1) ∧ R (.int .i64 root1) h
theorem stage_Space_Root.eq (p0sb p0so : Nat) (h : Hp) (R : Value → Hp → Prop) : evBody Try.prog calls stage_Space_Root.hints Try.f16 [.ptr p0sb p0so] h R = stage_Space_Root.P p0sb p0so h R := by kernel_rfl
theorem stage_Space_Root.calls (p0sb p0so : Nat) (h : Hp) (R : Value → Hp → Prop) (hp : stage_Space_Root.P p0sb p0so h R) : CallsH Try.prog 16 [.pointer (some ⟨p0sb, p0so, none⟩)] h R :=
  calls_of_body calls_ok Try.func16 (args := [.ptr p0sb p0so]) (by rw [stage_Space_Root.eq]; exact hp)
/-! ### stage_Space_Unmap: function 17 -/
def stage_Space_Unmap.hints : Hints := { loops := [], cuts := [], orders := [] }
def stage_Space_Unmap.P (p0sb p0so : Nat) (p1n : Int) (h : Hp) (R : Value → Hp → Prop) : Prop :=
  ∀ h1 : Hp, h1 = new h (blk 34 [.pointer (some ⟨p0sb, p0so, none⟩)]) → ∀ h2 : Hp, h2 = new h1 (blk 3 [.int .i64 p1n]) → ∃ x1 : Option Addr, cellAt h2 (sz h) 0 = some (.pointer x1) ∧ CallsH Try.prog 48 [.pointer x1, .func (.func 60) #[] #[.pointer (some ⟨(sz h), 0, none⟩), .pointer (some ⟨(sz h1), 0, none⟩)]] h2 fun r2 h3 => ∃ byx3 : Int, r2 = .int .i64 byx3 ∧
  R (.int .i64 byx3) h3
theorem stage_Space_Unmap.eq (p0sb p0so : Nat) (p1n : Int) (h : Hp) (R : Value → Hp → Prop) : evBody Try.prog calls stage_Space_Unmap.hints Try.f17 [.ptr p0sb p0so, .int .i64 p1n] h R = stage_Space_Unmap.P p0sb p0so p1n h R := by kernel_rfl
theorem stage_Space_Unmap.calls (p0sb p0so : Nat) (p1n : Int) (h : Hp) (R : Value → Hp → Prop) (hp : stage_Space_Unmap.P p0sb p0so p1n h R) : CallsH Try.prog 17 [.pointer (some ⟨p0sb, p0so, none⟩), .int .i64 p1n] h R :=
  calls_of_body calls_ok Try.func17 (args := [.ptr p0sb p0so, .int .i64 p1n]) (by rw [stage_Space_Unmap.eq]; exact hp)
/-! ### warderref11_New: function 18 -/
def warderref11_New.hints : Hints := { loops := [], cuts := [], orders := [(1, [0, 0, 0, 0, 15, 31, 63], (.fork [2, 3] 0 (.leaf [1, 4, 5, 6]) 1 (.leaf [0, 4, 5, 6])))] }
def warderref11_New.P (p0n : Int) (p1free : Int) (h : Hp) (R : Value → Hp → Prop) : Prop :=
  ((0 : Int) ≤ 4096 ∧ (4096 : Int) ≤ 4096 ∧ (4096 : Int) ≤ 140737488355328 ∧ ((16 : Nat) : Int) * 4096 ≤ 281474976710656 ∧ (4 : Nat) = 4 ∧ ∀ h1 : Hp, h1 = new h (blk 106 (zeros [.int .i64 0, .bool false, .bool false, .bool false] (4096 : Int).toNat)) →
  (0 : Int) ≤ 64 ∧ (64 : Int) ≤ 64 ∧ (64 : Int) ≤ 140737488355328 ∧ ((8 : Nat) : Int) * 64 ≤ 281474976710656 ∧ (1 : Nat) = 1 ∧ ∀ h2 : Hp, h2 = new h1 (blk 3 (zeros [.int .i64 0] (64 : Int).toNat)) → ∀ h3 : Hp, h3 = new h2 (blk 104 [.slice (some ⟨sz h, 0, none⟩) ((4096 : Int).toNat) ((4096 : Int).toNat), .slice (some ⟨sz h1, 0, none⟩) ((64 : Int).toNat) ((64 : Int).toNat), .int .i64 p0n, .int .i64 p1free]) →
  R (.pointer (some ⟨(sz h2), 0, none⟩)) h3) ∧ ((0 : Int) ≤ 64 ∧ (64 : Int) ≤ 64 ∧ (64 : Int) ≤ 140737488355328 ∧ ((8 : Nat) : Int) * 64 ≤ 281474976710656 ∧ (1 : Nat) = 1 ∧ ∀ h4 : Hp, h4 = new h (blk 3 (zeros [.int .i64 0] (64 : Int).toNat)) →
  (0 : Int) ≤ 4096 ∧ (4096 : Int) ≤ 4096 ∧ (4096 : Int) ≤ 140737488355328 ∧ ((16 : Nat) : Int) * 4096 ≤ 281474976710656 ∧ (4 : Nat) = 4 ∧ ∀ h5 : Hp, h5 = new h4 (blk 106 (zeros [.int .i64 0, .bool false, .bool false, .bool false] (4096 : Int).toNat)) →
  ∀ h6 : Hp, h6 = new h5 (blk 104 [.slice (some ⟨sz h4, 0, none⟩) ((4096 : Int).toNat) ((4096 : Int).toNat), .slice (some ⟨sz h, 0, none⟩) ((64 : Int).toNat) ((64 : Int).toNat), .int .i64 p0n, .int .i64 p1free]) →
  R (.pointer (some ⟨(sz h5), 0, none⟩)) h6)
theorem warderref11_New.eq (p0n : Int) (p1free : Int) (h : Hp) (R : Value → Hp → Prop) : evBody Try.prog calls warderref11_New.hints Try.f18 [.int .i64 p0n, .int .i64 p1free] h R = warderref11_New.P p0n p1free h R := by kernel_rfl
theorem warderref11_New.calls (p0n : Int) (p1free : Int) (h : Hp) (R : Value → Hp → Prop) (hp : warderref11_New.P p0n p1free h R) : CallsH Try.prog 18 [.int .i64 p0n, .int .i64 p1free] h R :=
  calls_of_body calls_ok Try.func18 (args := [.int .i64 p0n, .int .i64 p1free]) (by rw [warderref11_New.eq]; exact hp)
/-! ### warderlaw11_doRef: function 19 -/
def warderlaw11_doRef.hints : Hints := { loops := [], cuts := [], orders := [] }
def warderlaw11_doRef.P (p0sb p0so : Nat) (p1c_0 : Int) (p1c_1 : Int) (p1c_2 : Int) (p1c_3 : Bool) (p1c_4 : Bool) (h : Hp) (R : Value → Hp → Prop) : Prop :=
  ∀ h1 : Hp, h1 = new h (blk 24 [.int .i64 p1c_0, .int .i64 p1c_1, .int .i64 p1c_2, .bool p1c_3, .bool p1c_4]) → ∃ What1 : Int, cellAt h1 (sz h) 0 = some (.int .i64 What1) ∧ ((What1 == 0) = true → (∃ Page2 : Int, cellAt h1 (sz h) 1 = some (.int .i64 Page2) ∧
  ∃ Frame3 : Int, cellAt h1 (sz h) 2 = some (.int .i64 Frame3) ∧ ∃ Write4 : Bool, cellAt h1 (sz h) 3 = some (.bool Write4) ∧ ∃ Exec5 : Bool, cellAt h1 (sz h) 4 = some (.bool Exec5) ∧ CallsH Try.prog 63 [.pointer (some ⟨p0sb, p0so, none⟩), .int .i64 Page2, .int .i64 Frame3, .bool Write4, .bool Exec5] h1 fun r6 h2 => ∃ Map7 : Int, r6 = .int .i64 Map7 ∧
  R (.int .i64 Map7) h2)) ∧ ((What1 == 0) = false → (((What1 == 1) = true → (∃ Page8 : Int, cellAt h1 (sz h) 1 = some (.int .i64 Page8) ∧ ∃ Frame9 : Int, cellAt h1 (sz h) 2 = some (.int .i64 Frame9) ∧
  ∃ Write10 : Bool, cellAt h1 (sz h) 3 = some (.bool Write10) ∧ ∃ Exec11 : Bool, cellAt h1 (sz h) 4 = some (.bool Exec11) ∧ CallsH Try.prog 64 [.pointer (some ⟨p0sb, p0so, none⟩), .int .i64 Page8, .int .i64 Frame9, .bool Write10, .bool Exec11] h1 fun r12 h3 => ∃ MapRun13 : Int, r12 = .int .i64 MapRun13 ∧
  R (.int .i64 MapRun13) h3)) ∧ ((What1 == 1) = false → (((What1 == 2) = true → (∃ Page14 : Int, cellAt h1 (sz h) 1 = some (.int .i64 Page14) ∧ CallsH Try.prog 65 [.pointer (some ⟨p0sb, p0so, none⟩), .int .i64 Page14] h1 fun r15 h4 => ∃ Unmap16 : Int, r15 = .int .i64 Unmap16 ∧
  R (.int .i64 Unmap16) h4)) ∧ ((What1 == 2) = false → (((What1 == 3) = true → (∃ Page17 : Int, cellAt h1 (sz h) 1 = some (.int .i64 Page17) ∧ ∃ Write18 : Bool, cellAt h1 (sz h) 3 = some (.bool Write18) ∧
  ∃ Exec19 : Bool, cellAt h1 (sz h) 4 = some (.bool Exec19) ∧ CallsH Try.prog 66 [.pointer (some ⟨p0sb, p0so, none⟩), .int .i64 Page17, .bool Write18, .bool Exec19] h1 fun r20 h5 => ∃ Protect21 : Int, r20 = .int .i64 Protect21 ∧
  R (.int .i64 Protect21) h5)) ∧ ((What1 == 3) = false → (((What1 == 4) = true → (∃ Page22 : Int, cellAt h1 (sz h) 1 = some (.int .i64 Page22) ∧ CallsH Try.prog 67 [.pointer (some ⟨p0sb, p0so, none⟩), .int .i64 Page22] h1 fun r23 h6 => ∃ Split24 : Int, r23 = .int .i64 Split24 ∧
  R (.int .i64 Split24) h6)) ∧ ((What1 == 4) = false → (∃ Page25 : Int, cellAt h1 (sz h) 1 = some (.int .i64 Page25) ∧ CallsH Try.prog 68 [.pointer (some ⟨p0sb, p0so, none⟩), .int .i64 Page25] h1 fun r26 h7 => ∃ Merge27 : Int, r26 = .int .i64 Merge27 ∧
  R (.int .i64 Merge27) h7))))))))))
theorem warderlaw11_doRef.eq (p0sb p0so : Nat) (p1c_0 : Int) (p1c_1 : Int) (p1c_2 : Int) (p1c_3 : Bool) (p1c_4 : Bool) (h : Hp) (R : Value → Hp → Prop) : evBody Try.prog calls warderlaw11_doRef.hints Try.f19 [.ptr p0sb p0so, .agg [.int .i64 p1c_0, .int .i64 p1c_1, .int .i64 p1c_2, .bool p1c_3, .bool p1c_4]] h R = warderlaw11_doRef.P p0sb p0so p1c_0 p1c_1 p1c_2 p1c_3 p1c_4 h R := by kernel_rfl
theorem warderlaw11_doRef.calls (p0sb p0so : Nat) (p1c_0 : Int) (p1c_1 : Int) (p1c_2 : Int) (p1c_3 : Bool) (p1c_4 : Bool) (h : Hp) (R : Value → Hp → Prop) (hp : warderlaw11_doRef.P p0sb p0so p1c_0 p1c_1 p1c_2 p1c_3 p1c_4 h R) : CallsH Try.prog 19 [.pointer (some ⟨p0sb, p0so, none⟩), .agg #[.int .i64 p1c_0, .int .i64 p1c_1, .int .i64 p1c_2, .bool p1c_3, .bool p1c_4]] h R :=
  calls_of_body calls_ok Try.func19 (args := [.ptr p0sb p0so, .agg [.int .i64 p1c_0, .int .i64 p1c_1, .int .i64 p1c_2, .bool p1c_3, .bool p1c_4]]) (by rw [warderlaw11_doRef.eq]; exact hp)
/-! ### warderlaw11_same: function 20 -/
def warderlaw11_same.hints : Hints := { loops := [(4, [0, 1, 5], [(6, (.one (.int .i64))), (7, (.one (.int .i64)))])], cuts := [(9, [0, 1, 5, 6, 7], [])], orders := [(11, [0, 1, 3, 7, 15, 7, 39, 103, 231, 7, 999, 2023, 4071, 8191, 16383, 32767, 65535, 131071, 65535, 327679, 851967, 1900543, 65535, 8191999, 16580607, 33357823, 67108863, 134217727, 268435455, 536870911, 1073741823, 536870911, 2684354559, 6979321855, 15569256447, 536870911, 67108863999, 135828340735, 273267294207, 549755813887, 1099511627775, 2199023255551, 4398046511103, 8796093022207, 4398046511103, 21990232555519, 57174604644351, 127543348822015, 4398046511103, 285873023221759, 1112705767309311, 2238605674151935, 4490405487837183, 9007199254740991, 18014398509481983], (.leaf [0, 1, 2, 3, 4, 5, 6, 7, 8, 9, 10, 11, 12, 13, 14, 15, 16, 17, 18, 19, 20, 21, 22, 23, 24, 25, 26, 27, 28, 29, 30, 31, 32, 33, 34, 35, 36, 37, 38, 39, 40, 41, 42, 43, 44, 45, 46, 47, 48, 49, 50, 51, 52, 53, 54]))] }
def warderlaw11_same.P (p0wb p0wo : Nat) (p1rb p1ro : Nat) (h : Hp) (R : Value → Hp → Prop) : Prop :=
  ∃ Space1 : Option Addr, cellAt h p0wb (p0wo + 3) = some (.pointer Space1) ∧ CallsH Try.prog 21 [.pointer Space1] h fun r2 h1 => ∃ Pagesa3 : Option Addr, ∃ Pagesl4 : Nat, ∃ Pagesc5 : Nat, r2 = .slice Pagesa3 Pagesl4 Pagesc5 ∧
  ∃ I6 : Int → Int → Hp → Prop, ∃ m7 : Int → Int → Hp → Nat, I6 0 0 h1 ∧ ∀ k8 : Int, ∀ p9 : Int, ∀ h2 : Hp, I6 k8 p9 h2 → ((decide (p9 < 4096)) = true → (∃ Pagesa10 : Option Addr, ∃ Pagesl11 : Nat, ∃ Pagesc12 : Nat, cellAt h2 p1rb p1ro = some (.slice Pagesa10 Pagesl11 Pagesc12) ∧
  (0 : Int) ≤ p9 ∧ p9 < ((Pagesl11 : Nat) : Int) ∧ ∃ b13 : Nat, ∃ o14 : Nat, (Pagesa10 : Option Addr) = some ⟨b13, o14, none⟩ ∧ ∃ There15 : Bool, cellAt h2 b13 (o14 + p9.toNat * 4 + 1) = some (.bool There15) ∧
  ((!There15) = true → (I6 k8 (IntKind.wrap .i64 (p9 + 1)) h2 ∧ m7 k8 (IntKind.wrap .i64 (p9 + 1)) h2 < m7 k8 p9 h2)) ∧ ((!There15) = false → (∃ I16 : Hp → Prop, (((decide (k8 ≥ ((Pagesl4 : Nat) : Int))) = true →
  (R (.bool false) h2)) ∧ ((decide (k8 ≥ ((Pagesl4 : Nat) : Int))) = false → ((0 : Int) ≤ k8 ∧ k8 < ((Pagesl4 : Nat) : Int) ∧ ∃ b17 : Nat, ∃ o18 : Nat, (Pagesa3 : Option Addr) = some ⟨b17, o18, none⟩ ∧
  ∃ x19 : Int, cellAt h2 b17 (o18 + k8.toNat * 1) = some (.int .i64 x19) ∧ ((x19 != p9) = true → (R (.bool false) h2)) ∧ ((x19 != p9) = false → (I16 h2))))) ∧ ∀ h3 : Hp, I16 h3 → ∃ Space20 : Option Addr, cellAt h3 p0wb (p0wo + 3) = some (.pointer Space20) ∧
  CallsH Try.prog 22 [.pointer Space20, .int .i64 p9] h3 fun r21 h4 => ∃ Look22 : Bool, ∃ Look23 : Bool, ∃ Look24 : Bool, ∃ Look25 : Bool, ∃ Look26 : Int, ∃ Look27 : Bool, r21 = .tuple #[.agg #[.bool Look22, .bool Look23, .bool Look24, .bool Look25, .int .i64 Look26], .bool Look27] ∧
  ∀ h5 : Hp, h5 = new h4 (blk 54 [.bool false, .bool false, .bool false, .bool false, .int .i64 0]) → truly true ∧ ∃ T28 : TypeId, ∃ l29 : List Value, bk h5 (sz h4) = some (blk T28 l29) ∧ 0 + 5 ≤ l29.length ∧
  ∀ h6 : Hp, h6 = upd h5 (sz h4) T28 (writeAt l29 0 [.bool Look22, .bool Look23, .bool Look24, .bool Look25, .int .i64 Look26]) → ((!Look27) = true → (R (.bool false) h6)) ∧ ((!Look27) = false → (∃ Frame30 : Int, cellAt h6 (sz h4) 4 = some (.int .i64 Frame30) ∧
  ∃ Pagesa31 : Option Addr, ∃ Pagesl32 : Nat, ∃ Pagesc33 : Nat, cellAt h6 p1rb p1ro = some (.slice Pagesa31 Pagesl32 Pagesc33) ∧ (0 : Int) ≤ p9 ∧ p9 < ((Pagesl32 : Nat) : Int) ∧ ∃ b34 : Nat, ∃ o35 : Nat, (Pagesa31 : Option Addr) = some ⟨b34, o35, none⟩ ∧
  ∃ Frame36 : Int, cellAt h6 b34 (o35 + p9.toNat * 4) = some (.int .i64 Frame36) ∧ ((Frame30 != Frame36) = true → (R (.bool false) h6)) ∧ ((Frame30 != Frame36) = false → (∃ Write37 : Bool, cellAt h6 (sz h4) 1 = some (.bool Write37) ∧
  ∃ Pagesa38 : Option Addr, ∃ Pagesl39 : Nat, ∃ Pagesc40 : Nat, cellAt h6 p1rb p1ro = some (.slice Pagesa38 Pagesl39 Pagesc40) ∧ (0 : Int) ≤ p9 ∧ p9 < ((Pagesl39 : Nat) : Int) ∧ ∃ b41 : Nat, ∃ o42 : Nat, (Pagesa38 : Option Addr) = some ⟨b41, o42, none⟩ ∧
  ∃ Write43 : Bool, cellAt h6 b41 (o42 + p9.toNat * 4 + 2) = some (.bool Write43) ∧ ((notIf false (Write37 == Write43)) = true → (R (.bool false) h6)) ∧ ((notIf false (Write37 == Write43)) = false → (∃ Exec44 : Bool, cellAt h6 (sz h4) 2 = some (.bool Exec44) ∧
  ∃ Pagesa45 : Option Addr, ∃ Pagesl46 : Nat, ∃ Pagesc47 : Nat, cellAt h6 p1rb p1ro = some (.slice Pagesa45 Pagesl46 Pagesc47) ∧ (0 : Int) ≤ p9 ∧ p9 < ((Pagesl46 : Nat) : Int) ∧ ∃ b48 : Nat, ∃ o49 : Nat, (Pagesa45 : Option Addr) = some ⟨b48, o49, none⟩ ∧
  ∃ Exec50 : Bool, cellAt h6 b48 (o49 + p9.toNat * 4 + 3) = some (.bool Exec50) ∧ ((notIf false (Exec44 == Exec50)) = true → (R (.bool false) h6)) ∧ ((notIf false (Exec44 == Exec50)) = false → (∃ Block51 : Bool, cellAt h6 (sz h4) 3 = some (.bool Block51) ∧
  ∃ Firstsa52 : Option Addr, ∃ Firstsl53 : Nat, ∃ Firstsc54 : Nat, cellAt h6 p1rb (p1ro + 1) = some (.slice Firstsa52 Firstsl53 Firstsc54) ∧ 64 ≠ (0 : Int) ∧ (0 : Int) ≤ (IntKind.wrap .i64 (Int.tdiv p9 64)) ∧
  (IntKind.wrap .i64 (Int.tdiv p9 64)) < ((Firstsl53 : Nat) : Int) ∧ ∃ b55 : Nat, ∃ o56 : Nat, (Firstsa52 : Option Addr) = some ⟨b55, o56, none⟩ ∧ ∃ x57 : Int, cellAt h6 b55 (o56 + (IntKind.wrap .i64 (Int.tdiv p9 64)).toNat * 1) = some (.int .i64 x57) ∧
  ((notIf false (Block51 == (x57 == 1))) = true → (R (.bool false) h6)) ∧ ((notIf false (Block51 == (x57 == 1))) = false → (I6 (IntKind.wrap .i64 (k8 + 1)) (IntKind.wrap .i64 (p9 + 1)) h6 ∧ m7 (IntKind.wrap .i64 (k8 + 1)) (IntKind.wrap .i64 (p9 + 1)) h6 < m7 k8 p9 h2)))))))))))))) ∧
  ((decide (p9 < 4096)) = false → (((k8 == ((Pagesl4 : Nat) : Int)) = true → (∃ Space58 : Option Addr, cellAt h2 p0wb (p0wo + 3) = some (.pointer Space58) ∧ CallsH Try.prog 13 [.pointer Space58] h2 fun r59 h7 => ∃ Tables60 : Int, r59 = .int .i64 Tables60 ∧
  CallsH Try.prog 69 [.pointer (some ⟨p1rb, p1ro, none⟩)] h7 fun r61 h8 => ∃ Tables62 : Int, r61 = .int .i64 Tables62 ∧ ((Tables60 == (IntKind.wrap .i64 (Tables62 + 1))) = true → (∃ Frames63 : Option Addr, cellAt h8 p0wb (p0wo + 1) = some (.pointer Frames63) ∧
  CallsH Try.prog 39 [.pointer Frames63, .int .i64 1] h8 fun r64 h9 => ∃ Count65 : Int, r64 = .int .i64 Count65 ∧ CallsH Try.prog 69 [.pointer (some ⟨p1rb, p1ro, none⟩)] h9 fun r66 h10 => ∃ Tables67 : Int, r66 = .int .i64 Tables67 ∧
  R (.bool (Count65 == (IntKind.wrap .i64 (Tables67 + 1)))) h10)) ∧ ((Tables60 == (IntKind.wrap .i64 (Tables62 + 1))) = false → (R (.bool false) h8)))) ∧ ((k8 == ((Pagesl4 : Nat) : Int)) = false → (R (.bool false) h2))))
theorem warderlaw11_same.eq (p0wb p0wo : Nat) (p1rb p1ro : Nat) (h : Hp) (R : Value → Hp → Prop) : evBody Try.prog calls warderlaw11_same.hints Try.f20 [.ptr p0wb p0wo, .ptr p1rb p1ro] h R = warderlaw11_same.P p0wb p0wo p1rb p1ro h R := by kernel_rfl
theorem warderlaw11_same.calls (p0wb p0wo : Nat) (p1rb p1ro : Nat) (h : Hp) (R : Value → Hp → Prop) (hp : warderlaw11_same.P p0wb p0wo p1rb p1ro h R) : CallsH Try.prog 20 [.pointer (some ⟨p0wb, p0wo, none⟩), .pointer (some ⟨p1rb, p1ro, none⟩)] h R :=
  calls_of_body calls_ok Try.func20 (args := [.ptr p0wb p0wo, .ptr p1rb p1ro]) (by rw [warderlaw11_same.eq]; exact hp)
/-! ### stage_Space_Pages: function 21 -/
def stage_Space_Pages.hints : Hints := { loops := [], cuts := [], orders := [(3, [0, 1, 3, 7, 0, 16, 48, 112, 255, 511], (.leaf [0, 1, 2, 3, 4, 5, 6, 7, 8, 9]))] }
def stage_Space_Pages.P (p0sb p0so : Nat) (h : Hp) (R : Value → Hp → Prop) : Prop :=
  ∃ dead1 : Bool, cellAt h p0sb (p0so + 5) = some (.bool dead1) ∧ ((dead1) = true → (R (.slice none 0 0) h)) ∧ ((dead1) = false → (∃ mem2 : Option Addr, cellAt h p0sb p0so = some (.pointer mem2) ∧ ∃ root3 : Int, cellAt h p0sb (p0so + 4) = some (.int .i64 root3) ∧
  CallsH Try.prog 70 [.pointer mem2, .int .i64 root3] h fun r4 h1 => ∃ Pagesa5 : Option Addr, ∃ Pagesl6 : Nat, ∃ Pagesc7 : Nat, r4 = .slice Pagesa5 Pagesl6 Pagesc7 ∧ R (.slice Pagesa5 Pagesl6 Pagesc7) h1))
theorem stage_Space_Pages.eq (p0sb p0so : Nat) (h : Hp) (R : Value → Hp → Prop) : evBody Try.prog calls stage_Space_Pages.hints Try.f21 [.ptr p0sb p0so] h R = stage_Space_Pages.P p0sb p0so h R := by kernel_rfl
theorem stage_Space_Pages.calls (p0sb p0so : Nat) (h : Hp) (R : Value → Hp → Prop) (hp : stage_Space_Pages.P p0sb p0so h R) : CallsH Try.prog 21 [.pointer (some ⟨p0sb, p0so, none⟩)] h R :=
  calls_of_body calls_ok Try.func21 (args := [.ptr p0sb p0so]) (by rw [stage_Space_Pages.eq]; exact hp)
/-! ### stage_Space_Look: function 22 -/
def stage_Space_Look.hints : Hints := { loops := [], cuts := [], orders := [(3, [0, 1, 3, 7, 0, 16, 48, 112, 0, 511, 1023, 1023, 4095, 8191], (.leaf [0, 1, 2, 3, 4, 5, 6, 7, 8, 9, 10, 11, 12, 13]))] }
def stage_Space_Look.P (p0sb p0so : Nat) (p1page : Int) (h : Hp) (R : Value → Hp → Prop) : Prop :=
  ∀ h1 : Hp, h1 = new h (blk 54 [.bool false, .bool false, .bool false, .bool false, .int .i64 0]) → ∃ dead1 : Bool, cellAt h1 p0sb (p0so + 5) = some (.bool dead1) ∧ ((dead1) = true → (truly true ∧ ∃ T2 : TypeId, ∃ l3 : List Value, bk h1 (sz h) = some (blk T2 l3) ∧
  0 + 5 ≤ l3.length ∧ ∀ h2 : Hp, h2 = upd h1 (sz h) T2 (writeAt l3 0 [.bool false, .bool false, .bool false, .bool false, .int .i64 0]) → ∃ res4 : Bool, cellAt h2 (sz h) (0 + 0) = some (.bool res4) ∧ ∃ res5 : Bool, cellAt h2 (sz h) (0 + 1) = some (.bool res5) ∧
  ∃ res6 : Bool, cellAt h2 (sz h) (0 + 2) = some (.bool res6) ∧ ∃ res7 : Bool, cellAt h2 (sz h) (0 + 3) = some (.bool res7) ∧ ∃ res8 : Int, cellAt h2 (sz h) (0 + 4) = some (.int .i64 res8) ∧ R (.tuple #[.agg #[.bool res4, .bool res5, .bool res6, .bool res7, .int .i64 res8], .bool false]) h2)) ∧
  ((dead1) = false → (∃ mem9 : Option Addr, cellAt h1 p0sb p0so = some (.pointer mem9) ∧ ∃ root10 : Int, cellAt h1 p0sb (p0so + 4) = some (.int .i64 root10) ∧ CallsH Try.prog 71 [.pointer mem9, .int .i64 root10, .int .i64 p1page] h1 fun r11 h3 => ∃ Look12 : Bool, ∃ Look13 : Bool, ∃ Look14 : Bool, ∃ Look15 : Bool, ∃ Look16 : Int, ∃ Look17 : Bool, r11 = .tuple #[.agg #[.bool Look12, .bool Look13, .bool Look14, .bool Look15, .int .i64 Look16], .bool Look17] ∧
  truly true ∧ ∃ T18 : TypeId, ∃ l19 : List Value, bk h3 (sz h) = some (blk T18 l19) ∧ 0 + 5 ≤ l19.length ∧ ∀ h4 : Hp, h4 = upd h3 (sz h) T18 (writeAt l19 0 [.bool Look12, .bool Look13, .bool Look14, .bool Look15, .int .i64 Look16]) →
  ∃ res20 : Bool, cellAt h4 (sz h) (0 + 0) = some (.bool res20) ∧ ∃ res21 : Bool, cellAt h4 (sz h) (0 + 1) = some (.bool res21) ∧ ∃ res22 : Bool, cellAt h4 (sz h) (0 + 2) = some (.bool res22) ∧ ∃ res23 : Bool, cellAt h4 (sz h) (0 + 3) = some (.bool res23) ∧
  ∃ res24 : Int, cellAt h4 (sz h) (0 + 4) = some (.int .i64 res24) ∧ R (.tuple #[.agg #[.bool res20, .bool res21, .bool res22, .bool res23, .int .i64 res24], .bool Look17]) h4))
theorem stage_Space_Look.eq (p0sb p0so : Nat) (p1page : Int) (h : Hp) (R : Value → Hp → Prop) : evBody Try.prog calls stage_Space_Look.hints Try.f22 [.ptr p0sb p0so, .int .i64 p1page] h R = stage_Space_Look.P p0sb p0so p1page h R := by kernel_rfl
theorem stage_Space_Look.calls (p0sb p0so : Nat) (p1page : Int) (h : Hp) (R : Value → Hp → Prop) (hp : stage_Space_Look.P p0sb p0so p1page h R) : CallsH Try.prog 22 [.pointer (some ⟨p0sb, p0so, none⟩), .int .i64 p1page] h R :=
  calls_of_body calls_ok Try.func22 (args := [.ptr p0sb p0so, .int .i64 p1page]) (by rw [stage_Space_Look.eq]; exact hp)
/-! ### stage_Space_Split: function 23 -/
def stage_Space_Split.hints : Hints := { loops := [], cuts := [], orders := [] }
def stage_Space_Split.P (p0sb p0so : Nat) (p1first : Int) (h : Hp) (R : Value → Hp → Prop) : Prop :=
  ∀ h1 : Hp, h1 = new h (blk 34 [.pointer (some ⟨p0sb, p0so, none⟩)]) → ∀ h2 : Hp, h2 = new h1 (blk 3 [.int .i64 p1first]) → ∃ x1 : Option Addr, cellAt h2 (sz h) 0 = some (.pointer x1) ∧ CallsH Try.prog 48 [.pointer x1, .func (.func 72) #[] #[.pointer (some ⟨(sz h1), 0, none⟩), .pointer (some ⟨(sz h), 0, none⟩)]] h2 fun r2 h3 => ∃ byx3 : Int, r2 = .int .i64 byx3 ∧
  R (.int .i64 byx3) h3
theorem stage_Space_Split.eq (p0sb p0so : Nat) (p1first : Int) (h : Hp) (R : Value → Hp → Prop) : evBody Try.prog calls stage_Space_Split.hints Try.f23 [.ptr p0sb p0so, .int .i64 p1first] h R = stage_Space_Split.P p0sb p0so p1first h R := by kernel_rfl
theorem stage_Space_Split.calls (p0sb p0so : Nat) (p1first : Int) (h : Hp) (R : Value → Hp → Prop) (hp : stage_Space_Split.P p0sb p0so p1first h R) : CallsH Try.prog 23 [.pointer (some ⟨p0sb, p0so, none⟩), .int .i64 p1first] h R :=
  calls_of_body calls_ok Try.func23 (args := [.ptr p0sb p0so, .int .i64 p1first]) (by rw [stage_Space_Split.eq]; exact hp)
/-! ### warderlaw11_told: function 24 -/
def warderlaw11_told.hints : Hints := { loops := [(4, [0, 1, 2, 3], [(9, (.one (.int .i64)))])], cuts := [(3, [0, 1, 2, 3], []), (7, [0, 1, 2, 3, 9], [(10, (.one .addr)), (11, (.one .bool))])], orders := [(6, [0, 1, 3, 7, 0, 0, 48, 112, 255, 511, 1023, 1023, 0, 6143, 16383], (.fork [0, 1, 2, 3, 4, 5, 6, 7] 8 (.leaf [9, 10, 11, 12, 13, 14]) 12 (.leaf [8, 9, 10, 11, 13, 14]))), (7, [0, 1, 3, 7, 7, 31, 63, 7, 255, 511, 1023, 2047, 1023, 1023, 13311, 29695, 62463, 131071, 262143, 524287, 1048575, 524287, 524287, 6815743, 15204351, 31981567, 67108863, 134217727, 268435455, 536870911, 1073741823, 536870911, 536870911, 6979321855, 15569256447, 32749125631, 68719476735, 137438953471, 274877906943, 549755813887], (.leaf [0, 1, 2, 3, 4, 5, 6, 7, 8, 9, 10, 11, 12, 13, 14, 15, 16, 17, 18, 19, 20, 21, 22, 23, 24, 25, 26, 27, 28, 29, 30, 31, 32, 33, 34, 35, 36, 37, 38, 39]))] }
def warderlaw11_told.P (p0wb p0wo : Nat) (p1la : Option Addr) (p1ll : Nat) (p1lc : Nat) (p2olda : Option Addr) (p2oldl : Nat) (p2oldc : Nat) (p3but : Int) (h : Hp) (R : Value → Hp → Prop) : Prop :=
  ∃ I1 : Hp → Prop, (∃ Space2 : Option Addr, cellAt h p0wb (p0wo + 3) = some (.pointer Space2) ∧ CallsH Try.prog 21 [.pointer Space2] h fun r3 h1 => ∃ Pagesa4 : Option Addr, ∃ Pagesl5 : Nat, ∃ Pagesc6 : Nat, r3 = .slice Pagesa4 Pagesl5 Pagesc6 ∧
  CallsH Try.prog 37 [.slice Pagesa4 Pagesl5 Pagesc6, .slice p1la p1ll p1lc] h1 fun r7 h2 => ∃ SameInts8 : Bool, r7 = .bool SameInts8 ∧ ((!SameInts8) = true → (R (.bool false) h2)) ∧ ((!SameInts8) = false →
  (((((p1ll : Nat) : Int) != ((p2oldl : Nat) : Int)) = true → (R (.bool false) h2)) ∧ ((((p1ll : Nat) : Int) != ((p2oldl : Nat) : Int)) = false → (I1 h2))))) ∧ ∀ h3 : Hp, I1 h3 → ∃ I9 : Int → Hp → Prop, ∃ m10 : Int →
  Hp → Nat, I9 0 h3 ∧ ∀ i11 : Int, ∀ h4 : Hp, I9 i11 h4 → ((decide (i11 < ((p1ll : Nat) : Int))) = true → (∃ I12 : Nat → Nat → Bool → Hp → Prop, (∃ Space13 : Option Addr, cellAt h4 p0wb (p0wo + 3) = some (.pointer Space13) ∧
  (0 : Int) ≤ i11 ∧ i11 < ((p1ll : Nat) : Int) ∧ ∃ b14 : Nat, ∃ o15 : Nat, (p1la : Option Addr) = some ⟨b14, o15, none⟩ ∧ ∃ x16 : Int, cellAt h4 b14 (o15 + i11.toNat * 1) = some (.int .i64 x16) ∧ (CallsH Try.prog 22 [.pointer Space13, .int .i64 x16] h4 fun r17 h5 => ∃ Look18 : Bool, ∃ Look19 : Bool, ∃ Look20 : Bool, ∃ Look21 : Bool, ∃ Look22 : Int, ∃ Look23 : Bool, r17 = .tuple #[.agg #[.bool Look18, .bool Look19, .bool Look20, .bool Look21, .int .i64 Look22], .bool Look23] ∧
  ∀ h6 : Hp, h6 = new h5 (blk 54 [.bool false, .bool false, .bool false, .bool false, .int .i64 0]) → cellAt h6 p0wb (p0wo + 3) = some (.pointer Space13) ∧ cellAt h6 b14 (o15 + i11.toNat * 1) = some (.int .i64 x16) ∧
  truly true ∧ ∃ T24 : TypeId, ∃ l25 : List Value, bk h6 (sz h5) = some (blk T24 l25) ∧ 0 + 5 ≤ l25.length ∧ ∀ h7 : Hp, h7 = upd h6 (sz h5) T24 (writeAt l25 0 [.bool Look18, .bool Look19, .bool Look20, .bool Look21, .int .i64 Look22]) →
  I12 (sz h5) 0 Look23 h7) ∧ (∀ h8 : Hp, h8 = new h4 (blk 54 [.bool false, .bool false, .bool false, .bool false, .int .i64 0]) → cellAt h8 p0wb (p0wo + 3) = some (.pointer Space13) ∧ cellAt h8 b14 (o15 + i11.toNat * 1) = some (.int .i64 x16) ∧
  CallsH Try.prog 22 [.pointer Space13, .int .i64 x16] h8 fun r26 h9 => ∃ Look27 : Bool, ∃ Look28 : Bool, ∃ Look29 : Bool, ∃ Look30 : Bool, ∃ Look31 : Int, ∃ Look32 : Bool, r26 = .tuple #[.agg #[.bool Look27, .bool Look28, .bool Look29, .bool Look30, .int .i64 Look31], .bool Look32] ∧
  truly true ∧ ∃ T33 : TypeId, ∃ l34 : List Value, bk h9 (sz h4) = some (blk T33 l34) ∧ 0 + 5 ≤ l34.length ∧ ∀ h10 : Hp, h10 = upd h9 (sz h4) T33 (writeAt l34 0 [.bool Look27, .bool Look28, .bool Look29, .bool Look30, .int .i64 Look31]) →
  I12 (sz h4) 0 Look32 h10)) ∧ ∀ eb35 : Nat, ∀ eo36 : Nat, ∀ ok37 : Bool, ∀ h11 : Hp, I12 eb35 eo36 ok37 h11 → ((!ok37) = true → (R (.bool false) h11)) ∧ ((!ok37) = false → ((0 : Int) ≤ i11 ∧ i11 < ((p1ll : Nat) : Int) ∧
  ∃ b38 : Nat, ∃ o39 : Nat, (p1la : Option Addr) = some ⟨b38, o39, none⟩ ∧ ∃ x40 : Int, cellAt h11 b38 (o39 + i11.toNat * 1) = some (.int .i64 x40) ∧ ((x40 != p3but) = true → (∃ Frame41 : Int, cellAt h11 eb35 (eo36 + 4) = some (.int .i64 Frame41) ∧
  (0 : Int) ≤ i11 ∧ i11 < ((p2oldl : Nat) : Int) ∧ ∃ b42 : Nat, ∃ o43 : Nat, (p2olda : Option Addr) = some ⟨b42, o43, none⟩ ∧ ∃ Frame44 : Int, cellAt h11 b42 (o43 + i11.toNat * 5 + 4) = some (.int .i64 Frame44) ∧
  ((Frame41 != Frame44) = true → (R (.bool false) h11)) ∧ ((Frame41 != Frame44) = false → (∃ Write45 : Bool, cellAt h11 eb35 (eo36 + 1) = some (.bool Write45) ∧ (0 : Int) ≤ i11 ∧ i11 < ((p2oldl : Nat) : Int) ∧
  ∃ b46 : Nat, ∃ o47 : Nat, (p2olda : Option Addr) = some ⟨b46, o47, none⟩ ∧ ∃ Write48 : Bool, cellAt h11 b46 (o47 + i11.toNat * 5 + 1) = some (.bool Write48) ∧ ((notIf false (Write45 == Write48)) = true →
  (R (.bool false) h11)) ∧ ((notIf false (Write45 == Write48)) = false → (∃ Exec49 : Bool, cellAt h11 eb35 (eo36 + 2) = some (.bool Exec49) ∧ (0 : Int) ≤ i11 ∧ i11 < ((p2oldl : Nat) : Int) ∧ ∃ b50 : Nat, ∃ o51 : Nat, (p2olda : Option Addr) = some ⟨b50, o51, none⟩ ∧
  ∃ Exec52 : Bool, cellAt h11 b50 (o51 + i11.toNat * 5 + 2) = some (.bool Exec52) ∧ ((notIf false (Exec49 == Exec52)) = true → (R (.bool false) h11)) ∧ ((notIf false (Exec49 == Exec52)) = false → (I9 (IntKind.wrap .i64 (i11 + 1)) h11 ∧
  m10 (IntKind.wrap .i64 (i11 + 1)) h11 < m10 i11 h4)))))))) ∧ ((x40 != p3but) = false → (I9 (IntKind.wrap .i64 (i11 + 1)) h11 ∧ m10 (IntKind.wrap .i64 (i11 + 1)) h11 < m10 i11 h4)))))) ∧ ((decide (i11 < ((p1ll : Nat) : Int))) = false →
  (R (.bool true) h4))
theorem warderlaw11_told.eq (p0wb p0wo : Nat) (p1la : Option Addr) (p1ll : Nat) (p1lc : Nat) (p2olda : Option Addr) (p2oldl : Nat) (p2oldc : Nat) (p3but : Int) (h : Hp) (R : Value → Hp → Prop) : evBody Try.prog calls warderlaw11_told.hints Try.f24 [.ptr p0wb p0wo, .slice p1la p1ll p1lc, .slice p2olda p2oldl p2oldc, .int .i64 p3but] h R = warderlaw11_told.P p0wb p0wo p1la p1ll p1lc p2olda p2oldl p2oldc p3but h R := by kernel_rfl
theorem warderlaw11_told.calls (p0wb p0wo : Nat) (p1la : Option Addr) (p1ll : Nat) (p1lc : Nat) (p2olda : Option Addr) (p2oldl : Nat) (p2oldc : Nat) (p3but : Int) (h : Hp) (R : Value → Hp → Prop) (hp : warderlaw11_told.P p0wb p0wo p1la p1ll p1lc p2olda p2oldl p2oldc p3but h R) : CallsH Try.prog 24 [.pointer (some ⟨p0wb, p0wo, none⟩), .slice p1la p1ll p1lc, .slice p2olda p2oldl p2oldc, .int .i64 p3but] h R :=
  calls_of_body calls_ok Try.func24 (args := [.ptr p0wb p0wo, .slice p1la p1ll p1lc, .slice p2olda p2oldl p2oldc, .int .i64 p3but]) (by rw [warderlaw11_told.eq]; exact hp)
/-! ### stage_Space_Merge: function 25 -/
def stage_Space_Merge.hints : Hints := { loops := [], cuts := [], orders := [] }
def stage_Space_Merge.P (p0sb p0so : Nat) (p1first : Int) (h : Hp) (R : Value → Hp → Prop) : Prop :=
  ∀ h1 : Hp, h1 = new h (blk 34 [.pointer (some ⟨p0sb, p0so, none⟩)]) → ∀ h2 : Hp, h2 = new h1 (blk 3 [.int .i64 p1first]) → ∃ x1 : Option Addr, cellAt h2 (sz h) 0 = some (.pointer x1) ∧ CallsH Try.prog 48 [.pointer x1, .func (.func 75) #[] #[.pointer (some ⟨(sz h1), 0, none⟩), .pointer (some ⟨(sz h), 0, none⟩)]] h2 fun r2 h3 => ∃ byx3 : Int, r2 = .int .i64 byx3 ∧
  R (.int .i64 byx3) h3
theorem stage_Space_Merge.eq (p0sb p0so : Nat) (p1first : Int) (h : Hp) (R : Value → Hp → Prop) : evBody Try.prog calls stage_Space_Merge.hints Try.f25 [.ptr p0sb p0so, .int .i64 p1first] h R = stage_Space_Merge.P p0sb p0so p1first h R := by kernel_rfl
theorem stage_Space_Merge.calls (p0sb p0so : Nat) (p1first : Int) (h : Hp) (R : Value → Hp → Prop) (hp : stage_Space_Merge.P p0sb p0so p1first h R) : CallsH Try.prog 25 [.pointer (some ⟨p0sb, p0so, none⟩), .int .i64 p1first] h R :=
  calls_of_body calls_ok Try.func25 (args := [.ptr p0sb p0so, .int .i64 p1first]) (by rw [stage_Space_Merge.eq]; exact hp)
/-! ### stage_Space_Protect: function 26 -/
def stage_Space_Protect.hints : Hints := { loops := [], cuts := [], orders := [] }
def stage_Space_Protect.P (p0sb p0so : Nat) (p1n : Int) (p2write : Bool) (p3exec : Bool) (h : Hp) (R : Value → Hp → Prop) : Prop :=
  ∀ h1 : Hp, h1 = new h (blk 34 [.pointer (some ⟨p0sb, p0so, none⟩)]) → ∀ h2 : Hp, h2 = new h1 (blk 3 [.int .i64 p1n]) → ∀ h3 : Hp, h3 = new h2 (blk 4 [.bool p2write]) → ∀ h4 : Hp, h4 = new h3 (blk 4 [.bool p3exec]) →
  ∃ x1 : Option Addr, cellAt h4 (sz h) 0 = some (.pointer x1) ∧ CallsH Try.prog 48 [.pointer x1, .func (.func 77) #[] #[.pointer (some ⟨(sz h), 0, none⟩), .pointer (some ⟨(sz h1), 0, none⟩), .pointer (some ⟨(sz h2), 0, none⟩), .pointer (some ⟨(sz h3), 0, none⟩)]] h4 fun r2 h5 => ∃ byx3 : Int, r2 = .int .i64 byx3 ∧
  R (.int .i64 byx3) h5
theorem stage_Space_Protect.eq (p0sb p0so : Nat) (p1n : Int) (p2write : Bool) (p3exec : Bool) (h : Hp) (R : Value → Hp → Prop) : evBody Try.prog calls stage_Space_Protect.hints Try.f26 [.ptr p0sb p0so, .int .i64 p1n, .bool p2write, .bool p3exec] h R = stage_Space_Protect.P p0sb p0so p1n p2write p3exec h R := by kernel_rfl
theorem stage_Space_Protect.calls (p0sb p0so : Nat) (p1n : Int) (p2write : Bool) (p3exec : Bool) (h : Hp) (R : Value → Hp → Prop) (hp : stage_Space_Protect.P p0sb p0so p1n p2write p3exec h R) : CallsH Try.prog 26 [.pointer (some ⟨p0sb, p0so, none⟩), .int .i64 p1n, .bool p2write, .bool p3exec] h R :=
  calls_of_body calls_ok Try.func26 (args := [.ptr p0sb p0so, .int .i64 p1n, .bool p2write, .bool p3exec]) (by rw [stage_Space_Protect.eq]; exact hp)
/-! ### phys_Mem_Clone: function 27 -/
def phys_Mem_Clone.hints : Hints := { loops := [], cuts := [], orders := [] }
def phys_Mem_Clone.P (p0mb p0mo : Nat) (h : Hp) (R : Value → Hp → Prop) : Prop :=
  ∃ framesa1 : Option Addr, ∃ framesl2 : Nat, ∃ framesc3 : Nat, cellAt h p0mb p0mo = some (.slice framesa1 framesl2 framesc3) ∧ CallsH Try.prog 79 [.slice framesa1 framesl2 framesc3] h fun r4 h1 => ∃ Clonea5 : Option Addr, ∃ Clonel6 : Nat, ∃ Clonec7 : Nat, r4 = .slice Clonea5 Clonel6 Clonec7 ∧
  ∀ h2 : Hp, h2 = new h1 (blk 115 [.slice Clonea5 Clonel6 Clonec7]) → R (.pointer (some ⟨(sz h1), 0, none⟩)) h2
theorem phys_Mem_Clone.eq (p0mb p0mo : Nat) (h : Hp) (R : Value → Hp → Prop) : evBody Try.prog calls phys_Mem_Clone.hints Try.f27 [.ptr p0mb p0mo] h R = phys_Mem_Clone.P p0mb p0mo h R := by kernel_rfl
theorem phys_Mem_Clone.calls (p0mb p0mo : Nat) (h : Hp) (R : Value → Hp → Prop) (hp : phys_Mem_Clone.P p0mb p0mo h R) : CallsH Try.prog 27 [.pointer (some ⟨p0mb, p0mo, none⟩)] h R :=
  calls_of_body calls_ok Try.func27 (args := [.ptr p0mb p0mo]) (by rw [phys_Mem_Clone.eq]; exact hp)
/-! ### frames_Table_List: function 28 -/
def frames_Table_List.hints : Hints := { loops := [(3, [1, 15, 16], [(5, (.one .slice)), (17, (.one (.int .i64)))])], cuts := [], orders := [] }
def frames_Table_List.P (p0tb p0to : Nat) (p1owner : Int) (h : Hp) (R : Value → Hp → Prop) : Prop :=
  CallsH Try.prog 39 [.pointer (some ⟨p0tb, p0to, none⟩), .int .i64 p1owner] h fun r1 h1 => ∃ Count2 : Int, r1 = .int .i64 Count2 ∧ (0 : Int) ≤ 0 ∧ (0 : Int) ≤ Count2 ∧ Count2 ≤ 140737488355328 ∧ ((8 : Nat) : Int) * Count2 ≤ 281474976710656 ∧
  (1 : Nat) = 1 ∧ ∀ h2 : Hp, h2 = new h1 (blk 3 (zeros [.int .i64 0] Count2.toNat)) → ∃ ownersa3 : Option Addr, ∃ ownersl4 : Nat, ∃ ownersc5 : Nat, cellAt h2 p0tb p0to = some (.slice ownersa3 ownersl4 ownersc5) ∧
  ∃ I6 : Option Addr → Nat → Nat → Int → Hp → Prop, ∃ m7 : Option Addr → Nat → Nat → Int → Hp → Nat, I6 (some ⟨sz h1, 0, none⟩) ((0 : Int).toNat) Count2.toNat 0 h2 ∧ ∀ outa8 : Option Addr, ∀ outl9 : Nat, ∀ outc10 : Nat, ∀ x11 : Int, ∀ h3 : Hp, I6 outa8 outl9 outc10 x11 h3 →
  ((decide (x11 < ((ownersl4 : Nat) : Int))) = true → ((0 : Int) ≤ x11 ∧ x11 < ((ownersl4 : Nat) : Int) ∧ ∃ b12 : Nat, ∃ o13 : Nat, (ownersa3 : Option Addr) = some ⟨b12, o13, none⟩ ∧ ∃ x14 : Int, cellAt h3 b12 (o13 + x11.toNat * 1) = some (.int .i64 x14) ∧
  ((x14 == p1owner) = true → (∀ h4 : Hp, h4 = new h3 (blk 3 [.int .i64 x11]) → appendN h4 3 1 8 [.int .i64 0] outa8 outl9 outc10 (some ⟨sz h3, 0, none⟩) 1 fun a15 l16 c17 h5 => I6 a15 l16 c17 (IntKind.wrap .i64 (x11 + 1)) h5 ∧
  m7 a15 l16 c17 (IntKind.wrap .i64 (x11 + 1)) h5 < m7 outa8 outl9 outc10 x11 h3)) ∧ ((x14 == p1owner) = false → (I6 outa8 outl9 outc10 (IntKind.wrap .i64 (x11 + 1)) h3 ∧ m7 outa8 outl9 outc10 (IntKind.wrap .i64 (x11 + 1)) h3 < m7 outa8 outl9 outc10 x11 h3)))) ∧
  ((decide (x11 < ((ownersl4 : Nat) : Int))) = false → (CallsH Try.prog 80 [.slice outa8 outl9 outc10] h3 fun r18 h6 => ∃ Clipa19 : Option Addr, ∃ Clipl20 : Nat, ∃ Clipc21 : Nat, r18 = .slice Clipa19 Clipl20 Clipc21 ∧
  R (.slice Clipa19 Clipl20 Clipc21) h6))
theorem frames_Table_List.eq (p0tb p0to : Nat) (p1owner : Int) (h : Hp) (R : Value → Hp → Prop) : evBody Try.prog calls frames_Table_List.hints Try.f28 [.ptr p0tb p0to, .int .i64 p1owner] h R = frames_Table_List.P p0tb p0to p1owner h R := by kernel_rfl
theorem frames_Table_List.calls (p0tb p0to : Nat) (p1owner : Int) (h : Hp) (R : Value → Hp → Prop) (hp : frames_Table_List.P p0tb p0to p1owner h R) : CallsH Try.prog 28 [.pointer (some ⟨p0tb, p0to, none⟩), .int .i64 p1owner] h R :=
  calls_of_body calls_ok Try.func28 (args := [.ptr p0tb p0to, .int .i64 p1owner]) (by rw [frames_Table_List.eq]; exact hp)
/-! ### tlb_Tlb_Fill: function 29 -/
def tlb_Tlb_Fill.hints : Hints := { loops := [], cuts := [(7, [0, 3, 4], [(5, (.one (.int .i64)))])], orders := [(2, [0, 1, 3, 7, 0, 31, 63, 127, 127, 255, 1023], (.leaf [0, 1, 2, 3, 4, 5, 6, 7, 8, 9, 10])), (5, [0, 0, 2, 6, 14, 30, 0, 64, 192, 448, 960, 2046, 4095, 8191, 16383], (.leaf [0, 1, 2, 3, 4, 5, 6, 7, 8, 9, 10, 11, 12, 13, 14])), (7, [0, 1, 3, 7, 0, 0, 32, 96, 224, 0, 0, 511, 2559, 7167, 15359, 32767], (.leaf [0, 1, 2, 3, 4, 5, 6, 7, 8, 9, 10, 11, 12, 13, 14, 15]))] }
def tlb_Tlb_Fill.P (p0tb p0to : Nat) (p1s_0 : Int) (p1s_1 : Int) (p1s_2 : Int) (p1s_3 : Bool) (p1s_4 : Bool) (h : Hp) (R : Value → Hp → Prop) : Prop :=
  ∀ h1 : Hp, h1 = new h (blk 64 [.int .i64 p1s_0, .int .i64 p1s_1, .int .i64 p1s_2, .bool p1s_3, .bool p1s_4]) → ∃ Vmid1 : Int, cellAt h1 (sz h) 0 = some (.int .i64 Vmid1) ∧ ∃ Page2 : Int, cellAt h1 (sz h) 1 = some (.int .i64 Page2) ∧
  ∀ h2 : Hp, h2 = new h1 (blk 121 [.int .i64 0, .int .i64 0]) → truly true ∧ ∃ T3 : TypeId, ∃ l4 : List Value, bk h2 (sz h1) = some (blk T3 l4) ∧ 0 + 2 ≤ l4.length ∧ ∀ h3 : Hp, h3 = upd h2 (sz h1) T3 (writeAt l4 0 [.int .i64 Vmid1, .int .i64 Page2]) →
  ∃ index5 : Option Nat, cellAt h3 p0tb (p0to + 1) = some (.map index5) ∧ ∃ x6 : Int, cellAt h3 (sz h1) (0 + 0) = some (.int .i64 x6) ∧ ∃ x7 : Int, cellAt h3 (sz h1) (0 + 1) = some (.int .i64 x7) ∧ ∃ q8 : Option Value, lookIs true [.int .i64, .int .i64] h3 index5 [.int .i64 x6, .int .i64 x7] q8 ∧
  ∃ x9 : Int, .int .i64 x9 = q8.getD (.int .i64 0) ∧ ∃ I10 : Int → Hp → Prop, (((!q8.isSome) = true → (∃ next11 : Int, cellAt h3 p0tb (p0to + 2) = some (.int .i64 next11) ∧ ∃ next12 : Int, cellAt h3 p0tb (p0to + 2) = some (.int .i64 next12) ∧
  ∃ placesa13 : Option Addr, ∃ placesl14 : Nat, ∃ placesc15 : Nat, cellAt h3 p0tb p0to = some (.slice placesa13 placesl14 placesc15) ∧ ((placesl14 : Nat) : Int) ≠ (0 : Int) ∧ truly true ∧ ∃ T16 : TypeId, ∃ l17 : List Value, bk h3 p0tb = some (blk T16 l17) ∧
  (p0to + 2) + 1 ≤ l17.length ∧ ∀ h4 : Hp, h4 = upd h3 p0tb T16 (writeAt l17 (p0to + 2) [.int .i64 (Int.tmod (IntKind.wrap .i64 (next12 + 1)) ((placesl14 : Nat) : Int))]) → CallsH Try.prog 81 [.pointer (some ⟨p0tb, p0to, none⟩), .int .i64 next11] h4 fun r18 h5 => r18 = .tuple #[] ∧
  I10 next11 h5)) ∧ ((!q8.isSome) = false → (I10 x9 h3))) ∧ ∀ atx19 : Int, ∀ h6 : Hp, I10 atx19 h6 → ∃ placesa20 : Option Addr, ∃ placesl21 : Nat, ∃ placesc22 : Nat, cellAt h6 p0tb p0to = some (.slice placesa20 placesl21 placesc22) ∧
  ∃ index23 : Option Nat, cellAt h6 p0tb (p0to + 1) = some (.map index23) ∧ ∃ x24 : Int, cellAt h6 (sz h1) (0 + 0) = some (.int .i64 x24) ∧ ∃ x25 : Int, cellAt h6 (sz h1) (0 + 1) = some (.int .i64 x25) ∧
  (0 : Int) ≤ atx19 ∧ atx19 < ((placesl21 : Nat) : Int) ∧ ∃ b26 : Nat, ∃ o27 : Nat, (placesa20 : Option Addr) = some ⟨b26, o27, none⟩ ∧ truly true ∧ ∃ T28 : TypeId, ∃ l29 : List Value, bk h6 b26 = some (blk T28 l29) ∧
  (o27 + atx19.toNat * 1) + 1 ≤ l29.length ∧ ∀ h7 : Hp, h7 = upd h6 b26 T28 (writeAt l29 (o27 + atx19.toNat * 1) [.pointer (some ⟨(sz h), 0, none⟩)]) → cellAt h7 (sz h1) (0 + 0) = some (.int .i64 x24) ∧
  cellAt h7 (sz h1) (0 + 1) = some (.int .i64 x25) ∧ ∃ r30 : Nat, ∃ es31 : List MapEntry, ∃ c32 : Nat, ∃ q33 : Option (Nat × Value), index23 = some r30 ∧ bk h7 r30 = some (.map ⟨es31⟩ c32) ∧ lookM true [.int .i64, .int .i64] [.int .i64 x24, .int .i64 x25] es31 0 = some q33 ∧
  ∀ h8 : Hp, h8 = updO h7 r30 (.map ⟨(entM es31 c32 q33 (.agg #[.int .i64 x24, .int .i64 x25]) (.int .i64 0)).1⟩ (entM es31 c32 q33 (.agg #[.int .i64 x24, .int .i64 x25]) (.int .i64 0)).2) → ∃ r34 : Nat, ∃ es35 : List MapEntry, ∃ c36 : Nat, ∃ i37 : Nat, index23 = some r34 ∧
  bk h8 r34 = some (.map ⟨es35⟩ c36) ∧ es35.findIdx? (fun e => (e.born : Int) == ((entS es31 c32 q33 : Nat) : Int)) = some i37 ∧ ∀ h9 : Hp, h9 = updO h8 r34 (.map ⟨es35.modify i37 fun e => { e with val := .int .i64 atx19 }⟩ c36) →
  R (.tuple #[]) h9
theorem tlb_Tlb_Fill.eq (p0tb p0to : Nat) (p1s_0 : Int) (p1s_1 : Int) (p1s_2 : Int) (p1s_3 : Bool) (p1s_4 : Bool) (h : Hp) (R : Value → Hp → Prop) : evBody Try.prog calls tlb_Tlb_Fill.hints Try.f29 [.ptr p0tb p0to, .agg [.int .i64 p1s_0, .int .i64 p1s_1, .int .i64 p1s_2, .bool p1s_3, .bool p1s_4]] h R = tlb_Tlb_Fill.P p0tb p0to p1s_0 p1s_1 p1s_2 p1s_3 p1s_4 h R := by kernel_rfl
theorem tlb_Tlb_Fill.calls (p0tb p0to : Nat) (p1s_0 : Int) (p1s_1 : Int) (p1s_2 : Int) (p1s_3 : Bool) (p1s_4 : Bool) (h : Hp) (R : Value → Hp → Prop) (hp : tlb_Tlb_Fill.P p0tb p0to p1s_0 p1s_1 p1s_2 p1s_3 p1s_4 h R) : CallsH Try.prog 29 [.pointer (some ⟨p0tb, p0to, none⟩), .agg #[.int .i64 p1s_0, .int .i64 p1s_1, .int .i64 p1s_2, .bool p1s_3, .bool p1s_4]] h R :=
  calls_of_body calls_ok Try.func29 (args := [.ptr p0tb p0to, .agg [.int .i64 p1s_0, .int .i64 p1s_1, .int .i64 p1s_2, .bool p1s_3, .bool p1s_4]]) (by rw [tlb_Tlb_Fill.eq]; exact hp)
/-! ### stage_Space_Log: function 30 -/
def stage_Space_Log.hints : Hints := { loops := [], cuts := [], orders := [] }
def stage_Space_Log.P (p0sb p0so : Nat) (h : Hp) (R : Value → Hp → Prop) : Prop :=
  ∃ loga1 : Option Addr, ∃ logl2 : Nat, ∃ logc3 : Nat, cellAt h p0sb (p0so + 6) = some (.slice loga1 logl2 logc3) ∧ CallsH Try.prog 82 [.slice loga1 logl2 logc3] h fun r4 h1 => ∃ Clonea5 : Option Addr, ∃ Clonel6 : Nat, ∃ Clonec7 : Nat, r4 = .slice Clonea5 Clonel6 Clonec7 ∧
  R (.slice Clonea5 Clonel6 Clonec7) h1
theorem stage_Space_Log.eq (p0sb p0so : Nat) (h : Hp) (R : Value → Hp → Prop) : evBody Try.prog calls stage_Space_Log.hints Try.f30 [.ptr p0sb p0so] h R = stage_Space_Log.P p0sb p0so h R := by kernel_rfl
theorem stage_Space_Log.calls (p0sb p0so : Nat) (h : Hp) (R : Value → Hp → Prop) (hp : stage_Space_Log.P p0sb p0so h R) : CallsH Try.prog 30 [.pointer (some ⟨p0sb, p0so, none⟩)] h R :=
  calls_of_body calls_ok Try.func30 (args := [.ptr p0sb p0so]) (by rw [stage_Space_Log.eq]; exact hp)
/-! ### phys_Mem_Differ: function 31 -/
def phys_Mem_Differ.hints : Hints := { loops := [(3, [0, 1, 17], [(5, (.one .slice)), (18, (.one (.int .i64)))])], cuts := [], orders := [(2, [0, 1, 3, 7, 15, 0, 32, 96, 224, 480, 1023, 0], (.leaf [0, 1, 2, 3, 4, 5, 6, 7, 8, 9, 10, 11])), (5, [0, 0, 3, 7, 15, 31, 31, 127, 255, 511, 1023, 2047, 4095, 8191, 16383, 2047, 65535, 131071, 2047, 264191, 788479, 1837055, 2047, 8128511, 16517119, 33554431, 67108863], (.leaf [0, 1, 2, 3, 4, 5, 6, 7, 8, 9, 10, 11, 12, 13, 14, 15, 16, 17, 18, 19, 20, 21, 22, 23, 24, 25, 26]))] }
def phys_Mem_Differ.P (p0mb p0mo : Nat) (p1ob p1oo : Nat) (h : Hp) (R : Value → Hp → Prop) : Prop :=
  ∃ framesa1 : Option Addr, ∃ framesl2 : Nat, ∃ framesc3 : Nat, cellAt h p0mb p0mo = some (.slice framesa1 framesl2 framesc3) ∧ ∃ framesa4 : Option Addr, ∃ framesl5 : Nat, ∃ framesc6 : Nat, cellAt h p1ob p1oo = some (.slice framesa4 framesl5 framesc6) ∧
  ∃ I7 : Option Addr → Nat → Nat → Int → Hp → Prop, ∃ m8 : Option Addr → Nat → Nat → Int → Hp → Nat, I7 none 0 0 0 h ∧ ∀ outa9 : Option Addr, ∀ outl10 : Nat, ∀ outc11 : Nat, ∀ x12 : Int, ∀ h1 : Hp, I7 outa9 outl10 outc11 x12 h1 →
  ((decide (x12 < (maxI ((framesl2 : Nat) : Int) ((framesl5 : Nat) : Int)))) = true → (CallsH Try.prog 83 [.pointer (some ⟨p0mb, p0mo, none⟩), .int .i64 x12] h1 fun r13 h2 => ∃ there14 : Bool, r13 = .bool there14 ∧
  ((!there14) = true → (∀ h3 : Hp, h3 = new h2 (blk 3 [.int .i64 x12]) → appendN h3 3 1 8 [.int .i64 0] outa9 outl10 outc11 (some ⟨sz h2, 0, none⟩) 1 fun a15 l16 c17 h4 => I7 a15 l16 c17 (IntKind.wrap .i64 (x12 + 1)) h4 ∧
  m8 a15 l16 c17 (IntKind.wrap .i64 (x12 + 1)) h4 < m8 outa9 outl10 outc11 x12 h1)) ∧ ((!there14) = false → (CallsH Try.prog 83 [.pointer (some ⟨p1ob, p1oo, none⟩), .int .i64 x12] h2 fun r18 h5 => ∃ there19 : Bool, r18 = .bool there19 ∧
  ((!there19) = true → (∀ h6 : Hp, h6 = new h5 (blk 3 [.int .i64 x12]) → appendN h6 3 1 8 [.int .i64 0] outa9 outl10 outc11 (some ⟨sz h5, 0, none⟩) 1 fun a20 l21 c22 h7 => I7 a20 l21 c22 (IntKind.wrap .i64 (x12 + 1)) h7 ∧
  m8 a20 l21 c22 (IntKind.wrap .i64 (x12 + 1)) h7 < m8 outa9 outl10 outc11 x12 h1)) ∧ ((!there19) = false → (∃ framesa23 : Option Addr, ∃ framesl24 : Nat, ∃ framesc25 : Nat, cellAt h5 p0mb p0mo = some (.slice framesa23 framesl24 framesc25) ∧
  (0 : Int) ≤ x12 ∧ x12 < ((framesl24 : Nat) : Int) ∧ ∃ b26 : Nat, ∃ o27 : Nat, (framesa23 : Option Addr) = some ⟨b26, o27, none⟩ ∧ ∃ x28 : List Value, x28.length = 256 ∧ readAt h5 b26 (o27 + x12.toNat * 256) x28 ∧
  ∃ framesa29 : Option Addr, ∃ framesl30 : Nat, ∃ framesc31 : Nat, cellAt h5 p1ob p1oo = some (.slice framesa29 framesl30 framesc31) ∧ (0 : Int) ≤ x12 ∧ x12 < ((framesl30 : Nat) : Int) ∧ ∃ b32 : Nat, ∃ o33 : Nat, (framesa29 : Option Addr) = some ⟨b32, o33, none⟩ ∧
  ∃ x34 : List Value, x34.length = 256 ∧ readAt h5 b32 (o33 + x12.toNat * 256) x34 ∧ ∃ us35 vs36 : List Int, us35.length = 256 ∧ vs36.length = 256 ∧ x28 = us35.map (Value.int .u8) ∧ x34 = vs36.map (Value.int .u8) ∧
  ((notIf false (us35 == vs36)) = true → (∀ h8 : Hp, h8 = new h5 (blk 3 [.int .i64 x12]) → appendN h8 3 1 8 [.int .i64 0] outa9 outl10 outc11 (some ⟨sz h5, 0, none⟩) 1 fun a37 l38 c39 h9 => I7 a37 l38 c39 (IntKind.wrap .i64 (x12 + 1)) h9 ∧
  m8 a37 l38 c39 (IntKind.wrap .i64 (x12 + 1)) h9 < m8 outa9 outl10 outc11 x12 h1)) ∧ ((notIf false (us35 == vs36)) = false → (I7 outa9 outl10 outc11 (IntKind.wrap .i64 (x12 + 1)) h5 ∧ m8 outa9 outl10 outc11 (IntKind.wrap .i64 (x12 + 1)) h5 < m8 outa9 outl10 outc11 x12 h1)))))))) ∧
  ((decide (x12 < (maxI ((framesl2 : Nat) : Int) ((framesl5 : Nat) : Int)))) = false → (R (.slice outa9 outl10 outc11) h1))
theorem phys_Mem_Differ.eq (p0mb p0mo : Nat) (p1ob p1oo : Nat) (h : Hp) (R : Value → Hp → Prop) : evBody Try.prog calls phys_Mem_Differ.hints Try.f31 [.ptr p0mb p0mo, .ptr p1ob p1oo] h R = phys_Mem_Differ.P p0mb p0mo p1ob p1oo h R := by kernel_rfl
theorem phys_Mem_Differ.calls (p0mb p0mo : Nat) (p1ob p1oo : Nat) (h : Hp) (R : Value → Hp → Prop) (hp : phys_Mem_Differ.P p0mb p0mo p1ob p1oo h R) : CallsH Try.prog 31 [.pointer (some ⟨p0mb, p0mo, none⟩), .pointer (some ⟨p1ob, p1oo, none⟩)] h R :=
  calls_of_body calls_ok Try.func31 (args := [.ptr p0mb p0mo, .ptr p1ob p1oo]) (by rw [phys_Mem_Differ.eq]; exact hp)
/-! ### warderlaw11_taken: function 32 -/
def warderlaw11_taken.hints : Hints := { loops := [(1, [0, 1, 2], [(6, (.one (.int .i64)))]), (5, [0, 1, 2, 6], [(7, (.one .bool)), (8, (.one (.int .i64)))])], cuts := [], orders := [(7, [0, 1, 3, 3, 15, 31, 3, 3, 195, 451, 1023, 2047, 4095], (.leaf [0, 1, 2, 3, 4, 5, 6, 7, 8, 9, 10, 11, 12]))] }
def warderlaw11_taken.P (p0mb p0mo : Nat) (p1olda : Option Addr) (p1oldl : Nat) (p1oldc : Nat) (p2nowa : Option Addr) (p2nowl : Nat) (p2nowc : Nat) (h : Hp) (R : Value → Hp → Prop) : Prop :=
  ∃ I1 : Int → Hp → Prop, ∃ m2 : Int → Hp → Nat, I1 0 h ∧ ∀ i3 : Int, ∀ h1 : Hp, I1 i3 h1 → ((decide (i3 < ((p2nowl : Nat) : Int))) = true → (∃ I4 : Bool → Int → Hp → Prop, ∃ m5 : Bool → Int → Hp → Nat, I4 false 0 h1 ∧
  ∀ was6 : Bool, ∀ k7 : Int, ∀ h2 : Hp, I4 was6 k7 h2 → ((decide (k7 < ((p1oldl : Nat) : Int))) = true → (((was6) = true → (I4 true (IntKind.wrap .i64 (k7 + 1)) h2 ∧ m5 true (IntKind.wrap .i64 (k7 + 1)) h2 < m5 was6 k7 h2)) ∧
  ((was6) = false → ((0 : Int) ≤ k7 ∧ k7 < ((p1oldl : Nat) : Int) ∧ ∃ b8 : Nat, ∃ o9 : Nat, (p1olda : Option Addr) = some ⟨b8, o9, none⟩ ∧ ∃ x10 : Int, cellAt h2 b8 (o9 + k7.toNat * 1) = some (.int .i64 x10) ∧
  (0 : Int) ≤ i3 ∧ i3 < ((p2nowl : Nat) : Int) ∧ ∃ b11 : Nat, ∃ o12 : Nat, (p2nowa : Option Addr) = some ⟨b11, o12, none⟩ ∧ ∃ x13 : Int, cellAt h2 b11 (o12 + i3.toNat * 1) = some (.int .i64 x13) ∧ I4 (x10 == x13) (IntKind.wrap .i64 (k7 + 1)) h2 ∧
  m5 (x10 == x13) (IntKind.wrap .i64 (k7 + 1)) h2 < m5 was6 k7 h2)))) ∧ ((decide (k7 < ((p1oldl : Nat) : Int))) = false → (((!was6) = true → ((0 : Int) ≤ i3 ∧ i3 < ((p2nowl : Nat) : Int) ∧ ∃ b14 : Nat, ∃ o15 : Nat, (p2nowa : Option Addr) = some ⟨b14, o15, none⟩ ∧
  ∃ x16 : Int, cellAt h2 b14 (o15 + i3.toNat * 1) = some (.int .i64 x16) ∧ CallsH Try.prog 84 [.pointer (some ⟨p0mb, p0mo, none⟩), .int .i64 x16, .slice none 0 0] h2 fun r17 h3 => ∃ Fill18 : Int, r17 = .int .i64 Fill18 ∧
  I1 (IntKind.wrap .i64 (i3 + 1)) h3 ∧ m2 (IntKind.wrap .i64 (i3 + 1)) h3 < m2 i3 h1)) ∧ ((!was6) = false → (I1 (IntKind.wrap .i64 (i3 + 1)) h2 ∧ m2 (IntKind.wrap .i64 (i3 + 1)) h2 < m2 i3 h1)))))) ∧ ((decide (i3 < ((p2nowl : Nat) : Int))) = false →
  (R (.tuple #[]) h1))
theorem warderlaw11_taken.eq (p0mb p0mo : Nat) (p1olda : Option Addr) (p1oldl : Nat) (p1oldc : Nat) (p2nowa : Option Addr) (p2nowl : Nat) (p2nowc : Nat) (h : Hp) (R : Value → Hp → Prop) : evBody Try.prog calls warderlaw11_taken.hints Try.f32 [.ptr p0mb p0mo, .slice p1olda p1oldl p1oldc, .slice p2nowa p2nowl p2nowc] h R = warderlaw11_taken.P p0mb p0mo p1olda p1oldl p1oldc p2nowa p2nowl p2nowc h R := by kernel_rfl
theorem warderlaw11_taken.calls (p0mb p0mo : Nat) (p1olda : Option Addr) (p1oldl : Nat) (p1oldc : Nat) (p2nowa : Option Addr) (p2nowl : Nat) (p2nowc : Nat) (h : Hp) (R : Value → Hp → Prop) (hp : warderlaw11_taken.P p0mb p0mo p1olda p1oldl p1oldc p2nowa p2nowl p2nowc h R) : CallsH Try.prog 32 [.pointer (some ⟨p0mb, p0mo, none⟩), .slice p1olda p1oldl p1oldc, .slice p2nowa p2nowl p2nowc] h R :=
  calls_of_body calls_ok Try.func32 (args := [.ptr p0mb p0mo, .slice p1olda p1oldl p1oldc, .slice p2nowa p2nowl p2nowc]) (by rw [warderlaw11_taken.eq]; exact hp)
/-! ### warderlaw11_replay: function 33 -/
def warderlaw11_replay.hints : Hints := { loops := [(3, [0, 1], [(5, (.one .map)), (6, (.one (.int .i64)))])], cuts := [(10, [0, 1, 5, 6, 7], []), (12, [0, 1, 5, 6], [])], orders := [(12, [0, 0, 0, 6, 14, 30, 0, 0, 192, 448, 960, 2047], (.leaf [0, 1, 2, 3, 4, 5, 6, 7, 8, 9, 10, 11]))] }
def warderlaw11_replay.P (p0mb p0mo : Nat) (p1la : Option Addr) (p1ll : Nat) (p1lc : Nat) (h : Hp) (R : Value → Hp → Prop) : Prop :=
  ∀ h1 : Hp, h1 = new h (.map ⟨[]⟩ 0) → ∃ I1 : Option Nat → Int → Hp → Prop, ∃ m2 : Option Nat → Int → Hp → Nat, I1 (some (sz h)) 0 h1 ∧ ∀ broken3 : Option Nat, ∀ i4 : Int, ∀ h2 : Hp, I1 broken3 i4 h2 →
  ((decide (i4 < ((p1ll : Nat) : Int))) = true → ((0 : Int) ≤ i4 ∧ i4 < ((p1ll : Nat) : Int) ∧ ∃ b5 : Nat, ∃ o6 : Nat, (p1la : Option Addr) = some ⟨b5, o6, none⟩ ∧ ∃ Kind7 : Int, cellAt h2 b5 (o6 + i4.toNat * 3) = some (.int .i64 Kind7) ∧
  ((Kind7 == 2) = true → (∀ h3 : Hp, h3 = new h2 (.map ⟨[]⟩ 0) → I1 (some (sz h2)) (IntKind.wrap .i64 (i4 + 1)) h3 ∧ m2 (some (sz h2)) (IntKind.wrap .i64 (i4 + 1)) h3 < m2 broken3 i4 h2)) ∧ ((Kind7 == 2) = false →
  ((0 : Int) ≤ i4 ∧ i4 < ((p1ll : Nat) : Int) ∧ ∃ b8 : Nat, ∃ o9 : Nat, (p1la : Option Addr) = some ⟨b8, o9, none⟩ ∧ ∃ Addr10 : Int, cellAt h2 b8 (o9 + i4.toNat * 3 + 1) = some (.int .u32 Addr10) ∧ CallsH Try.prog 85 [.pointer (some ⟨p0mb, p0mo, none⟩), .int .u32 Addr10] h2 fun r11 h4 => ∃ Word12 : Int, ∃ Word13 : Bool, r11 = .tuple #[.int .u32 Word12, .bool Word13] ∧
  ∃ I14 : Hp → Prop, ((0 : Int) ≤ i4 ∧ i4 < ((p1ll : Nat) : Int) ∧ ∃ b15 : Nat, ∃ o16 : Nat, (p1la : Option Addr) = some ⟨b15, o16, none⟩ ∧ ∃ Kind17 : Int, cellAt h4 b15 (o16 + i4.toNat * 3) = some (.int .i64 Kind17) ∧
  ((Kind17 != 1) = true → (R (.bool false) h4)) ∧ ((Kind17 != 1) = false → (((!Word13) = true → (R (.bool false) h4)) ∧ ((!Word13) = false → (CallsH Try.prog 86 [.int .u32 Word12] h4 fun r18 h5 => ∃ Decode19 : Bool, ∃ Decode20 : Bool, ∃ Decode21 : Bool, ∃ Decode22 : Bool, ∃ Decode23 : Int, r18 = .agg #[.bool Decode19, .bool Decode20, .bool Decode21, .bool Decode22, .int .i64 Decode23] ∧
  ((Decode19) = true → ((0 : Int) ≤ i4 ∧ i4 < ((p1ll : Nat) : Int) ∧ ∃ b24 : Nat, ∃ o25 : Nat, (p1la : Option Addr) = some ⟨b24, o25, none⟩ ∧ ∃ Value26 : Int, cellAt h5 b24 (o25 + i4.toNat * 3 + 2) = some (.int .u32 Value26) ∧
  ((Value26 != 0) = true → (R (.bool false) h5)) ∧ ((Value26 != 0) = false → ((0 : Int) ≤ i4 ∧ i4 < ((p1ll : Nat) : Int) ∧ ∃ b27 : Nat, ∃ o28 : Nat, (p1la : Option Addr) = some ⟨b27, o28, none⟩ ∧ ∃ Addr29 : Int, cellAt h5 b27 (o28 + i4.toNat * 3 + 1) = some (.int .u32 Addr29) ∧
  ∃ q30 : Option Value, lookIs false [.int .u32] h5 broken3 [.int .u32 Addr29] q30 ∧ ∃ x31 : Int, .int .i64 x31 = q30.getD (.int .i64 0) ∧ ((decide (x31 > 0)) = true → ((0 : Int) ≤ i4 ∧ i4 < ((p1ll : Nat) : Int) ∧
  ∃ b32 : Nat, ∃ o33 : Nat, (p1la : Option Addr) = some ⟨b32, o33, none⟩ ∧ ∃ Value34 : Int, cellAt h5 b32 (o33 + i4.toNat * 3 + 2) = some (.int .u32 Value34) ∧ ((Value34 != 0) = true → (R (.bool false) h5)) ∧
  ((Value34 != 0) = false → (I14 h5)))) ∧ ((decide (x31 > 0)) = false → (I14 h5)))))) ∧ ((Decode19) = false → ((0 : Int) ≤ i4 ∧ i4 < ((p1ll : Nat) : Int) ∧ ∃ b35 : Nat, ∃ o36 : Nat, (p1la : Option Addr) = some ⟨b35, o36, none⟩ ∧
  ∃ Addr37 : Int, cellAt h5 b35 (o36 + i4.toNat * 3 + 1) = some (.int .u32 Addr37) ∧ ∃ q38 : Option Value, lookIs false [.int .u32] h5 broken3 [.int .u32 Addr37] q38 ∧ ∃ x39 : Int, .int .i64 x39 = q38.getD (.int .i64 0) ∧
  ((decide (x39 > 0)) = true → ((0 : Int) ≤ i4 ∧ i4 < ((p1ll : Nat) : Int) ∧ ∃ b40 : Nat, ∃ o41 : Nat, (p1la : Option Addr) = some ⟨b40, o41, none⟩ ∧ ∃ Value42 : Int, cellAt h5 b40 (o41 + i4.toNat * 3 + 2) = some (.int .u32 Value42) ∧
  ((Value42 != 0) = true → (R (.bool false) h5)) ∧ ((Value42 != 0) = false → (I14 h5)))) ∧ ((decide (x39 > 0)) = false → (I14 h5))))))))) ∧ ∀ h6 : Hp, I14 h6 → ∃ I43 : Hp → Prop, (CallsH Try.prog 86 [.int .u32 Word12] h6 fun r44 h7 => ∃ Decode45 : Bool, ∃ Decode46 : Bool, ∃ Decode47 : Bool, ∃ Decode48 : Bool, ∃ Decode49 : Int, r44 = .agg #[.bool Decode45, .bool Decode46, .bool Decode47, .bool Decode48, .int .i64 Decode49] ∧
  ((Decode45) = true → ((0 : Int) ≤ i4 ∧ i4 < ((p1ll : Nat) : Int) ∧ ∃ b50 : Nat, ∃ o51 : Nat, (p1la : Option Addr) = some ⟨b50, o51, none⟩ ∧ ∃ Addr52 : Int, cellAt h7 b50 (o51 + i4.toNat * 3 + 1) = some (.int .u32 Addr52) ∧
  ∃ q53 : Option Value, lookIs false [.int .u32] h7 broken3 [.int .u32 Addr52] q53 ∧ ∃ x54 : Int, .int .i64 x54 = q53.getD (.int .i64 0) ∧ ∃ r55 : Nat, ∃ es56 : List MapEntry, ∃ c57 : Nat, ∃ q58 : Option (Nat × Value), broken3 = some r55 ∧
  bk h7 r55 = some (.map ⟨es56⟩ c57) ∧ lookM false [.int .u32] [.int .u32 Addr52] es56 0 = some q58 ∧ ∀ h8 : Hp, h8 = updO h7 r55 (.map ⟨(putM es56 c57 q58 (.int .u32 Addr52) (.int .i64 (IntKind.wrap .i64 (x54 + 1)))).1⟩ (putM es56 c57 q58 (.int .u32 Addr52) (.int .i64 (IntKind.wrap .i64 (x54 + 1)))).2) →
  I43 h8)) ∧ ((Decode45) = false → (I43 h7))) ∧ ∀ h9 : Hp, I43 h9 → (0 : Int) ≤ i4 ∧ i4 < ((p1ll : Nat) : Int) ∧ ∃ b59 : Nat, ∃ o60 : Nat, (p1la : Option Addr) = some ⟨b59, o60, none⟩ ∧ ∃ Addr61 : Int, cellAt h9 b59 (o60 + i4.toNat * 3 + 1) = some (.int .u32 Addr61) ∧
  (0 : Int) ≤ i4 ∧ i4 < ((p1ll : Nat) : Int) ∧ ∃ b62 : Nat, ∃ o63 : Nat, (p1la : Option Addr) = some ⟨b62, o63, none⟩ ∧ ∃ Value64 : Int, cellAt h9 b62 (o63 + i4.toNat * 3 + 2) = some (.int .u32 Value64) ∧
  CallsH Try.prog 87 [.pointer (some ⟨p0mb, p0mo, none⟩), .int .u32 Addr61, .int .u32 Value64] h9 fun r65 h10 => ∃ PutWord66 : Bool, r65 = .bool PutWord66 ∧ I1 broken3 (IntKind.wrap .i64 (i4 + 1)) h10 ∧
  m2 broken3 (IntKind.wrap .i64 (i4 + 1)) h10 < m2 broken3 i4 h2)))) ∧ ((decide (i4 < ((p1ll : Nat) : Int))) = false → (∃ n67 : Nat, mapLenIs h2 broken3 n67 ∧ R (.bool (((n67 : Nat) : Int) == 0)) h2))
theorem warderlaw11_replay.eq (p0mb p0mo : Nat) (p1la : Option Addr) (p1ll : Nat) (p1lc : Nat) (h : Hp) (R : Value → Hp → Prop) : evBody Try.prog calls warderlaw11_replay.hints Try.f33 [.ptr p0mb p0mo, .slice p1la p1ll p1lc] h R = warderlaw11_replay.P p0mb p0mo p1la p1ll p1lc h R := by kernel_rfl
theorem warderlaw11_replay.calls (p0mb p0mo : Nat) (p1la : Option Addr) (p1ll : Nat) (p1lc : Nat) (h : Hp) (R : Value → Hp → Prop) (hp : warderlaw11_replay.P p0mb p0mo p1la p1ll p1lc h R) : CallsH Try.prog 33 [.pointer (some ⟨p0mb, p0mo, none⟩), .slice p1la p1ll p1lc] h R :=
  calls_of_body calls_ok Try.func33 (args := [.ptr p0mb p0mo, .slice p1la p1ll p1lc]) (by rw [warderlaw11_replay.eq]; exact hp)
/-! ### tlb_Tlb_Find: function 34 -/
def tlb_Tlb_Find.hints : Hints := { loops := [], cuts := [], orders := [] }
def tlb_Tlb_Find.P (p0tb p0to : Nat) (p1vmid : Int) (p2page : Int) (h : Hp) (R : Value → Hp → Prop) : Prop :=
  ∀ h1 : Hp, h1 = new h (blk 64 [.int .i64 0, .int .i64 0, .int .i64 0, .bool false, .bool false]) → ∃ index1 : Option Nat, cellAt h1 p0tb (p0to + 1) = some (.map index1) ∧ ∃ q2 : Option Value, lookIs true [.int .i64, .int .i64] h1 index1 [.int .i64 p1vmid, .int .i64 p2page] q2 ∧
  ∃ x3 : Int, .int .i64 x3 = q2.getD (.int .i64 0) ∧ ((!q2.isSome) = true → (truly true ∧ ∃ T4 : TypeId, ∃ l5 : List Value, bk h1 (sz h) = some (blk T4 l5) ∧ 0 + 5 ≤ l5.length ∧ ∀ h2 : Hp, h2 = upd h1 (sz h) T4 (writeAt l5 0 [.int .i64 0, .int .i64 0, .int .i64 0, .bool false, .bool false]) →
  ∃ res6 : Int, cellAt h2 (sz h) (0 + 0) = some (.int .i64 res6) ∧ ∃ res7 : Int, cellAt h2 (sz h) (0 + 1) = some (.int .i64 res7) ∧ ∃ res8 : Int, cellAt h2 (sz h) (0 + 2) = some (.int .i64 res8) ∧ ∃ res9 : Bool, cellAt h2 (sz h) (0 + 3) = some (.bool res9) ∧
  ∃ res10 : Bool, cellAt h2 (sz h) (0 + 4) = some (.bool res10) ∧ R (.tuple #[.agg #[.int .i64 res6, .int .i64 res7, .int .i64 res8, .bool res9, .bool res10], .bool false]) h2)) ∧ ((!q2.isSome) = false →
  (∃ placesa11 : Option Addr, ∃ placesl12 : Nat, ∃ placesc13 : Nat, cellAt h1 p0tb p0to = some (.slice placesa11 placesl12 placesc13) ∧ (0 : Int) ≤ x3 ∧ x3 < ((placesl12 : Nat) : Int) ∧ ∃ b14 : Nat, ∃ o15 : Nat, (placesa11 : Option Addr) = some ⟨b14, o15, none⟩ ∧
  ∃ x16 : Option Addr, cellAt h1 b14 (o15 + x3.toNat * 1) = some (.pointer x16) ∧ ∃ b17 : Nat, ∃ o18 : Nat, x16 = some ⟨b17, o18, none⟩ ∧ ∃ x19 : Int, cellAt h1 b17 (o18 + 0) = some (.int .i64 x19) ∧ ∃ x20 : Int, cellAt h1 b17 (o18 + 1) = some (.int .i64 x20) ∧
  ∃ x21 : Int, cellAt h1 b17 (o18 + 2) = some (.int .i64 x21) ∧ ∃ x22 : Bool, cellAt h1 b17 (o18 + 3) = some (.bool x22) ∧ ∃ x23 : Bool, cellAt h1 b17 (o18 + 4) = some (.bool x23) ∧ truly true ∧ ∃ T24 : TypeId, ∃ l25 : List Value, bk h1 (sz h) = some (blk T24 l25) ∧
  0 + 5 ≤ l25.length ∧ ∀ h3 : Hp, h3 = upd h1 (sz h) T24 (writeAt l25 0 [.int .i64 x19, .int .i64 x20, .int .i64 x21, .bool x22, .bool x23]) → ∃ res26 : Int, cellAt h3 (sz h) (0 + 0) = some (.int .i64 res26) ∧
  ∃ res27 : Int, cellAt h3 (sz h) (0 + 1) = some (.int .i64 res27) ∧ ∃ res28 : Int, cellAt h3 (sz h) (0 + 2) = some (.int .i64 res28) ∧ ∃ res29 : Bool, cellAt h3 (sz h) (0 + 3) = some (.bool res29) ∧ ∃ res30 : Bool, cellAt h3 (sz h) (0 + 4) = some (.bool res30) ∧
  R (.tuple #[.agg #[.int .i64 res26, .int .i64 res27, .int .i64 res28, .bool res29, .bool res30], .bool true]) h3))
theorem tlb_Tlb_Find.eq (p0tb p0to : Nat) (p1vmid : Int) (p2page : Int) (h : Hp) (R : Value → Hp → Prop) : evBody Try.prog calls tlb_Tlb_Find.hints Try.f34 [.ptr p0tb p0to, .int .i64 p1vmid, .int .i64 p2page] h R = tlb_Tlb_Find.P p0tb p0to p1vmid p2page h R := by kernel_rfl
theorem tlb_Tlb_Find.calls (p0tb p0to : Nat) (p1vmid : Int) (p2page : Int) (h : Hp) (R : Value → Hp → Prop) (hp : tlb_Tlb_Find.P p0tb p0to p1vmid p2page h R) : CallsH Try.prog 34 [.pointer (some ⟨p0tb, p0to, none⟩), .int .i64 p1vmid, .int .i64 p2page] h R :=
  calls_of_body calls_ok Try.func34 (args := [.ptr p0tb p0to, .int .i64 p1vmid, .int .i64 p2page]) (by rw [tlb_Tlb_Find.eq]; exact hp)
/-! ### stage_New: function 35 -/
def stage_New.hints : Hints := { loops := [], cuts := [], orders := [(5, [0, 0, 2, 7, 15, 31], (.leaf [0, 1, 2, 3, 4, 5]))] }
def stage_New.P (p0mb p0mo : Nat) (p1tb p1to : Nat) (p2cb p2co : Nat) (p3vmid : Int) (h : Hp) (R : Value → Hp → Prop) : Prop :=
  ∀ h1 : Hp, h1 = new h (blk 34 [.pointer none]) → ∀ h2 : Hp, h2 = new h1 (blk 29 [.int .i64 0]) → ((decide (p3vmid < 1)) = true → (truly true ∧ ∃ T1 : TypeId, ∃ l2 : List Value, bk h2 (sz h) = some (blk T1 l2) ∧
  0 + 1 ≤ l2.length ∧ ∀ h3 : Hp, h3 = upd h2 (sz h) T1 (writeAt l2 0 [.pointer none]) → truly true ∧ ∃ T3 : TypeId, ∃ l4 : List Value, bk h3 (sz h1) = some (blk T3 l4) ∧ 0 + 1 ≤ l4.length ∧ ∀ h4 : Hp, h4 = upd h3 (sz h1) T3 (writeAt l4 0 [.int .i64 11]) →
  ∃ res5 : Option Addr, cellAt h4 (sz h) 0 = some (.pointer res5) ∧ ∃ res6 : Int, cellAt h4 (sz h1) 0 = some (.int .i64 res6) ∧ R (.tuple #[.pointer res5, .int .i64 res6]) h4)) ∧ ((decide (p3vmid < 1)) = false →
  (((decide (p3vmid > 255)) = true → (truly true ∧ ∃ T7 : TypeId, ∃ l8 : List Value, bk h2 (sz h) = some (blk T7 l8) ∧ 0 + 1 ≤ l8.length ∧ ∀ h5 : Hp, h5 = upd h2 (sz h) T7 (writeAt l8 0 [.pointer none]) →
  truly true ∧ ∃ T9 : TypeId, ∃ l10 : List Value, bk h5 (sz h1) = some (blk T9 l10) ∧ 0 + 1 ≤ l10.length ∧ ∀ h6 : Hp, h6 = upd h5 (sz h1) T9 (writeAt l10 0 [.int .i64 11]) → ∃ res11 : Option Addr, cellAt h6 (sz h) 0 = some (.pointer res11) ∧
  ∃ res12 : Int, cellAt h6 (sz h1) 0 = some (.int .i64 res12) ∧ R (.tuple #[.pointer res11, .int .i64 res12]) h6)) ∧ ((decide (p3vmid > 255)) = false → (∀ h7 : Hp, h7 = new h2 (blk 89 [.pointer (some ⟨p0mb, p0mo, none⟩), .pointer (some ⟨p1tb, p1to, none⟩), .pointer (some ⟨p2cb, p2co, none⟩), .int .i64 p3vmid, .int .i64 0, .bool false, .slice none 0 0]) →
  truly true ∧ ∃ T13 : TypeId, ∃ l14 : List Value, bk h7 (sz h) = some (blk T13 l14) ∧ 0 + 1 ≤ l14.length ∧ ∀ h8 : Hp, h8 = upd h7 (sz h) T13 (writeAt l14 0 [.pointer (some ⟨(sz h2), 0, none⟩)]) → ∃ x15 : Option Addr, cellAt h8 (sz h) 0 = some (.pointer x15) ∧
  ∃ x16 : Option Addr, cellAt h8 (sz h) 0 = some (.pointer x16) ∧ CallsX Try.prog 54 [.pointer x16] h8 (fun r17 h9 => ∃ table19 : Int, r17 = .int .i64 table19 ∧ cellAt h9 (sz h) 0 = some (.pointer x15) ∧
  ∃ b20 : Nat, ∃ o21 : Nat, x15 = some ⟨b20, o21, none⟩ ∧ truly true ∧ ∃ T22 : TypeId, ∃ l23 : List Value, bk h9 b20 = some (blk T22 l23) ∧ (o21 + 4) + 1 ≤ l23.length ∧ ∀ h11 : Hp, h11 = upd h9 b20 T22 (writeAt l23 (o21 + 4) [.int .i64 table19]) →
  ∃ x24 : Option Addr, cellAt h11 (sz h) 0 = some (.pointer x24) ∧ truly true ∧ ∃ T25 : TypeId, ∃ l26 : List Value, bk h11 (sz h) = some (blk T25 l26) ∧ 0 + 1 ≤ l26.length ∧ ∀ h12 : Hp, h12 = upd h11 (sz h) T25 (writeAt l26 0 [.pointer x24]) →
  truly true ∧ ∃ T27 : TypeId, ∃ l28 : List Value, bk h12 (sz h1) = some (blk T27 l28) ∧ 0 + 1 ≤ l28.length ∧ ∀ h13 : Hp, h13 = upd h12 (sz h1) T27 (writeAt l28 0 [.int .i64 0]) → CallsDH Try.prog 88 [.pointer (some ⟨(sz h1), 0, none⟩), .pointer (some ⟨(sz h), 0, none⟩)] none h13 fun h14 => ∃ res29 : Option Addr, cellAt h14 (sz h) 0 = some (.pointer res29) ∧
  ∃ res30 : Int, cellAt h14 (sz h1) 0 = some (.int .i64 res30) ∧ R (.tuple #[.pointer res29, .int .i64 res30]) h14) (fun px18 h10 => CallsDH Try.prog 88 [.pointer (some ⟨(sz h1), 0, none⟩), .pointer (some ⟨(sz h), 0, none⟩)] (some px18) h10 fun h15 => ∃ res31 : Option Addr, cellAt h15 (sz h) 0 = some (.pointer res31) ∧
  ∃ res32 : Int, cellAt h15 (sz h1) 0 = some (.int .i64 res32) ∧ R (.tuple #[.pointer res31, .int .i64 res32]) h15)))))
theorem stage_New.eq (p0mb p0mo : Nat) (p1tb p1to : Nat) (p2cb p2co : Nat) (p3vmid : Int) (h : Hp) (R : Value → Hp → Prop) : evBodyD Try.prog calls stage_New.hints Try.f35 [.ptr p0mb p0mo, .ptr p1tb p1to, .ptr p2cb p2co, .int .i64 p3vmid] h R = stage_New.P p0mb p0mo p1tb p1to p2cb p2co p3vmid h R := by kernel_rfl
theorem stage_New.calls (p0mb p0mo : Nat) (p1tb p1to : Nat) (p2cb p2co : Nat) (p3vmid : Int) (h : Hp) (R : Value → Hp → Prop) (hp : stage_New.P p0mb p0mo p1tb p1to p2cb p2co p3vmid h R) : CallsH Try.prog 35 [.pointer (some ⟨p0mb, p0mo, none⟩), .pointer (some ⟨p1tb, p1to, none⟩), .pointer (some ⟨p2cb, p2co, none⟩), .int .i64 p3vmid] h R :=
  calls_of_bodyD calls_ok Try.func35 (args := [.ptr p0mb p0mo, .ptr p1tb p1to, .ptr p2cb p2co, .int .i64 p3vmid]) (by rw [stage_New.eq]; exact hp)
/-! ### frames_Table_Owner: function 36 -/
def frames_Table_Owner.hints : Hints := { loops := [], cuts := [], orders := [] }
def frames_Table_Owner.P (p0tb p0to : Nat) (p1frame : Int) (h : Hp) (R : Value → Hp → Prop) : Prop :=
  CallsH Try.prog 90 [.pointer (some ⟨p0tb, p0to, none⟩), .int .i64 p1frame] h fun r1 h1 => ∃ there2 : Bool, r1 = .bool there2 ∧ ((!there2) = true → (R (.int .i64 (-1)) h1)) ∧ ((!there2) = false → (∃ ownersa3 : Option Addr, ∃ ownersl4 : Nat, ∃ ownersc5 : Nat, cellAt h1 p0tb p0to = some (.slice ownersa3 ownersl4 ownersc5) ∧
  (0 : Int) ≤ p1frame ∧ p1frame < ((ownersl4 : Nat) : Int) ∧ ∃ b6 : Nat, ∃ o7 : Nat, (ownersa3 : Option Addr) = some ⟨b6, o7, none⟩ ∧ ∃ x8 : Int, cellAt h1 b6 (o7 + p1frame.toNat * 1) = some (.int .i64 x8) ∧
  R (.int .i64 x8) h1))
theorem frames_Table_Owner.eq (p0tb p0to : Nat) (p1frame : Int) (h : Hp) (R : Value → Hp → Prop) : evBody Try.prog calls frames_Table_Owner.hints Try.f36 [.ptr p0tb p0to, .int .i64 p1frame] h R = frames_Table_Owner.P p0tb p0to p1frame h R := by kernel_rfl
theorem frames_Table_Owner.calls (p0tb p0to : Nat) (p1frame : Int) (h : Hp) (R : Value → Hp → Prop) (hp : frames_Table_Owner.P p0tb p0to p1frame h R) : CallsH Try.prog 36 [.pointer (some ⟨p0tb, p0to, none⟩), .int .i64 p1frame] h R :=
  calls_of_body calls_ok Try.func36 (args := [.ptr p0tb p0to, .int .i64 p1frame]) (by rw [frames_Table_Owner.eq]; exact hp)
/-! ### warderref00_SameInts: function 37 -/
def warderref00_SameInts.hints : Hints := { loops := [(4, [0, 1], [(5, (.one (.int .i64)))])], cuts := [], orders := [(6, [0, 0, 3, 7, 0, 0, 48, 112, 255], (.leaf [0, 1, 2, 3, 4, 5, 6, 7, 8]))] }
def warderref00_SameInts.P (p0aa : Option Addr) (p0al : Nat) (p0ac : Nat) (p1ba : Option Addr) (p1bl : Nat) (p1bc : Nat) (h : Hp) (R : Value → Hp → Prop) : Prop :=
  ((((p0al : Nat) : Int) != ((p1bl : Nat) : Int)) = true → (R (.bool false) h)) ∧ ((((p0al : Nat) : Int) != ((p1bl : Nat) : Int)) = false → (∃ I1 : Int → Hp → Prop, ∃ m2 : Int → Hp → Nat, I1 0 h ∧ ∀ i3 : Int, ∀ h1 : Hp, I1 i3 h1 →
  ((decide (i3 < ((p0al : Nat) : Int))) = true → ((0 : Int) ≤ i3 ∧ i3 < ((p0al : Nat) : Int) ∧ ∃ b4 : Nat, ∃ o5 : Nat, (p0aa : Option Addr) = some ⟨b4, o5, none⟩ ∧ ∃ x6 : Int, cellAt h1 b4 (o5 + i3.toNat * 1) = some (.int .i64 x6) ∧
  (0 : Int) ≤ i3 ∧ i3 < ((p1bl : Nat) : Int) ∧ ∃ b7 : Nat, ∃ o8 : Nat, (p1ba : Option Addr) = some ⟨b7, o8, none⟩ ∧ ∃ x9 : Int, cellAt h1 b7 (o8 + i3.toNat * 1) = some (.int .i64 x9) ∧ ((x6 != x9) = true →
  (R (.bool false) h1)) ∧ ((x6 != x9) = false → (I1 (IntKind.wrap .i64 (i3 + 1)) h1 ∧ m2 (IntKind.wrap .i64 (i3 + 1)) h1 < m2 i3 h1)))) ∧ ((decide (i3 < ((p0al : Nat) : Int))) = false → (R (.bool true) h1))))
theorem warderref00_SameInts.eq (p0aa : Option Addr) (p0al : Nat) (p0ac : Nat) (p1ba : Option Addr) (p1bl : Nat) (p1bc : Nat) (h : Hp) (R : Value → Hp → Prop) : evBody Try.prog calls warderref00_SameInts.hints Try.f37 [.slice p0aa p0al p0ac, .slice p1ba p1bl p1bc] h R = warderref00_SameInts.P p0aa p0al p0ac p1ba p1bl p1bc h R := by kernel_rfl
theorem warderref00_SameInts.calls (p0aa : Option Addr) (p0al : Nat) (p0ac : Nat) (p1ba : Option Addr) (p1bl : Nat) (p1bc : Nat) (h : Hp) (R : Value → Hp → Prop) (hp : warderref00_SameInts.P p0aa p0al p0ac p1ba p1bl p1bc h R) : CallsH Try.prog 37 [.slice p0aa p0al p0ac, .slice p1ba p1bl p1bc] h R :=
  calls_of_body calls_ok Try.func37 (args := [.slice p0aa p0al p0ac, .slice p1ba p1bl p1bc]) (by rw [warderref00_SameInts.eq]; exact hp)
/-! ### stage_Space_Destroy: function 38 -/
def stage_Space_Destroy.hints : Hints := { loops := [(3, [0, 24, 25], [(26, (.one (.int .i64)))])], cuts := [(3, [0], [(24, (.one .slice)), (25, (.one (.int .i64))), (26, (.one (.int .i64)))]), (7, [0], [])], orders := [(1, [0, 1, 3, 7, 0, 16, 48, 112, 255], (.leaf [0, 1, 2, 3, 4, 5, 6, 7, 8])), (2, [0, 1, 0, 4, 12, 28, 60, 127, 255, 0], (.fork [0, 2, 3, 4, 5, 9] 1 (.leaf [6, 7, 8]) 6 (.leaf [1, 7, 8])))] }
def stage_Space_Destroy.P (p0sb p0so : Nat) (h : Hp) (R : Value → Hp → Prop) : Prop :=
  ∃ dead1 : Bool, cellAt h p0sb (p0so + 5) = some (.bool dead1) ∧ ((dead1) = true → (R (.tuple #[]) h)) ∧ ((dead1) = false → (∃ tlb2 : Option Addr, cellAt h p0sb (p0so + 2) = some (.pointer tlb2) ∧ ∃ vmid3 : Int, cellAt h p0sb (p0so + 3) = some (.int .i64 vmid3) ∧
  CallsH Try.prog 91 [.pointer tlb2, .int .i64 vmid3] h fun r4 h1 => ∃ DropAll5 : Int, r4 = .int .i64 DropAll5 ∧ ∃ I6 : Hp → Prop, (∃ I7 : Option Addr → Nat → Nat → Int → Int → Hp → Prop, (∃ root8 : Int, cellAt h1 p0sb (p0so + 4) = some (.int .i64 root8) ∧
  (CallsH Try.prog 47 [.pointer (some ⟨p0sb, p0so, none⟩)] h1 fun r9 h2 => ∃ tablesa10 : Option Addr, ∃ tablesl11 : Nat, ∃ tablesc12 : Nat, r9 = .slice tablesa10 tablesl11 tablesc12 ∧ cellAt h2 p0sb (p0so + 4) = some (.int .i64 root8) ∧
  ∀ h3 : Hp, h3 = new h2 (blk 3 [.int .i64 root8]) → appendN h3 3 1 8 [.int .i64 0] tablesa10 tablesl11 tablesc12 (some ⟨sz h2, 0, none⟩) 1 fun a13 l14 c15 h4 => I7 a13 l14 c15 ((l14 : Nat) : Int) 0 h4) ∧
  (∀ h5 : Hp, h5 = new h1 (blk 3 [.int .i64 root8]) → CallsH Try.prog 47 [.pointer (some ⟨p0sb, p0so, none⟩)] h5 fun r16 h6 => ∃ tablesa17 : Option Addr, ∃ tablesl18 : Nat, ∃ tablesc19 : Nat, r16 = .slice tablesa17 tablesl18 tablesc19 ∧
  cellAt h6 p0sb (p0so + 4) = some (.int .i64 root8) ∧ appendN h6 3 1 8 [.int .i64 0] tablesa17 tablesl18 tablesc19 (some ⟨sz h1, 0, none⟩) 1 fun a20 l21 c22 h7 => I7 a20 l21 c22 ((l21 : Nat) : Int) 0 h7)) ∧
  ∀ a23 : Option Addr, ∀ l24 : Nat, ∀ c25 : Nat, ∀ x26 : Int, ∀ x27 : Int, ∀ h8 : Hp, I7 a23 l24 c25 x26 x27 h8 → ∃ I28 : Int → Hp → Prop, ∃ m29 : Int → Hp → Nat, I28 x27 h8 ∧ ∀ x30 : Int, ∀ h9 : Hp, I28 x30 h9 →
  ((decide (x30 < x26)) = true → ((0 : Int) ≤ x30 ∧ x30 < ((l24 : Nat) : Int) ∧ ∃ b31 : Nat, ∃ o32 : Nat, (a23 : Option Addr) = some ⟨b31, o32, none⟩ ∧ ∃ x33 : Int, cellAt h9 b31 (o32 + x30.toNat * 1) = some (.int .i64 x33) ∧
  ∃ frames34 : Option Addr, cellAt h9 p0sb (p0so + 1) = some (.pointer frames34) ∧ CallsH Try.prog 46 [.pointer frames34, .int .i64 1, .int .i64 x33] h9 fun r35 h10 => ∃ Give36 : Int, r35 = .int .i64 Give36 ∧
  I28 (IntKind.wrap .i64 (x30 + 1)) h10 ∧ m29 (IntKind.wrap .i64 (x30 + 1)) h10 < m29 x30 h9)) ∧ ((decide (x30 < x26)) = false → (I6 h9))) ∧ ∀ h11 : Hp, I6 h11 → truly true ∧ ∃ T37 : TypeId, ∃ l38 : List Value, bk h11 p0sb = some (blk T37 l38) ∧
  (p0so + 5) + 1 ≤ l38.length ∧ ∀ h12 : Hp, h12 = upd h11 p0sb T37 (writeAt l38 (p0so + 5) [.bool true]) → truly true ∧ ∃ T39 : TypeId, ∃ l40 : List Value, bk h12 p0sb = some (blk T39 l40) ∧ (p0so + 6) + 1 ≤ l40.length ∧
  ∀ h13 : Hp, h13 = upd h12 p0sb T39 (writeAt l40 (p0so + 6) [.slice none 0 0]) → R (.tuple #[]) h13))
theorem stage_Space_Destroy.eq (p0sb p0so : Nat) (h : Hp) (R : Value → Hp → Prop) : evBody Try.prog calls stage_Space_Destroy.hints Try.f38 [.ptr p0sb p0so] h R = stage_Space_Destroy.P p0sb p0so h R := by kernel_rfl
theorem stage_Space_Destroy.calls (p0sb p0so : Nat) (h : Hp) (R : Value → Hp → Prop) (hp : stage_Space_Destroy.P p0sb p0so h R) : CallsH Try.prog 38 [.pointer (some ⟨p0sb, p0so, none⟩)] h R :=
  calls_of_body calls_ok Try.func38 (args := [.ptr p0sb p0so]) (by rw [stage_Space_Destroy.eq]; exact hp)
/-! ### frames_Table_Count: function 39 -/
def frames_Table_Count.hints : Hints := { loops := [], cuts := [], orders := [] }
def frames_Table_Count.P (p0tb p0to : Nat) (p1owner : Int) (h : Hp) (R : Value → Hp → Prop) : Prop :=
  ((p1owner != 0) = true → (CallsH Try.prog 92 [.int .i64 p1owner] h fun r1 h1 => ∃ some2 : Bool, r1 = .bool some2 ∧ ((!some2) = true → (R (.int .i64 0) h1)) ∧ ((!some2) = false → ((0 : Int) ≤ p1owner ∧
  p1owner < ((10 : Nat) : Int) ∧ ∃ x3 : Int, cellAt h1 p0tb (p0to + 1 + p1owner.toNat * 1) = some (.int .i64 x3) ∧ R (.int .i64 x3) h1)))) ∧ ((p1owner != 0) = false → ((0 : Int) ≤ p1owner ∧ p1owner < ((10 : Nat) : Int) ∧
  ∃ x4 : Int, cellAt h p0tb (p0to + 1 + p1owner.toNat * 1) = some (.int .i64 x4) ∧ R (.int .i64 x4) h))
theorem frames_Table_Count.eq (p0tb p0to : Nat) (p1owner : Int) (h : Hp) (R : Value → Hp → Prop) : evBody Try.prog calls frames_Table_Count.hints Try.f39 [.ptr p0tb p0to, .int .i64 p1owner] h R = frames_Table_Count.P p0tb p0to p1owner h R := by kernel_rfl
theorem frames_Table_Count.calls (p0tb p0to : Nat) (p1owner : Int) (h : Hp) (R : Value → Hp → Prop) (hp : frames_Table_Count.P p0tb p0to p1owner h R) : CallsH Try.prog 39 [.pointer (some ⟨p0tb, p0to, none⟩), .int .i64 p1owner] h R :=
  calls_of_body calls_ok Try.func39 (args := [.ptr p0tb p0to, .int .i64 p1owner]) (by rw [frames_Table_Count.eq]; exact hp)
/-! ### stage_Space_MapRun: function 40 -/
def stage_Space_MapRun.hints : Hints := { loops := [], cuts := [], orders := [] }
def stage_Space_MapRun.P (p0sb p0so : Nat) (p1first : Int) (p2frame : Int) (p3write : Bool) (p4exec : Bool) (h : Hp) (R : Value → Hp → Prop) : Prop :=
  ∀ h1 : Hp, h1 = new h (blk 34 [.pointer (some ⟨p0sb, p0so, none⟩)]) → ∀ h2 : Hp, h2 = new h1 (blk 3 [.int .i64 p1first]) → ∀ h3 : Hp, h3 = new h2 (blk 3 [.int .i64 p2frame]) → ∀ h4 : Hp, h4 = new h3 (blk 4 [.bool p3write]) →
  ∀ h5 : Hp, h5 = new h4 (blk 4 [.bool p4exec]) → ∃ x1 : Option Addr, cellAt h5 (sz h) 0 = some (.pointer x1) ∧ CallsH Try.prog 48 [.pointer x1, .func (.func 93) #[] #[.pointer (some ⟨(sz h1), 0, none⟩), .pointer (some ⟨(sz h), 0, none⟩), .pointer (some ⟨(sz h2), 0, none⟩), .pointer (some ⟨(sz h3), 0, none⟩), .pointer (some ⟨(sz h4), 0, none⟩)]] h5 fun r2 h6 => ∃ byx3 : Int, r2 = .int .i64 byx3 ∧
  R (.int .i64 byx3) h6
theorem stage_Space_MapRun.eq (p0sb p0so : Nat) (p1first : Int) (p2frame : Int) (p3write : Bool) (p4exec : Bool) (h : Hp) (R : Value → Hp → Prop) : evBody Try.prog calls stage_Space_MapRun.hints Try.f40 [.ptr p0sb p0so, .int .i64 p1first, .int .i64 p2frame, .bool p3write, .bool p4exec] h R = stage_Space_MapRun.P p0sb p0so p1first p2frame p3write p4exec h R := by kernel_rfl
theorem stage_Space_MapRun.calls (p0sb p0so : Nat) (p1first : Int) (p2frame : Int) (p3write : Bool) (p4exec : Bool) (h : Hp) (R : Value → Hp → Prop) (hp : stage_Space_MapRun.P p0sb p0so p1first p2frame p3write p4exec h R) : CallsH Try.prog 40 [.pointer (some ⟨p0sb, p0so, none⟩), .int .i64 p1first, .int .i64 p2frame, .bool p3write, .bool p4exec] h R :=
  calls_of_body calls_ok Try.func40 (args := [.ptr p0sb p0so, .int .i64 p1first, .int .i64 p2frame, .bool p3write, .bool p4exec]) (by rw [stage_Space_MapRun.eq]; exact hp)
/-! ### stage_Space_Vmid: function 41 -/
def stage_Space_Vmid.hints : Hints := { loops := [], cuts := [], orders := [] }
def stage_Space_Vmid.P (p0sb p0so : Nat) (h : Hp) (R : Value → Hp → Prop) : Prop :=
  ∃ vmid1 : Int, cellAt h p0sb (p0so + 3) = some (.int .i64 vmid1) ∧ R (.int .i64 vmid1) h
theorem stage_Space_Vmid.eq (p0sb p0so : Nat) (h : Hp) (R : Value → Hp → Prop) : evBody Try.prog calls stage_Space_Vmid.hints Try.f41 [.ptr p0sb p0so] h R = stage_Space_Vmid.P p0sb p0so h R := by kernel_rfl
theorem stage_Space_Vmid.calls (p0sb p0so : Nat) (h : Hp) (R : Value → Hp → Prop) (hp : stage_Space_Vmid.P p0sb p0so h R) : CallsH Try.prog 41 [.pointer (some ⟨p0sb, p0so, none⟩)] h R :=
  calls_of_body calls_ok Try.func41 (args := [.ptr p0sb p0so]) (by rw [stage_Space_Vmid.eq]; exact hp)
/-! ### phys_New: function 42 -/
def phys_New.hints : Hints := { loops := [], cuts := [], orders := [] }
def phys_New.P (p0frames : Int) (h : Hp) (R : Value → Hp → Prop) : Prop :=
  ((decide (p0frames < 1)) = true → (R (.tuple #[.pointer none, .int .i64 11]) h)) ∧ ((decide (p0frames < 1)) = false → (((decide (p0frames > 1024)) = true → (R (.tuple #[.pointer none, .int .i64 11]) h)) ∧
  ((decide (p0frames > 1024)) = false → ((0 : Int) ≤ p0frames ∧ p0frames ≤ p0frames ∧ p0frames ≤ 140737488355328 ∧ ((256 : Nat) : Int) * p0frames ≤ 281474976710656 ∧ (256 : Nat) = 256 ∧ ∀ h1 : Hp, h1 = new h (blk 113 (zeros (List.replicate 256 (.int .u8 0)) p0frames.toNat)) →
  ∀ h2 : Hp, h2 = new h1 (blk 115 [.slice (some ⟨sz h, 0, none⟩) p0frames.toNat p0frames.toNat]) → R (.tuple #[.pointer (some ⟨(sz h1), 0, none⟩), .int .i64 0]) h2))))
theorem phys_New.eq (p0frames : Int) (h : Hp) (R : Value → Hp → Prop) : evBody Try.prog calls phys_New.hints Try.f42 [.int .i64 p0frames] h R = phys_New.P p0frames h R := by kernel_rfl
theorem phys_New.calls (p0frames : Int) (h : Hp) (R : Value → Hp → Prop) (hp : phys_New.P p0frames h R) : CallsH Try.prog 42 [.int .i64 p0frames] h R :=
  calls_of_body calls_ok Try.func42 (args := [.int .i64 p0frames]) (by rw [phys_New.eq]; exact hp)
/-! ### frames_New: function 43 -/
def frames_New.hints : Hints := { loops := [], cuts := [(3, [0], [])], orders := [] }
def frames_New.P (p0frames : Int) (h : Hp) (R : Value → Hp → Prop) : Prop :=
  ∃ I1 : Hp → Prop, (((decide (p0frames < 1)) = true → (R (.tuple #[.pointer none, .int .i64 11]) h)) ∧ ((decide (p0frames < 1)) = false → (((decide (p0frames > 1024)) = true → (R (.tuple #[.pointer none, .int .i64 11]) h)) ∧
  ((decide (p0frames > 1024)) = false → (I1 h))))) ∧ ∀ h1 : Hp, I1 h1 → (0 : Int) ≤ p0frames ∧ p0frames ≤ p0frames ∧ p0frames ≤ 140737488355328 ∧ ((8 : Nat) : Int) * p0frames ≤ 281474976710656 ∧ (1 : Nat) = 1 ∧
  ∀ h2 : Hp, h2 = new h1 (blk 3 (zeros [.int .i64 0] p0frames.toNat)) → ∀ h3 : Hp, h3 = new h2 (blk 118 [.slice (some ⟨sz h1, 0, none⟩) p0frames.toNat p0frames.toNat, .int .i64 0, .int .i64 0, .int .i64 0, .int .i64 0, .int .i64 0, .int .i64 0, .int .i64 0, .int .i64 0, .int .i64 0, .int .i64 0]) →
  (0 : Int) ≤ 0 ∧ (0 : Int) < ((10 : Nat) : Int) ∧ truly true ∧ ∃ T2 : TypeId, ∃ l3 : List Value, bk h3 (sz h2) = some (blk T2 l3) ∧ (1 + (0 : Int).toNat * 1) + 1 ≤ l3.length ∧ ∀ h4 : Hp, h4 = upd h3 (sz h2) T2 (writeAt l3 (1 + (0 : Int).toNat * 1) [.int .i64 p0frames]) →
  R (.tuple #[.pointer (some ⟨(sz h2), 0, none⟩), .int .i64 0]) h4
theorem frames_New.eq (p0frames : Int) (h : Hp) (R : Value → Hp → Prop) : evBody Try.prog calls frames_New.hints Try.f43 [.int .i64 p0frames] h R = frames_New.P p0frames h R := by kernel_rfl
theorem frames_New.calls (p0frames : Int) (h : Hp) (R : Value → Hp → Prop) (hp : frames_New.P p0frames h R) : CallsH Try.prog 43 [.int .i64 p0frames] h R :=
  calls_of_body calls_ok Try.func43 (args := [.int .i64 p0frames]) (by rw [frames_New.eq]; exact hp)
/-! ### tlb_New: function 44 -/
def tlb_New.hints : Hints := { loops := [], cuts := [], orders := [] }
def tlb_New.P (p0room : Int) (h : Hp) (R : Value → Hp → Prop) : Prop :=
  ((decide (p0room < 1)) = true → (R (.tuple #[.pointer none, .int .i64 11]) h)) ∧ ((decide (p0room < 1)) = false → (((decide (p0room > 64)) = true → (R (.tuple #[.pointer none, .int .i64 11]) h)) ∧ ((decide (p0room > 64)) = false →
  ((0 : Int) ≤ p0room ∧ p0room ≤ p0room ∧ p0room ≤ 140737488355328 ∧ ((8 : Nat) : Int) * p0room ≤ 281474976710656 ∧ (1 : Nat) = 1 ∧ ∀ h1 : Hp, h1 = new h (blk 127 (zeros [.pointer none] p0room.toNat)) →
  ∀ h2 : Hp, h2 = new h1 (.map ⟨[]⟩ 0) → ∀ h3 : Hp, h3 = new h2 (blk 126 [.slice (some ⟨sz h, 0, none⟩) p0room.toNat p0room.toNat, .map (some (sz h1)), .int .i64 0]) → R (.tuple #[.pointer (some ⟨(sz h2), 0, none⟩), .int .i64 0]) h3))))
theorem tlb_New.eq (p0room : Int) (h : Hp) (R : Value → Hp → Prop) : evBody Try.prog calls tlb_New.hints Try.f44 [.int .i64 p0room] h R = tlb_New.P p0room h R := by kernel_rfl
theorem tlb_New.calls (p0room : Int) (h : Hp) (R : Value → Hp → Prop) (hp : tlb_New.P p0room h R) : CallsH Try.prog 44 [.int .i64 p0room] h R :=
  calls_of_body calls_ok Try.func44 (args := [.int .i64 p0room]) (by rw [tlb_New.eq]; exact hp)
/-! ### frames_Table_Take: function 45 -/
def frames_Table_Take.hints : Hints := { loops := [], cuts := [], orders := [] }
def frames_Table_Take.P (p0tb p0to : Nat) (p1owner : Int) (h : Hp) (R : Value → Hp → Prop) : Prop :=
  CallsH Try.prog 94 [.pointer (some ⟨p0tb, p0to, none⟩), .int .i64 p1owner, .int .i64 1] h fun r1 h1 => ∃ take2 : Int, ∃ take3 : Int, r1 = .tuple #[.int .i64 take2, .int .i64 take3] ∧ R (.tuple #[.int .i64 take2, .int .i64 take3]) h1
theorem frames_Table_Take.eq (p0tb p0to : Nat) (p1owner : Int) (h : Hp) (R : Value → Hp → Prop) : evBody Try.prog calls frames_Table_Take.hints Try.f45 [.ptr p0tb p0to, .int .i64 p1owner] h R = frames_Table_Take.P p0tb p0to p1owner h R := by kernel_rfl
theorem frames_Table_Take.calls (p0tb p0to : Nat) (p1owner : Int) (h : Hp) (R : Value → Hp → Prop) (hp : frames_Table_Take.P p0tb p0to p1owner h R) : CallsH Try.prog 45 [.pointer (some ⟨p0tb, p0to, none⟩), .int .i64 p1owner] h R :=
  calls_of_body calls_ok Try.func45 (args := [.ptr p0tb p0to, .int .i64 p1owner]) (by rw [frames_Table_Take.eq]; exact hp)
/-! ### frames_Table_Give: function 46 -/
def frames_Table_Give.hints : Hints := { loops := [], cuts := [], orders := [] }
def frames_Table_Give.P (p0tb p0to : Nat) (p1owner : Int) (p2frame : Int) (h : Hp) (R : Value → Hp → Prop) : Prop :=
  CallsH Try.prog 95 [.pointer (some ⟨p0tb, p0to, none⟩), .int .i64 p2frame, .int .i64 p1owner, .int .i64 0] h fun r1 h1 => ∃ move2 : Int, r1 = .int .i64 move2 ∧ R (.int .i64 move2) h1
theorem frames_Table_Give.eq (p0tb p0to : Nat) (p1owner : Int) (p2frame : Int) (h : Hp) (R : Value → Hp → Prop) : evBody Try.prog calls frames_Table_Give.hints Try.f46 [.ptr p0tb p0to, .int .i64 p1owner, .int .i64 p2frame] h R = frames_Table_Give.P p0tb p0to p1owner p2frame h R := by kernel_rfl
theorem frames_Table_Give.calls (p0tb p0to : Nat) (p1owner : Int) (p2frame : Int) (h : Hp) (R : Value → Hp → Prop) (hp : frames_Table_Give.P p0tb p0to p1owner p2frame h R) : CallsH Try.prog 46 [.pointer (some ⟨p0tb, p0to, none⟩), .int .i64 p1owner, .int .i64 p2frame] h R :=
  calls_of_body calls_ok Try.func46 (args := [.ptr p0tb p0to, .int .i64 p1owner, .int .i64 p2frame]) (by rw [frames_Table_Give.eq]; exact hp)
/-! ### stage_Space_tables: function 47 -/
def stage_Space_tables.hints : Hints := { loops := [(3, [0], [(3, (.one .slice)), (7, (.one (.int .i64)))])], cuts := [], orders := [] }
def stage_Space_tables.P (p0sb p0so : Nat) (h : Hp) (R : Value → Hp → Prop) : Prop :=
  ∃ I1 : Option Addr → Nat → Nat → Int → Hp → Prop, ∃ m2 : Option Addr → Nat → Nat → Int → Hp → Nat, I1 none 0 0 0 h ∧ ∀ outa3 : Option Addr, ∀ outl4 : Nat, ∀ outc5 : Nat, ∀ x6 : Int, ∀ h1 : Hp, I1 outa3 outl4 outc5 x6 h1 →
  ((decide (x6 < 64)) = true → (CallsH Try.prog 53 [.pointer (some ⟨p0sb, p0so, none⟩), .int .i64 x6] h1 fun r7 h2 => ∃ first8 : Int, ∃ first9 : Bool, ∃ first10 : Bool, ∃ first11 : Bool, ∃ first12 : Bool, ∃ first13 : Int, r7 = .tuple #[.int .u32 first8, .agg #[.bool first9, .bool first10, .bool first11, .bool first12, .int .i64 first13]] ∧
  ∀ h3 : Hp, h3 = new h2 (blk 54 [.bool false, .bool false, .bool false, .bool false, .int .i64 0]) → truly true ∧ ∃ T14 : TypeId, ∃ l15 : List Value, bk h3 (sz h2) = some (blk T14 l15) ∧ 0 + 5 ≤ l15.length ∧
  ∀ h4 : Hp, h4 = upd h3 (sz h2) T14 (writeAt l15 0 [.bool first9, .bool first10, .bool first11, .bool first12, .int .i64 first13]) → ∃ Valid16 : Bool, cellAt h4 (sz h2) 0 = some (.bool Valid16) ∧ ((Valid16) = true →
  (∃ Block17 : Bool, cellAt h4 (sz h2) 3 = some (.bool Block17) ∧ ((!Block17) = true → (∃ Frame18 : Int, cellAt h4 (sz h2) 4 = some (.int .i64 Frame18) ∧ ∀ h5 : Hp, h5 = new h4 (blk 3 [.int .i64 Frame18]) →
  appendN h5 3 1 8 [.int .i64 0] outa3 outl4 outc5 (some ⟨sz h4, 0, none⟩) 1 fun a19 l20 c21 h6 => I1 a19 l20 c21 (IntKind.wrap .i64 (x6 + 1)) h6 ∧ m2 a19 l20 c21 (IntKind.wrap .i64 (x6 + 1)) h6 < m2 outa3 outl4 outc5 x6 h1)) ∧
  ((!Block17) = false → (I1 outa3 outl4 outc5 (IntKind.wrap .i64 (x6 + 1)) h4 ∧ m2 outa3 outl4 outc5 (IntKind.wrap .i64 (x6 + 1)) h4 < m2 outa3 outl4 outc5 x6 h1)))) ∧ ((Valid16) = false → (I1 outa3 outl4 outc5 (IntKind.wrap .i64 (x6 + 1)) h4 ∧
  m2 outa3 outl4 outc5 (IntKind.wrap .i64 (x6 + 1)) h4 < m2 outa3 outl4 outc5 x6 h1)))) ∧ ((decide (x6 < 64)) = false → (R (.slice outa3 outl4 outc5) h1))
theorem stage_Space_tables.eq (p0sb p0so : Nat) (h : Hp) (R : Value → Hp → Prop) : evBody Try.prog calls stage_Space_tables.hints Try.f47 [.ptr p0sb p0so] h R = stage_Space_tables.P p0sb p0so h R := by kernel_rfl
theorem stage_Space_tables.calls (p0sb p0so : Nat) (h : Hp) (R : Value → Hp → Prop) (hp : stage_Space_tables.P p0sb p0so h R) : CallsH Try.prog 47 [.pointer (some ⟨p0sb, p0so, none⟩)] h R :=
  calls_of_body calls_ok Try.func47 (args := [.ptr p0sb p0so]) (by rw [stage_Space_tables.eq]; exact hp)
/-! ### stage_Space_Map_1: function 49 -/
def stage_Space_Map_1.hints : Hints := { loops := [], cuts := [(1, [0, 1, 2, 3, 4], []), (7, [0, 1, 2, 3, 4, 8], [])], orders := [(7, [0, 0, 2, 0, 8, 30, 0, 0, 0, 448, 1023], (.leaf [0, 1, 2, 3, 4, 6, 7, 8, 9, 5, 10]))] }
def stage_Space_Map_1.P (v0cb v0co : Nat) (v1cb v1co : Nat) (v2cb v2co : Nat) (v3cb v3co : Nat) (v4cb v4co : Nat) (h : Hp) (R X : Value → Hp → Prop) : Prop :=
  ∃ I1 : Hp → Prop, (∃ x2 : Int, cellAt h v0cb v0co = some (.int .i64 x2) ∧ CallsH Try.prog 51 [.int .i64 x2] h fun r3 h1 => ∃ page4 : Bool, r3 = .bool page4 ∧ ((page4) = true → (∃ x5 : Option Addr, cellAt h1 v1cb v1co = some (.pointer x5) ∧
  ∃ x6 : Int, cellAt h1 v2cb v2co = some (.int .i64 x6) ∧ CallsH Try.prog 52 [.pointer x5, .int .i64 x6] h1 fun r7 h2 => ∃ frame8 : Bool, r7 = .bool frame8 ∧ CallsX Try.prog 50 [.bool frame8, .int .i64 11] h2 (fun r9 h3 => r9 = .tuple #[] ∧
  I1 h3) (fun px10 h4 => X (px10) h4))) ∧ ((page4) = false → (CallsX Try.prog 50 [.bool false, .int .i64 11] h1 (fun r11 h5 => r11 = .tuple #[] ∧ I1 h5) (fun px12 h6 => X (px12) h6)))) ∧ ∀ h7 : Hp, I1 h7 →
  ∃ x13 : Option Addr, cellAt h7 v1cb v1co = some (.pointer x13) ∧ ∃ x14 : Int, cellAt h7 v0cb v0co = some (.int .i64 x14) ∧ CallsH Try.prog 22 [.pointer x13, .int .i64 x14] h7 fun r15 h8 => ∃ Look16 : Bool, ∃ Look17 : Bool, ∃ Look18 : Bool, ∃ Look19 : Bool, ∃ Look20 : Int, ∃ Look21 : Bool, r15 = .tuple #[.agg #[.bool Look16, .bool Look17, .bool Look18, .bool Look19, .int .i64 Look20], .bool Look21] ∧
  ∀ h9 : Hp, h9 = new h8 (blk 54 [.bool false, .bool false, .bool false, .bool false, .int .i64 0]) → truly true ∧ ∃ T22 : TypeId, ∃ l23 : List Value, bk h9 (sz h8) = some (blk T22 l23) ∧ 0 + 5 ≤ l23.length ∧
  ∀ h10 : Hp, h10 = upd h9 (sz h8) T22 (writeAt l23 0 [.bool Look16, .bool Look17, .bool Look18, .bool Look19, .int .i64 Look20]) → CallsX Try.prog 50 [.bool (!Look21), .int .i64 13] h10 (fun r24 h11 => r24 = .tuple #[] ∧
  ∃ x26 : Option Addr, cellAt h11 v1cb v1co = some (.pointer x26) ∧ ∃ x27 : Int, cellAt h11 v0cb v0co = some (.int .i64 x27) ∧ 64 ≠ (0 : Int) ∧ CallsH Try.prog 53 [.pointer x26, .int .i64 (IntKind.wrap .i64 (Int.tdiv x27 64))] h11 fun r28 h13 => ∃ first29 : Int, ∃ first30 : Bool, ∃ first31 : Bool, ∃ first32 : Bool, ∃ first33 : Bool, ∃ first34 : Int, r28 = .tuple #[.int .u32 first29, .agg #[.bool first30, .bool first31, .bool first32, .bool first33, .int .i64 first34]] ∧
  ∀ h14 : Hp, h14 = new h13 (blk 54 [.bool false, .bool false, .bool false, .bool false, .int .i64 0]) → truly true ∧ ∃ T35 : TypeId, ∃ l36 : List Value, bk h14 (sz h13) = some (blk T35 l36) ∧ 0 + 5 ≤ l36.length ∧
  ∀ h15 : Hp, h15 = upd h14 (sz h13) T35 (writeAt l36 0 [.bool first30, .bool first31, .bool first32, .bool first33, .int .i64 first34]) → ∃ I37 : Hp → Prop, (∃ Valid38 : Bool, cellAt h15 (sz h13) 0 = some (.bool Valid38) ∧
  ((!Valid38) = true → (∃ x39 : Option Addr, cellAt h15 v1cb v1co = some (.pointer x39) ∧ CallsX Try.prog 54 [.pointer x39] h15 (fun r40 h16 => ∃ table42 : Int, r40 = .int .i64 table42 ∧ truly true ∧ ∃ T43 : TypeId, ∃ l44 : List Value, bk h16 (sz h13) = some (blk T43 l44) ∧
  0 + 5 ≤ l44.length ∧ ∀ h18 : Hp, h18 = upd h16 (sz h13) T43 (writeAt l44 0 [.bool true, .bool false, .bool false, .bool false, .int .i64 table42]) → ∃ x45 : Option Addr, cellAt h18 v1cb v1co = some (.pointer x45) ∧
  ∃ x46 : Bool, cellAt h18 (sz h13) (0 + 0) = some (.bool x46) ∧ ∃ x47 : Bool, cellAt h18 (sz h13) (0 + 1) = some (.bool x47) ∧ ∃ x48 : Bool, cellAt h18 (sz h13) (0 + 2) = some (.bool x48) ∧ ∃ x49 : Bool, cellAt h18 (sz h13) (0 + 3) = some (.bool x49) ∧
  ∃ x50 : Int, cellAt h18 (sz h13) (0 + 4) = some (.int .i64 x50) ∧ CallsH Try.prog 55 [.pointer x45, .int .u32 first29, .agg #[.bool x46, .bool x47, .bool x48, .bool x49, .int .i64 x50]] h18 fun r51 h19 => r51 = .tuple #[] ∧
  I37 h19) (fun px41 h17 => X (px41) h17))) ∧ ((!Valid38) = false → (I37 h15))) ∧ ∀ h20 : Hp, I37 h20 → ∃ x52 : Option Addr, cellAt h20 v1cb v1co = some (.pointer x52) ∧ ∃ Frame53 : Int, cellAt h20 (sz h13) 4 = some (.int .i64 Frame53) ∧
  ∃ x54 : Int, cellAt h20 v0cb v0co = some (.int .i64 x54) ∧ 64 ≠ (0 : Int) ∧ ∃ x55 : Bool, cellAt h20 v3cb v3co = some (.bool x55) ∧ ∃ x56 : Bool, cellAt h20 v4cb v4co = some (.bool x56) ∧ ∃ x57 : Int, cellAt h20 v2cb v2co = some (.int .i64 x57) ∧
  CallsH Try.prog 56 [.int .i64 Frame53, .int .i64 (Int.tmod x54 64)] h20 fun r58 h21 => ∃ atx59 : Int, r58 = .int .u32 atx59 ∧ cellAt h21 v1cb v1co = some (.pointer x52) ∧ cellAt h21 v3cb v3co = some (.bool x55) ∧
  cellAt h21 v4cb v4co = some (.bool x56) ∧ cellAt h21 v2cb v2co = some (.int .i64 x57) ∧ CallsH Try.prog 55 [.pointer x52, .int .u32 atx59, .agg #[.bool true, .bool x55, .bool x56, .bool false, .int .i64 x57]] h21 fun r60 h22 => r60 = .tuple #[] ∧
  R (.tuple #[]) h22) (fun px25 h12 => X (px25) h12)
theorem stage_Space_Map_1.eq (v0cb v0co : Nat) (v1cb v1co : Nat) (v2cb v2co : Nat) (v3cb v3co : Nat) (v4cb v4co : Nat) (h : Hp) (R X : Value → Hp → Prop) : evBodyX Try.prog calls stage_Space_Map_1.hints Try.f49 [.ptr v0cb v0co, .ptr v1cb v1co, .ptr v2cb v2co, .ptr v3cb v3co, .ptr v4cb v4co] h R X = stage_Space_Map_1.P v0cb v0co v1cb v1co v2cb v2co v3cb v3co v4cb v4co h R X := by kernel_rfl
theorem stage_Space_Map_1.calls (v0cb v0co : Nat) (v1cb v1co : Nat) (v2cb v2co : Nat) (v3cb v3co : Nat) (v4cb v4co : Nat) (h : Hp) (R X : Value → Hp → Prop) (hp : stage_Space_Map_1.P v0cb v0co v1cb v1co v2cb v2co v3cb v3co v4cb v4co h R X) : CallsX Try.prog 49 [.pointer (some ⟨v0cb, v0co, none⟩), .pointer (some ⟨v1cb, v1co, none⟩), .pointer (some ⟨v2cb, v2co, none⟩), .pointer (some ⟨v3cb, v3co, none⟩), .pointer (some ⟨v4cb, v4co, none⟩)] h R X :=
  callsX_of_body calls_ok Try.func49 (args := [.ptr v0cb v0co, .ptr v1cb v1co, .ptr v2cb v2co, .ptr v3cb v3co, .ptr v4cb v4co]) (by rw [stage_Space_Map_1.eq]; exact hp)
/-! ### stage_need: function 50 -/
def stage_need.hints : Hints := { loops := [], cuts := [], orders := [] }
def stage_need.P (p0ok : Bool) (p1e : Int) (h : Hp) (R X : Value → Hp → Prop) : Prop :=
  ((!p0ok) = true → (X (.iface 139 (.agg #[.int .i64 p1e])) h)) ∧ ((!p0ok) = false → (R (.tuple #[]) h))
theorem stage_need.eq (p0ok : Bool) (p1e : Int) (h : Hp) (R X : Value → Hp → Prop) : evBodyX Try.prog calls stage_need.hints Try.f50 [.bool p0ok, .int .i64 p1e] h R X = stage_need.P p0ok p1e h R X := by kernel_rfl
theorem stage_need.calls (p0ok : Bool) (p1e : Int) (h : Hp) (R X : Value → Hp → Prop) (hp : stage_need.P p0ok p1e h R X) : CallsX Try.prog 50 [.bool p0ok, .int .i64 p1e] h R X :=
  callsX_of_body calls_ok Try.func50 (args := [.bool p0ok, .int .i64 p1e]) (by rw [stage_need.eq]; exact hp)
/-! ### stage_page: function 51 -/
def stage_page.hints : Hints := { loops := [], cuts := [], orders := [] }
def stage_page.P (p0n : Int) (h : Hp) (R : Value → Hp → Prop) : Prop :=
  ((decide (p0n ≥ 0)) = true → (R (.bool (decide (p0n < 4096))) h)) ∧ ((decide (p0n ≥ 0)) = false → (R (.bool false) h))
theorem stage_page.eq (p0n : Int) (h : Hp) (R : Value → Hp → Prop) : evBody Try.prog calls stage_page.hints Try.f51 [.int .i64 p0n] h R = stage_page.P p0n h R := by kernel_rfl
theorem stage_page.calls (p0n : Int) (h : Hp) (R : Value → Hp → Prop) (hp : stage_page.P p0n h R) : CallsH Try.prog 51 [.int .i64 p0n] h R :=
  calls_of_body calls_ok Try.func51 (args := [.int .i64 p0n]) (by rw [stage_page.eq]; exact hp)
/-! ### stage_Space_frame: function 52 -/
def stage_Space_frame.hints : Hints := { loops := [], cuts := [], orders := [] }
def stage_Space_frame.P (p0sb p0so : Nat) (p1n : Int) (h : Hp) (R : Value → Hp → Prop) : Prop :=
  ((decide (p1n ≥ 0)) = true → (∃ mem1 : Option Addr, cellAt h p0sb p0so = some (.pointer mem1) ∧ CallsH Try.prog 59 [.pointer mem1] h fun r2 h1 => ∃ Frames3 : Int, r2 = .int .i64 Frames3 ∧ R (.bool (decide (p1n < Frames3))) h1)) ∧
  ((decide (p1n ≥ 0)) = false → (R (.bool false) h))
theorem stage_Space_frame.eq (p0sb p0so : Nat) (p1n : Int) (h : Hp) (R : Value → Hp → Prop) : evBody Try.prog calls stage_Space_frame.hints Try.f52 [.ptr p0sb p0so, .int .i64 p1n] h R = stage_Space_frame.P p0sb p0so p1n h R := by kernel_rfl
theorem stage_Space_frame.calls (p0sb p0so : Nat) (p1n : Int) (h : Hp) (R : Value → Hp → Prop) (hp : stage_Space_frame.P p0sb p0so p1n h R) : CallsH Try.prog 52 [.pointer (some ⟨p0sb, p0so, none⟩), .int .i64 p1n] h R :=
  calls_of_body calls_ok Try.func52 (args := [.ptr p0sb p0so, .int .i64 p1n]) (by rw [stage_Space_frame.eq]; exact hp)
/-! ### stage_Space_first: function 53 -/
def stage_Space_first.hints : Hints := { loops := [], cuts := [], orders := [] }
def stage_Space_first.P (p0sb p0so : Nat) (p1index : Int) (h : Hp) (R : Value → Hp → Prop) : Prop :=
  ∀ h1 : Hp, h1 = new h (blk 54 [.bool false, .bool false, .bool false, .bool false, .int .i64 0]) → ∃ root1 : Int, cellAt h1 p0sb (p0so + 4) = some (.int .i64 root1) ∧ CallsH Try.prog 56 [.int .i64 root1, .int .i64 p1index] h1 fun r2 h2 => ∃ atx3 : Int, r2 = .int .u32 atx3 ∧
  CallsH Try.prog 78 [.pointer (some ⟨p0sb, p0so, none⟩), .int .u32 atx3] h2 fun r4 h3 => ∃ read5 : Bool, ∃ read6 : Bool, ∃ read7 : Bool, ∃ read8 : Bool, ∃ read9 : Int, r4 = .agg #[.bool read5, .bool read6, .bool read7, .bool read8, .int .i64 read9] ∧
  truly true ∧ ∃ T10 : TypeId, ∃ l11 : List Value, bk h3 (sz h) = some (blk T10 l11) ∧ 0 + 5 ≤ l11.length ∧ ∀ h4 : Hp, h4 = upd h3 (sz h) T10 (writeAt l11 0 [.bool read5, .bool read6, .bool read7, .bool read8, .int .i64 read9]) →
  ∃ res12 : Bool, cellAt h4 (sz h) (0 + 0) = some (.bool res12) ∧ ∃ res13 : Bool, cellAt h4 (sz h) (0 + 1) = some (.bool res13) ∧ ∃ res14 : Bool, cellAt h4 (sz h) (0 + 2) = some (.bool res14) ∧ ∃ res15 : Bool, cellAt h4 (sz h) (0 + 3) = some (.bool res15) ∧
  ∃ res16 : Int, cellAt h4 (sz h) (0 + 4) = some (.int .i64 res16) ∧ R (.tuple #[.int .u32 atx3, .agg #[.bool res12, .bool res13, .bool res14, .bool res15, .int .i64 res16]]) h4
theorem stage_Space_first.eq (p0sb p0so : Nat) (p1index : Int) (h : Hp) (R : Value → Hp → Prop) : evBody Try.prog calls stage_Space_first.hints Try.f53 [.ptr p0sb p0so, .int .i64 p1index] h R = stage_Space_first.P p0sb p0so p1index h R := by kernel_rfl
theorem stage_Space_first.calls (p0sb p0so : Nat) (p1index : Int) (h : Hp) (R : Value → Hp → Prop) (hp : stage_Space_first.P p0sb p0so p1index h R) : CallsH Try.prog 53 [.pointer (some ⟨p0sb, p0so, none⟩), .int .i64 p1index] h R :=
  calls_of_body calls_ok Try.func53 (args := [.ptr p0sb p0so, .int .i64 p1index]) (by rw [stage_Space_first.eq]; exact hp)
/-! ### stage_Space_table: function 54 -/
def stage_Space_table.hints : Hints := { loops := [], cuts := [], orders := [] }
def stage_Space_table.P (p0sb p0so : Nat) (h : Hp) (R X : Value → Hp → Prop) : Prop :=
  ∃ frames1 : Option Addr, cellAt h p0sb (p0so + 1) = some (.pointer frames1) ∧ CallsH Try.prog 45 [.pointer frames1, .int .i64 1] h fun r2 h1 => ∃ Take3 : Int, ∃ Take4 : Int, r2 = .tuple #[.int .i64 Take3, .int .i64 Take4] ∧
  CallsX Try.prog 50 [.bool (Take4 == 0), .int .i64 Take4] h1 (fun r5 h2 => r5 = .tuple #[] ∧ ∃ mem7 : Option Addr, cellAt h2 p0sb p0so = some (.pointer mem7) ∧ CallsH Try.prog 84 [.pointer mem7, .int .i64 Take3, .slice none 0 0] h2 fun r8 h4 => ∃ Fill9 : Int, r8 = .int .i64 Fill9 ∧
  R (.int .i64 Take3) h4) (fun px6 h3 => X (px6) h3)
theorem stage_Space_table.eq (p0sb p0so : Nat) (h : Hp) (R X : Value → Hp → Prop) : evBodyX Try.prog calls stage_Space_table.hints Try.f54 [.ptr p0sb p0so] h R X = stage_Space_table.P p0sb p0so h R X := by kernel_rfl
theorem stage_Space_table.calls (p0sb p0so : Nat) (h : Hp) (R X : Value → Hp → Prop) (hp : stage_Space_table.P p0sb p0so h R X) : CallsX Try.prog 54 [.pointer (some ⟨p0sb, p0so, none⟩)] h R X :=
  callsX_of_body calls_ok Try.func54 (args := [.ptr p0sb p0so]) (by rw [stage_Space_table.eq]; exact hp)
/-! ### stage_Space_change: function 55 -/
def stage_Space_change.hints : Hints := { loops := [], cuts := [], orders := [(6, [0, 1, 3, 7, 0, 16, 48, 112, 255], (.leaf [0, 1, 2, 3, 4, 5, 6, 7, 8]))] }
def stage_Space_change.P (p0sb p0so : Nat) (p1addr : Int) (p2to_0 : Bool) (p2to_1 : Bool) (p2to_2 : Bool) (p2to_3 : Bool) (p2to_4 : Int) (h : Hp) (R : Value → Hp → Prop) : Prop :=
  ∀ h1 : Hp, h1 = new h (blk 54 [.bool p2to_0, .bool p2to_1, .bool p2to_2, .bool p2to_3, .int .i64 p2to_4]) → ∃ mem1 : Option Addr, cellAt h1 p0sb p0so = some (.pointer mem1) ∧ CallsH Try.prog 85 [.pointer mem1, .int .u32 p1addr] h1 fun r2 h2 => ∃ Word3 : Int, ∃ Word4 : Bool, r2 = .tuple #[.int .u32 Word3, .bool Word4] ∧
  ∃ x5 : Bool, cellAt h2 (sz h) (0 + 0) = some (.bool x5) ∧ ∃ x6 : Bool, cellAt h2 (sz h) (0 + 1) = some (.bool x6) ∧ ∃ x7 : Bool, cellAt h2 (sz h) (0 + 2) = some (.bool x7) ∧ ∃ x8 : Bool, cellAt h2 (sz h) (0 + 3) = some (.bool x8) ∧
  ∃ x9 : Int, cellAt h2 (sz h) (0 + 4) = some (.int .i64 x9) ∧ CallsH Try.prog 97 [.agg #[.bool x5, .bool x6, .bool x7, .bool x8, .int .i64 x9]] h2 fun r10 h3 => ∃ Encode11 : Int, ∃ Encode12 : Bool, r10 = .tuple #[.int .u32 Encode11, .bool Encode12] ∧
  ((Word3 == Encode11) = true → (R (.tuple #[]) h3)) ∧ ((Word3 == Encode11) = false → (CallsH Try.prog 86 [.int .u32 Word3] h3 fun r13 h4 => ∃ Decode14 : Bool, ∃ Decode15 : Bool, ∃ Decode16 : Bool, ∃ Decode17 : Bool, ∃ Decode18 : Int, r13 = .agg #[.bool Decode14, .bool Decode15, .bool Decode16, .bool Decode17, .int .i64 Decode18] ∧
  ((Decode14) = true → (CallsH Try.prog 98 [.pointer (some ⟨p0sb, p0so, none⟩), .int .u32 p1addr, .int .u32 0] h4 fun r19 h5 => r19 = .tuple #[] ∧ ∃ tlb20 : Option Addr, cellAt h5 p0sb (p0so + 2) = some (.pointer tlb20) ∧
  ∃ vmid21 : Int, cellAt h5 p0sb (p0so + 3) = some (.int .i64 vmid21) ∧ CallsH Try.prog 91 [.pointer tlb20, .int .i64 vmid21] h5 fun r22 h6 => ∃ DropAll23 : Int, r22 = .int .i64 DropAll23 ∧ ∃ loga24 : Option Addr, ∃ logl25 : Nat, ∃ logc26 : Nat, cellAt h6 p0sb (p0so + 6) = some (.slice loga24 logl25 logc26) ∧
  ∀ h7 : Hp, h7 = new h6 (blk 71 [.int .i64 2, .int .u32 0, .int .u32 0]) → appendN h7 71 3 16 [.int .i64 0, .int .u32 0, .int .u32 0] loga24 logl25 logc26 (some ⟨sz h6, 0, none⟩) 1 fun a27 l28 c29 h8 => truly true ∧
  ∃ T30 : TypeId, ∃ l31 : List Value, bk h8 p0sb = some (blk T30 l31) ∧ (p0so + 6) + 1 ≤ l31.length ∧ ∀ h9 : Hp, h9 = upd h8 p0sb T30 (writeAt l31 (p0so + 6) [.slice a27 l28 c29]) → ((Encode11 != 0) = true →
  (CallsH Try.prog 98 [.pointer (some ⟨p0sb, p0so, none⟩), .int .u32 p1addr, .int .u32 Encode11] h9 fun r32 h10 => r32 = .tuple #[] ∧ R (.tuple #[]) h10)) ∧ ((Encode11 != 0) = false → (R (.tuple #[]) h9)))) ∧
  ((Decode14) = false → (((Encode11 != 0) = true → (CallsH Try.prog 98 [.pointer (some ⟨p0sb, p0so, none⟩), .int .u32 p1addr, .int .u32 Encode11] h4 fun r33 h11 => r33 = .tuple #[] ∧ R (.tuple #[]) h11)) ∧
  ((Encode11 != 0) = false → (R (.tuple #[]) h4))))))
theorem stage_Space_change.eq (p0sb p0so : Nat) (p1addr : Int) (p2to_0 : Bool) (p2to_1 : Bool) (p2to_2 : Bool) (p2to_3 : Bool) (p2to_4 : Int) (h : Hp) (R : Value → Hp → Prop) : evBody Try.prog calls stage_Space_change.hints Try.f55 [.ptr p0sb p0so, .int .u32 p1addr, .agg [.bool p2to_0, .bool p2to_1, .bool p2to_2, .bool p2to_3, .int .i64 p2to_4]] h R = stage_Space_change.P p0sb p0so p1addr p2to_0 p2to_1 p2to_2 p2to_3 p2to_4 h R := by kernel_rfl
theorem stage_Space_change.calls (p0sb p0so : Nat) (p1addr : Int) (p2to_0 : Bool) (p2to_1 : Bool) (p2to_2 : Bool) (p2to_3 : Bool) (p2to_4 : Int) (h : Hp) (R : Value → Hp → Prop) (hp : stage_Space_change.P p0sb p0so p1addr p2to_0 p2to_1 p2to_2 p2to_3 p2to_4 h R) : CallsH Try.prog 55 [.pointer (some ⟨p0sb, p0so, none⟩), .int .u32 p1addr, .agg #[.bool p2to_0, .bool p2to_1, .bool p2to_2, .bool p2to_3, .int .i64 p2to_4]] h R :=
  calls_of_body calls_ok Try.func55 (args := [.ptr p0sb p0so, .int .u32 p1addr, .agg [.bool p2to_0, .bool p2to_1, .bool p2to_2, .bool p2to_3, .int .i64 p2to_4]]) (by rw [stage_Space_change.eq]; exact hp)
/-! ### stage_at: function 56 -/
def stage_at.hints : Hints := { loops := [], cuts := [], orders := [] }
def stage_at.P (p0table : Int) (p1index : Int) (h : Hp) (R : Value → Hp → Prop) : Prop :=
  R (.int .u32 (IntKind.wrap .u32 (IntKind.wrap .i64 ((IntKind.wrap .i64 (256 * p0table)) + (IntKind.wrap .i64 (4 * p1index)))))) h
theorem stage_at.eq (p0table : Int) (p1index : Int) (h : Hp) (R : Value → Hp → Prop) : evBody Try.prog calls stage_at.hints Try.f56 [.int .i64 p0table, .int .i64 p1index] h R = stage_at.P p0table p1index h R := by kernel_rfl
theorem stage_at.calls (p0table : Int) (p1index : Int) (h : Hp) (R : Value → Hp → Prop) (hp : stage_at.P p0table p1index h R) : CallsH Try.prog 56 [.int .i64 p0table, .int .i64 p1index] h R :=
  calls_of_body calls_ok Try.func56 (args := [.int .i64 p0table, .int .i64 p1index]) (by rw [stage_at.eq]; exact hp)
/-! ### walk_found: function 57 -/
def walk_found.hints : Hints := { loops := [], cuts := [], orders := [(9, [0, 1, 0, 4, 15, 31, 63], (.leaf [0, 1, 2, 3, 4, 5, 6])), (11, [0, 0, 2, 0, 8, 31, 63, 127, 127, 255, 1023], (.leaf [0, 1, 2, 3, 4, 5, 6, 7, 8, 9, 10]))] }
def walk_found.P (p0mb p0mo : Nat) (p1root : Int) (p2addr : Int) (h : Hp) (R : Value → Hp → Prop) : Prop :=
  ∀ h1 : Hp, h1 = new h (blk 54 [.bool false, .bool false, .bool false, .bool false, .int .i64 0]) → CallsH Try.prog 99 [.int .u32 p2addr] h1 fun r1 h2 => ∃ Inside2 : Bool, r1 = .bool Inside2 ∧ ((!Inside2) = true →
  (∃ x3 : Bool, cellAt h2 (sz h) (0 + 0) = some (.bool x3) ∧ ∃ x4 : Bool, cellAt h2 (sz h) (0 + 1) = some (.bool x4) ∧ ∃ x5 : Bool, cellAt h2 (sz h) (0 + 2) = some (.bool x5) ∧ ∃ x6 : Bool, cellAt h2 (sz h) (0 + 3) = some (.bool x6) ∧
  ∃ x7 : Int, cellAt h2 (sz h) (0 + 4) = some (.int .i64 x7) ∧ truly true ∧ ∃ T8 : TypeId, ∃ l9 : List Value, bk h2 (sz h) = some (blk T8 l9) ∧ 0 + 5 ≤ l9.length ∧ ∀ h3 : Hp, h3 = upd h2 (sz h) T8 (writeAt l9 0 [.bool x3, .bool x4, .bool x5, .bool x6, .int .i64 x7]) →
  ∃ res10 : Bool, cellAt h3 (sz h) (0 + 0) = some (.bool res10) ∧ ∃ res11 : Bool, cellAt h3 (sz h) (0 + 1) = some (.bool res11) ∧ ∃ res12 : Bool, cellAt h3 (sz h) (0 + 2) = some (.bool res12) ∧ ∃ res13 : Bool, cellAt h3 (sz h) (0 + 3) = some (.bool res13) ∧
  ∃ res14 : Int, cellAt h3 (sz h) (0 + 4) = some (.int .i64 res14) ∧ R (.tuple #[.agg #[.bool res10, .bool res11, .bool res12, .bool res13, .int .i64 res14], .int .i64 0, .int .i64 1]) h3)) ∧ ((!Inside2) = false →
  (CallsH Try.prog 101 [.int .u32 p2addr] h2 fun r15 h4 => ∃ First16 : Int, r15 = .int .i64 First16 ∧ CallsH Try.prog 100 [.pointer (some ⟨p0mb, p0mo, none⟩), .int .i64 p1root, .int .i64 First16] h4 fun r17 h5 => ∃ read18 : Bool, ∃ read19 : Bool, ∃ read20 : Bool, ∃ read21 : Bool, ∃ read22 : Int, ∃ read23 : Bool, r17 = .tuple #[.agg #[.bool read18, .bool read19, .bool read20, .bool read21, .int .i64 read22], .bool read23] ∧
  ∀ h6 : Hp, h6 = new h5 (blk 54 [.bool false, .bool false, .bool false, .bool false, .int .i64 0]) → truly true ∧ ∃ T24 : TypeId, ∃ l25 : List Value, bk h6 (sz h5) = some (blk T24 l25) ∧ 0 + 5 ≤ l25.length ∧
  ∀ h7 : Hp, h7 = upd h6 (sz h5) T24 (writeAt l25 0 [.bool read18, .bool read19, .bool read20, .bool read21, .int .i64 read22]) → ((!read23) = true → (∃ x26 : Bool, cellAt h7 (sz h) (0 + 0) = some (.bool x26) ∧
  ∃ x27 : Bool, cellAt h7 (sz h) (0 + 1) = some (.bool x27) ∧ ∃ x28 : Bool, cellAt h7 (sz h) (0 + 2) = some (.bool x28) ∧ ∃ x29 : Bool, cellAt h7 (sz h) (0 + 3) = some (.bool x29) ∧ ∃ x30 : Int, cellAt h7 (sz h) (0 + 4) = some (.int .i64 x30) ∧
  truly true ∧ ∃ T31 : TypeId, ∃ l32 : List Value, bk h7 (sz h) = some (blk T31 l32) ∧ 0 + 5 ≤ l32.length ∧ ∀ h8 : Hp, h8 = upd h7 (sz h) T31 (writeAt l32 0 [.bool x26, .bool x27, .bool x28, .bool x29, .int .i64 x30]) →
  ∃ res33 : Bool, cellAt h8 (sz h) (0 + 0) = some (.bool res33) ∧ ∃ res34 : Bool, cellAt h8 (sz h) (0 + 1) = some (.bool res34) ∧ ∃ res35 : Bool, cellAt h8 (sz h) (0 + 2) = some (.bool res35) ∧ ∃ res36 : Bool, cellAt h8 (sz h) (0 + 3) = some (.bool res36) ∧
  ∃ res37 : Int, cellAt h8 (sz h) (0 + 4) = some (.int .i64 res37) ∧ R (.tuple #[.agg #[.bool res33, .bool res34, .bool res35, .bool res36, .int .i64 res37], .int .i64 0, .int .i64 5]) h8)) ∧ ((!read23) = false →
  (∃ Valid38 : Bool, cellAt h7 (sz h5) 0 = some (.bool Valid38) ∧ ((!Valid38) = true → (∃ x39 : Bool, cellAt h7 (sz h) (0 + 0) = some (.bool x39) ∧ ∃ x40 : Bool, cellAt h7 (sz h) (0 + 1) = some (.bool x40) ∧
  ∃ x41 : Bool, cellAt h7 (sz h) (0 + 2) = some (.bool x41) ∧ ∃ x42 : Bool, cellAt h7 (sz h) (0 + 3) = some (.bool x42) ∧ ∃ x43 : Int, cellAt h7 (sz h) (0 + 4) = some (.int .i64 x43) ∧ truly true ∧ ∃ T44 : TypeId, ∃ l45 : List Value, bk h7 (sz h) = some (blk T44 l45) ∧
  0 + 5 ≤ l45.length ∧ ∀ h9 : Hp, h9 = upd h7 (sz h) T44 (writeAt l45 0 [.bool x39, .bool x40, .bool x41, .bool x42, .int .i64 x43]) → ∃ res46 : Bool, cellAt h9 (sz h) (0 + 0) = some (.bool res46) ∧ ∃ res47 : Bool, cellAt h9 (sz h) (0 + 1) = some (.bool res47) ∧
  ∃ res48 : Bool, cellAt h9 (sz h) (0 + 2) = some (.bool res48) ∧ ∃ res49 : Bool, cellAt h9 (sz h) (0 + 3) = some (.bool res49) ∧ ∃ res50 : Int, cellAt h9 (sz h) (0 + 4) = some (.int .i64 res50) ∧ R (.tuple #[.agg #[.bool res46, .bool res47, .bool res48, .bool res49, .int .i64 res50], .int .i64 1, .int .i64 2]) h9)) ∧
  ((!Valid38) = false → (∃ Block51 : Bool, cellAt h7 (sz h5) 3 = some (.bool Block51) ∧ ((Block51) = true → (∃ Frame52 : Int, cellAt h7 (sz h5) 4 = some (.int .i64 Frame52) ∧ CallsH Try.prog 102 [.int .u32 p2addr] h7 fun r53 h10 => ∃ Second54 : Int, r53 = .int .i64 Second54 ∧
  cellAt h10 (sz h5) 4 = some (.int .i64 Frame52) ∧ truly true ∧ ∃ T55 : TypeId, ∃ l56 : List Value, bk h10 (sz h5) = some (blk T55 l56) ∧ 4 + 1 ≤ l56.length ∧ ∀ h11 : Hp, h11 = upd h10 (sz h5) T55 (writeAt l56 4 [.int .i64 (IntKind.wrap .i64 (Frame52 + Second54))]) →
  ∃ x57 : Bool, cellAt h11 (sz h5) (0 + 0) = some (.bool x57) ∧ ∃ x58 : Bool, cellAt h11 (sz h5) (0 + 1) = some (.bool x58) ∧ ∃ x59 : Bool, cellAt h11 (sz h5) (0 + 2) = some (.bool x59) ∧ ∃ x60 : Bool, cellAt h11 (sz h5) (0 + 3) = some (.bool x60) ∧
  ∃ x61 : Int, cellAt h11 (sz h5) (0 + 4) = some (.int .i64 x61) ∧ truly true ∧ ∃ T62 : TypeId, ∃ l63 : List Value, bk h11 (sz h) = some (blk T62 l63) ∧ 0 + 5 ≤ l63.length ∧ ∀ h12 : Hp, h12 = upd h11 (sz h) T62 (writeAt l63 0 [.bool x57, .bool x58, .bool x59, .bool x60, .int .i64 x61]) →
  ∃ res64 : Bool, cellAt h12 (sz h) (0 + 0) = some (.bool res64) ∧ ∃ res65 : Bool, cellAt h12 (sz h) (0 + 1) = some (.bool res65) ∧ ∃ res66 : Bool, cellAt h12 (sz h) (0 + 2) = some (.bool res66) ∧ ∃ res67 : Bool, cellAt h12 (sz h) (0 + 3) = some (.bool res67) ∧
  ∃ res68 : Int, cellAt h12 (sz h) (0 + 4) = some (.int .i64 res68) ∧ R (.tuple #[.agg #[.bool res64, .bool res65, .bool res66, .bool res67, .int .i64 res68], .int .i64 1, .int .i64 0]) h12)) ∧ ((Block51) = false →
  (∃ Frame69 : Int, cellAt h7 (sz h5) 4 = some (.int .i64 Frame69) ∧ CallsH Try.prog 102 [.int .u32 p2addr] h7 fun r70 h13 => ∃ Second71 : Int, r70 = .int .i64 Second71 ∧ cellAt h13 (sz h5) 4 = some (.int .i64 Frame69) ∧
  CallsH Try.prog 100 [.pointer (some ⟨p0mb, p0mo, none⟩), .int .i64 Frame69, .int .i64 Second71] h13 fun r72 h14 => ∃ read73 : Bool, ∃ read74 : Bool, ∃ read75 : Bool, ∃ read76 : Bool, ∃ read77 : Int, ∃ read78 : Bool, r72 = .tuple #[.agg #[.bool read73, .bool read74, .bool read75, .bool read76, .int .i64 read77], .bool read78] ∧
  truly true ∧ ∃ T79 : TypeId, ∃ l80 : List Value, bk h14 (sz h) = some (blk T79 l80) ∧ 0 + 5 ≤ l80.length ∧ ∀ h15 : Hp, h15 = upd h14 (sz h) T79 (writeAt l80 0 [.bool read73, .bool read74, .bool read75, .bool read76, .int .i64 read77]) →
  ((!read78) = true → (∃ x81 : Bool, cellAt h15 (sz h) (0 + 0) = some (.bool x81) ∧ ∃ x82 : Bool, cellAt h15 (sz h) (0 + 1) = some (.bool x82) ∧ ∃ x83 : Bool, cellAt h15 (sz h) (0 + 2) = some (.bool x83) ∧
  ∃ x84 : Bool, cellAt h15 (sz h) (0 + 3) = some (.bool x84) ∧ ∃ x85 : Int, cellAt h15 (sz h) (0 + 4) = some (.int .i64 x85) ∧ truly true ∧ ∃ T86 : TypeId, ∃ l87 : List Value, bk h15 (sz h) = some (blk T86 l87) ∧
  0 + 5 ≤ l87.length ∧ ∀ h16 : Hp, h16 = upd h15 (sz h) T86 (writeAt l87 0 [.bool x81, .bool x82, .bool x83, .bool x84, .int .i64 x85]) → ∃ res88 : Bool, cellAt h16 (sz h) (0 + 0) = some (.bool res88) ∧
  ∃ res89 : Bool, cellAt h16 (sz h) (0 + 1) = some (.bool res89) ∧ ∃ res90 : Bool, cellAt h16 (sz h) (0 + 2) = some (.bool res90) ∧ ∃ res91 : Bool, cellAt h16 (sz h) (0 + 3) = some (.bool res91) ∧ ∃ res92 : Int, cellAt h16 (sz h) (0 + 4) = some (.int .i64 res92) ∧
  R (.tuple #[.agg #[.bool res88, .bool res89, .bool res90, .bool res91, .int .i64 res92], .int .i64 1, .int .i64 5]) h16)) ∧ ((!read78) = false → (∃ Valid93 : Bool, cellAt h15 (sz h) 0 = some (.bool Valid93) ∧
  ((!Valid93) = true → (∃ x94 : Bool, cellAt h15 (sz h) (0 + 0) = some (.bool x94) ∧ ∃ x95 : Bool, cellAt h15 (sz h) (0 + 1) = some (.bool x95) ∧ ∃ x96 : Bool, cellAt h15 (sz h) (0 + 2) = some (.bool x96) ∧
  ∃ x97 : Bool, cellAt h15 (sz h) (0 + 3) = some (.bool x97) ∧ ∃ x98 : Int, cellAt h15 (sz h) (0 + 4) = some (.int .i64 x98) ∧ truly true ∧ ∃ T99 : TypeId, ∃ l100 : List Value, bk h15 (sz h) = some (blk T99 l100) ∧
  0 + 5 ≤ l100.length ∧ ∀ h17 : Hp, h17 = upd h15 (sz h) T99 (writeAt l100 0 [.bool x94, .bool x95, .bool x96, .bool x97, .int .i64 x98]) → ∃ res101 : Bool, cellAt h17 (sz h) (0 + 0) = some (.bool res101) ∧
  ∃ res102 : Bool, cellAt h17 (sz h) (0 + 1) = some (.bool res102) ∧ ∃ res103 : Bool, cellAt h17 (sz h) (0 + 2) = some (.bool res103) ∧ ∃ res104 : Bool, cellAt h17 (sz h) (0 + 3) = some (.bool res104) ∧
  ∃ res105 : Int, cellAt h17 (sz h) (0 + 4) = some (.int .i64 res105) ∧ R (.tuple #[.agg #[.bool res101, .bool res102, .bool res103, .bool res104, .int .i64 res105], .int .i64 2, .int .i64 3]) h17)) ∧
  ((!Valid93) = false → (truly true ∧ ∃ T106 : TypeId, ∃ l107 : List Value, bk h15 (sz h) = some (blk T106 l107) ∧ 3 + 1 ≤ l107.length ∧ ∀ h18 : Hp, h18 = upd h15 (sz h) T106 (writeAt l107 3 [.bool false]) →
  ∃ x108 : Bool, cellAt h18 (sz h) (0 + 0) = some (.bool x108) ∧ ∃ x109 : Bool, cellAt h18 (sz h) (0 + 1) = some (.bool x109) ∧ ∃ x110 : Bool, cellAt h18 (sz h) (0 + 2) = some (.bool x110) ∧ ∃ x111 : Bool, cellAt h18 (sz h) (0 + 3) = some (.bool x111) ∧
  ∃ x112 : Int, cellAt h18 (sz h) (0 + 4) = some (.int .i64 x112) ∧ truly true ∧ ∃ T113 : TypeId, ∃ l114 : List Value, bk h18 (sz h) = some (blk T113 l114) ∧ 0 + 5 ≤ l114.length ∧ ∀ h19 : Hp, h19 = upd h18 (sz h) T113 (writeAt l114 0 [.bool x108, .bool x109, .bool x110, .bool x111, .int .i64 x112]) →
  ∃ res115 : Bool, cellAt h19 (sz h) (0 + 0) = some (.bool res115) ∧ ∃ res116 : Bool, cellAt h19 (sz h) (0 + 1) = some (.bool res116) ∧ ∃ res117 : Bool, cellAt h19 (sz h) (0 + 2) = some (.bool res117) ∧
  ∃ res118 : Bool, cellAt h19 (sz h) (0 + 3) = some (.bool res118) ∧ ∃ res119 : Int, cellAt h19 (sz h) (0 + 4) = some (.int .i64 res119) ∧ R (.tuple #[.agg #[.bool res115, .bool res116, .bool res117, .bool res118, .int .i64 res119], .int .i64 2, .int .i64 0]) h19))))))))))))
theorem walk_found.eq (p0mb p0mo : Nat) (p1root : Int) (p2addr : Int) (h : Hp) (R : Value → Hp → Prop) : evBody Try.prog calls walk_found.hints Try.f57 [.ptr p0mb p0mo, .int .i64 p1root, .int .u32 p2addr] h R = walk_found.P p0mb p0mo p1root p2addr h R := by kernel_rfl
theorem walk_found.calls (p0mb p0mo : Nat) (p1root : Int) (p2addr : Int) (h : Hp) (R : Value → Hp → Prop) (hp : walk_found.P p0mb p0mo p1root p2addr h R) : CallsH Try.prog 57 [.pointer (some ⟨p0mb, p0mo, none⟩), .int .i64 p1root, .int .u32 p2addr] h R :=
  calls_of_body calls_ok Try.func57 (args := [.ptr p0mb p0mo, .int .i64 p1root, .int .u32 p2addr]) (by rw [walk_found.eq]; exact hp)
end Go.Proofs.Ytmldiibfmhkgjaa
