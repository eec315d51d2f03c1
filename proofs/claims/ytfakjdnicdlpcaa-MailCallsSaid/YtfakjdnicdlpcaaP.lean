/-
  Printed by this repo's own wip/tools/pr.py: what each function owes, as a proposition over heaps, read out of its body by the core.
-/
import Derived.Test.YtfakjdnicdlpcaaProg
import Derived.Test.YtfakjdnicdlpcaaWdFn
import Derived.KernelRfl
namespace Go.Proofs.Ytfakjdnicdlpcaa
open Go Go.Wd
set_option linter.unusedVariables false
set_option maxRecDepth 100000
def calls : Known := ⟨fun f => [7, 8, 9, 10, 11, 12, 13, 14, 15, 16, 17, 18, 19, 20].any (Nat.beq f), fun f => [].any (Nat.beq f)⟩
theorem calls_ok : CallsOk Try.prog calls := by
  intro f hf
  simp only [calls, List.any_cons, List.any_nil, Bool.or_eq_true, Bool.or_false] at hf
  rcases hf with hf | hf | hf | hf | hf | hf | hf | hf | hf | hf | hf | hf | hf | hf
  · obtain rfl := Nat.eq_of_beq_eq_true hf; exact Try.call7
  · obtain rfl := Nat.eq_of_beq_eq_true hf; exact Try.call8
  · obtain rfl := Nat.eq_of_beq_eq_true hf; exact Try.call9
  · obtain rfl := Nat.eq_of_beq_eq_true hf; exact Try.call10
  · obtain rfl := Nat.eq_of_beq_eq_true hf; exact Try.call11
  · obtain rfl := Nat.eq_of_beq_eq_true hf; exact Try.call12
  · obtain rfl := Nat.eq_of_beq_eq_true hf; exact Try.call13
  · obtain rfl := Nat.eq_of_beq_eq_true hf; exact Try.call14
  · obtain rfl := Nat.eq_of_beq_eq_true hf; exact Try.call15
  · obtain rfl := Nat.eq_of_beq_eq_true hf; exact Try.call16
  · obtain rfl := Nat.eq_of_beq_eq_true hf; exact Try.call17
  · obtain rfl := Nat.eq_of_beq_eq_true hf; exact Try.call18
  · obtain rfl := Nat.eq_of_beq_eq_true hf; exact Try.call19
  · obtain rfl := Nat.eq_of_beq_eq_true hf; exact Try.call20
/-! ### warderlaw22_MailCalls: function 3 -/
def warderlaw22_MailCalls.hints : Hints := { loops := [(8, [0, 1, 5, 6], [(7, (.one (.int .i64)))])], cuts := [(16, [0, 1, 5, 6, 7, 8, 9, 10], [(53, (.one .bool))]), (25, [0, 1, 5, 6, 7, 8, 11], [(82, (.one .bool))]), (37, [0, 1, 5, 6, 7], []), (42, [0, 1, 5, 6, 7], [(16, (.one (.int .i64))), (17, (.one .bool))])], orders := [(15, [0, 1, 3, 7, 15, 31, 3, 67, 255, 511, 1023, 2047], (.leaf [0, 1, 2, 3, 4, 5, 6, 7, 8, 9, 10, 11])), (19, [0, 1, 3, 7, 0, 16, 0, 127, 255], (.leaf [0, 1, 2, 3, 4, 5, 6, 7, 8])), (24, [0, 1, 3, 7, 15, 31, 3, 67, 255, 511, 1023, 2047], (.leaf [0, 1, 2, 3, 4, 5, 6, 7, 8, 9, 10, 11])), (25, [0, 1, 3, 7, 0, 16, 63, 127, 255, 511, 1023], (.leaf [0, 1, 2, 3, 4, 5, 6, 7, 8, 9, 10])), (26, [0, 1, 3, 7, 0, 16, 0, 127, 255], (.leaf [0, 1, 2, 3, 4, 5, 6, 7, 8])), (30, [0, 0, 2, 0, 8, 0, 32, 127, 0, 0, 512, 0, 2048, 0, 8192, 32767, 65535], (.leaf [0, 1, 2, 3, 4, 5, 6, 8, 9, 10, 11, 12, 13, 14, 7, 15, 16]))] }
def warderlaw22_MailCalls.P (p0callsa : Option Addr) (p0callsl : Nat) (p0callsc : Nat) (p1who : Int) (h : Hp) (R : Value → Hp → Prop) : Prop :=
  CallsH Try.prog 7 [] h fun r1 h1 => ∃ alive2 : Bool, r1 = .bool alive2 ∧ ((!alive2) = true → (R (.bool false) h1)) ∧ ((!alive2) = false → (((decide (((p0callsl : Nat) : Int) > 200)) = true → (R (.bool true) h1)) ∧
  ((decide (((p0callsl : Nat) : Int) > 200)) = false → (CallsH Try.prog 8 [] h1 fun r3 h2 => ∃ New4 : Option Addr, r3 = .pointer New4 ∧ CallsH Try.prog 9 [] h2 fun r5 h3 => ∃ New6 : Option Addr, r5 = .pointer New6 ∧
  ∃ I7 : Int → Hp → Prop, ∃ m8 : Int → Hp → Nat, I7 0 h3 ∧ ∀ i9 : Int, ∀ h4 : Hp, I7 i9 h4 → ((decide (i9 < ((p0callsl : Nat) : Int))) = true → ((0 : Int) ≤ i9 ∧ i9 < ((p0callsl : Nat) : Int) ∧ ∃ b10 : Nat, ∃ o11 : Nat, (p0callsa : Option Addr) = some ⟨b10, o11, none⟩ ∧
  ∃ x12 : Int, cellAt h4 b10 (o11 + i9.toNat * 4 + 0) = some (.int .i64 x12) ∧ ∃ x13 : Int, cellAt h4 b10 (o11 + i9.toNat * 4 + 1) = some (.int .i64 x13) ∧ ∃ x14 : Int, cellAt h4 b10 (o11 + i9.toNat * 4 + 2) = some (.int .i64 x14) ∧
  ∃ x15 : Int, cellAt h4 b10 (o11 + i9.toNat * 4 + 3) = some (.int .u32 x15) ∧ ∀ h5 : Hp, h5 = new h4 (blk 30 [.int .i64 0, .int .i64 0, .int .i64 0, .int .u32 0]) → truly true ∧ ∃ T16 : TypeId, ∃ l17 : List Value, bk h5 (sz h4) = some (blk T16 l17) ∧
  0 + 4 ≤ l17.length ∧ ∀ h6 : Hp, h6 = upd h5 (sz h4) T16 (writeAt l17 0 [.int .i64 x12, .int .i64 x13, .int .i64 x14, .int .u32 x15]) → ∃ To18 : Int, cellAt h6 (sz h4) 2 = some (.int .i64 To18) ∧ CallsH Try.prog 10 [.int .i64 To18] h6 fun r19 h7 => ∃ Guest20 : Bool, r19 = .bool Guest20 ∧
  ∃ I21 : Hp → Prop, (∃ What22 : Int, cellAt h7 (sz h4) 0 = some (.int .i64 What22) ∧ ((What22 == 0) = true → (∃ I23 : Bool → Hp → Prop, (((Guest20) = true → (∃ b24 : Nat, ∃ o25 : Nat, New6 = some ⟨b24, o25, none⟩ ∧
  ∃ Boxesa26 : Option Addr, ∃ Boxesl27 : Nat, ∃ Boxesc28 : Nat, cellAt h7 b24 o25 = some (.slice Boxesa26 Boxesl27 Boxesc28) ∧ ∃ To29 : Int, cellAt h7 (sz h4) 2 = some (.int .i64 To29) ∧ (0 : Int) ≤ To29 ∧
  To29 < ((Boxesl27 : Nat) : Int) ∧ ∃ b30 : Nat, ∃ o31 : Nat, (Boxesa26 : Option Addr) = some ⟨b30, o31, none⟩ ∧ ∃ Open32 : Bool, cellAt h7 b30 (o31 + To29.toNat * 2) = some (.bool Open32) ∧ I23 Open32 h7)) ∧
  ((Guest20) = false → (I23 false h7))) ∧ ∀ x33 : Bool, ∀ h8 : Hp, I23 x33 h8 → ((x33) = true → (∃ To34 : Int, cellAt h8 (sz h4) 2 = some (.int .i64 To34) ∧ CallsH Try.prog 11 [.pointer New4, .int .i64 To34] h8 fun r35 h9 => ∃ Open36 : Int, r35 = .int .i64 Open36 ∧
  ((Open36 != 13) = true → (R (.bool false) h9)) ∧ ((Open36 != 13) = false → (I21 h9)))) ∧ ((x33) = false → (((Guest20) = true → (∃ b37 : Nat, ∃ o38 : Nat, New6 = some ⟨b37, o38, none⟩ ∧ ∃ Boxesa39 : Option Addr, ∃ Boxesl40 : Nat, ∃ Boxesc41 : Nat, cellAt h8 b37 o38 = some (.slice Boxesa39 Boxesl40 Boxesc41) ∧
  ∃ To42 : Int, cellAt h8 (sz h4) 2 = some (.int .i64 To42) ∧ (0 : Int) ≤ To42 ∧ To42 < ((Boxesl40 : Nat) : Int) ∧ ∃ b43 : Nat, ∃ o44 : Nat, (Boxesa39 : Option Addr) = some ⟨b43, o44, none⟩ ∧ truly true ∧
  ∃ T45 : TypeId, ∃ l46 : List Value, bk h8 b43 = some (blk T45 l46) ∧ (o44 + To42.toNat * 2) + 2 ≤ l46.length ∧ ∀ h10 : Hp, h10 = upd h8 b43 T45 (writeAt l46 (o44 + To42.toNat * 2) [.bool true, .slice none 0 0]) →
  ∃ To47 : Int, cellAt h10 (sz h4) 2 = some (.int .i64 To47) ∧ CallsH Try.prog 11 [.pointer New4, .int .i64 To47] h10 fun r48 h11 => ∃ Open49 : Int, r48 = .int .i64 Open49 ∧ ((Open49 != 0) = true → (R (.bool false) h11)) ∧
  ((Open49 != 0) = false → (I21 h11)))) ∧ ((Guest20) = false → (∃ To50 : Int, cellAt h8 (sz h4) 2 = some (.int .i64 To50) ∧ CallsH Try.prog 11 [.pointer New4, .int .i64 To50] h8 fun r51 h12 => ∃ Open52 : Int, r51 = .int .i64 Open52 ∧
  ((Open52 != 11) = true → (R (.bool false) h12)) ∧ ((Open52 != 11) = false → (I21 h12)))))))) ∧ ((What22 == 0) = false → (((What22 == 1) = true → (∃ I53 : Bool → Hp → Prop, (((Guest20) = true → (∃ b54 : Nat, ∃ o55 : Nat, New6 = some ⟨b54, o55, none⟩ ∧
  ∃ Boxesa56 : Option Addr, ∃ Boxesl57 : Nat, ∃ Boxesc58 : Nat, cellAt h7 b54 o55 = some (.slice Boxesa56 Boxesl57 Boxesc58) ∧ ∃ To59 : Int, cellAt h7 (sz h4) 2 = some (.int .i64 To59) ∧ (0 : Int) ≤ To59 ∧
  To59 < ((Boxesl57 : Nat) : Int) ∧ ∃ b60 : Nat, ∃ o61 : Nat, (Boxesa56 : Option Addr) = some ⟨b60, o61, none⟩ ∧ ∃ Open62 : Bool, cellAt h7 b60 (o61 + To59.toNat * 2) = some (.bool Open62) ∧ I53 Open62 h7)) ∧
  ((Guest20) = false → (I53 false h7))) ∧ ∀ x63 : Bool, ∀ h13 : Hp, I53 x63 h13 → ((x63) = true → (∃ b64 : Nat, ∃ o65 : Nat, New6 = some ⟨b64, o65, none⟩ ∧ ∃ Boxesa66 : Option Addr, ∃ Boxesl67 : Nat, ∃ Boxesc68 : Nat, cellAt h13 b64 o65 = some (.slice Boxesa66 Boxesl67 Boxesc68) ∧
  ∃ To69 : Int, cellAt h13 (sz h4) 2 = some (.int .i64 To69) ∧ (0 : Int) ≤ To69 ∧ To69 < ((Boxesl67 : Nat) : Int) ∧ ∃ b70 : Nat, ∃ o71 : Nat, (Boxesa66 : Option Addr) = some ⟨b70, o71, none⟩ ∧ ∃ Lista72 : Option Addr, ∃ Listl73 : Nat, ∃ Listc74 : Nat, cellAt h13 b70 (o71 + To69.toNat * 2 + 1) = some (.slice Lista72 Listl73 Listc74) ∧
  ∃ b75 : Nat, ∃ o76 : Nat, New6 = some ⟨b75, o76, none⟩ ∧ ∃ Boxesa77 : Option Addr, ∃ Boxesl78 : Nat, ∃ Boxesc79 : Nat, cellAt h13 b75 o76 = some (.slice Boxesa77 Boxesl78 Boxesc79) ∧ ∃ To80 : Int, cellAt h13 (sz h4) 2 = some (.int .i64 To80) ∧
  (0 : Int) ≤ To80 ∧ To80 < ((Boxesl78 : Nat) : Int) ∧ ∃ b81 : Nat, ∃ o82 : Nat, (Boxesa77 : Option Addr) = some ⟨b81, o82, none⟩ ∧ truly true ∧ ∃ T83 : TypeId, ∃ l84 : List Value, bk h13 b81 = some (blk T83 l84) ∧
  (o82 + To80.toNat * 2) + 2 ≤ l84.length ∧ ∀ h14 : Hp, h14 = upd h13 b81 T83 (writeAt l84 (o82 + To80.toNat * 2) [.bool false, .slice none 0 0]) → ∃ To85 : Int, cellAt h14 (sz h4) 2 = some (.int .i64 To85) ∧
  CallsH Try.prog 12 [.pointer New4, .int .i64 To85] h14 fun r86 h15 => ∃ Shut87 : Int, r86 = .int .i64 Shut87 ∧ ((Shut87 != ((Listl73 : Nat) : Int)) = true → (R (.bool false) h15)) ∧ ((Shut87 != ((Listl73 : Nat) : Int)) = false →
  (I21 h15)))) ∧ ((x63) = false → (∃ To88 : Int, cellAt h13 (sz h4) 2 = some (.int .i64 To88) ∧ CallsH Try.prog 12 [.pointer New4, .int .i64 To88] h13 fun r89 h16 => ∃ Shut90 : Int, r89 = .int .i64 Shut90 ∧
  ((Shut90 != (-1)) = true → (R (.bool false) h16)) ∧ ((Shut90 != (-1)) = false → (I21 h16)))))) ∧ ((What22 == 1) = false → (((What22 == 2) = true → (∃ From91 : Int, cellAt h7 (sz h4) 1 = some (.int .i64 From91) ∧
  ∃ To92 : Int, cellAt h7 (sz h4) 2 = some (.int .i64 To92) ∧ ∃ Value93 : Int, cellAt h7 (sz h4) 3 = some (.int .u32 Value93) ∧ ∃ From94 : Int, cellAt h7 (sz h4) 1 = some (.int .i64 From94) ∧ ∃ To95 : Int, cellAt h7 (sz h4) 2 = some (.int .i64 To95) ∧
  ∃ Value96 : Int, cellAt h7 (sz h4) 3 = some (.int .u32 Value96) ∧ CallsH Try.prog 13 [.pointer New4, .int .i64 From91, .int .i64 To92, .int .u32 Value93] h7 fun r97 h17 => ∃ Send98 : Int, r97 = .int .i64 Send98 ∧
  cellAt h17 (sz h4) 1 = some (.int .i64 From94) ∧ cellAt h17 (sz h4) 2 = some (.int .i64 To95) ∧ cellAt h17 (sz h4) 3 = some (.int .u32 Value96) ∧ CallsH Try.prog 14 [.pointer New6, .int .i64 From94, .int .i64 To95, .int .u32 Value96] h17 fun r99 h18 => ∃ Send100 : Int, r99 = .int .i64 Send100 ∧
  ((Send98 != Send100) = true → (R (.bool false) h18)) ∧ ((Send98 != Send100) = false → (I21 h18)))) ∧ ((What22 == 2) = false → (((What22 == 3) = true → (∃ To101 : Int, cellAt h7 (sz h4) 2 = some (.int .i64 To101) ∧
  CallsH Try.prog 15 [.pointer New4, .int .i64 To101] h7 fun r102 h19 => ∃ Receive103 : Int, ∃ Receive104 : Int, ∃ Receive105 : Int, r102 = .tuple #[.agg #[.int .i64 Receive103, .int .u32 Receive104], .int .i64 Receive105] ∧
  ∀ h20 : Hp, h20 = new h19 (blk 43 [.int .i64 0, .int .u32 0]) → truly true ∧ ∃ T106 : TypeId, ∃ l107 : List Value, bk h20 (sz h19) = some (blk T106 l107) ∧ 0 + 2 ≤ l107.length ∧ ∀ h21 : Hp, h21 = upd h20 (sz h19) T106 (writeAt l107 0 [.int .i64 Receive103, .int .u32 Receive104]) →
  ∃ To108 : Int, cellAt h21 (sz h4) 2 = some (.int .i64 To108) ∧ CallsH Try.prog 16 [.pointer New6, .int .i64 To108] h21 fun r109 h22 => ∃ Receive110 : Int, ∃ Receive111 : Int, ∃ Receive112 : Int, r109 = .tuple #[.agg #[.int .i64 Receive110, .int .u32 Receive111], .int .i64 Receive112] ∧
  ∀ h23 : Hp, h23 = new h22 (blk 46 [.int .i64 0, .int .u32 0]) → truly true ∧ ∃ T113 : TypeId, ∃ l114 : List Value, bk h23 (sz h22) = some (blk T113 l114) ∧ 0 + 2 ≤ l114.length ∧ ∀ h24 : Hp, h24 = upd h23 (sz h22) T113 (writeAt l114 0 [.int .i64 Receive110, .int .u32 Receive111]) →
  ((Receive105 != Receive112) = true → (R (.bool false) h24)) ∧ ((Receive105 != Receive112) = false → (∃ From115 : Int, cellAt h24 (sz h19) 0 = some (.int .i64 From115) ∧ ∃ From116 : Int, cellAt h24 (sz h22) 0 = some (.int .i64 From116) ∧
  ((From115 != From116) = true → (R (.bool false) h24)) ∧ ((From115 != From116) = false → (∃ Value117 : Int, cellAt h24 (sz h19) 1 = some (.int .u32 Value117) ∧ ∃ Value118 : Int, cellAt h24 (sz h22) 1 = some (.int .u32 Value118) ∧
  ((Value117 != Value118) = true → (R (.bool false) h24)) ∧ ((Value117 != Value118) = false → (I21 h24)))))))) ∧ ((What22 == 3) = false → (I21 h7))))))))) ∧ ∀ h25 : Hp, I21 h25 → ∃ I119 : Int → Bool →
  Hp → Prop, (CallsH Try.prog 10 [.int .i64 p1who] h25 fun r120 h26 => ∃ Guest121 : Bool, r120 = .bool Guest121 ∧ ((Guest121) = true → (∃ b122 : Nat, ∃ o123 : Nat, New6 = some ⟨b122, o123, none⟩ ∧ ∃ Boxesa124 : Option Addr, ∃ Boxesl125 : Nat, ∃ Boxesc126 : Nat, cellAt h26 b122 o123 = some (.slice Boxesa124 Boxesl125 Boxesc126) ∧
  (0 : Int) ≤ p1who ∧ p1who < ((Boxesl125 : Nat) : Int) ∧ ∃ b127 : Nat, ∃ o128 : Nat, (Boxesa124 : Option Addr) = some ⟨b127, o128, none⟩ ∧ ∃ Lista129 : Option Addr, ∃ Listl130 : Nat, ∃ Listc131 : Nat, cellAt h26 b127 (o128 + p1who.toNat * 2 + 1) = some (.slice Lista129 Listl130 Listc131) ∧
  ∃ b132 : Nat, ∃ o133 : Nat, New6 = some ⟨b132, o133, none⟩ ∧ ∃ Boxesa134 : Option Addr, ∃ Boxesl135 : Nat, ∃ Boxesc136 : Nat, cellAt h26 b132 o133 = some (.slice Boxesa134 Boxesl135 Boxesc136) ∧ (0 : Int) ≤ p1who ∧
  p1who < ((Boxesl135 : Nat) : Int) ∧ ∃ b137 : Nat, ∃ o138 : Nat, (Boxesa134 : Option Addr) = some ⟨b137, o138, none⟩ ∧ ∃ Open139 : Bool, cellAt h26 b137 (o138 + p1who.toNat * 2) = some (.bool Open139) ∧
  I119 ((Listl130 : Nat) : Int) Open139 h26)) ∧ ((Guest121) = false → (I119 0 false h26))) ∧ ∀ n140 : Int, ∀ openx141 : Bool, ∀ h27 : Hp, I119 n140 openx141 h27 → CallsH Try.prog 17 [.pointer New4, .int .i64 p1who] h27 fun r142 h28 => ∃ Len143 : Int, r142 = .int .i64 Len143 ∧
  ((Len143 != n140) = true → (R (.bool false) h28)) ∧ ((Len143 != n140) = false → (CallsH Try.prog 18 [.pointer New4, .int .i64 p1who] h28 fun r144 h29 => ∃ IsOpen145 : Bool, r144 = .bool IsOpen145 ∧ ((notIf false (IsOpen145 == openx141)) = true →
  (R (.bool false) h29)) ∧ ((notIf false (IsOpen145 == openx141)) = false → (I7 (IntKind.wrap .i64 (i9 + 1)) h29 ∧ m8 (IntKind.wrap .i64 (i9 + 1)) h29 < m8 i9 h4)))))) ∧ ((decide (i9 < ((p0callsl : Nat) : Int))) = false →
  (R (.bool true) h4))))))
theorem warderlaw22_MailCalls.eq (p0callsa : Option Addr) (p0callsl : Nat) (p0callsc : Nat) (p1who : Int) (h : Hp) (R : Value → Hp → Prop) : evBody Try.prog calls warderlaw22_MailCalls.hints Try.f3 [.slice p0callsa p0callsl p0callsc, .int .i64 p1who] h R = warderlaw22_MailCalls.P p0callsa p0callsl p0callsc p1who h R := by kernel_rfl
theorem warderlaw22_MailCalls.calls (p0callsa : Option Addr) (p0callsl : Nat) (p0callsc : Nat) (p1who : Int) (h : Hp) (R : Value → Hp → Prop) (hp : warderlaw22_MailCalls.P p0callsa p0callsl p0callsc p1who h R) : CallsH Try.prog 3 [.slice p0callsa p0callsl p0callsc, .int .i64 p1who] h R :=
  calls_of_body calls_ok Try.func3 (args := [.slice p0callsa p0callsl p0callsc, .int .i64 p1who]) (by rw [warderlaw22_MailCalls.eq]; exact hp)
/-! ### warderlaw22_MailOrder: function 4 -/
def warderlaw22_MailOrder.hints : Hints := { loops := [(9, [0, 1, 2, 7], [(8, (.one (.int .i64)))]), (17, [0, 1, 2, 7], [(10, (.one (.int .i64)))])], cuts := [], orders := [(20, [0, 1, 3, 7, 15, 7, 63, 127, 255, 511, 1023, 511, 511, 6655, 14847, 32767, 65535], (.leaf [0, 1, 2, 3, 4, 5, 6, 7, 8, 9, 10, 11, 12, 13, 14, 15, 16]))] }
def warderlaw22_MailOrder.P (p0valuesa : Option Addr) (p0valuesl : Nat) (p0valuesc : Nat) (p1from : Int) (p2to : Int) (h : Hp) (R : Value → Hp → Prop) : Prop :=
  CallsH Try.prog 7 [] h fun r1 h1 => ∃ alive2 : Bool, r1 = .bool alive2 ∧ ((!alive2) = true → (R (.bool false) h1)) ∧ ((!alive2) = false → (CallsH Try.prog 10 [.int .i64 p1from] h1 fun r3 h2 => ∃ Guest4 : Bool, r3 = .bool Guest4 ∧
  ((!Guest4) = true → (R (.bool true) h2)) ∧ ((!Guest4) = false → (CallsH Try.prog 10 [.int .i64 p2to] h2 fun r5 h3 => ∃ Guest6 : Bool, r5 = .bool Guest6 ∧ ((!Guest6) = true → (R (.bool true) h3)) ∧ ((!Guest6) = false →
  (((p1from == p2to) = true → (R (.bool true) h3)) ∧ ((p1from == p2to) = false → (((decide (((p0valuesl : Nat) : Int) > 50)) = true → (R (.bool true) h3)) ∧ ((decide (((p0valuesl : Nat) : Int) > 50)) = false →
  (CallsH Try.prog 8 [] h3 fun r7 h4 => ∃ New8 : Option Addr, r7 = .pointer New8 ∧ CallsH Try.prog 11 [.pointer New8, .int .i64 p2to] h4 fun r9 h5 => ∃ Open10 : Int, r9 = .int .i64 Open10 ∧ ((Open10 != 0) = true →
  (R (.bool false) h5)) ∧ ((Open10 != 0) = false → (∃ I11 : Int → Hp → Prop, ∃ m12 : Int → Hp → Nat, I11 0 h5 ∧ ∀ i13 : Int, ∀ h6 : Hp, I11 i13 h6 → ((decide (i13 < ((p0valuesl : Nat) : Int))) = true →
  (((decide (i13 ≥ 8)) = true → ((0 : Int) ≤ i13 ∧ i13 < ((p0valuesl : Nat) : Int) ∧ ∃ b14 : Nat, ∃ o15 : Nat, (p0valuesa : Option Addr) = some ⟨b14, o15, none⟩ ∧ ∃ x16 : Int, cellAt h6 b14 (o15 + i13.toNat * 1) = some (.int .u32 x16) ∧
  CallsH Try.prog 13 [.pointer New8, .int .i64 p1from, .int .i64 p2to, .int .u32 x16] h6 fun r17 h7 => ∃ Send18 : Int, r17 = .int .i64 Send18 ∧ ((Send18 != 15) = true → (R (.bool false) h7)) ∧ ((Send18 != 15) = false →
  (I11 (IntKind.wrap .i64 (i13 + 1)) h7 ∧ m12 (IntKind.wrap .i64 (i13 + 1)) h7 < m12 i13 h6)))) ∧ ((decide (i13 ≥ 8)) = false → ((0 : Int) ≤ i13 ∧ i13 < ((p0valuesl : Nat) : Int) ∧ ∃ b19 : Nat, ∃ o20 : Nat, (p0valuesa : Option Addr) = some ⟨b19, o20, none⟩ ∧
  ∃ x21 : Int, cellAt h6 b19 (o20 + i13.toNat * 1) = some (.int .u32 x21) ∧ CallsH Try.prog 13 [.pointer New8, .int .i64 p1from, .int .i64 p2to, .int .u32 x21] h6 fun r22 h8 => ∃ Send23 : Int, r22 = .int .i64 Send23 ∧
  ((Send23 != 0) = true → (R (.bool false) h8)) ∧ ((Send23 != 0) = false → (I11 (IntKind.wrap .i64 (i13 + 1)) h8 ∧ m12 (IntKind.wrap .i64 (i13 + 1)) h8 < m12 i13 h6)))))) ∧ ((decide (i13 < ((p0valuesl : Nat) : Int))) = false →
  (∃ I24 : Int → Hp → Prop, ∃ m25 : Int → Hp → Nat, I24 0 h6 ∧ ∀ i26 : Int, ∀ h9 : Hp, I24 i26 h9 → ((decide (i26 < ((p0valuesl : Nat) : Int))) = true → (((decide (i26 < 8)) = true → (CallsH Try.prog 15 [.pointer New8, .int .i64 p2to] h9 fun r27 h10 => ∃ Receive28 : Int, ∃ Receive29 : Int, ∃ Receive30 : Int, r27 = .tuple #[.agg #[.int .i64 Receive28, .int .u32 Receive29], .int .i64 Receive30] ∧
  ∀ h11 : Hp, h11 = new h10 (blk 43 [.int .i64 0, .int .u32 0]) → truly true ∧ ∃ T31 : TypeId, ∃ l32 : List Value, bk h11 (sz h10) = some (blk T31 l32) ∧ 0 + 2 ≤ l32.length ∧ ∀ h12 : Hp, h12 = upd h11 (sz h10) T31 (writeAt l32 0 [.int .i64 Receive28, .int .u32 Receive29]) →
  ((Receive30 != 0) = true → (R (.bool false) h12)) ∧ ((Receive30 != 0) = false → (∃ From33 : Int, cellAt h12 (sz h10) 0 = some (.int .i64 From33) ∧ ((From33 != p1from) = true → (R (.bool false) h12)) ∧
  ((From33 != p1from) = false → (∃ Value34 : Int, cellAt h12 (sz h10) 1 = some (.int .u32 Value34) ∧ (0 : Int) ≤ i26 ∧ i26 < ((p0valuesl : Nat) : Int) ∧ ∃ b35 : Nat, ∃ o36 : Nat, (p0valuesa : Option Addr) = some ⟨b35, o36, none⟩ ∧
  ∃ x37 : Int, cellAt h12 b35 (o36 + i26.toNat * 1) = some (.int .u32 x37) ∧ ((Value34 != x37) = true → (R (.bool false) h12)) ∧ ((Value34 != x37) = false → (I24 (IntKind.wrap .i64 (i26 + 1)) h12 ∧ m25 (IntKind.wrap .i64 (i26 + 1)) h12 < m25 i26 h9)))))))) ∧
  ((decide (i26 < 8)) = false → (CallsH Try.prog 15 [.pointer New8, .int .i64 p2to] h9 fun r38 h13 => ∃ Receive39 : Int, ∃ Receive40 : Int, ∃ Receive41 : Int, r38 = .tuple #[.agg #[.int .i64 Receive39, .int .u32 Receive40], .int .i64 Receive41] ∧
  ∀ h14 : Hp, h14 = new h13 (blk 43 [.int .i64 0, .int .u32 0]) → truly true ∧ ∃ T42 : TypeId, ∃ l43 : List Value, bk h14 (sz h13) = some (blk T42 l43) ∧ 0 + 2 ≤ l43.length ∧ ∀ h15 : Hp, h15 = upd h14 (sz h13) T42 (writeAt l43 0 [.int .i64 Receive39, .int .u32 Receive40]) →
  R (.bool (Receive41 == 23)) h15)))) ∧ ((decide (i26 < ((p0valuesl : Nat) : Int))) = false → (CallsH Try.prog 15 [.pointer New8, .int .i64 p2to] h9 fun r44 h16 => ∃ Receive45 : Int, ∃ Receive46 : Int, ∃ Receive47 : Int, r44 = .tuple #[.agg #[.int .i64 Receive45, .int .u32 Receive46], .int .i64 Receive47] ∧
  ∀ h17 : Hp, h17 = new h16 (blk 43 [.int .i64 0, .int .u32 0]) → truly true ∧ ∃ T48 : TypeId, ∃ l49 : List Value, bk h17 (sz h16) = some (blk T48 l49) ∧ 0 + 2 ≤ l49.length ∧ ∀ h18 : Hp, h18 = upd h17 (sz h16) T48 (writeAt l49 0 [.int .i64 Receive45, .int .u32 Receive46]) →
  R (.bool (Receive47 == 23)) h18))))))))))))))))
theorem warderlaw22_MailOrder.eq (p0valuesa : Option Addr) (p0valuesl : Nat) (p0valuesc : Nat) (p1from : Int) (p2to : Int) (h : Hp) (R : Value → Hp → Prop) : evBody Try.prog calls warderlaw22_MailOrder.hints Try.f4 [.slice p0valuesa p0valuesl p0valuesc, .int .i64 p1from, .int .i64 p2to] h R = warderlaw22_MailOrder.P p0valuesa p0valuesl p0valuesc p1from p2to h R := by kernel_rfl
theorem warderlaw22_MailOrder.calls (p0valuesa : Option Addr) (p0valuesl : Nat) (p0valuesc : Nat) (p1from : Int) (p2to : Int) (h : Hp) (R : Value → Hp → Prop) (hp : warderlaw22_MailOrder.P p0valuesa p0valuesl p0valuesc p1from p2to h R) : CallsH Try.prog 4 [.slice p0valuesa p0valuesl p0valuesc, .int .i64 p1from, .int .i64 p2to] h R :=
  calls_of_body calls_ok Try.func4 (args := [.slice p0valuesa p0valuesl p0valuesc, .int .i64 p1from, .int .i64 p2to]) (by rw [warderlaw22_MailOrder.eq]; exact hp)
/-! ### warderlaw22_MailApart: function 5 -/
def warderlaw22_MailApart.hints : Hints := { loops := [(11, [0, 1, 5], [(6, (.one .slice)), (7, (.one .slice)), (8, (.one (.int .i64)))]), (21, [5, 6, 7], [(9, (.one (.int .i64)))])], cuts := [], orders := [(24, [0, 1, 3, 7, 15, 7, 7, 103, 231, 511, 1023, 2047, 4095, 8191, 16383, 32767], (.leaf [0, 1, 2, 3, 4, 5, 6, 7, 8, 9, 10, 11, 12, 13, 14, 15]))] }
def warderlaw22_MailApart.P (p0valuesa : Option Addr) (p0valuesl : Nat) (p0valuesc : Nat) (p1toa : Option Addr) (p1tol : Nat) (p1toc : Nat) (h : Hp) (R : Value → Hp → Prop) : Prop :=
  CallsH Try.prog 7 [] h fun r1 h1 => ∃ alive2 : Bool, r1 = .bool alive2 ∧ ((!alive2) = true → (R (.bool false) h1)) ∧ ((!alive2) = false → (((decide (((p0valuesl : Nat) : Int) > 60)) = true → (R (.bool true) h1)) ∧
  ((decide (((p0valuesl : Nat) : Int) > 60)) = false → (((decide (((p1tol : Nat) : Int) < ((p0valuesl : Nat) : Int))) = true → (R (.bool true) h1)) ∧ ((decide (((p1tol : Nat) : Int) < ((p0valuesl : Nat) : Int))) = false →
  (((decide (((p1tol : Nat) : Int) > 1000)) = true → (R (.bool true) h1)) ∧ ((decide (((p1tol : Nat) : Int) > 1000)) = false → (CallsH Try.prog 8 [] h1 fun r3 h2 => ∃ New4 : Option Addr, r3 = .pointer New4 ∧
  CallsH Try.prog 11 [.pointer New4, .int .i64 3] h2 fun r5 h3 => ∃ Open6 : Int, r5 = .int .i64 Open6 ∧ ((Open6 != 0) = true → (R (.bool false) h3)) ∧ ((Open6 != 0) = false → (CallsH Try.prog 11 [.pointer New4, .int .i64 4] h3 fun r7 h4 => ∃ Open8 : Int, r7 = .int .i64 Open8 ∧
  ((Open8 != 0) = true → (R (.bool false) h4)) ∧ ((Open8 != 0) = false → (∀ h5 : Hp, h5 = new h4 (blk 28 []) → ∀ h6 : Hp, h6 = new h5 (blk 28 []) → ∃ I9 : Option Addr → Nat → Nat → Option Addr → Nat →
  Nat → Int → Hp → Prop, ∃ m10 : Option Addr → Nat → Nat → Option Addr → Nat → Nat → Int → Hp → Nat, I9 (some ⟨sz h4, 0, none⟩) 0 0 (some ⟨sz h5, 0, none⟩) 0 0 0 h6 ∧ ∀ aa11 : Option Addr, ∀ al12 : Nat, ∀ ac13 : Nat, ∀ ba14 : Option Addr, ∀ bl15 : Nat, ∀ bc16 : Nat, ∀ i17 : Int, ∀ h7 : Hp, I9 aa11 al12 ac13 ba14 bl15 bc16 i17 h7 →
  ((decide (i17 < ((p0valuesl : Nat) : Int))) = true → ((0 : Int) ≤ i17 ∧ i17 < ((p1tol : Nat) : Int) ∧ ∃ b18 : Nat, ∃ o19 : Nat, (p1toa : Option Addr) = some ⟨b18, o19, none⟩ ∧ ∃ x20 : Int, cellAt h7 b18 (o19 + i17.toNat * 1) = some (.int .i64 x20) ∧
  ((x20 == 0) = true → ((0 : Int) ≤ i17 ∧ i17 < ((p0valuesl : Nat) : Int) ∧ ∃ b21 : Nat, ∃ o22 : Nat, (p0valuesa : Option Addr) = some ⟨b21, o22, none⟩ ∧ ∃ x23 : Int, cellAt h7 b21 (o22 + i17.toNat * 1) = some (.int .u32 x23) ∧
  CallsH Try.prog 13 [.pointer New4, .int .i64 2, .int .i64 3, .int .u32 x23] h7 fun r24 h8 => ∃ Send25 : Int, r24 = .int .i64 Send25 ∧ ((Send25 == 0) = true → ((0 : Int) ≤ i17 ∧ i17 < ((p0valuesl : Nat) : Int) ∧
  ∃ b26 : Nat, ∃ o27 : Nat, (p0valuesa : Option Addr) = some ⟨b26, o27, none⟩ ∧ ∃ x28 : Int, cellAt h8 b26 (o27 + i17.toNat * 1) = some (.int .u32 x28) ∧ ∀ h9 : Hp, h9 = new h8 (blk 28 [.int .u32 x28]) →
  appendN h9 28 1 4 [.int .u32 0] aa11 al12 ac13 (some ⟨sz h8, 0, none⟩) 1 fun a29 l30 c31 h10 => I9 a29 l30 c31 ba14 bl15 bc16 (IntKind.wrap .i64 (i17 + 1)) h10 ∧ m10 a29 l30 c31 ba14 bl15 bc16 (IntKind.wrap .i64 (i17 + 1)) h10 < m10 aa11 al12 ac13 ba14 bl15 bc16 i17 h7)) ∧
  ((Send25 == 0) = false → (I9 aa11 al12 ac13 ba14 bl15 bc16 (IntKind.wrap .i64 (i17 + 1)) h8 ∧ m10 aa11 al12 ac13 ba14 bl15 bc16 (IntKind.wrap .i64 (i17 + 1)) h8 < m10 aa11 al12 ac13 ba14 bl15 bc16 i17 h7)))) ∧
  ((x20 == 0) = false → ((0 : Int) ≤ i17 ∧ i17 < ((p0valuesl : Nat) : Int) ∧ ∃ b32 : Nat, ∃ o33 : Nat, (p0valuesa : Option Addr) = some ⟨b32, o33, none⟩ ∧ ∃ x34 : Int, cellAt h7 b32 (o33 + i17.toNat * 1) = some (.int .u32 x34) ∧
  CallsH Try.prog 13 [.pointer New4, .int .i64 2, .int .i64 4, .int .u32 x34] h7 fun r35 h11 => ∃ Send36 : Int, r35 = .int .i64 Send36 ∧ ((Send36 == 0) = true → ((0 : Int) ≤ i17 ∧ i17 < ((p0valuesl : Nat) : Int) ∧
  ∃ b37 : Nat, ∃ o38 : Nat, (p0valuesa : Option Addr) = some ⟨b37, o38, none⟩ ∧ ∃ x39 : Int, cellAt h11 b37 (o38 + i17.toNat * 1) = some (.int .u32 x39) ∧ ∀ h12 : Hp, h12 = new h11 (blk 28 [.int .u32 x39]) →
  appendN h12 28 1 4 [.int .u32 0] ba14 bl15 bc16 (some ⟨sz h11, 0, none⟩) 1 fun a40 l41 c42 h13 => I9 aa11 al12 ac13 a40 l41 c42 (IntKind.wrap .i64 (i17 + 1)) h13 ∧ m10 aa11 al12 ac13 a40 l41 c42 (IntKind.wrap .i64 (i17 + 1)) h13 < m10 aa11 al12 ac13 ba14 bl15 bc16 i17 h7)) ∧
  ((Send36 == 0) = false → (I9 aa11 al12 ac13 ba14 bl15 bc16 (IntKind.wrap .i64 (i17 + 1)) h11 ∧ m10 aa11 al12 ac13 ba14 bl15 bc16 (IntKind.wrap .i64 (i17 + 1)) h11 < m10 aa11 al12 ac13 ba14 bl15 bc16 i17 h7)))))) ∧
  ((decide (i17 < ((p0valuesl : Nat) : Int))) = false → (((decide (((al12 : Nat) : Int) > 8)) = true → (R (.bool false) h7)) ∧ ((decide (((al12 : Nat) : Int) > 8)) = false → (((decide (((bl15 : Nat) : Int) > 8)) = true →
  (R (.bool false) h7)) ∧ ((decide (((bl15 : Nat) : Int) > 8)) = false → (CallsH Try.prog 17 [.pointer New4, .int .i64 3] h7 fun r43 h14 => ∃ Len44 : Int, r43 = .int .i64 Len44 ∧ ((Len44 != ((al12 : Nat) : Int)) = true →
  (R (.bool false) h14)) ∧ ((Len44 != ((al12 : Nat) : Int)) = false → (CallsH Try.prog 17 [.pointer New4, .int .i64 4] h14 fun r45 h15 => ∃ Len46 : Int, r45 = .int .i64 Len46 ∧ ((Len46 != ((bl15 : Nat) : Int)) = true →
  (R (.bool false) h15)) ∧ ((Len46 != ((bl15 : Nat) : Int)) = false → (∃ I47 : Int → Hp → Prop, ∃ m48 : Int → Hp → Nat, I47 0 h15 ∧ ∀ i49 : Int, ∀ h16 : Hp, I47 i49 h16 → ((decide (i49 < ((al12 : Nat) : Int))) = true →
  (CallsH Try.prog 15 [.pointer New4, .int .i64 3] h16 fun r50 h17 => ∃ Receive51 : Int, ∃ Receive52 : Int, ∃ Receive53 : Int, r50 = .tuple #[.agg #[.int .i64 Receive51, .int .u32 Receive52], .int .i64 Receive53] ∧
  ∀ h18 : Hp, h18 = new h17 (blk 43 [.int .i64 0, .int .u32 0]) → truly true ∧ ∃ T54 : TypeId, ∃ l55 : List Value, bk h18 (sz h17) = some (blk T54 l55) ∧ 0 + 2 ≤ l55.length ∧ ∀ h19 : Hp, h19 = upd h18 (sz h17) T54 (writeAt l55 0 [.int .i64 Receive51, .int .u32 Receive52]) →
  ((Receive53 != 0) = true → (R (.bool false) h19)) ∧ ((Receive53 != 0) = false → (∃ Value56 : Int, cellAt h19 (sz h17) 1 = some (.int .u32 Value56) ∧ (0 : Int) ≤ i49 ∧ i49 < ((al12 : Nat) : Int) ∧ ∃ b57 : Nat, ∃ o58 : Nat, (aa11 : Option Addr) = some ⟨b57, o58, none⟩ ∧
  ∃ x59 : Int, cellAt h19 b57 (o58 + i49.toNat * 1) = some (.int .u32 x59) ∧ ((Value56 != x59) = true → (R (.bool false) h19)) ∧ ((Value56 != x59) = false → (∃ From60 : Int, cellAt h19 (sz h17) 0 = some (.int .i64 From60) ∧
  ((From60 != 2) = true → (R (.bool false) h19)) ∧ ((From60 != 2) = false → (I47 (IntKind.wrap .i64 (i49 + 1)) h19 ∧ m48 (IntKind.wrap .i64 (i49 + 1)) h19 < m48 i49 h16)))))))) ∧ ((decide (i49 < ((al12 : Nat) : Int))) = false →
  (CallsH Try.prog 12 [.pointer New4, .int .i64 4] h16 fun r61 h20 => ∃ Shut62 : Int, r61 = .int .i64 Shut62 ∧ ((Shut62 != ((bl15 : Nat) : Int)) = true → (R (.bool false) h20)) ∧ ((Shut62 != ((bl15 : Nat) : Int)) = false →
  (CallsH Try.prog 11 [.pointer New4, .int .i64 4] h20 fun r63 h21 => ∃ Open64 : Int, r63 = .int .i64 Open64 ∧ ((Open64 != 0) = true → (R (.bool false) h21)) ∧ ((Open64 != 0) = false → (CallsH Try.prog 15 [.pointer New4, .int .i64 3] h21 fun r65 h22 => ∃ Receive66 : Int, ∃ Receive67 : Int, ∃ Receive68 : Int, r65 = .tuple #[.agg #[.int .i64 Receive66, .int .u32 Receive67], .int .i64 Receive68] ∧
  ∀ h23 : Hp, h23 = new h22 (blk 43 [.int .i64 0, .int .u32 0]) → truly true ∧ ∃ T69 : TypeId, ∃ l70 : List Value, bk h23 (sz h22) = some (blk T69 l70) ∧ 0 + 2 ≤ l70.length ∧ ∀ h24 : Hp, h24 = upd h23 (sz h22) T69 (writeAt l70 0 [.int .i64 Receive66, .int .u32 Receive67]) →
  CallsH Try.prog 15 [.pointer New4, .int .i64 4] h24 fun r71 h25 => ∃ Receive72 : Int, ∃ Receive73 : Int, ∃ Receive74 : Int, r71 = .tuple #[.agg #[.int .i64 Receive72, .int .u32 Receive73], .int .i64 Receive74] ∧
  ∀ h26 : Hp, h26 = new h25 (blk 43 [.int .i64 0, .int .u32 0]) → truly true ∧ ∃ T75 : TypeId, ∃ l76 : List Value, bk h26 (sz h25) = some (blk T75 l76) ∧ 0 + 2 ≤ l76.length ∧ ∀ h27 : Hp, h27 = upd h26 (sz h25) T75 (writeAt l76 0 [.int .i64 Receive72, .int .u32 Receive73]) →
  ((Receive68 == 23) = true → (R (.bool (Receive74 == 23)) h27)) ∧ ((Receive68 == 23) = false → (R (.bool false) h27))))))))))))))))))))))))))))))
theorem warderlaw22_MailApart.eq (p0valuesa : Option Addr) (p0valuesl : Nat) (p0valuesc : Nat) (p1toa : Option Addr) (p1tol : Nat) (p1toc : Nat) (h : Hp) (R : Value → Hp → Prop) : evBody Try.prog calls warderlaw22_MailApart.hints Try.f5 [.slice p0valuesa p0valuesl p0valuesc, .slice p1toa p1tol p1toc] h R = warderlaw22_MailApart.P p0valuesa p0valuesl p0valuesc p1toa p1tol p1toc h R := by kernel_rfl
theorem warderlaw22_MailApart.calls (p0valuesa : Option Addr) (p0valuesl : Nat) (p0valuesc : Nat) (p1toa : Option Addr) (p1tol : Nat) (p1toc : Nat) (h : Hp) (R : Value → Hp → Prop) (hp : warderlaw22_MailApart.P p0valuesa p0valuesl p0valuesc p1toa p1tol p1toc h R) : CallsH Try.prog 5 [.slice p0valuesa p0valuesl p0valuesc, .slice p1toa p1tol p1toc] h R :=
  calls_of_body calls_ok Try.func5 (args := [.slice p0valuesa p0valuesl p0valuesc, .slice p1toa p1tol p1toc]) (by rw [warderlaw22_MailApart.eq]; exact hp)
/-! ### warderlaw22_MailRoom: function 6 -/
def warderlaw22_MailRoom.hints : Hints := { loops := [(10, [0, 3], [(4, (.one (.int .i64))), (5, (.one (.int .i64)))])], cuts := [], orders := [] }
def warderlaw22_MailRoom.P (p0sendsa : Option Addr) (p0sendsl : Nat) (p0sendsc : Nat) (h : Hp) (R : Value → Hp → Prop) : Prop :=
  CallsH Try.prog 7 [] h fun r1 h1 => ∃ alive2 : Bool, r1 = .bool alive2 ∧ ((!alive2) = true → (R (.bool false) h1)) ∧ ((!alive2) = false → (((decide (((p0sendsl : Nat) : Int) > 200)) = true → (R (.bool true) h1)) ∧
  ((decide (((p0sendsl : Nat) : Int) > 200)) = false → (CallsH Try.prog 8 [] h1 fun r3 h2 => ∃ New4 : Option Addr, r3 = .pointer New4 ∧ CallsH Try.prog 11 [.pointer New4, .int .i64 9] h2 fun r5 h3 => ∃ Open6 : Int, r5 = .int .i64 Open6 ∧
  ((Open6 != 0) = true → (R (.bool false) h3)) ∧ ((Open6 != 0) = false → (∃ I7 : Int → Int → Hp → Prop, ∃ m8 : Int → Int → Hp → Nat, I7 0 0 h3 ∧ ∀ n9 : Int, ∀ i10 : Int, ∀ h4 : Hp, I7 n9 i10 h4 → ((decide (i10 < ((p0sendsl : Nat) : Int))) = true →
  ((0 : Int) ≤ i10 ∧ i10 < ((p0sendsl : Nat) : Int) ∧ ∃ b11 : Nat, ∃ o12 : Nat, (p0sendsa : Option Addr) = some ⟨b11, o12, none⟩ ∧ ∃ x13 : Bool, cellAt h4 b11 (o12 + i10.toNat * 1) = some (.bool x13) ∧
  ((x13) = true → (CallsH Try.prog 13 [.pointer New4, .int .i64 2, .int .i64 9, .int .u32 (IntKind.wrap .u32 i10)] h4 fun r14 h5 => ∃ Send15 : Int, r14 = .int .i64 Send15 ∧ ((notIf false ((Send15 == 0) == (decide (n9 < 8)))) = true →
  (R (.bool false) h5)) ∧ ((notIf false ((Send15 == 0) == (decide (n9 < 8)))) = false → (((Send15 != 0) = true → (((Send15 != 15) = true → (R (.bool false) h5)) ∧ ((Send15 != 15) = false → (((Send15 == 0) = true →
  (CallsH Try.prog 17 [.pointer New4, .int .i64 9] h5 fun r16 h6 => ∃ Len17 : Int, r16 = .int .i64 Len17 ∧ ((Len17 != (IntKind.wrap .i64 (n9 + 1))) = true → (R (.bool false) h6)) ∧ ((Len17 != (IntKind.wrap .i64 (n9 + 1))) = false →
  (I7 (IntKind.wrap .i64 (n9 + 1)) (IntKind.wrap .i64 (i10 + 1)) h6 ∧ m8 (IntKind.wrap .i64 (n9 + 1)) (IntKind.wrap .i64 (i10 + 1)) h6 < m8 n9 i10 h4)))) ∧ ((Send15 == 0) = false → (CallsH Try.prog 17 [.pointer New4, .int .i64 9] h5 fun r18 h7 => ∃ Len19 : Int, r18 = .int .i64 Len19 ∧
  ((Len19 != n9) = true → (R (.bool false) h7)) ∧ ((Len19 != n9) = false → (I7 n9 (IntKind.wrap .i64 (i10 + 1)) h7 ∧ m8 n9 (IntKind.wrap .i64 (i10 + 1)) h7 < m8 n9 i10 h4)))))))) ∧ ((Send15 != 0) = false →
  (((Send15 == 0) = true → (CallsH Try.prog 17 [.pointer New4, .int .i64 9] h5 fun r20 h8 => ∃ Len21 : Int, r20 = .int .i64 Len21 ∧ ((Len21 != (IntKind.wrap .i64 (n9 + 1))) = true → (R (.bool false) h8)) ∧
  ((Len21 != (IntKind.wrap .i64 (n9 + 1))) = false → (I7 (IntKind.wrap .i64 (n9 + 1)) (IntKind.wrap .i64 (i10 + 1)) h8 ∧ m8 (IntKind.wrap .i64 (n9 + 1)) (IntKind.wrap .i64 (i10 + 1)) h8 < m8 n9 i10 h4)))) ∧
  ((Send15 == 0) = false → (CallsH Try.prog 17 [.pointer New4, .int .i64 9] h5 fun r22 h9 => ∃ Len23 : Int, r22 = .int .i64 Len23 ∧ ((Len23 != n9) = true → (R (.bool false) h9)) ∧ ((Len23 != n9) = false →
  (I7 n9 (IntKind.wrap .i64 (i10 + 1)) h9 ∧ m8 n9 (IntKind.wrap .i64 (i10 + 1)) h9 < m8 n9 i10 h4)))))))))) ∧ ((x13) = false → (CallsH Try.prog 15 [.pointer New4, .int .i64 9] h4 fun r24 h10 => ∃ Receive25 : Int, ∃ Receive26 : Int, ∃ Receive27 : Int, r24 = .tuple #[.agg #[.int .i64 Receive25, .int .u32 Receive26], .int .i64 Receive27] ∧
  ∀ h11 : Hp, h11 = new h10 (blk 43 [.int .i64 0, .int .u32 0]) → truly true ∧ ∃ T28 : TypeId, ∃ l29 : List Value, bk h11 (sz h10) = some (blk T28 l29) ∧ 0 + 2 ≤ l29.length ∧ ∀ h12 : Hp, h12 = upd h11 (sz h10) T28 (writeAt l29 0 [.int .i64 Receive25, .int .u32 Receive26]) →
  ((notIf false ((Receive27 == 0) == (decide (n9 > 0)))) = true → (R (.bool false) h12)) ∧ ((notIf false ((Receive27 == 0) == (decide (n9 > 0)))) = false → (((Receive27 != 0) = true → (((Receive27 != 23) = true →
  (R (.bool false) h12)) ∧ ((Receive27 != 23) = false → (((Receive27 == 0) = true → (CallsH Try.prog 17 [.pointer New4, .int .i64 9] h12 fun r30 h13 => ∃ Len31 : Int, r30 = .int .i64 Len31 ∧ ((Len31 != (IntKind.wrap .i64 (n9 - 1))) = true →
  (R (.bool false) h13)) ∧ ((Len31 != (IntKind.wrap .i64 (n9 - 1))) = false → (I7 (IntKind.wrap .i64 (n9 - 1)) (IntKind.wrap .i64 (i10 + 1)) h13 ∧ m8 (IntKind.wrap .i64 (n9 - 1)) (IntKind.wrap .i64 (i10 + 1)) h13 < m8 n9 i10 h4)))) ∧
  ((Receive27 == 0) = false → (CallsH Try.prog 17 [.pointer New4, .int .i64 9] h12 fun r32 h14 => ∃ Len33 : Int, r32 = .int .i64 Len33 ∧ ((Len33 != n9) = true → (R (.bool false) h14)) ∧ ((Len33 != n9) = false →
  (I7 n9 (IntKind.wrap .i64 (i10 + 1)) h14 ∧ m8 n9 (IntKind.wrap .i64 (i10 + 1)) h14 < m8 n9 i10 h4)))))))) ∧ ((Receive27 != 0) = false → (((Receive27 == 0) = true → (CallsH Try.prog 17 [.pointer New4, .int .i64 9] h12 fun r34 h15 => ∃ Len35 : Int, r34 = .int .i64 Len35 ∧
  ((Len35 != (IntKind.wrap .i64 (n9 - 1))) = true → (R (.bool false) h15)) ∧ ((Len35 != (IntKind.wrap .i64 (n9 - 1))) = false → (I7 (IntKind.wrap .i64 (n9 - 1)) (IntKind.wrap .i64 (i10 + 1)) h15 ∧ m8 (IntKind.wrap .i64 (n9 - 1)) (IntKind.wrap .i64 (i10 + 1)) h15 < m8 n9 i10 h4)))) ∧
  ((Receive27 == 0) = false → (CallsH Try.prog 17 [.pointer New4, .int .i64 9] h12 fun r36 h16 => ∃ Len37 : Int, r36 = .int .i64 Len37 ∧ ((Len37 != n9) = true → (R (.bool false) h16)) ∧ ((Len37 != n9) = false →
  (I7 n9 (IntKind.wrap .i64 (i10 + 1)) h16 ∧ m8 n9 (IntKind.wrap .i64 (i10 + 1)) h16 < m8 n9 i10 h4)))))))))))) ∧ ((decide (i10 < ((p0sendsl : Nat) : Int))) = false → (CallsH Try.prog 12 [.pointer New4, .int .i64 9] h4 fun r38 h17 => ∃ Shut39 : Int, r38 = .int .i64 Shut39 ∧
  R (.bool (Shut39 == n9)) h17))))))))
theorem warderlaw22_MailRoom.eq (p0sendsa : Option Addr) (p0sendsl : Nat) (p0sendsc : Nat) (h : Hp) (R : Value → Hp → Prop) : evBody Try.prog calls warderlaw22_MailRoom.hints Try.f6 [.slice p0sendsa p0sendsl p0sendsc] h R = warderlaw22_MailRoom.P p0sendsa p0sendsl p0sendsc h R := by kernel_rfl
theorem warderlaw22_MailRoom.calls (p0sendsa : Option Addr) (p0sendsl : Nat) (p0sendsc : Nat) (h : Hp) (R : Value → Hp → Prop) (hp : warderlaw22_MailRoom.P p0sendsa p0sendsl p0sendsc h R) : CallsH Try.prog 6 [.slice p0sendsa p0sendsl p0sendsc] h R :=
  calls_of_body calls_ok Try.func6 (args := [.slice p0sendsa p0sendsl p0sendsc]) (by rw [warderlaw22_MailRoom.eq]; exact hp)
/-! ### warderlaw22_alive: function 7 -/
def warderlaw22_alive.hints : Hints := { loops := [], cuts := [], orders := [] }
def warderlaw22_alive.P  (h : Hp) (R : Value → Hp → Prop) : Prop :=
  CallsH Try.prog 8 [] h fun r1 h1 => ∃ New2 : Option Addr, r1 = .pointer New2 ∧ ((notIf true New2.isNone) = true → (R (.bool false) h1)) ∧ ((notIf true New2.isNone) = false → (CallsH Try.prog 13 [.pointer New2, .int .i64 2, .int .i64 3, .int .u32 7] h1 fun r3 h2 => ∃ Send4 : Int, r3 = .int .i64 Send4 ∧
  CallsH Try.prog 11 [.pointer New2, .int .i64 3] h2 fun r5 h3 => ∃ Open6 : Int, r5 = .int .i64 Open6 ∧ CallsH Try.prog 13 [.pointer New2, .int .i64 2, .int .i64 3, .int .u32 7] h3 fun r7 h4 => ∃ Send8 : Int, r7 = .int .i64 Send8 ∧
  CallsH Try.prog 13 [.pointer New2, .int .i64 3, .int .i64 3, .int .u32 7] h4 fun r9 h5 => ∃ Send10 : Int, r9 = .int .i64 Send10 ∧ CallsH Try.prog 17 [.pointer New2, .int .i64 3] h5 fun r11 h6 => ∃ Len12 : Int, r11 = .int .i64 Len12 ∧
  CallsH Try.prog 15 [.pointer New2, .int .i64 3] h6 fun r13 h7 => ∃ Receive14 : Int, ∃ Receive15 : Int, ∃ Receive16 : Int, r13 = .tuple #[.agg #[.int .i64 Receive14, .int .u32 Receive15], .int .i64 Receive16] ∧
  ∀ h8 : Hp, h8 = new h7 (blk 43 [.int .i64 0, .int .u32 0]) → truly true ∧ ∃ T17 : TypeId, ∃ l18 : List Value, bk h8 (sz h7) = some (blk T17 l18) ∧ 0 + 2 ≤ l18.length ∧ ∀ h9 : Hp, h9 = upd h8 (sz h7) T17 (writeAt l18 0 [.int .i64 Receive14, .int .u32 Receive15]) →
  CallsH Try.prog 15 [.pointer New2, .int .i64 3] h9 fun r19 h10 => ∃ Receive20 : Int, ∃ Receive21 : Int, ∃ Receive22 : Int, r19 = .tuple #[.agg #[.int .i64 Receive20, .int .u32 Receive21], .int .i64 Receive22] ∧
  ∀ h11 : Hp, h11 = new h10 (blk 43 [.int .i64 0, .int .u32 0]) → truly true ∧ ∃ T23 : TypeId, ∃ l24 : List Value, bk h11 (sz h10) = some (blk T23 l24) ∧ 0 + 2 ≤ l24.length ∧ ∀ h12 : Hp, h12 = upd h11 (sz h10) T23 (writeAt l24 0 [.int .i64 Receive20, .int .u32 Receive21]) →
  ((Send4 == 12) = true → (((Open6 == 0) = true → (((Send8 == 0) = true → (((Send10 == 11) = true → (((Len12 == 1) = true → (((Receive16 == 0) = true → (∃ x25 : Int, cellAt h12 (sz h7) (0 + 0) = some (.int .i64 x25) ∧
  ∃ x26 : Int, cellAt h12 (sz h7) (0 + 1) = some (.int .u32 x26) ∧ ((notIf true ((x25 == 2) && ((x26 == 7) && true))) = true → (((Receive22 == 23) = true → (CallsH Try.prog 18 [.pointer New2, .int .i64 3] h12 fun r27 h13 => ∃ IsOpen28 : Bool, r27 = .bool IsOpen28 ∧
  ((IsOpen28) = true → (CallsH Try.prog 12 [.pointer New2, .int .i64 3] h13 fun r29 h14 => ∃ Shut30 : Int, r29 = .int .i64 Shut30 ∧ ((Shut30 == 0) = true → (CallsH Try.prog 12 [.pointer New2, .int .i64 3] h14 fun r31 h15 => ∃ Shut32 : Int, r31 = .int .i64 Shut32 ∧
  R (.bool (Shut32 == (-1))) h15)) ∧ ((Shut30 == 0) = false → (R (.bool false) h14)))) ∧ ((IsOpen28) = false → (R (.bool false) h13)))) ∧ ((Receive22 == 23) = false → (R (.bool false) h12)))) ∧ ((notIf true ((x25 == 2) && ((x26 == 7) && true))) = false →
  (R (.bool false) h12)))) ∧ ((Receive16 == 0) = false → (R (.bool false) h12)))) ∧ ((Len12 == 1) = false → (R (.bool false) h12)))) ∧ ((Send10 == 11) = false → (R (.bool false) h12)))) ∧ ((Send8 == 0) = false →
  (R (.bool false) h12)))) ∧ ((Open6 == 0) = false → (R (.bool false) h12)))) ∧ ((Send4 == 12) = false → (R (.bool false) h12))))
theorem warderlaw22_alive.eq  (h : Hp) (R : Value → Hp → Prop) : evBody Try.prog calls warderlaw22_alive.hints Try.f7 [] h R = warderlaw22_alive.P  h R := by kernel_rfl
theorem warderlaw22_alive.calls  (h : Hp) (R : Value → Hp → Prop) (hp : warderlaw22_alive.P  h R) : CallsH Try.prog 7 [] h R :=
  calls_of_body calls_ok Try.func7 (args := []) (by rw [warderlaw22_alive.eq]; exact hp)
/-! ### mail_New: function 8 -/
def mail_New.hints : Hints := { loops := [], cuts := [], orders := [] }
def mail_New.P  (h : Hp) (R : Value → Hp → Prop) : Prop :=
  ∀ h1 : Hp, h1 = new h (blk 59 [.chan none, .chan none, .chan none, .chan none, .chan none, .chan none, .chan none, .chan none]) → R (.pointer (some ⟨(sz h), 0, none⟩)) h1
theorem mail_New.eq  (h : Hp) (R : Value → Hp → Prop) : evBody Try.prog calls mail_New.hints Try.f8 [] h R = mail_New.P  h R := by kernel_rfl
theorem mail_New.calls  (h : Hp) (R : Value → Hp → Prop) (hp : mail_New.P  h R) : CallsH Try.prog 8 [] h R :=
  calls_of_body calls_ok Try.func8 (args := []) (by rw [mail_New.eq]; exact hp)
/-! ### warderref22_New: function 9 -/
def warderref22_New.hints : Hints := { loops := [], cuts := [], orders := [] }
def warderref22_New.P  (h : Hp) (R : Value → Hp → Prop) : Prop :=
  (0 : Int) ≤ 10 ∧ (10 : Int) ≤ 10 ∧ (10 : Int) ≤ 140737488355328 ∧ ((32 : Nat) : Int) * 10 ≤ 281474976710656 ∧ (2 : Nat) = 2 ∧ ∀ h1 : Hp, h1 = new h (blk 35 (zeros [.bool false, .slice none 0 0] (10 : Int).toNat)) →
  ∀ h2 : Hp, h2 = new h1 (blk 38 [.slice (some ⟨sz h, 0, none⟩) ((10 : Int).toNat) ((10 : Int).toNat)]) → R (.pointer (some ⟨(sz h1), 0, none⟩)) h2
theorem warderref22_New.eq  (h : Hp) (R : Value → Hp → Prop) : evBody Try.prog calls warderref22_New.hints Try.f9 [] h R = warderref22_New.P  h R := by kernel_rfl
theorem warderref22_New.calls  (h : Hp) (R : Value → Hp → Prop) (hp : warderref22_New.P  h R) : CallsH Try.prog 9 [] h R :=
  calls_of_body calls_ok Try.func9 (args := []) (by rw [warderref22_New.eq]; exact hp)
/-! ### warderref22_Guest: function 10 -/
def warderref22_Guest.hints : Hints := { loops := [], cuts := [], orders := [] }
def warderref22_Guest.P (p0n : Int) (h : Hp) (R : Value → Hp → Prop) : Prop :=
  ((decide (p0n ≥ 2)) = true → (R (.bool (decide (p0n ≤ 9))) h)) ∧ ((decide (p0n ≥ 2)) = false → (R (.bool false) h))
theorem warderref22_Guest.eq (p0n : Int) (h : Hp) (R : Value → Hp → Prop) : evBody Try.prog calls warderref22_Guest.hints Try.f10 [.int .i64 p0n] h R = warderref22_Guest.P p0n h R := by kernel_rfl
theorem warderref22_Guest.calls (p0n : Int) (h : Hp) (R : Value → Hp → Prop) (hp : warderref22_Guest.P p0n h R) : CallsH Try.prog 10 [.int .i64 p0n] h R :=
  calls_of_body calls_ok Try.func10 (args := [.int .i64 p0n]) (by rw [warderref22_Guest.eq]; exact hp)
/-! ### mail_Mail_Open: function 11 -/
def mail_Mail_Open.hints : Hints := { loops := [], cuts := [], orders := [(5, [0, 0, 2, 0, 1, 17, 63, 127], (.leaf [0, 1, 2, 4, 5, 3, 6, 7]))] }
def mail_Mail_Open.P (p0mb p0mo : Nat) (p1n : Int) (h : Hp) (R : Value → Hp → Prop) : Prop :=
  CallsH Try.prog 19 [.int .i64 p1n] h fun r1 h1 => ∃ guest2 : Bool, r1 = .bool guest2 ∧ ((!guest2) = true → (R (.int .i64 11) h1)) ∧ ((!guest2) = false → (CallsH Try.prog 18 [.pointer (some ⟨p0mb, p0mo, none⟩), .int .i64 p1n] h1 fun r3 h2 => ∃ IsOpen4 : Bool, r3 = .bool IsOpen4 ∧
  ((IsOpen4) = true → (R (.int .i64 13) h2)) ∧ ((IsOpen4) = false → ((0 : Int) ≤ 8 ∧ (8 : Int) ≤ 9223372036854775807 ∧ ((16 : Nat) : Int) * 8 ≤ 281474976710544 ∧ ∀ h3 : Hp, h3 = new h2 (.chan (8 : Int).toNat ⟨[]⟩ false 0 0 false) →
  (0 : Int) ≤ (IntKind.wrap .i64 (p1n - 2)) ∧ (IntKind.wrap .i64 (p1n - 2)) < ((8 : Nat) : Int) ∧ truly true ∧ ∃ T5 : TypeId, ∃ l6 : List Value, bk h3 p0mb = some (blk T5 l6) ∧ (p0mo + (IntKind.wrap .i64 (p1n - 2)).toNat * 1) + 1 ≤ l6.length ∧
  ∀ h4 : Hp, h4 = upd h3 p0mb T5 (writeAt l6 (p0mo + (IntKind.wrap .i64 (p1n - 2)).toNat * 1) [.chan (some (sz h2))]) → R (.int .i64 0) h4))))
theorem mail_Mail_Open.eq (p0mb p0mo : Nat) (p1n : Int) (h : Hp) (R : Value → Hp → Prop) : evBody Try.prog calls mail_Mail_Open.hints Try.f11 [.ptr p0mb p0mo, .int .i64 p1n] h R = mail_Mail_Open.P p0mb p0mo p1n h R := by kernel_rfl
theorem mail_Mail_Open.calls (p0mb p0mo : Nat) (p1n : Int) (h : Hp) (R : Value → Hp → Prop) (hp : mail_Mail_Open.P p0mb p0mo p1n h R) : CallsH Try.prog 11 [.pointer (some ⟨p0mb, p0mo, none⟩), .int .i64 p1n] h R :=
  calls_of_body calls_ok Try.func11 (args := [.ptr p0mb p0mo, .int .i64 p1n]) (by rw [mail_Mail_Open.eq]; exact hp)
/-! ### mail_Mail_Shut: function 12 -/
def mail_Mail_Shut.hints : Hints := { loops := [(7, [0, 1, 13], [(6, (.one (.int .i64)))])], cuts := [], orders := [] }
def mail_Mail_Shut.P (p0mb p0mo : Nat) (p1n : Int) (h : Hp) (R : Value → Hp → Prop) : Prop :=
  CallsH Try.prog 20 [.pointer (some ⟨p0mb, p0mo, none⟩), .int .i64 p1n] h fun r1 h1 => ∃ box2 : Option Nat, r1 = .chan box2 ∧ ((notIf true box2.isNone) = true → (R (.int .i64 (-1)) h1)) ∧ ((notIf true box2.isNone) = false →
  (∃ r3 : Nat, ∃ cap4 : Nat, ∃ buf5 : List Value, ∃ s6 : Nat, ∃ rc7 : Nat, ∃ tm8 : Bool, box2 = some r3 ∧ bk h1 r3 = some (.chan cap4 ⟨buf5⟩ false s6 rc7 tm8) ∧ ∀ h2 : Hp, h2 = updO h1 r3 (.chan cap4 ⟨buf5⟩ true s6 rc7 tm8) →
  ∃ I9 : Int → Hp → Prop, ∃ m10 : Int → Hp → Nat, I9 0 h2 ∧ ∀ left11 : Int, ∀ h3 : Hp, I9 left11 h3 → ∃ r12 : Nat, ∃ cap13 : Nat, ∃ buf14 : List Value, ∃ s15 : Nat, ∃ rc16 : Nat, ∃ tm17 : Bool, box2 = some r12 ∧
  bk h3 r12 = some (.chan cap13 ⟨buf14⟩ true s15 rc16 tm17) ∧ (∀ x18 : Value, ∀ l19 : List Value, buf14 = x18 :: l19 → ∃ x20 : Int, ∃ x21 : Int, x18 = .agg #[.int .i64 x20, .int .u32 x21] ∧ ∀ h4 : Hp, h4 = updO h3 r12 (.chan cap13 ⟨l19⟩ true s15 (rc16 + 1) tm17) →
  ((true) = true → (I9 (IntKind.wrap .i64 (left11 + 1)) h4 ∧ m10 (IntKind.wrap .i64 (left11 + 1)) h4 < m10 left11 h3)) ∧ ((true) = false → ((0 : Int) ≤ (IntKind.wrap .i64 (p1n - 2)) ∧ (IntKind.wrap .i64 (p1n - 2)) < ((8 : Nat) : Int) ∧
  truly true ∧ ∃ T22 : TypeId, ∃ l23 : List Value, bk h4 p0mb = some (blk T22 l23) ∧ (p0mo + (IntKind.wrap .i64 (p1n - 2)).toNat * 1) + 1 ≤ l23.length ∧ ∀ h5 : Hp, h5 = upd h4 p0mb T22 (writeAt l23 (p0mo + (IntKind.wrap .i64 (p1n - 2)).toNat * 1) [.chan none]) →
  R (.int .i64 left11) h5))) ∧ (buf14 = [] → ((false) = true → (I9 (IntKind.wrap .i64 (left11 + 1)) h3 ∧ m10 (IntKind.wrap .i64 (left11 + 1)) h3 < m10 left11 h3)) ∧ ((false) = false → ((0 : Int) ≤ (IntKind.wrap .i64 (p1n - 2)) ∧
  (IntKind.wrap .i64 (p1n - 2)) < ((8 : Nat) : Int) ∧ truly true ∧ ∃ T24 : TypeId, ∃ l25 : List Value, bk h3 p0mb = some (blk T24 l25) ∧ (p0mo + (IntKind.wrap .i64 (p1n - 2)).toNat * 1) + 1 ≤ l25.length ∧
  ∀ h6 : Hp, h6 = upd h3 p0mb T24 (writeAt l25 (p0mo + (IntKind.wrap .i64 (p1n - 2)).toNat * 1) [.chan none]) → R (.int .i64 left11) h6)))))
theorem mail_Mail_Shut.eq (p0mb p0mo : Nat) (p1n : Int) (h : Hp) (R : Value → Hp → Prop) : evBody Try.prog calls mail_Mail_Shut.hints Try.f12 [.ptr p0mb p0mo, .int .i64 p1n] h R = mail_Mail_Shut.P p0mb p0mo p1n h R := by kernel_rfl
theorem mail_Mail_Shut.calls (p0mb p0mo : Nat) (p1n : Int) (h : Hp) (R : Value → Hp → Prop) (hp : mail_Mail_Shut.P p0mb p0mo p1n h R) : CallsH Try.prog 12 [.pointer (some ⟨p0mb, p0mo, none⟩), .int .i64 p1n] h R :=
  calls_of_body calls_ok Try.func12 (args := [.ptr p0mb p0mo, .int .i64 p1n]) (by rw [mail_Mail_Shut.eq]; exact hp)
/-! ### mail_Mail_Send: function 13 -/
def mail_Mail_Send.hints : Hints := { loops := [], cuts := [], orders := [] }
def mail_Mail_Send.P (p0mb p0mo : Nat) (p1from : Int) (p2to : Int) (p3value : Int) (h : Hp) (R : Value → Hp → Prop) : Prop :=
  CallsH Try.prog 19 [.int .i64 p1from] h fun r1 h1 => ∃ guest2 : Bool, r1 = .bool guest2 ∧ ((!guest2) = true → (R (.int .i64 11) h1)) ∧ ((!guest2) = false → (CallsH Try.prog 19 [.int .i64 p2to] h1 fun r3 h2 => ∃ guest4 : Bool, r3 = .bool guest4 ∧
  ((!guest4) = true → (R (.int .i64 11) h2)) ∧ ((!guest4) = false → (((p1from == p2to) = true → (R (.int .i64 11) h2)) ∧ ((p1from == p2to) = false → (CallsH Try.prog 18 [.pointer (some ⟨p0mb, p0mo, none⟩), .int .i64 p2to] h2 fun r5 h3 => ∃ IsOpen6 : Bool, r5 = .bool IsOpen6 ∧
  ((!IsOpen6) = true → (R (.int .i64 12) h3)) ∧ ((!IsOpen6) = false → (CallsH Try.prog 20 [.pointer (some ⟨p0mb, p0mo, none⟩), .int .i64 p2to] h3 fun r7 h4 => ∃ box8 : Option Nat, r7 = .chan box8 ∧ ∃ r9 : Nat, ∃ cap10 : Nat, ∃ buf11 : List Value, ∃ s12 : Nat, ∃ rc13 : Nat, ∃ tm14 : Bool, box8 = some r9 ∧
  bk h4 r9 = some (.chan cap10 ⟨buf11⟩ false s12 rc13 tm14) ∧ (buf11.length < cap10 → ∀ h5 : Hp, h5 = updO h4 r9 (.chan cap10 ⟨buf11 ++ [.agg #[.int .i64 p1from, .int .u32 p3value]]⟩ false (s12 + 1) rc13 tm14) →
  ((0 == 0) = true → (R (.int .i64 0) h5)) ∧ ((0 == 0) = false → (R (.int .i64 15) h5))) ∧ (cap10 ≤ buf11.length → (((-1) == 0) = true → (R (.int .i64 0) h4)) ∧ (((-1) == 0) = false → (R (.int .i64 15) h4)))))))))))
theorem mail_Mail_Send.eq (p0mb p0mo : Nat) (p1from : Int) (p2to : Int) (p3value : Int) (h : Hp) (R : Value → Hp → Prop) : evBody Try.prog calls mail_Mail_Send.hints Try.f13 [.ptr p0mb p0mo, .int .i64 p1from, .int .i64 p2to, .int .u32 p3value] h R = mail_Mail_Send.P p0mb p0mo p1from p2to p3value h R := by kernel_rfl
theorem mail_Mail_Send.calls (p0mb p0mo : Nat) (p1from : Int) (p2to : Int) (p3value : Int) (h : Hp) (R : Value → Hp → Prop) (hp : mail_Mail_Send.P p0mb p0mo p1from p2to p3value h R) : CallsH Try.prog 13 [.pointer (some ⟨p0mb, p0mo, none⟩), .int .i64 p1from, .int .i64 p2to, .int .u32 p3value] h R :=
  calls_of_body calls_ok Try.func13 (args := [.ptr p0mb p0mo, .int .i64 p1from, .int .i64 p2to, .int .u32 p3value]) (by rw [mail_Mail_Send.eq]; exact hp)
/-! ### warderref22_Mail_Send: function 14 -/
def warderref22_Mail_Send.hints : Hints := { loops := [], cuts := [], orders := [(7, [0, 1, 3, 7, 0, 0, 32, 96, 224, 0, 992, 2016, 4064, 0, 0, 24576, 57344, 131040, 262143, 524287, 1048575], (.leaf [0, 1, 2, 3, 4, 5, 6, 7, 8, 9, 10, 11, 12, 13, 14, 15, 16, 17, 18, 19, 20]))] }
def warderref22_Mail_Send.P (p0mb p0mo : Nat) (p1from : Int) (p2to : Int) (p3value : Int) (h : Hp) (R : Value → Hp → Prop) : Prop :=
  CallsH Try.prog 10 [.int .i64 p1from] h fun r1 h1 => ∃ Guest2 : Bool, r1 = .bool Guest2 ∧ ((!Guest2) = true → (R (.int .i64 11) h1)) ∧ ((!Guest2) = false → (CallsH Try.prog 10 [.int .i64 p2to] h1 fun r3 h2 => ∃ Guest4 : Bool, r3 = .bool Guest4 ∧
  ((!Guest4) = true → (R (.int .i64 11) h2)) ∧ ((!Guest4) = false → (((p1from == p2to) = true → (R (.int .i64 11) h2)) ∧ ((p1from == p2to) = false → (∃ Boxesa5 : Option Addr, ∃ Boxesl6 : Nat, ∃ Boxesc7 : Nat, cellAt h2 p0mb p0mo = some (.slice Boxesa5 Boxesl6 Boxesc7) ∧
  (0 : Int) ≤ p2to ∧ p2to < ((Boxesl6 : Nat) : Int) ∧ ∃ b8 : Nat, ∃ o9 : Nat, (Boxesa5 : Option Addr) = some ⟨b8, o9, none⟩ ∧ ∃ Open10 : Bool, cellAt h2 b8 (o9 + p2to.toNat * 2) = some (.bool Open10) ∧
  ((!Open10) = true → (R (.int .i64 12) h2)) ∧ ((!Open10) = false → (∃ Boxesa11 : Option Addr, ∃ Boxesl12 : Nat, ∃ Boxesc13 : Nat, cellAt h2 p0mb p0mo = some (.slice Boxesa11 Boxesl12 Boxesc13) ∧ (0 : Int) ≤ p2to ∧
  p2to < ((Boxesl12 : Nat) : Int) ∧ ∃ b14 : Nat, ∃ o15 : Nat, (Boxesa11 : Option Addr) = some ⟨b14, o15, none⟩ ∧ ∃ Lista16 : Option Addr, ∃ Listl17 : Nat, ∃ Listc18 : Nat, cellAt h2 b14 (o15 + p2to.toNat * 2 + 1) = some (.slice Lista16 Listl17 Listc18) ∧
  ((decide (((Listl17 : Nat) : Int) ≥ 8)) = true → (R (.int .i64 15) h2)) ∧ ((decide (((Listl17 : Nat) : Int) ≥ 8)) = false → (∃ Boxesa19 : Option Addr, ∃ Boxesl20 : Nat, ∃ Boxesc21 : Nat, cellAt h2 p0mb p0mo = some (.slice Boxesa19 Boxesl20 Boxesc21) ∧
  ∃ Boxesa22 : Option Addr, ∃ Boxesl23 : Nat, ∃ Boxesc24 : Nat, cellAt h2 p0mb p0mo = some (.slice Boxesa22 Boxesl23 Boxesc24) ∧ (0 : Int) ≤ p2to ∧ p2to < ((Boxesl23 : Nat) : Int) ∧ ∃ b25 : Nat, ∃ o26 : Nat, (Boxesa22 : Option Addr) = some ⟨b25, o26, none⟩ ∧
  ∃ Lista27 : Option Addr, ∃ Listl28 : Nat, ∃ Listc29 : Nat, cellAt h2 b25 (o26 + p2to.toNat * 2 + 1) = some (.slice Lista27 Listl28 Listc29) ∧ ∀ h3 : Hp, h3 = new h2 (blk 46 [.int .i64 p1from, .int .u32 p3value]) →
  cellAt h3 p0mb p0mo = some (.slice Boxesa19 Boxesl20 Boxesc21) ∧ cellAt h3 p0mb p0mo = some (.slice Boxesa22 Boxesl23 Boxesc24) ∧ cellAt h3 b25 (o26 + p2to.toNat * 2 + 1) = some (.slice Lista27 Listl28 Listc29) ∧
  appendN h3 46 2 16 [.int .i64 0, .int .u32 0] Lista27 Listl28 Listc29 (some ⟨sz h2, 0, none⟩) 1 fun a30 l31 c32 h4 => cellAt h4 p0mb p0mo = some (.slice Boxesa19 Boxesl20 Boxesc21) ∧ (0 : Int) ≤ p2to ∧
  p2to < ((Boxesl20 : Nat) : Int) ∧ ∃ b33 : Nat, ∃ o34 : Nat, (Boxesa19 : Option Addr) = some ⟨b33, o34, none⟩ ∧ truly true ∧ ∃ T35 : TypeId, ∃ l36 : List Value, bk h4 b33 = some (blk T35 l36) ∧ (o34 + p2to.toNat * 2 + 1) + 1 ≤ l36.length ∧
  ∀ h5 : Hp, h5 = upd h4 b33 T35 (writeAt l36 (o34 + p2to.toNat * 2 + 1) [.slice a30 l31 c32]) → R (.int .i64 0) h5))))))))))
theorem warderref22_Mail_Send.eq (p0mb p0mo : Nat) (p1from : Int) (p2to : Int) (p3value : Int) (h : Hp) (R : Value → Hp → Prop) : evBody Try.prog calls warderref22_Mail_Send.hints Try.f14 [.ptr p0mb p0mo, .int .i64 p1from, .int .i64 p2to, .int .u32 p3value] h R = warderref22_Mail_Send.P p0mb p0mo p1from p2to p3value h R := by kernel_rfl
theorem warderref22_Mail_Send.calls (p0mb p0mo : Nat) (p1from : Int) (p2to : Int) (p3value : Int) (h : Hp) (R : Value → Hp → Prop) (hp : warderref22_Mail_Send.P p0mb p0mo p1from p2to p3value h R) : CallsH Try.prog 14 [.pointer (some ⟨p0mb, p0mo, none⟩), .int .i64 p1from, .int .i64 p2to, .int .u32 p3value] h R :=
  calls_of_body calls_ok Try.func14 (args := [.ptr p0mb p0mo, .int .i64 p1from, .int .i64 p2to, .int .u32 p3value]) (by rw [warderref22_Mail_Send.eq]; exact hp)
/-! ### mail_Mail_Receive: function 15 -/
def mail_Mail_Receive.hints : Hints := { loops := [], cuts := [], orders := [] }
def mail_Mail_Receive.P (p0mb p0mo : Nat) (p1n : Int) (h : Hp) (R : Value → Hp → Prop) : Prop :=
  ∀ h1 : Hp, h1 = new h (blk 43 [.int .i64 0, .int .u32 0]) → CallsH Try.prog 19 [.int .i64 p1n] h1 fun r1 h2 => ∃ guest2 : Bool, r1 = .bool guest2 ∧ ((!guest2) = true → (truly true ∧ ∃ T3 : TypeId, ∃ l4 : List Value, bk h2 (sz h) = some (blk T3 l4) ∧
  0 + 2 ≤ l4.length ∧ ∀ h3 : Hp, h3 = upd h2 (sz h) T3 (writeAt l4 0 [.int .i64 0, .int .u32 0]) → ∃ res5 : Int, cellAt h3 (sz h) (0 + 0) = some (.int .i64 res5) ∧ ∃ res6 : Int, cellAt h3 (sz h) (0 + 1) = some (.int .u32 res6) ∧
  R (.tuple #[.agg #[.int .i64 res5, .int .u32 res6], .int .i64 11]) h3)) ∧ ((!guest2) = false → (CallsH Try.prog 18 [.pointer (some ⟨p0mb, p0mo, none⟩), .int .i64 p1n] h2 fun r7 h4 => ∃ IsOpen8 : Bool, r7 = .bool IsOpen8 ∧
  ((!IsOpen8) = true → (truly true ∧ ∃ T9 : TypeId, ∃ l10 : List Value, bk h4 (sz h) = some (blk T9 l10) ∧ 0 + 2 ≤ l10.length ∧ ∀ h5 : Hp, h5 = upd h4 (sz h) T9 (writeAt l10 0 [.int .i64 0, .int .u32 0]) →
  ∃ res11 : Int, cellAt h5 (sz h) (0 + 0) = some (.int .i64 res11) ∧ ∃ res12 : Int, cellAt h5 (sz h) (0 + 1) = some (.int .u32 res12) ∧ R (.tuple #[.agg #[.int .i64 res11, .int .u32 res12], .int .i64 12]) h5)) ∧
  ((!IsOpen8) = false → (CallsH Try.prog 20 [.pointer (some ⟨p0mb, p0mo, none⟩), .int .i64 p1n] h4 fun r13 h6 => ∃ box14 : Option Nat, r13 = .chan box14 ∧ ∃ r15 : Nat, ∃ cap16 : Nat, ∃ buf17 : List Value, ∃ s18 : Nat, ∃ rc19 : Nat, ∃ tm20 : Bool, box14 = some r15 ∧
  bk h6 r15 = some (.chan cap16 ⟨buf17⟩ false s18 rc19 tm20) ∧ (∀ x21 : Value, ∀ l22 : List Value, buf17 = x21 :: l22 → ∃ x23 : Int, ∃ x24 : Int, x21 = .agg #[.int .i64 x23, .int .u32 x24] ∧ ∀ h7 : Hp, h7 = updO h6 r15 (.chan cap16 ⟨l22⟩ false s18 (rc19 + 1) tm20) →
  ((0 == 0) = true → (∀ h8 : Hp, h8 = new h7 (blk 43 [.int .i64 0, .int .u32 0]) → truly true ∧ ∃ T25 : TypeId, ∃ l26 : List Value, bk h8 (sz h7) = some (blk T25 l26) ∧ 0 + 2 ≤ l26.length ∧ ∀ h9 : Hp, h9 = upd h8 (sz h7) T25 (writeAt l26 0 [.int .i64 x23, .int .u32 x24]) →
  ∃ x27 : Int, cellAt h9 (sz h7) (0 + 0) = some (.int .i64 x27) ∧ ∃ x28 : Int, cellAt h9 (sz h7) (0 + 1) = some (.int .u32 x28) ∧ truly true ∧ ∃ T29 : TypeId, ∃ l30 : List Value, bk h9 (sz h) = some (blk T29 l30) ∧
  0 + 2 ≤ l30.length ∧ ∀ h10 : Hp, h10 = upd h9 (sz h) T29 (writeAt l30 0 [.int .i64 x27, .int .u32 x28]) → ∃ res31 : Int, cellAt h10 (sz h) (0 + 0) = some (.int .i64 res31) ∧ ∃ res32 : Int, cellAt h10 (sz h) (0 + 1) = some (.int .u32 res32) ∧
  R (.tuple #[.agg #[.int .i64 res31, .int .u32 res32], .int .i64 0]) h10)) ∧ ((0 == 0) = false → (truly true ∧ ∃ T33 : TypeId, ∃ l34 : List Value, bk h7 (sz h) = some (blk T33 l34) ∧ 0 + 2 ≤ l34.length ∧
  ∀ h11 : Hp, h11 = upd h7 (sz h) T33 (writeAt l34 0 [.int .i64 0, .int .u32 0]) → ∃ res35 : Int, cellAt h11 (sz h) (0 + 0) = some (.int .i64 res35) ∧ ∃ res36 : Int, cellAt h11 (sz h) (0 + 1) = some (.int .u32 res36) ∧
  R (.tuple #[.agg #[.int .i64 res35, .int .u32 res36], .int .i64 23]) h11))) ∧ (buf17 = [] → (((-1) == 0) = true → (∀ h12 : Hp, h12 = new h6 (blk 43 [.int .i64 0, .int .u32 0]) → truly true ∧ ∃ T37 : TypeId, ∃ l38 : List Value, bk h12 (sz h6) = some (blk T37 l38) ∧
  0 + 2 ≤ l38.length ∧ ∀ h13 : Hp, h13 = upd h12 (sz h6) T37 (writeAt l38 0 [.int .i64 0, .int .u32 0]) → ∃ x39 : Int, cellAt h13 (sz h6) (0 + 0) = some (.int .i64 x39) ∧ ∃ x40 : Int, cellAt h13 (sz h6) (0 + 1) = some (.int .u32 x40) ∧
  truly true ∧ ∃ T41 : TypeId, ∃ l42 : List Value, bk h13 (sz h) = some (blk T41 l42) ∧ 0 + 2 ≤ l42.length ∧ ∀ h14 : Hp, h14 = upd h13 (sz h) T41 (writeAt l42 0 [.int .i64 x39, .int .u32 x40]) → ∃ res43 : Int, cellAt h14 (sz h) (0 + 0) = some (.int .i64 res43) ∧
  ∃ res44 : Int, cellAt h14 (sz h) (0 + 1) = some (.int .u32 res44) ∧ R (.tuple #[.agg #[.int .i64 res43, .int .u32 res44], .int .i64 0]) h14)) ∧ (((-1) == 0) = false → (truly true ∧ ∃ T45 : TypeId, ∃ l46 : List Value, bk h6 (sz h) = some (blk T45 l46) ∧
  0 + 2 ≤ l46.length ∧ ∀ h15 : Hp, h15 = upd h6 (sz h) T45 (writeAt l46 0 [.int .i64 0, .int .u32 0]) → ∃ res47 : Int, cellAt h15 (sz h) (0 + 0) = some (.int .i64 res47) ∧ ∃ res48 : Int, cellAt h15 (sz h) (0 + 1) = some (.int .u32 res48) ∧
  R (.tuple #[.agg #[.int .i64 res47, .int .u32 res48], .int .i64 23]) h15)))))))
theorem mail_Mail_Receive.eq (p0mb p0mo : Nat) (p1n : Int) (h : Hp) (R : Value → Hp → Prop) : evBody Try.prog calls mail_Mail_Receive.hints Try.f15 [.ptr p0mb p0mo, .int .i64 p1n] h R = mail_Mail_Receive.P p0mb p0mo p1n h R := by kernel_rfl
theorem mail_Mail_Receive.calls (p0mb p0mo : Nat) (p1n : Int) (h : Hp) (R : Value → Hp → Prop) (hp : mail_Mail_Receive.P p0mb p0mo p1n h R) : CallsH Try.prog 15 [.pointer (some ⟨p0mb, p0mo, none⟩), .int .i64 p1n] h R :=
  calls_of_body calls_ok Try.func15 (args := [.ptr p0mb p0mo, .int .i64 p1n]) (by rw [mail_Mail_Receive.eq]; exact hp)
/-! ### warderref22_Mail_Receive: function 16 -/
def warderref22_Mail_Receive.hints : Hints := { loops := [], cuts := [], orders := [(8, [0, 1, 3, 7, 0, 0, 0, 64, 192, 448, 0, 1984, 4032, 8128, 16320, 32736, 65535, 131071, 262143], (.leaf [0, 1, 2, 3, 4, 6, 7, 8, 9, 10, 11, 12, 13, 14, 5, 15, 16, 17, 18]))] }
def warderref22_Mail_Receive.P (p0mb p0mo : Nat) (p1n : Int) (h : Hp) (R : Value → Hp → Prop) : Prop :=
  ∀ h1 : Hp, h1 = new h (blk 46 [.int .i64 0, .int .u32 0]) → CallsH Try.prog 10 [.int .i64 p1n] h1 fun r1 h2 => ∃ Guest2 : Bool, r1 = .bool Guest2 ∧ ((!Guest2) = true → (truly true ∧ ∃ T3 : TypeId, ∃ l4 : List Value, bk h2 (sz h) = some (blk T3 l4) ∧
  0 + 2 ≤ l4.length ∧ ∀ h3 : Hp, h3 = upd h2 (sz h) T3 (writeAt l4 0 [.int .i64 0, .int .u32 0]) → ∃ res5 : Int, cellAt h3 (sz h) (0 + 0) = some (.int .i64 res5) ∧ ∃ res6 : Int, cellAt h3 (sz h) (0 + 1) = some (.int .u32 res6) ∧
  R (.tuple #[.agg #[.int .i64 res5, .int .u32 res6], .int .i64 11]) h3)) ∧ ((!Guest2) = false → (∃ Boxesa7 : Option Addr, ∃ Boxesl8 : Nat, ∃ Boxesc9 : Nat, cellAt h2 p0mb p0mo = some (.slice Boxesa7 Boxesl8 Boxesc9) ∧
  (0 : Int) ≤ p1n ∧ p1n < ((Boxesl8 : Nat) : Int) ∧ ∃ b10 : Nat, ∃ o11 : Nat, (Boxesa7 : Option Addr) = some ⟨b10, o11, none⟩ ∧ ∃ Open12 : Bool, cellAt h2 b10 (o11 + p1n.toNat * 2) = some (.bool Open12) ∧
  ((!Open12) = true → (truly true ∧ ∃ T13 : TypeId, ∃ l14 : List Value, bk h2 (sz h) = some (blk T13 l14) ∧ 0 + 2 ≤ l14.length ∧ ∀ h4 : Hp, h4 = upd h2 (sz h) T13 (writeAt l14 0 [.int .i64 0, .int .u32 0]) →
  ∃ res15 : Int, cellAt h4 (sz h) (0 + 0) = some (.int .i64 res15) ∧ ∃ res16 : Int, cellAt h4 (sz h) (0 + 1) = some (.int .u32 res16) ∧ R (.tuple #[.agg #[.int .i64 res15, .int .u32 res16], .int .i64 12]) h4)) ∧
  ((!Open12) = false → (∃ Boxesa17 : Option Addr, ∃ Boxesl18 : Nat, ∃ Boxesc19 : Nat, cellAt h2 p0mb p0mo = some (.slice Boxesa17 Boxesl18 Boxesc19) ∧ (0 : Int) ≤ p1n ∧ p1n < ((Boxesl18 : Nat) : Int) ∧
  ∃ b20 : Nat, ∃ o21 : Nat, (Boxesa17 : Option Addr) = some ⟨b20, o21, none⟩ ∧ ∃ Lista22 : Option Addr, ∃ Listl23 : Nat, ∃ Listc24 : Nat, cellAt h2 b20 (o21 + p1n.toNat * 2 + 1) = some (.slice Lista22 Listl23 Listc24) ∧
  ((((Listl23 : Nat) : Int) == 0) = true → (truly true ∧ ∃ T25 : TypeId, ∃ l26 : List Value, bk h2 (sz h) = some (blk T25 l26) ∧ 0 + 2 ≤ l26.length ∧ ∀ h5 : Hp, h5 = upd h2 (sz h) T25 (writeAt l26 0 [.int .i64 0, .int .u32 0]) →
  ∃ res27 : Int, cellAt h5 (sz h) (0 + 0) = some (.int .i64 res27) ∧ ∃ res28 : Int, cellAt h5 (sz h) (0 + 1) = some (.int .u32 res28) ∧ R (.tuple #[.agg #[.int .i64 res27, .int .u32 res28], .int .i64 23]) h5)) ∧
  ((((Listl23 : Nat) : Int) == 0) = false → (∃ Boxesa29 : Option Addr, ∃ Boxesl30 : Nat, ∃ Boxesc31 : Nat, cellAt h2 p0mb p0mo = some (.slice Boxesa29 Boxesl30 Boxesc31) ∧ (0 : Int) ≤ p1n ∧ p1n < ((Boxesl30 : Nat) : Int) ∧
  ∃ b32 : Nat, ∃ o33 : Nat, (Boxesa29 : Option Addr) = some ⟨b32, o33, none⟩ ∧ ∃ Lista34 : Option Addr, ∃ Listl35 : Nat, ∃ Listc36 : Nat, cellAt h2 b32 (o33 + p1n.toNat * 2 + 1) = some (.slice Lista34 Listl35 Listc36) ∧
  (0 : Int) ≤ 0 ∧ (0 : Int) < ((Listl35 : Nat) : Int) ∧ ∃ b37 : Nat, ∃ o38 : Nat, (Lista34 : Option Addr) = some ⟨b37, o38, none⟩ ∧ ∃ x39 : Int, cellAt h2 b37 (o38 + (0 : Int).toNat * 2 + 0) = some (.int .i64 x39) ∧
  ∃ x40 : Int, cellAt h2 b37 (o38 + (0 : Int).toNat * 2 + 1) = some (.int .u32 x40) ∧ ∀ h6 : Hp, h6 = new h2 (blk 46 [.int .i64 0, .int .u32 0]) → truly true ∧ ∃ T41 : TypeId, ∃ l42 : List Value, bk h6 (sz h2) = some (blk T41 l42) ∧
  0 + 2 ≤ l42.length ∧ ∀ h7 : Hp, h7 = upd h6 (sz h2) T41 (writeAt l42 0 [.int .i64 x39, .int .u32 x40]) → ∃ Boxesa43 : Option Addr, ∃ Boxesl44 : Nat, ∃ Boxesc45 : Nat, cellAt h7 p0mb p0mo = some (.slice Boxesa43 Boxesl44 Boxesc45) ∧
  ∃ Boxesa46 : Option Addr, ∃ Boxesl47 : Nat, ∃ Boxesc48 : Nat, cellAt h7 p0mb p0mo = some (.slice Boxesa46 Boxesl47 Boxesc48) ∧ (0 : Int) ≤ p1n ∧ p1n < ((Boxesl47 : Nat) : Int) ∧ ∃ b49 : Nat, ∃ o50 : Nat, (Boxesa46 : Option Addr) = some ⟨b49, o50, none⟩ ∧
  ∃ Lista51 : Option Addr, ∃ Listl52 : Nat, ∃ Listc53 : Nat, cellAt h7 b49 (o50 + p1n.toNat * 2 + 1) = some (.slice Lista51 Listl52 Listc53) ∧ ((false : Bool) = true → (false : Bool) = true) ∧ (0 : Int) ≤ (1 : Int) ∧
  (1 : Int) ≤ ((Listl52 : Nat) : Int) ∧ ((Listl52 : Nat) : Int) ≤ ((Listc53 : Nat) : Int) ∧ ((Listc53 : Nat) : Int) ≤ ((Listc53 : Nat) : Int) ∧ ∀ h8 : Hp, h8 = new h7 (blk 46 []) → cellAt h8 p0mb p0mo = some (.slice Boxesa43 Boxesl44 Boxesc45) ∧
  cellAt h8 p0mb p0mo = some (.slice Boxesa46 Boxesl47 Boxesc48) ∧ cellAt h8 b49 (o50 + p1n.toNat * 2 + 1) = some (.slice Lista51 Listl52 Listc53) ∧ appendN h8 46 2 16 [.int .i64 0, .int .u32 0] (some ⟨sz h7, 0, none⟩) 0 0 (sliceBase Lista51 ((1 : Int)).toNat (((Listc53 : Nat) : Int)).toNat 2) ((((Listl52 : Nat) : Int)).toNat - ((1 : Int)).toNat) fun a54 l55 c56 h9 => cellAt h9 p0mb p0mo = some (.slice Boxesa43 Boxesl44 Boxesc45) ∧
  (0 : Int) ≤ p1n ∧ p1n < ((Boxesl44 : Nat) : Int) ∧ ∃ b57 : Nat, ∃ o58 : Nat, (Boxesa43 : Option Addr) = some ⟨b57, o58, none⟩ ∧ truly true ∧ ∃ T59 : TypeId, ∃ l60 : List Value, bk h9 b57 = some (blk T59 l60) ∧
  (o58 + p1n.toNat * 2 + 1) + 1 ≤ l60.length ∧ ∀ h10 : Hp, h10 = upd h9 b57 T59 (writeAt l60 (o58 + p1n.toNat * 2 + 1) [.slice a54 l55 c56]) → ∃ x61 : Int, cellAt h10 (sz h2) (0 + 0) = some (.int .i64 x61) ∧
  ∃ x62 : Int, cellAt h10 (sz h2) (0 + 1) = some (.int .u32 x62) ∧ truly true ∧ ∃ T63 : TypeId, ∃ l64 : List Value, bk h10 (sz h) = some (blk T63 l64) ∧ 0 + 2 ≤ l64.length ∧ ∀ h11 : Hp, h11 = upd h10 (sz h) T63 (writeAt l64 0 [.int .i64 x61, .int .u32 x62]) →
  ∃ res65 : Int, cellAt h11 (sz h) (0 + 0) = some (.int .i64 res65) ∧ ∃ res66 : Int, cellAt h11 (sz h) (0 + 1) = some (.int .u32 res66) ∧ R (.tuple #[.agg #[.int .i64 res65, .int .u32 res66], .int .i64 0]) h11))))))
theorem warderref22_Mail_Receive.eq (p0mb p0mo : Nat) (p1n : Int) (h : Hp) (R : Value → Hp → Prop) : evBody Try.prog calls warderref22_Mail_Receive.hints Try.f16 [.ptr p0mb p0mo, .int .i64 p1n] h R = warderref22_Mail_Receive.P p0mb p0mo p1n h R := by kernel_rfl
theorem warderref22_Mail_Receive.calls (p0mb p0mo : Nat) (p1n : Int) (h : Hp) (R : Value → Hp → Prop) (hp : warderref22_Mail_Receive.P p0mb p0mo p1n h R) : CallsH Try.prog 16 [.pointer (some ⟨p0mb, p0mo, none⟩), .int .i64 p1n] h R :=
  calls_of_body calls_ok Try.func16 (args := [.ptr p0mb p0mo, .int .i64 p1n]) (by rw [warderref22_Mail_Receive.eq]; exact hp)
/-! ### mail_Mail_Len: function 17 -/
def mail_Mail_Len.hints : Hints := { loops := [], cuts := [], orders := [] }
def mail_Mail_Len.P (p0mb p0mo : Nat) (p1guest : Int) (h : Hp) (R : Value → Hp → Prop) : Prop :=
  CallsH Try.prog 20 [.pointer (some ⟨p0mb, p0mo, none⟩), .int .i64 p1guest] h fun r1 h1 => ∃ box2 : Option Nat, r1 = .chan box2 ∧ ∃ n3 : Nat, chanLenIs h1 box2 n3 ∧ R (.int .i64 ((n3 : Nat) : Int)) h1
theorem mail_Mail_Len.eq (p0mb p0mo : Nat) (p1guest : Int) (h : Hp) (R : Value → Hp → Prop) : evBody Try.prog calls mail_Mail_Len.hints Try.f17 [.ptr p0mb p0mo, .int .i64 p1guest] h R = mail_Mail_Len.P p0mb p0mo p1guest h R := by kernel_rfl
theorem mail_Mail_Len.calls (p0mb p0mo : Nat) (p1guest : Int) (h : Hp) (R : Value → Hp → Prop) (hp : mail_Mail_Len.P p0mb p0mo p1guest h R) : CallsH Try.prog 17 [.pointer (some ⟨p0mb, p0mo, none⟩), .int .i64 p1guest] h R :=
  calls_of_body calls_ok Try.func17 (args := [.ptr p0mb p0mo, .int .i64 p1guest]) (by rw [mail_Mail_Len.eq]; exact hp)
/-! ### mail_Mail_IsOpen: function 18 -/
def mail_Mail_IsOpen.hints : Hints := { loops := [], cuts := [], orders := [] }
def mail_Mail_IsOpen.P (p0mb p0mo : Nat) (p1guest : Int) (h : Hp) (R : Value → Hp → Prop) : Prop :=
  CallsH Try.prog 20 [.pointer (some ⟨p0mb, p0mo, none⟩), .int .i64 p1guest] h fun r1 h1 => ∃ box2 : Option Nat, r1 = .chan box2 ∧ R (.bool (notIf false box2.isNone)) h1
theorem mail_Mail_IsOpen.eq (p0mb p0mo : Nat) (p1guest : Int) (h : Hp) (R : Value → Hp → Prop) : evBody Try.prog calls mail_Mail_IsOpen.hints Try.f18 [.ptr p0mb p0mo, .int .i64 p1guest] h R = mail_Mail_IsOpen.P p0mb p0mo p1guest h R := by kernel_rfl
theorem mail_Mail_IsOpen.calls (p0mb p0mo : Nat) (p1guest : Int) (h : Hp) (R : Value → Hp → Prop) (hp : mail_Mail_IsOpen.P p0mb p0mo p1guest h R) : CallsH Try.prog 18 [.pointer (some ⟨p0mb, p0mo, none⟩), .int .i64 p1guest] h R :=
  calls_of_body calls_ok Try.func18 (args := [.ptr p0mb p0mo, .int .i64 p1guest]) (by rw [mail_Mail_IsOpen.eq]; exact hp)
/-! ### mail_guest: function 19 -/
def mail_guest.hints : Hints := { loops := [], cuts := [], orders := [] }
def mail_guest.P (p0n : Int) (h : Hp) (R : Value → Hp → Prop) : Prop :=
  ((decide (p0n ≥ 2)) = true → (R (.bool (decide (p0n ≤ 9))) h)) ∧ ((decide (p0n ≥ 2)) = false → (R (.bool false) h))
theorem mail_guest.eq (p0n : Int) (h : Hp) (R : Value → Hp → Prop) : evBody Try.prog calls mail_guest.hints Try.f19 [.int .i64 p0n] h R = mail_guest.P p0n h R := by kernel_rfl
theorem mail_guest.calls (p0n : Int) (h : Hp) (R : Value → Hp → Prop) (hp : mail_guest.P p0n h R) : CallsH Try.prog 19 [.int .i64 p0n] h R :=
  calls_of_body calls_ok Try.func19 (args := [.int .i64 p0n]) (by rw [mail_guest.eq]; exact hp)
/-! ### mail_Mail_box: function 20 -/
def mail_Mail_box.hints : Hints := { loops := [], cuts := [], orders := [] }
def mail_Mail_box.P (p0mb p0mo : Nat) (p1n : Int) (h : Hp) (R : Value → Hp → Prop) : Prop :=
  CallsH Try.prog 19 [.int .i64 p1n] h fun r1 h1 => ∃ guest2 : Bool, r1 = .bool guest2 ∧ ((!guest2) = true → (R (.chan none) h1)) ∧ ((!guest2) = false → ((0 : Int) ≤ (IntKind.wrap .i64 (p1n - 2)) ∧ (IntKind.wrap .i64 (p1n - 2)) < ((8 : Nat) : Int) ∧
  ∃ x3 : Option Nat, cellAt h1 p0mb (p0mo + (IntKind.wrap .i64 (p1n - 2)).toNat * 1) = some (.chan x3) ∧ R (.chan x3) h1))
theorem mail_Mail_box.eq (p0mb p0mo : Nat) (p1n : Int) (h : Hp) (R : Value → Hp → Prop) : evBody Try.prog calls mail_Mail_box.hints Try.f20 [.ptr p0mb p0mo, .int .i64 p1n] h R = mail_Mail_box.P p0mb p0mo p1n h R := by kernel_rfl
theorem mail_Mail_box.calls (p0mb p0mo : Nat) (p1n : Int) (h : Hp) (R : Value → Hp → Prop) (hp : mail_Mail_box.P p0mb p0mo p1n h R) : CallsH Try.prog 20 [.pointer (some ⟨p0mb, p0mo, none⟩), .int .i64 p1n] h R :=
  calls_of_body calls_ok Try.func20 (args := [.ptr p0mb p0mo, .int .i64 p1n]) (by rw [mail_Mail_box.eq]; exact hp)
end Go.Proofs.Ytfakjdnicdlpcaa
