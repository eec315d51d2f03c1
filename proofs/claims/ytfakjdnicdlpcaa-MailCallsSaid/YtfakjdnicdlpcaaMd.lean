import Derived.Test.YtfakjdnicdlpcaaMc
namespace Go.Proofs.Ytfakjdnicdlpcaa
open Go Go.Wd
set_option linter.unusedVariables false
set_option linter.unusedSimpArgs false
set_option linter.unnecessarySimpa false

theorem local_lt {h7 : Hp} {x y : Int} {K : Hp → Prop} (hK : ∀ h9, bk h9 (sz h7) = some (blk 43 [.int .i64 x, .int .u32 y]) → Fr [] h7 h9 → K h9) :
    ∀ h8 : Hp, h8 = new h7 (blk 43 [.int .i64 0, .int .u32 0]) → truly true ∧ ∃ T17 : TypeId, ∃ l18 : List Value, bk h8 (sz h7) = some (blk T17 l18) ∧ 0 + 2 ≤ l18.length ∧ ∀ h9 : Hp, h9 = upd h8 (sz h7) T17 (writeAt l18 0 [.int .i64 x, .int .u32 y]) → K h9 := by
  intro h8 e8
  have b8 : bk h8 (sz h7) = some (blk 43 [.int .i64 0, .int .u32 0]) := by rw [e8]; exact new_at _ _
  have f8 : Fr [] h7 h8 := by rw [e8]; exact Fr.new _ _ _
  refine ⟨truly_rfl, _, _, b8, by simp, ?_⟩
  intro h9 e9
  have e9 : h9 = upd h8 (sz h7) 43 [.int .i64 x, .int .u32 y] := e9
  exact hK h9 (by rw [e9]; exact upd_same b8 _ _) (by rw [e9]; exact f8.later (Fr.upd (F := [sz h7]) (by simp) _ _ _) (by simp))
def bx0 : List (Option (List Lt)) := List.replicate 8 none
def bx1 : List (Option (List Lt)) := [none, some [], none, none, none, none, none, none]
def bx2 : List (Option (List Lt)) := [none, some [⟨2, 7⟩], none, none, none, none, none, none]
set_option maxRecDepth 4000 in
theorem alive_spec (h : Hp) : CallsH Try.prog 7 [] h fun v h' => v = .bool true ∧ Fr [] h h' := by
  refine calls_k fun R hR => ?_
  apply warderlaw22_alive.calls
  unfold warderlaw22_alive.P
  refine (New_spec (Fr.refl [] h)).mono ?_
  rintro _ h1 ⟨rfl, w1, f1⟩
  refine ⟨_, rfl, fun hn => (by cases hn), fun _ => ?_⟩
  generalize sz h = q at *
  refine (Send_spec w1 2 3 7).mono ?_
  rintro _ h2 ⟨rfl, ⟨A2, w2⟩, m2⟩
  replace w2 : MA h h2 q A2 bx0 := w2
  refine ⟨_, rfl, ?_⟩
  refine (Open_spec w2 3).mono ?_
  rintro _ h3 ⟨rfl, ⟨A3, w3⟩, m3⟩
  replace w3 : MA h h3 q A3 bx1 := w3
  refine ⟨_, rfl, ?_⟩
  refine (Send_spec w3 2 3 7).mono ?_
  rintro _ h4 ⟨rfl, ⟨A4, w4⟩, m4⟩
  replace w4 : MA h h4 q A4 bx2 := w4
  refine ⟨_, rfl, ?_⟩
  refine (Send_spec w4 3 3 7).mono ?_
  rintro _ h5 ⟨rfl, ⟨A5, w5⟩, m5⟩
  replace w5 : MA h h5 q A5 bx2 := w5
  refine ⟨_, rfl, ?_⟩
  refine (Len_spec w5 3).mono ?_
  rintro _ h6 ⟨rfl, hh⟩
  rw [hh]; clear hh h6
  refine ⟨_, rfl, ?_⟩
  refine (Receive_spec w5 3).mono ?_
  rintro _ h7 ⟨rfl, ⟨A7, w7⟩, m7⟩
  replace w7 : MA h h7 q A7 bx1 := w7
  refine ⟨_, _, _, rfl, local_lt fun h9 b9 f9 => ?_⟩
  replace w9 := w7.fr0 f9
  refine (Receive_spec w9 3).mono ?_
  rintro _ h10 ⟨rfl, ⟨A10, w10⟩, m10⟩
  replace w10 : MA h h10 q A10 bx1 := w10
  refine ⟨_, _, _, rfl, local_lt fun h12 b12 f12 => ?_⟩
  replace w12 := w10.fr0 f12
  have b9' : bk h12 (sz h7) = some (blk 43 [.int .i64 2, .int .u32 7]) := (m10.trans (FrM.of f12)).2 _ _ _ b9 (by decide)
  clear b9 b12 w10 w9 w7 w5 w4 w3 w2 w1
  refine ⟨fun _ => ⟨fun _ => ⟨fun _ => ⟨fun _ => ⟨fun _ => ⟨fun _ => ?_, fun hn => absurd hn (by decide)⟩, fun hn => absurd hn (by decide)⟩, fun hn => absurd hn (by decide)⟩, fun hn => absurd hn (by decide)⟩, fun hn => absurd hn (by decide)⟩, fun hn => absurd hn (by decide)⟩
  refine ⟨_, (cellAt_of b9' 0).trans rfl, _, (cellAt_of b9' 1).trans rfl, fun _ => ⟨fun _ => ?_, fun hn => absurd hn (by decide)⟩, fun hn => absurd hn (by decide)⟩
  refine (IsOpen_spec w12 3).mono ?_
  rintro _ h13 ⟨rfl, hh⟩
  rw [hh]; clear hh h13
  refine ⟨_, rfl, fun _ => ?_, fun hn => absurd hn (by decide)⟩
  refine (Shut_spec w12 3).mono ?_
  rintro _ h14 ⟨rfl, ⟨A14, w14⟩, m14⟩
  replace w14 : MA h h14 q A14 bx0 := w14
  refine ⟨_, rfl, fun _ => ?_, fun hn => absurd hn (by decide)⟩
  refine (Shut_spec w14 3).mono ?_
  rintro _ h15 ⟨rfl, ⟨A15, w15⟩, m15⟩
  exact ⟨_, rfl, hR _ _ ⟨rfl, w15.f⟩⟩
end Go.Proofs.Ytfakjdnicdlpcaa
