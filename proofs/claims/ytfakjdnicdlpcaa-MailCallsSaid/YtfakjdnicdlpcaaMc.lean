import Derived.Test.YtfakjdnicdlpcaaMb
namespace Go.Proofs.Ytfakjdnicdlpcaa
open Go Go.Wd
set_option linter.unusedVariables false
set_option linter.unusedSimpArgs false
set_option linter.unnecessarySimpa false

section
variable {h0 h h' : Hp} {q : Nat} {A : List (Option Nat)} {B : List (Option (List Lt))}
theorem MA.loc (w : MA h0 h q A B) {b : Nat} {T : TypeId} {l0 : List Value} (hb : bk h b = some (blk T l0)) (hT : T ≠ 59) (hg : sz h0 ≤ b) (l : List Value) : MA h0 (upd h b T l) q A B :=
  w.fr (F := [b]) (Fr.upd (by simp) _ _ _) fun x hx => by
    obtain rfl : x = b := by simpa using hx
    exact ⟨hg, T, l0, hb, hT⟩
theorem FrM.loc (m : FrM h h') {b : Nat} (hg : sz h ≤ b) (T : TypeId) (l : List Value) : FrM h (Go.Wd.upd h' b T l) := ⟨by rw [sz_upd]; exact m.1, fun c U k hc hU => by
  have := lt_of_bk hc
  rw [upd_other (by omega)]; exact m.2 c U k hc hU⟩
theorem ret_lt {b : Nat} {e : Int} {l0 : List Value} (hb : bk h' b = some (blk 43 l0)) (hl : l0.length = 2) (w : MA h0 h' q A B) (m : FrM h h') (hg : sz h ≤ b) (hg0 : sz h0 ≤ b) (x : Lt) {R : Value → Hp → Prop}
    (hR : ∀ h3, MA h0 h3 q A B → FrM h h3 → R (.tuple #[x.val, .int .i64 e]) h3) :
    truly true ∧ ∃ T3 : TypeId, ∃ l4 : List Value, bk h' b = some (blk T3 l4) ∧ 0 + 2 ≤ l4.length ∧ ∀ h3 : Hp, h3 = upd h' b T3 (writeAt l4 0 [.int .i64 x.fr, .int .u32 x.v]) → ∃ res5 : Int, cellAt h3 b (0 + 0) = some (.int .i64 res5) ∧ ∃ res6 : Int, cellAt h3 b (0 + 1) = some (.int .u32 res6) ∧
      R (.tuple #[.agg #[.int .i64 res5, .int .u32 res6], .int .i64 e]) h3 := by
  obtain ⟨u, v, rfl⟩ : ∃ u v, l0 = [u, v] := by
    match l0, hl with
    | [u, v], _ => exact ⟨u, v, rfl⟩
  refine ⟨truly_rfl, _, _, hb, by simp, ?_⟩
  rintro h3 rfl
  have h4 : bk (upd h' b 43 (writeAt [u, v] 0 [.int .i64 x.fr, .int .u32 x.v])) b = some (blk 43 x.cells) := upd_same hb _ _
  exact ⟨x.fr, (cellAt_of h4 0).trans rfl, x.v, (cellAt_of h4 1).trans rfl, hR _ (w.loc hb (by decide) hg0 _) (m.loc hg _ _)⟩
theorem Receive_spec (w : MA h0 h q A B) (n : Int) : CallsH Try.prog 15 [.pointer (some ⟨q, 0, none⟩), .int .i64 n] h fun x h' => x = .tuple #[(rcX B n).val, .int .i64 (rcE B n)] ∧ (∃ A', MA h0 h' q A' (rcB B n)) ∧ FrM h h' := by
  refine calls_k fun R hR => ?_
  apply mail_Mail_Receive.calls
  unfold mail_Mail_Receive.P
  unfold rcX rcE rcB at hR
  intro h1 e1
  have b1 : bk h1 (sz h) = some (blk 43 [.int .i64 0, .int .u32 0]) := by rw [e1]; exact new_at _ _
  have f1 : Fr [] h h1 := by rw [e1]; exact Fr.new _ _ _
  clear e1
  have w1 := w.fr0 f1
  have m1 := FrM.of f1
  have gl := w.f.size
  refine (guest_spec n).mono ?_
  rintro _ h2 ⟨rfl, hh⟩
  rw [hh]; clear hh h2
  refine ⟨_, rfl, fun c => ?_, fun c => ?_⟩
  · have c : ¬ isG n := by simpa using c
    have e : bxB B n = none := if_neg c
    rw [if_neg c, e] at hR
    exact ret_lt b1 rfl w1 m1 (Nat.le_refl _) gl ⟨0, 0⟩ fun h3 w3 m3 => hR _ _ ⟨rfl, ⟨A, w3⟩, m3⟩
  have c : isG n := by simpa using c
  rw [if_pos c] at hR
  refine (IsOpen_spec w1 n).mono ?_
  rintro _ h2 ⟨rfl, hh⟩
  rw [hh]; clear hh h2
  rcases ma_cases w1 n with ⟨e, _⟩ | ⟨k, hk, rfl, _, ⟨g1, g2, g3, g4⟩ | ⟨r, L, s, rc, g1, g2, g3, g4, g5, g6, g7⟩⟩
  · exact absurd c e
  · rw [g4] at hR ⊢
    exact ⟨_, rfl, fun _ => ret_lt b1 rfl w1 m1 (Nat.le_refl _) gl ⟨0, 0⟩ fun h3 w3 m3 => hR _ _ ⟨rfl, ⟨A, w3⟩, m3⟩, fun hn => (by cases hn)⟩
  rw [g4] at hR ⊢
  refine ⟨_, rfl, fun hn => (by cases hn), fun _ => ?_⟩
  refine (box_spec w1 _).mono ?_
  rintro _ h8 ⟨rfl, hh⟩
  rw [hh, g2]; clear hh h8
  refine ⟨_, rfl, r, 8, L.map Lt.val, s, rc, false, rfl, g5, fun x l hx => ?_, fun hx => ?_⟩
  · cases L with
    | nil => cases hx
    | cons y L =>
      rw [List.map_cons] at hx
      injection hx with hx1 hx2
      subst hx1; subst hx2
      refine ⟨y.fr, y.v, rfl, ?_⟩
      intro h7 e7
      have w7 : MA h0 h7 q A (B.set k (some L)) := by rw [e7]; exact w1.put g1 (by simp at g6; omega) s (rc + 1)
      have m7 : FrM h h7 := by rw [e7]; exact m1.trans (FrM.chan g5 _)
      have hne : sz h ≠ r := fun e => by rw [← e, b1] at g5; cases g5
      have b7 : bk h7 (sz h) = some (blk 43 [.int .i64 0, .int .u32 0]) := by rw [e7, updO_other hne]; exact b1
      clear e7
      refine ⟨fun _ => ?_, fun hn => (by cases hn)⟩
      intro h8 e8
      have b8 : bk h8 (sz h7) = some (blk 43 [.int .i64 0, .int .u32 0]) := by rw [e8]; exact new_at _ _
      have f8 : Fr [] h7 h8 := by rw [e8]; exact Fr.new _ _ _
      clear e8
      refine ⟨truly_rfl, _, _, b8, by simp, ?_⟩
      intro h9 e9
      have e9 : h9 = upd h8 (sz h7) 43 y.cells := e9
      have f9 : Fr [] h7 h9 := by rw [e9]; exact f8.later (Fr.upd (F := [sz h7]) (by simp) _ _ _) (by simp)
      have b9 : bk h9 (sz h7) = some (blk 43 y.cells) := by rw [e9]; exact upd_same b8 _ _
      clear e9
      refine ⟨y.fr, (cellAt_of b9 0).trans rfl, y.v, (cellAt_of b9 1).trans rfl, ?_⟩
      simp only [setB_k] at hR
      exact ret_lt (f9.at b7 (by simp)) rfl (w7.fr0 f9) (m7.trans (FrM.of f9)) (Nat.le_refl _) gl y fun h3 w3 m3 => hR _ _ ⟨rfl, ⟨A, w3⟩, m3⟩
  · cases L with
    | cons y L => cases hx
    | nil =>
      exact ⟨fun hn => absurd hn (by decide), fun _ => ret_lt b1 rfl w1 m1 (Nat.le_refl _) gl ⟨0, 0⟩ fun h3 w3 m3 => hR _ _ ⟨rfl, ⟨A, w3⟩, m3⟩⟩
theorem Shut_spec (w : MA h0 h q A B) (n : Int) : CallsH Try.prog 12 [.pointer (some ⟨q, 0, none⟩), .int .i64 n] h fun x h' => x = .int .i64 (shN B n) ∧ (∃ A', MA h0 h' q A' (shB B n)) ∧ FrM h h' := by
  refine calls_k fun R hR => ?_
  apply mail_Mail_Shut.calls
  unfold mail_Mail_Shut.P
  unfold shN shB at hR
  refine (box_spec w n).mono ?_
  rintro _ h1 ⟨rfl, hh⟩
  rw [hh]; clear hh h1
  have no : bxA A n = none → bxB B n = none → ∃ box2 : Option Nat, Value.chan (bxA A n) = .chan box2 ∧ ((notIf true box2.isNone) = true → (R (.int .i64 (-1)) h)) ∧ box2 = none := fun e1 e2 => by
    rw [e2] at hR
    exact ⟨_, rfl, fun _ => hR _ _ ⟨rfl, ⟨A, w⟩, FrM.refl _⟩, e1⟩
  rcases ma_cases w n with ⟨e, g1, g2⟩ | ⟨k, hk, rfl, c, ⟨_, g1, _, g2⟩ | ⟨r, L, s, rc, g1, g2, g3, g4, g5, g6, g7⟩⟩
  · obtain ⟨b, e1, e2, rfl⟩ := no g1 g2
    exact ⟨_, e1, e2, fun hn => (by cases hn)⟩
  · obtain ⟨b, e1, e2, rfl⟩ := no g1 g2
    exact ⟨_, e1, e2, fun hn => (by cases hn)⟩
  clear no
  rw [g4] at hR
  rw [g2]
  refine ⟨_, rfl, fun hn => (by cases hn), fun _ => ⟨r, 8, L.map Lt.val, s, rc, false, rfl, g5, ?_⟩⟩
  intro h2 e2
  have f2 : Fr [r] h h2 := by rw [e2]; exact Fr.updO (by simp) _ _
  have b2 : bk h2 r = some (.chan 8 ⟨L.map Lt.val⟩ true s rc false) := by rw [e2]; exact updO_same g5 _
  have m2 : FrM h h2 := by rw [e2]; exact FrM.chan g5 _
  clear e2
  refine ⟨fun left h3 => ∃ (j : Nat) (rc' : Nat), left = j ∧ j ≤ L.length ∧ bk h3 r = some (.chan 8 ⟨(L.drop j).map Lt.val⟩ true s rc' false) ∧ Fr [r] h h3 ∧ FrM h h3, fun left _ => L.length - left.toNat, ⟨0, rc, rfl, by omega, b2, f2, m2⟩, ?_⟩
  clear b2 f2 m2
  rintro left h3 ⟨j, rc', rfl, hj, b3, f3, m3⟩
  refine ⟨r, 8, _, s, rc', false, rfl, b3, fun x l hx => ?_, fun hx => ?_⟩
  · have hj : j < L.length := by
      rcases Nat.lt_or_ge j L.length with e | e
      · exact e
      · rw [List.drop_eq_nil_of_le e] at hx; cases hx
    rw [List.drop_eq_getElem_cons hj, List.map_cons] at hx
    injection hx with hx1 hx2
    subst hx1; subst hx2
    refine ⟨L[j].fr, L[j].v, rfl, ?_⟩
    intro h4 e4
    refine ⟨fun _ => ?_, fun hn => (by cases hn)⟩
    rw [wrapN hj (by omega)]
    refine ⟨⟨j + 1, rc' + 1, rfl, by omega, by rw [e4]; exact updO_same b3 _, ?_, ?_⟩, decM hj⟩
    · rw [e4]; exact f3.fresh (Fr.updO (F := [r]) (by simp) _ _) fun x hx => .inl hx
    · rw [e4]; exact m3.trans (FrM.chan b3 _)
  · have hj : j = L.length := by
      have : (L.drop j).length = 0 := by
        have := congrArg List.length hx
        simpa using this
      rw [List.length_drop] at this
      omega
    subst hj
    refine ⟨fun hn => (by cases hn), fun _ => ?_⟩
    rw [wrap2 hk]
    have hq3 : bk h3 q = some (blk 59 (chs A)) := f3.at w.hq (by simpa using w.nr g5)
    refine ⟨by omega, by omega, truly_rfl, _, _, hq3, ?_, ?_⟩
    · rw [chs_len, w.la, Int.toNat_natCast]; omega
    rintro h6 e6
    rw [Int.toNat_natCast, Nat.mul_one, Nat.zero_add, writeAt_one, chs_set] at e6
    simp only [setB_k] at hR
    refine hR _ _ ⟨rfl, ⟨_, by rw [e6]; exact w.shut g1 f3⟩, ?_⟩
    rw [e6]
    exact m3.trans (FrM.upd hq3 _)
end
end Go.Proofs.Ytfakjdnicdlpcaa
