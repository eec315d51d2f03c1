import Derived.Test.YtfakjdnicdlpcaaMh
namespace Go.Proofs.Ytfakjdnicdlpcaa
open Go Go.Wd
set_option linter.unusedVariables false
set_option linter.unusedSimpArgs false
set_option linter.unnecessarySimpa false

section
variable {h0 h : Hp} {q b : Nat} {D : List Bx} {B : List (Option (List Lt))}
theorem RB.nf (w : RB h0 h q b D B) {i : Nat} {d : Bx} (hd : D[i]? = some d) : b ∉ foot d.a ∧ q ∉ foot d.a := by
  refine ⟨fun hm => ?_, fun hm => ?_⟩
  · obtain ⟨_, l, hl⟩ := w.ge i d hd b hm
    rw [w.hb] at hl; cases hl
  · obtain ⟨_, l, hl⟩ := w.ge i d hd q hm
    rw [w.hq] at hl; cases hl
set_option maxHeartbeats 2000000 in
theorem rSend_spec (w : RB h0 h q b D B) (gh : sz h0 ≤ sz h) (f t v : Int) : CallsH Try.prog 14 [.pointer (some ⟨q, 0, none⟩), .int .i64 f, .int .i64 t, .int .u32 v] h fun x h' => x = .int .i64 (sdE B f t) ∧ (∃ D', RB h0 h' q b D' (sdB B f t v)) ∧ FrR h0 h h' := by
  refine calls_k fun R hR => ?_
  apply warderref22_Mail_Send.calls
  unfold warderref22_Mail_Send.P
  unfold sdE sdB at hR
  have same : FrR h0 h h := FrR.of (Fr.refl _ _)
  have bad : ¬ (isG f ∧ isG t ∧ f ≠ t) → R (.int .i64 11) h := fun c => by
    rw [if_neg c, if_neg c] at hR
    exact hR _ _ ⟨rfl, ⟨D, w⟩, same⟩
  refine (rGuest_spec f).mono ?_
  rintro _ h1 ⟨rfl, hh⟩
  rw [hh]; clear hh h1
  refine ⟨_, rfl, fun c => bad fun hh => ?_, fun c1 => ?_⟩
  · have c : ¬ isG f := by simpa using c
    exact c hh.1
  have c1 : isG f := by simpa using c1
  refine (rGuest_spec t).mono ?_
  rintro _ h1 ⟨rfl, hh⟩
  rw [hh]; clear hh h1
  refine ⟨_, rfl, fun c => bad fun hh => ?_, fun c2 => ⟨fun c => bad fun hh => ?_, fun c3 => ?_⟩⟩
  · have c : ¬ isG t := by simpa using c
    exact c hh.2.1
  · have c : f = t := by simpa using c
    exact hh.2.2 c
  have c2 : isG t := by simpa using c2
  have c3 : f ≠ t := by simpa using c3
  rw [if_pos ⟨c1, c2, c3⟩, if_pos ⟨c1, c2, c3⟩] at hR
  obtain ⟨k, d, x, hk, rfl, hd, hx, hbx, e1, e2, e3⟩ := rb_cases w c2
  rw [hbx] at hR
  obtain ⟨k1, k2⟩ := w.cell hd
  refine ⟨_, _, _, w.row, by omega, by omega, _, _, rfl, d.op, k1, fun c => ?_, fun c => ⟨_, _, _, w.row, by omega, by omega, _, _, rfl, d.a, d.l, d.c, k2, fun c5 => ?_, fun c5 => ?_⟩⟩
  · cases x with
    | none => exact hR _ _ ⟨rfl, ⟨D, w⟩, same⟩
    | some L => rw [e1] at c; cases c
  all_goals
    cases x with
    | none => rw [e1] at c; cases c
    | some L => ?_
  · have c5 : ((d.l : Nat) : Int) ≥ 8 := of_decide_eq_true c5
    have hl : ¬ L.length < 8 := by
      have e2 : d.l = L.length := e2
      omega
    simp only [if_neg hl] at hR
    exact hR _ _ ⟨rfl, ⟨D, w⟩, same⟩
  · have c5 : ¬ ((d.l : Nat) : Int) ≥ 8 := by simpa using c5
    have e2 : d.l = L.length := e2
    have hl : L.length < 8 := by omega
    simp only [if_pos hl, setB_k] at hR
    refine ⟨_, _, _, w.row, _, _, _, w.row, by omega, by omega, _, _, rfl, d.a, d.l, d.c, k2, ?_⟩
    intro h3 e3'
    have f3 : Fr [] h h3 := by rw [e3']; exact Fr.new _ _ _
    refine ⟨f3.cell w.row (by simp), f3.cell w.row (by simp), f3.cell k2 (by simp), ?_⟩
    refine append_new (h0 := h) (F := foot d.a) (h := h) e3 rfl (Fr.refl _ _) (fun z hz => .inl hz) rfl rfl e3' (by omega) (by omega) ?_
    intro a' c' h4 o4 f4 fa4 _ _
    obtain ⟨nb, nq⟩ := w.nf hd
    have b4 : bk h4 b = some (blk 35 (encL Bx.cells D)) := f4.at w.hb nb
    have k4 := encL_length Bx.len D
    rw [w.ld] at k4
    refine ⟨f4.cell w.row nq, by omega, by omega, _, _, rfl, truly_rfl, _, _, b4, by omega, ?_⟩
    intro h5 e5
    rw [show ((k : Int) + 2).toNat = k + 2 by omega, Nat.zero_add, writeAt_one, setD1 D (k + 2) d hd] at e5
    have lb := lt_of_bk w.hb
    have nb4 : ∀ z ∈ foot a', z ≠ b := fun z hz e => by
      subst e
      rcases fa4 z hz with e | e
      · exact nb e
      · omega
    have e7 : encL Lt.cells L ++ [.int .i64 f, .int .u32 v] = encL Lt.cells (L ++ [⟨f, v⟩]) := by rw [encL_append]; rfl
    have o4' : Own h4 46 2 a' (d.l + 1) c' (encL Lt.cells (L ++ [⟨f, v⟩])) := by rw [← e7]; exact o4
    have f5 : Fr [b] h4 h5 := by rw [e5]; exact Fr.upd (by simp) _ _ _
    have o5 : Own h5 46 2 a' (d.l + 1) c' (encL Lt.cells (L ++ [(⟨f, v⟩ : Lt)])) := o4'.fr f5 fun z hz hm => nb4 z hz (by simpa using hm)
    have l5 : d.l + 1 = (L ++ [(⟨f, v⟩ : Lt)]).length := by simp; omega
    have key := w.put (x' := some (L ++ [(⟨f, v⟩ : Lt)])) (F := b :: foot d.a) (d' := ⟨d.op, a', d.l + 1, c'⟩) (h' := h5) hd ((f4.mono fun x hx => List.mem_cons_of_mem _ hx).trans (f5.mono (by simp))) (fun z hz => by simpa using hz)
      (by rw [e5]; exact upd_same b4 _ _) e1 l5 o5 fa4 gh
    exact hR _ _ ⟨rfl, ⟨_, key.1⟩, key.2⟩
end
end Go.Proofs.Ytfakjdnicdlpcaa
