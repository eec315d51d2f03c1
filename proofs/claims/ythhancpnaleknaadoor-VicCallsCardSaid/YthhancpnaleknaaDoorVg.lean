import Derived.Test.YthhancpnaleknaaDoorVf
namespace Go.Proofs.YthhancpnaleknaaDoor
open Go Go.Wd
set_option linter.unusedVariables false
set_option linter.unusedSimpArgs false

/-! ## both controllers beside each other -/
structure St (h0 h : Hp) (q q2 rb : Nat) (L : List Ln) (m : Int) : Prop where
  v : VS h q L m
  r : RV h q2 rb L m
  n1 : q ≠ q2
  n2 : q ≠ rb
  z1 : 0 ≠ q2
  z2 : 0 ≠ rb
  f : Fr [] h0 h
  g1 : sz h0 ≤ q
  g2 : sz h0 ≤ q2
  g3 : sz h0 ≤ rb
section
variable {h0 h h' : Hp} {q q2 rb : Nat} {L L' : List Ln} {m m' : Int}
theorem St.fr (w : St h0 h q q2 rb L m) (k : Fr [] h h') : St h0 h' q q2 rb L m :=
  ⟨w.v.fr k (by simp) (by simp), w.r.fr k (by simp) (by simp), w.n1, w.n2, w.z1, w.z2, w.f.trans k, w.g1, w.g2, w.g3⟩
theorem St.step (w : St h0 h q q2 rb L m) (v' : VS h' q L' m') (r' : RV h' q2 rb L' m') (k : Fr [q, q2, rb] h h') : St h0 h' q q2 rb L' m' :=
  ⟨v', r', w.n1, w.n2, w.z1, w.z2, w.f.fresh k (by
    intro x hx
    simp only [List.mem_cons, List.not_mem_nil, or_false] at hx
    have := w.g1; have := w.g2; have := w.g3
    rcases hx with rfl | rfl | rfl <;> exact .inr (by assumption)), w.g1, w.g2, w.g3⟩
end
/-- The program's controller alone. -/
structure Sv (h0 h : Hp) (q : Nat) (L : List Ln) (m : Int) : Prop where
  v : VS h q L m
  f : Fr [] h0 h
  g : sz h0 ≤ q
theorem St.sv {h0 h : Hp} {q q2 rb : Nat} {L : List Ln} {m : Int} (w : St h0 h q q2 rb L m) : Sv h0 h q L m := ⟨w.v, w.f, w.g1⟩
theorem Sv.fr {h0 h h' : Hp} {q : Nat} {L : List Ln} {m : Int} (w : Sv h0 h q L m) (k : Fr [] h h') : Sv h0 h' q L m := ⟨w.v.fr k (by simp) (by simp), w.f.trans k, w.g⟩
theorem Sv.step {h0 h h' : Hp} {q : Nat} {L L' : List Ln} {m m' : Int} (w : Sv h0 h q L m) (v' : VS h' q L' m') (k : Fr [q] h h') : Sv h0 h' q L' m' :=
  ⟨v', w.f.fresh k (by intro x hx; simp at hx; subst hx; exact .inr w.g), w.g⟩
/-- A row of calls is gone through: where it stands. -/
def Gone (h0 : Hp) (q q2 rb n : Nat) (i : Int) (h : Hp) : Prop := ∃ (k : Nat) (L : List Ln) (m : Int), i = k ∧ k ≤ n ∧ St h0 h q q2 rb L m

theorem next_mask {L : List Ln} {m b b' : Int} (hm : m ≤ 16) (h : IsNext L 16 b) (k : IsNext L m b') : (b = -1 ∧ b' = -1) ∨ ∃ (j : Nat) (x : Ln), b = j ∧ L[j]? = some x ∧ b' = if x.pr < m then (j : Int) else -1 := by
  have up : ∀ p, Below L m p → Below L 16 p := fun p hb => ⟨by have := hb.1; omega, hb.2⟩
  rcases h with ⟨rfl, h2⟩ | ⟨j, x, rfl, h2, h3, h4, h5⟩
  · exact .inl ⟨rfl, k.uniq (.inl ⟨rfl, fun i y hy hc hb => h2 i y hy hc (up _ hb)⟩)⟩
  · refine .inr ⟨j, x, rfl, h2, k.uniq ?_⟩
    by_cases c : x.pr < m
    · rw [if_pos c]; exact .inr ⟨j, x, rfl, h2, h3, ⟨c, h4.2⟩, h5⟩
    · rw [if_neg c]
      refine .inl ⟨rfl, fun i y hy hc hb => ?_⟩
      have := (h5 i y hy hc).1
      have := hb.1
      omega
theorem mask_ok : (if (0 : Int) ≤ 16 ∧ (16 : Int) ≤ 16 then (0 : Int) else 11) = 0 := by decide
theorem mask_ok2 (m : Int) : (if (0 : Int) ≤ 16 ∧ (16 : Int) ≤ 16 then (16 : Int) else m) = 16 := by simp

set_option maxHeartbeats 2000000 in
theorem masks_spec {h : Hp} (tab : Tab h) {a : Option Addr} {c : Nat} {cs : List C} (mask : Int) (g : rowAtK h a (encL C.cells cs)) :
    CallsH Tryd.prog 6 [.slice a cs.length c, .int .i64 mask] h fun v h' => v = .bool true ∧ Fr [] h h' := by
  refine calls_k fun R hR => ?_
  apply warderlaw20_VicMasks.calls
  unfold warderlaw20_VicMasks.P
  refine (alive_spec tab).mono ?_
  rintro v h1 ⟨rfl, f1⟩
  refine ⟨_, rfl, by simp, fun _ => ⟨fun _ => hR _ _ ⟨rfl, f1⟩, fun hn => ?_⟩⟩
  have hlen : cs.length ≤ 100 := by
    have h1 : (cs.length : Int) ≤ 100 := by simpa using hn
    omega
  refine (New_spec (tab.fr f1 (by simp))).mono ?_
  rintro v h2 ⟨rfl, w2, f2, s2⟩
  refine ⟨_, rfl, ?_⟩
  refine rNew_spec.mono ?_
  rintro v h3 ⟨rfl, r3, f3, s3⟩
  have z1 := f1.size
  have z0 : 0 < sz h := lt_of_cell (tab 0 (by decide))
  have st3 : St h h3 (sz h1) (sz h2 + 1) (sz h2) newL 16 := ⟨w2.fr f3 (by simp) (by simp), r3, by omega, by omega, by omega, by omega, (f1.trans f2).trans f3, by omega, by omega, by omega⟩
  clear w2 r3
  generalize sz h1 = q at *
  generalize sz h2 + 1 = q2 at *
  generalize sz h2 = rb at *
  refine ⟨_, rfl, ?_⟩
  refine ⟨Gone h q q2 rb cs.length, fun i _ => cs.length - i.toNat, ⟨0, _, _, rfl, by omega, st3⟩, ?_⟩
  rintro i h4 ⟨k, L, m, rfl, hk, st⟩
  refine ⟨fun hk2 => ?_, fun _ => ?_⟩
  · have hk2 : k < cs.length := by simpa using hk2
    obtain ⟨x, hx⟩ : ∃ x, cs[k]? = some x := ⟨_, List.getElem?_eq_getElem hk2⟩
    obtain ⟨b, o, rfl, e⟩ := encL_one C.len (g.fr st.f (by simp)) hx (by omega)
    rw [Int.toNat_natCast, wrapN hk2 (by omega)]
    refine ⟨by omega, by omega, b, o, rfl, _, e 0 (by omega), _, e 1 (by omega), _, e 2 (by omega), _, e 3 (by omega), ?_⟩
    refine (told_spec st.v st.r st.n1 st.n2 st.z1 st.z2 x).mono ?_
    rintro v h5 ⟨L', m', rfl, v5, r5, f5⟩
    exact ⟨_, rfl, by simp, fun _ => ⟨⟨k + 1, _, _, rfl, by omega, st.step v5 r5 f5⟩, decM hk2⟩⟩
  have sv := st.sv
  clear st
  refine (Mask_spec sv.v 16).mono ?_
  rw [mask_ok, mask_ok2]
  rintro v h6 ⟨rfl, v6, f6⟩
  have sv6 := sv.step v6 f6
  refine ⟨_, rfl, by simp, fun _ => ?_⟩
  refine (Next_spec sv6.v).mono ?_
  rintro v h7 ⟨b, rfl, hb, rfl⟩
  refine ⟨_, _, rfl, ?_⟩
  refine (Mask_spec sv6.v mask).mono ?_
  rintro v h8 ⟨rfl, v8, f8⟩
  have sv8 := sv6.step v8 f8
  refine ⟨_, rfl, ?_⟩
  refine ⟨fun h9 => h9 = h8 ∧ 0 ≤ mask ∧ mask ≤ 16, ⟨fun x h9 => h9 = h8 ∧ x = decide (¬ (0 ≤ mask ∧ mask ≤ 16)), ⟨fun c1 => ⟨rfl, ?_⟩, fun c1 => ⟨rfl, ?_⟩⟩, ?_⟩, ?_⟩
  · simp only [decide_eq_true_eq] at c1
    exact (decide_eq_true (by omega)).symm
  · simp only [decide_eq_false_iff_not] at c1
    exact decide_eq_decide.2 (by omega)
  · rintro x h9 ⟨rfl, rfl⟩
    refine ⟨fun c1 => ?_, fun c1 => ⟨rfl, ?_⟩⟩
    · simp only [decide_eq_true_eq] at c1
      rw [if_neg c1] at sv8 ⊢
      refine ⟨fun _ => ?_, by simp⟩
      refine (Masked_spec sv8.v).mono ?_
      rintro v h10 ⟨rfl, rfl⟩
      exact ⟨_, rfl, hR _ _ ⟨rfl, sv8.f⟩⟩
    · simpa using c1
  rintro h11 ⟨rfl, hm⟩
  rw [if_pos hm] at sv8 ⊢
  refine (Next_spec sv8.v).mono ?_
  rintro v h12 ⟨b', rfl, hb', rfl⟩
  refine ⟨_, _, rfl, fun h13 => h13 = h12, ⟨by simp, fun _ => ?_⟩, ?_⟩
  · refine (Masked_spec sv8.v).mono ?_
    rintro v h13 ⟨rfl, rfl⟩
    exact ⟨_, rfl, by simp, fun _ => rfl⟩
  rintro h14 rfl
  have hok := hR _ _ ⟨rfl, sv8.f⟩
  rcases next_mask hm.2 hb hb' with ⟨rfl, rfl⟩ | ⟨j, x, rfl, hx, he⟩
  · exact ⟨fun _ => ⟨fun _ => hok, by simp⟩, by simp⟩
  · have hj : j < 16 := sv8.v.pr.lt hx
    refine ⟨fun hh => absurd hh (by simp), fun _ => ?_⟩
    refine (Get_spec sv8.v (j : Int)).mono ?_
    rw [atL_nat hj hx]
    rintro v h15 ⟨rfl, f15⟩
    have hok := fun b (hb : b = true) => hR (.bool b) _ ⟨by rw [hb], sv8.f.trans f15⟩
    refine ⟨_, _, _, _, rfl, fun c1 => ?_, fun c1 => ?_⟩
    · rw [if_neg (by simpa using c1)] at he
      subst he
      exact ⟨fun _ => hok _ (by simp), by simp⟩
    · rw [if_pos (by simpa using c1)] at he
      subst he
      exact ⟨fun _ => hok _ (by simp), by simp⟩
end Go.Proofs.YthhancpnaleknaaDoor
