import Derived.Test.YtmocndbebknbgaaYe
namespace Go.Proofs.Ytmocndbebknbgaa
open Go Go.Wd
set_option linter.unusedVariables false
set_option linter.unusedSimpArgs false
set_option linter.unnecessarySimpa false

/-! ## how many of a kind -/
def cn (v : Int) (L : List Int) : Nat := L.countP fun x => decide (x = v)
theorem cn_cons (v x : Int) (L : List Int) : cn v (x :: L) = cn v L + if x = v then 1 else 0 := by
  unfold cn
  rw [List.countP_cons]
  simp only [decide_eq_true_eq]
theorem cn_set (v y : Int) : ∀ {L : List Int} {k : Nat} {x : Int}, L[k]? = some x → cn v (L.set k y) + (if x = v then 1 else 0) = cn v L + (if y = v then 1 else 0)
  | [], k, x, h => by simp at h
  | z :: L, 0, x, h => by
    obtain rfl : z = x := by simpa using h
    rw [List.set_cons_zero, cn_cons, cn_cons]; omega
  | z :: L, k + 1, x, h => by
    have := cn_set v y (L := L) (k := k) (x := x) (by simpa using h)
    rw [List.set_cons_succ, cn_cons, cn_cons]; omega
theorem cn_le (v : Int) (L : List Int) : cn v L ≤ L.length := List.countP_le_length
theorem cn_none {v : Int} {L : List Int} (h : ∀ x ∈ L, x ≠ v) : cn v L = 0 := by
  unfold cn
  rw [List.countP_eq_zero]
  intro x hx
  simpa using h x hx
theorem cn_pos {v : Int} {L : List Int} {x : Int} (h : x ∈ L) (e : x = v) : 0 < cn v L := by
  unfold cn
  rw [List.countP_pos_iff]
  exact ⟨x, h, by simpa using e⟩
theorem cn_two : ∀ {L : List Int}, (∀ x ∈ L, x = 1 ∨ x = 2) → cn 1 L + cn 2 L = L.length
  | [], _ => rfl
  | x :: L, h => by
    have ih := cn_two (L := L) fun y hy => h y (List.mem_cons_of_mem _ hy)
    rw [cn_cons, cn_cons, List.length_cons]
    rcases h x (List.mem_cons_self ..) with rfl | rfl
    · rw [if_pos rfl, if_neg (by decide)]; omega
    · rw [if_neg (by decide), if_pos rfl]; omega
theorem drL_all' (L : List Int) : drL L L.length = L.map fun x => if x = 2 then 0 else x := by unfold drL; rw [List.take_length, List.drop_length, List.append_nil]
theorem drN_all (L : List Int) : drN L L.length = cn 2 L := by unfold drN cn; rw [List.take_length]
theorem cn_drop : ∀ {L : List Int}, (∀ x ∈ L, x = 1 ∨ x = 2) → cn 0 (L.map fun x => if x = 2 then 0 else x) = cn 2 L
  | [], _ => rfl
  | x :: L, h => by
    have ih := cn_drop (L := L) fun y hy => h y (List.mem_cons_of_mem _ hy)
    rw [List.map_cons, cn_cons, cn_cons, ih]
    rcases h x (List.mem_cons_self ..) with rfl | rfl <;> rfl
theorem pos_cn (L : List Int) (st : Int) : ∀ k, k ≤ L.length → (posL L st k).length = cn st (L.take k)
  | 0, _ => rfl
  | k + 1, hk => by
    obtain ⟨x, hx⟩ : ∃ x, L[k]? = some x := ⟨_, List.getElem?_eq_getElem (by omega)⟩
    have ih := pos_cn L st k (by omega)
    rw [pos_next, List.length_append, ih, List.take_add_one, hx]
    unfold cn
    rw [List.countP_append]
    congr 1
    by_cases c : x = st
    · subst c; simp
    · simp [c]

/-! ## taken one behind the other -/
def FL (n k : Nat) (L : List Int) : Prop := L.length = n ∧ ∀ (i : Nat) (x : Int), L[i]? = some x → x = if i < k then 1 else 0
theorem FL.zero (n : Nat) : FL n 0 (List.replicate n 0) := ⟨by simp, fun i x hx => by
  rw [List.getElem?_replicate] at hx
  split at hx
  · cases hx; rfl
  · cases hx⟩
theorem FL.take {n k : Nat} {L : List Int} (w : FL n k L) (hk : k < n) : tkA L = (k : Int) + 1 ∧ tkE L = 0 ∧ FL n (k + 1) (tkL L) := by
  obtain ⟨y, hy⟩ : ∃ x, L[k]? = some x := ⟨_, List.getElem?_eq_getElem (by rw [w.1]; exact hk)⟩
  have hy0 := w.2 k y hy
  rw [if_neg (by omega)] at hy0
  subst hy0
  rcases tk_cases L with ⟨j, e0, e1, e2, e3, e4, e5⟩ | ⟨e0, e1, e3, e4, e5⟩
  · have h1 := w.2 j 0 e1
    have hj : ¬ j < k := by
      intro c
      rw [if_pos c] at h1
      cases h1
    have hjk : ¬ k < j := fun c => e2 k 0 c hy rfl
    obtain rfl : j = k := by omega
    refine ⟨e3, e4, ?_⟩
    rw [e5]
    refine ⟨by rw [List.length_set]; exact w.1, fun i x hx => ?_⟩
    rw [List.getElem?_set] at hx
    by_cases c : j = i
    · subst c
      rw [if_pos rfl, if_pos (by rw [w.1]; exact hk)] at hx
      cases hx
      rw [if_pos (by omega)]
    · rw [if_neg c] at hx
      rw [w.2 i x hx]
      by_cases d : i < j
      · rw [if_pos d, if_pos (by omega)]
      · rw [if_neg d, if_neg (by omega)]
  · exact absurd rfl (e1 0 (List.mem_of_getElem? hy))
theorem give_two {L : List Int} (h : ∀ x ∈ L, x = 1 ∨ x = 2) (v : Int) : (∀ x ∈ gvL L v, x = 1 ∨ x = 2) ∧ (gvL L v).length = L.length ∧ ((gvE L v = 0 ∧ cn 2 (gvL L v) = cn 2 L + 1) ∨ (gvE L v ≠ 0 ∧ gvL L v = L)) := by
  unfold gvL gvE
  by_cases c : stO L v = 1
  · rw [if_pos c, if_neg (by rw [c]; decide), if_pos c]
    rcases st_cases L v with ⟨_, e⟩ | ⟨k, x, rfl, hk, hx, e⟩
    · rw [e] at c; cases c
    rw [show ((k : Int) + 1 - 1).toNat = k by omega]
    rw [e] at c
    subst c
    refine ⟨fun y hy => ?_, by simp, .inl ⟨rfl, ?_⟩⟩
    · rcases List.mem_or_eq_of_mem_set hy with h1 | rfl
      · exact h y h1
      · exact .inr rfl
    · have := cn_set 2 2 hx
      rw [if_neg (by decide), if_pos rfl] at this
      exact this
  · rw [if_neg c, if_neg c]
    refine ⟨h, rfl, .inr ⟨?_, rfl⟩⟩
    split <;> decide
theorem take_full {L : List Int} (h : ∀ x ∈ L, x = 1 ∨ x = 2) : tkL L = L ∧ tkE L = if 0 < cn 2 L then 17 else 15 := by
  rcases tk_cases L with ⟨j, e0, e1, e2, e3, e4, e5⟩ | ⟨e0, e1, e3, e4, e5⟩
  · rcases h 0 (List.mem_of_getElem? e1) with c | c <;> cases c
  · refine ⟨e5, ?_⟩
    rw [e4]
    rcases idx_cases (fun x => decide (x = 2)) L with ⟨h1, h2⟩ | ⟨j, x, h1, h2, h3, h4⟩
    · have h1 : ixOf L 2 = -1 := h1
      rw [h1, cn_none fun x hx => by simpa using h2 x hx]; rfl
    · have h1 : ixOf L 2 = j := h1
      have h3 : x = 2 := by simpa using h3
      rw [h1, if_pos (by omega), if_pos (cn_pos (List.mem_of_getElem? h2) h3)]
theorem take_more {L : List Int} (h : ∀ x ∈ L, x = 0 ∨ x = 1) : (0 < cn 0 L → tkE L = 0 ∧ (∀ x ∈ tkL L, x = 0 ∨ x = 1) ∧ cn 0 (tkL L) + 1 = cn 0 L) ∧ (cn 0 L = 0 → tkE L = 15) := by
  rcases tk_cases L with ⟨j, e0, e1, e2, e3, e4, e5⟩ | ⟨e0, e1, e3, e4, e5⟩
  · refine ⟨fun _ => ⟨e4, ?_, ?_⟩, fun hc => ?_⟩
    · rw [e5]
      intro x hx
      rcases List.mem_or_eq_of_mem_set hx with h1 | rfl
      · exact h x h1
      · exact .inr rfl
    · rw [e5]
      have := cn_set 0 1 e1
      rw [if_pos rfl, if_neg (by decide)] at this
      exact this
    · have := cn_pos (List.mem_of_getElem? e1) rfl
      omega
  · refine ⟨fun hc => ?_, fun _ => ?_⟩
    · rw [cn_none e1] at hc; cases hc
    · rw [e4]
      rcases idx_cases (fun x => decide (x = 2)) L with ⟨h1, h2⟩ | ⟨j, x, h1, h2, h3, h4⟩
      · have h1 : ixOf L 2 = -1 := h1
        rw [h1]; rfl
      · have h3 : x = 2 := by simpa using h3
        subst h3
        rcases h 2 (List.mem_of_getElem? h2) with c | c <;> cases c
theorem drop_two {L : List Int} (h : ∀ x ∈ L, x = 1 ∨ x = 2) : ∀ x ∈ drL L L.length, x = 0 ∨ x = 1 := by
  rw [drL_all']
  intro x hx
  obtain ⟨y, hy, rfl⟩ := List.mem_map.1 hx
  rcases h y hy with rfl | rfl
  · exact .inr rfl
  · exact .inl rfl
theorem decQ {n k : Nat} (h : k < n) : n + 1 - (((k + 1 : Nat) : Int) + 1).toNat < n + 1 - ((k : Int) + 1).toNat := by omega
set_option maxHeartbeats 4000000 in
theorem all_law {h : Hp} (most : Int) {a : Option Addr} {c : Nat} {l : List Int} (g : rowAtK h a (encL iN l)) :
    CallsH Try.prog 4 [.int .i64 most, .slice a l.length c] h fun v h' => v = .bool true ∧ Fr [] h h' := by
  refine calls_k fun R hR => ?_
  apply warderlaw13_VmidAll.calls
  unfold warderlaw13_VmidAll.P
  refine (alive_spec h).mono ?_
  rintro _ h1 ⟨rfl, f1⟩
  refine ⟨_, rfl, fun hn => (by cases hn), fun _ => ?_⟩
  refine ⟨fun h2 => h2 = h1 ∧ l.length ≤ 300 ∧ 1 ≤ most ∧ most ≤ 255, ⟨fun _ => hR _ _ ⟨rfl, f1⟩, fun c1 => ⟨fun _ => hR _ _ ⟨rfl, f1⟩, fun c2 => ⟨fun _ => hR _ _ ⟨rfl, f1⟩, fun c3 => ⟨rfl, ?_, ?_, ?_⟩⟩⟩⟩, ?_⟩
  · simp only [decide_eq_false_iff_not] at c3; omega
  · simp only [decide_eq_false_iff_not] at c1; omega
  · simp only [decide_eq_false_iff_not] at c2; omega
  rintro h2 ⟨hh, hlen, hr1, hr2⟩
  rw [hh]; clear hh h2
  refine (New_spec most).mono ?_
  rintro _ h3 ⟨f2, ⟨hn, rfl⟩ | ⟨_, _, rfl, w3, _⟩⟩
  · omega
  refine ⟨_, _, rfl, fun h4 => h4 = h3, ⟨fun hn => (by cases hn), fun _ => ⟨fun hn => (by cases hn), fun _ => rfl⟩⟩, ?_⟩
  rintro h4 hh
  rw [hh]; clear hh h4
  have gs : ∀ x ∈ [sz h1], sz h ≤ x := by have := f1.size; simpa using this
  have fr3 := f1.trans f2
  clear f1 f2
  generalize sz h1 + 1 = q at *
  generalize sz h1 = sb at *
  obtain ⟨n, rfl⟩ : ∃ n : Nat, most = n := ⟨most.toNat, by omega⟩
  rw [Int.toNat_natCast] at w3
  refine ⟨fun i h5 => ∃ (k : Nat) (L : List Int), i = (k : Int) + 1 ∧ k ≤ n ∧ PS h5 54 q sb L ∧ FL n k L ∧ Fr [] h h5, fun i _ => n + 1 - i.toNat, ⟨0, _, rfl, by omega, w3, FL.zero n, fr3⟩, ?_⟩
  clear w3 fr3
  rintro i h5 ⟨k, L, rfl, hk, w5, hL, f5⟩
  refine ⟨fun hc => ?_, fun hc => ?_⟩
  · have hk : k < n := by
      have : (k : Int) + 1 ≤ (n : Int) := of_decide_eq_true hc
      omega
    obtain ⟨t1, t2, t3⟩ := hL.take hk
    refine (Take_spec w5).mono ?_
    rintro _ h6 ⟨rfl, w6, f6⟩
    have hw : IntKind.wrap .i64 ((k : Int) + 1 + 1) = ((k + 1 : Nat) : Int) + 1 := by rw [wrap_i64 (by omega) (by omega)]; omega
    rw [t1, t2, hw]
    exact ⟨_, _, rfl, fun hn => (by cases hn), fun _ => ⟨fun hn => by simp at hn, fun _ => ⟨⟨k + 1, _, rfl, by omega, w6, t3, f5.later f6 gs⟩, decQ hk⟩⟩⟩
  have hk : k = n := by
    have : ¬ (k : Int) + 1 ≤ (n : Int) := by simpa using hc
    omega
  subst hk
  have hone : ∀ x ∈ L, x = 1 ∨ x = 2 := by
    intro x hx
    obtain ⟨i, hi⟩ := List.mem_iff_getElem?.1 hx
    have := hL.2 i x hi
    rw [if_pos (by have := (List.getElem?_eq_some_iff.1 hi).1; have := hL.1; omega)] at this
    exact .inl this
  have hnone : cn 2 L = 0 := by
    refine cn_none fun x hx e => ?_
    obtain ⟨i, hi⟩ := List.mem_iff_getElem?.1 hx
    have := hL.2 i x hi
    rw [if_pos (by have := (List.getElem?_eq_some_iff.1 hi).1; have := hL.1; omega)] at this
    rw [e] at this
    cases this
  have hLl := hL.1
  clear hL
  refine ⟨fun gv i h7 => ∃ (j : Nat) (L : List Int), i = j ∧ j ≤ l.length ∧ gv = (cn 2 L : Nat) ∧ PS h7 54 q sb L ∧ L.length = k ∧ (∀ x ∈ L, x = 1 ∨ x = 2) ∧ Fr [] h h7, fun _ i _ => l.length - i.toNat, ⟨0, L, rfl, by omega, by rw [hnone]; rfl, w5, hLl, hone, f5⟩, ?_⟩
  clear hone hnone hLl f5 w5 L
  rintro gv i h7 ⟨j, L, rfl, hj, rfl, w7, hLl, two, f7⟩
  have hcl := cn_le 2 L
  refine ⟨fun hc => ?_, fun hc => ?_⟩
  · have hj : j < l.length := by simpa using hc
    obtain ⟨x, hx⟩ : ∃ o, l[j]? = some o := ⟨_, List.getElem?_eq_getElem hj⟩
    rw [wrapN hj (by omega)]
    obtain ⟨b, o, rfl, e⟩ := encL_one iN_len (g.fr f7 (by simp)) hx (by decide)
    refine ⟨by omega, by omega, _, _, rfl, x, by rw [Int.toNat_natCast]; exact e 0 (by decide), ?_⟩
    refine (Give_spec w7 x).mono ?_
    rintro _ h8 ⟨rfl, w8, f8⟩
    obtain ⟨g1, g2, g3⟩ := give_two two x
    refine ⟨_, rfl, fun c1 => ?_, fun c1 => ?_⟩
    · have c1 : gvE L x = 0 := by simpa using c1
      rcases g3 with ⟨_, g3⟩ | ⟨g3, _⟩
      · have hw : IntKind.wrap .i64 (((cn 2 L : Nat) : Int) + 1) = ((cn 2 (gvL L x) : Nat) : Int) := by rw [wrap_i64 (by omega) (by omega)]; omega
        exact ⟨⟨j + 1, _, rfl, by omega, hw, w8, by omega, g1, f7.later f8 gs⟩, decM hj⟩
      · exact absurd c1 g3
    · have c1 : gvE L x ≠ 0 := by simpa using c1
      rcases g3 with ⟨g3, _⟩ | ⟨_, g3⟩
      · exact absurd g3 c1
      · exact ⟨⟨j + 1, _, rfl, by omega, by rw [g3], w8, by omega, g1, f7.later f8 gs⟩, decM hj⟩
  obtain ⟨t1, t2⟩ := take_full two
  refine (Take_spec w7).mono ?_
  rintro _ h9 ⟨rfl, w9, f9⟩
  rw [t1] at w9
  rw [t2]
  refine ⟨_, _, rfl, fun want h10 => want = (if 0 < cn 2 L then 17 else 15) ∧ h10 = h9, ⟨fun c1 => ?_, fun c1 => ?_⟩, ?_⟩
  · have c1 : ((cn 2 L : Nat) : Int) > 0 := of_decide_eq_true c1
    exact ⟨by rw [if_pos (by omega)], rfl⟩
  · have c1 : ¬ ((cn 2 L : Nat) : Int) > 0 := by simpa using c1
    exact ⟨by rw [if_neg (by omega)], rfl⟩
  rintro want h10 ⟨hw, hh⟩
  rw [hw, hh]; clear hw hh want h10
  have f9 := f7.later f9 gs
  have htwo := cn_two two
  have hp : (posL L 1 L.length).length = cn 1 L := by rw [pos_cn L 1 _ (Nat.le_refl _), List.take_length]
  have hdz := cn_drop two
  rw [← drL_all'] at hdz
  have hd2 := drop_two two
  refine ⟨fun h13 => ∃ L', PS h13 54 q sb L' ∧ (∀ x ∈ L', x = 0 ∨ x = 1) ∧ cn 0 L' = cn 2 L ∧ Fr [] h h13, ⟨fun hn => by simp at hn, fun _ => ?_⟩, ?_⟩
  · refine (Taken_spec (by omega) w9.hq w9.hs).mono ?_
    rintro _ h11 ⟨a2, c2, rfl, r21, f21⟩
    refine ⟨_, _, _, rfl, ?_⟩
    have hw : IntKind.wrap .i64 ((k : Int) - ((cn 2 L : Nat) : Int)) = ((cn 1 L : Nat) : Int) := by rw [wrap_i64 (by omega) (by omega)]; omega
    rw [hw, hp]
    refine ⟨fun hn => by simp at hn, fun _ => ?_⟩
    refine (Drop_spec (w9.fr0 f21)).mono ?_
    rintro _ h12 ⟨rfl, w12, f12⟩
    rw [drN_all]
    exact ⟨_, rfl, fun hn => by simp at hn, fun _ => ⟨_, w12, hd2, hdz, (f9.trans f21).later f12 gs⟩⟩
  clear w9 w7 f9 f7 hdz hd2 hp htwo t1 t2 two
  rintro h13 ⟨L1, w13, o13, z13, f13⟩
  generalize cn 2 L = m at *
  refine ⟨fun i h14 => ∃ (j : Nat) (L' : List Int), i = j ∧ j ≤ m ∧ PS h14 54 q sb L' ∧ (∀ x ∈ L', x = 0 ∨ x = 1) ∧ cn 0 L' + j = m ∧ Fr [] h h14, fun i _ => m - i.toNat, ⟨0, L1, rfl, by omega, w13, o13, by omega, f13⟩, ?_⟩
  clear w13 o13 z13 f13
  rintro i h14 ⟨j, L', rfl, hj, w14, o14, z14, f14⟩
  obtain ⟨m1, m2⟩ := take_more o14
  refine ⟨fun hc => ?_, fun hc => ?_⟩
  · have hj : j < m := by simpa using hc
    obtain ⟨m3, m4, m5⟩ := m1 (by omega)
    rw [wrapN hj (by omega)]
    refine (Take_spec w14).mono ?_
    rintro _ h15 ⟨rfl, w15, f15⟩
    rw [m3]
    exact ⟨_, _, rfl, fun hn => (by cases hn), fun _ => ⟨⟨j + 1, _, rfl, by omega, w15, m4, by omega, f14.later f15 gs⟩, decM hj⟩⟩
  · have hj1 : ¬ j < m := by simpa using hc
    refine (Take_spec w14).mono ?_
    rintro _ h15 ⟨rfl, w15, f15⟩
    rw [m2 (by omega)]
    exact ⟨_, _, rfl, hR _ _ ⟨rfl, f14.later f15 gs⟩⟩
end Go.Proofs.Ytmocndbebknbgaa
