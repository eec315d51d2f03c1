import Derived.Test.YtmocndbebknbgaaYb
import Derived.RangeFuncBox
import Derived.Maps.AppendAt
namespace Go.Proofs.Ytmocndbebknbgaa
open Go Go.Wd Go.RowKit Go.Shelf
set_option linter.unusedVariables false
set_option linter.unusedSimpArgs false
set_option linter.unnecessarySimpa false
attribute [local go_sem] Oper.semAt_some

theorem Try.info3' : (Try.prog.info? 3).map (fun i => (i.zero, i.size, i.bytes)) = some (some (.int .i64 0), 1, 8) := by kernel_rfl
def posL (L : List Int) (st : Int) (k : Nat) : List Int := ((List.range k).filter fun j => decide (L[j]? = some st)).map fun j : Nat => ((j : Int) + 1)
theorem pos_next (L : List Int) (st : Int) (k : Nat) : posL L st (k + 1) = posL L st k ++ if L[k]? = some st then [((k : Int) + 1)] else [] := by
  unfold posL
  rw [List.range_succ, List.filter_append, List.map_append]
  by_cases c : L[k]? = some st
  · rw [if_pos c]; simp [c]
  · rw [if_neg c]; simp [c]
theorem pos_le (L : List Int) (st : Int) (k : Nat) : (posL L st k).length ≤ k := by
  unfold posL
  rw [List.length_map]
  have := List.length_filter_le (fun j => decide (L[j]? = some st)) (List.range k)
  rw [List.length_range] at this
  exact this
/-- The iterator's captured variables and the pool, at a world. -/
structure Cap (w : World) (pv sv q sb : Nat) (st : Int) (L : List Int) : Prop where
  p : bk w.heap pv = some (blk 24 [.pointer (some ⟨q, 0, none⟩)])
  s : bk w.heap sv = some (blk 3 [.int .i64 st])
  q : bk w.heap q = some (blk 54 [.slice (some ⟨sb, 0, none⟩) L.length L.length])
  l : bk w.heap sb = some (blk 3 (encL iN L))
theorem Cap.below {w W : World} {pv sv q sb : Nat} {st : Int} {L : List Int} (c : Cap w pv sv q sb st L) (h : Below w.heap.size w W) : Cap W pv sv q sb st L :=
  ⟨(h.block _ (lt_of_bk c.p)).trans c.p, (h.block _ (lt_of_bk c.s)).trans c.s, (h.block _ (lt_of_bk c.q)).trans c.q, (h.block _ (lt_of_bk c.l)).trans c.l⟩
def Col (w : World) (L : List Int) (st : Int) (k : Nat) (W : World) : Prop :=
  (∃ v, Boxed W w.heap.size 36 v ∧ W.ownsRow w.heap.size 3 1 v (posL L st k).length ((posL L st k).map (Value.int .i64)) ∧ True) ∧ Below w.heap.size w W
set_option maxRecDepth 100000 in
set_option maxHeartbeats 2000000 in
theorem append_in (pv sv q sb : Nat) (st : Int) (L : List Int) (hL : L.length ≤ 1000000) (w : World) (cp : Cap w pv sv q sb st L) :
    CallsIn Fence.wide 5 Try.prog 29 #[.slice none 0 0, .func (.func 28) #[] #[.pointer (some ⟨pv, 0, none⟩), .pointer (some ⟨sv, 0, none⟩)]] w fun e w' => ∃ v, e = .returned v ∧ w'.ownsRow w.heap.size 3 1 v (posL L st L.length).length ((posL L st L.length).map (Value.int .i64)) ∧ Below w.heap.size w w' := by
  obtain ⟨i0, hi, hz0, hz1, hz2⟩ := info_parts Try.info3'
  refine callsIn_of_wp_marks Try.func29 rfl trivial ?_ rfl
  simp only [Try.ntmps29, List.size_toArray, List.length_cons, List.length_nil, Nat.reduceAdd, Nat.reduceSub, Array.replicate_succ, Array.replicate_zero, List.push_toArray, List.append_toArray, List.nil_append, List.cons_append]
  gi_wp2
  have bO := Boxed.new w 36 (.slice none 0 0)
  have hB0 : Below w.heap.size w (w.alloc (.cells #[.slice none 0 0] 36)) := (Below.refl _ w).alloc (Nat.le_refl _) _
  refine range_each (q := q) (sb := sb) (st := st) (by decide) hL rfl rfl (Col w L st) ?hJ ?hskip ?hput ?hnew ⟨⟨_, bO, World.ownsRow_nil _ _ _ _, trivial⟩, hB0⟩ (fun k => { tmps := #[.slice none 0 0, .func (.func 28) #[] #[.pointer (some ⟨pv, 0, none⟩), .pointer (some ⟨sv, 0, none⟩)], .pointer (some ⟨w.heap.size, 0, none⟩), undef, .slice none 0 0, .int .i64 ((k : Int) + 1), .func (.func 28) #[] #[.pointer (some ⟨pv, 0, none⟩), .pointer (some ⟨sv, 0, none⟩)], .int .i64 ((k : Int) + 1), undef, undef, undef, undef, undef], defers := [] }) ?hassign ?hbody ?hdone
  case hJ =>
    rintro k W ⟨_, hB⟩
    have c := cp.below hB
    refine ⟨W_cell c.p 0, W_cell c.s 0, W_cell c.q 0, fun i hi => ?_⟩
    obtain ⟨x, hx⟩ : ∃ x, L[i]? = some x := ⟨_, List.getElem?_eq_getElem hi⟩
    exact ⟨x, (W_cell c.l i).trans (encN_at hx)⟩
  case hskip =>
    rintro k W x hk ⟨⟨v, h1, h2, _⟩, hB⟩ hx hne
    have c := cp.below hB
    obtain ⟨y, hy⟩ : ∃ x, L[k]? = some x := ⟨_, List.getElem?_eq_getElem hk⟩
    have h3 := (W_cell c.l k).trans (encN_at hy)
    rw [hx] at h3
    cases h3
    have e1 : posL L st (k + 1) = posL L st k := by rw [pos_next, if_neg (by rw [hy]; simpa using hne), List.append_nil]
    exact ⟨⟨v, h1, by rw [e1]; exact h2, trivial⟩, hB⟩
  case hput =>
    rintro k W i o o' ⟨h1, hB⟩ hi ho hc
    refine ⟨holdsRow_own w.heap.size w.heap.size 36 3 1 (fun k => (posL L st k).length) (fun k => (posL L st k).map (Value.int .i64)) (fun _ _ => True) k W _ (some i) h1 (grownBy_putObj' W i o') (fun r e => by cases e; exact ⟨o, ho, hc⟩), ?_⟩
    exact hB.grown (grownBy_putObj' W i o') hB.size (fun j e => by cases e; simp at hi; omega)
  case hnew =>
    rintro W o ⟨⟨v, h1, h2, h3⟩, hB⟩
    exact ⟨⟨v, h1.alloc _, h2.alloc _, h3⟩, hB.alloc hB.size _⟩
  case hassign =>
    intro k l W K hK
    gi_wp2
    exact hK
  case hbody =>
    rintro k l W hk ⟨⟨v, hv, hrow, _⟩, hB⟩ hx
    have hc := hv.cell
    have hpl := pos_le L st k
    have c := cp.below hB
    obtain ⟨y, hy⟩ : ∃ x, L[k]? = some x := ⟨_, List.getElem?_eq_getElem hk⟩
    have h3 := (W_cell c.l k).trans (encN_at hy)
    rw [hx] at h3
    cases h3
    have e1 : posL L st (k + 1) = posL L st k ++ [((k : Int) + 1)] := by rw [pos_next, if_pos hy]
    clear hx
    gi_wp2_with (gi_at_builtin; refine wpListIn_append_own _ rfl _ _ 36 rfl w.heap.size 3 i0 (.int .i64 0) 1 8 Try.underlying36 hi hz0 hz1 hz2 rfl (by decide) _ _ _ rfl (hrow.alloc _) ⟨W.heap.size, 0, none⟩ 1 1 [.int .i64 ((k : Int) + 1)] rfl rfl (cell_one_new _ _ _) (by simp [Value.oneCell']) (by simp [maxLen]; omega) (by omega) (by have := hB.size; simp; omega) ?_; intro v' w1 hown' hgrow _; obtain ⟨g', cap', rfl⟩ := ownsRow_succ hown'; obtain ⟨hv1, hv2, hr2, hk2, hb2⟩ := hv.appended (by decide) hrow hB.size (Nat.le_refl _) hown' hgrow; have hc1 := hv1.cell; have hf1 := hv1.frozen)
    exact ⟨hk2.from _, ⟨_, hv2, by rw [e1]; simpa using hr2, trivial⟩, hB.trans hb2⟩
  case hdone =>
    rintro W ⟨⟨v, hv, hrow, _⟩, hB⟩ hK
    have hc := hv.cell
    gi_wp2
    refine ⟨by simp, .inl ⟨_, _, rfl, run_takeDeferred hK, ?_⟩⟩
    exact ⟨_, results_tmp rfl _ _ _, v, rfl, ownsRow_putObj hrow _ hK rfl, hB.trans (belowK_b (w := w) (Nat.le_refl _) W _ _ _ (by simp) hK rfl rfl)⟩
set_option maxRecDepth 100000 in
set_option maxHeartbeats 2000000 in
theorem collect_in (pv sv q sb : Nat) (st : Int) (L : List Int) (hL : L.length ≤ 1000000) (w : World) (cp : Cap w pv sv q sb st L) :
    CallsIn Fence.wide 5 Try.prog 26 #[.func (.func 28) #[] #[.pointer (some ⟨pv, 0, none⟩), .pointer (some ⟨sv, 0, none⟩)]] w fun e w' => ∃ v, e = .returned v ∧ w'.ownsRow w.heap.size 3 1 v (posL L st L.length).length ((posL L st L.length).map (Value.int .i64)) ∧ Below w.heap.size w w' := by
  have ha : ∀ m, CallsIn Fence.wide m Try.prog 29 #[.slice none 0 0, .func (.func 28) #[] #[.pointer (some ⟨pv, 0, none⟩), .pointer (some ⟨sv, 0, none⟩)]] w fun e w' => ∃ v, e = .returned v ∧ w'.ownsRow w.heap.size 3 1 v (posL L st L.length).length ((posL L st L.length).map (Value.int .i64)) ∧ Below w.heap.size w w' := fun m => callsIn_wide.2 (callsIn_wide.1 (append_in pv sv q sb st L hL w cp))
  refine callsIn_of_wp Try.func26 rfl trivial ?_ rfl
  simp only [Try.ntmps26, List.size_toArray, List.length_cons, List.length_nil, Nat.reduceAdd, Nat.reduceSub, Array.replicate_succ, Array.replicate_zero, List.push_toArray, List.append_toArray, List.nil_append, List.cons_append]
  have h29 : Fence.wide.fn 29 := trivial
  gi_wp2_with (gi_at_call 29; refine (ha _).mono ?_; rintro e w' ⟨v, rfl, hr, hB⟩)
  go_ret
  exact ⟨v, rfl, hr, hB⟩
set_option maxRecDepth 100000 in
set_option maxHeartbeats 2000000 in
theorem taken_in (q sb : Nat) (L : List Int) (hL : L.length ≤ 1000000) (w : World) (hq : bk w.heap q = some (blk 54 [.slice (some ⟨sb, 0, none⟩) L.length L.length])) (hs : bk w.heap sb = some (blk 3 (encL iN L))) :
    CallsIn Fence.wide 5 Try.prog 18 #[.pointer (some ⟨q, 0, none⟩)] w fun e w' => ∃ v, e = .returned v ∧ w'.ownsRow w.heap.size 3 1 v (posL L 1 L.length).length ((posL L 1 L.length).map (Value.int .i64)) ∧ Below w.heap.size w w' := by
  refine callsIn_of_wp Try.func18 rfl trivial ?_ rfl
  simp only [Try.ntmps18, List.size_toArray, List.length_cons, List.length_nil, Nat.reduceAdd, Nat.reduceSub, Array.replicate_succ, Array.replicate_zero, List.push_toArray, List.append_toArray, List.nil_append, List.cons_append]
  have h25 : Fence.wide.fn 25 := trivial
  have h26 : Fence.wide.fn 26 := trivial
  obtain ⟨W2, hW2⟩ : ∃ W2, (w.alloc (.cells ⟨[.pointer (some ⟨q, 0, none⟩)]⟩ 24)).alloc (.cells ⟨[.int .i64 1]⟩ 3) = W2 := ⟨_, rfl⟩
  have hsz : W2.heap.size = w.heap.size + 2 := by rw [← hW2]; simp
  have hB2 : Below w.heap.size w W2 := by rw [← hW2]; exact ((Below.refl _ w).alloc (Nat.le_refl _) _).alloc (by simp) _
  have e2 : W2.heap = new (new w.heap (blk 24 [.pointer (some ⟨q, 0, none⟩)])) (blk 3 [.int .i64 1]) := by rw [← hW2]; rfl
  have hsw : sz w.heap = w.heap.size := rfl
  have cp : Cap W2 w.heap.size (w.heap.size + 1) q sb 1 L := by
    refine ⟨?_, ?_, ?_, ?_⟩
    · rw [e2, bk_new, if_neg (by rw [sz_new]; omega), bk_new, if_pos (by omega)]
    · rw [e2, bk_new, if_pos (by rw [sz_new]; omega)]
    · rw [e2]; exact new_of _ (new_of _ hq)
    · rw [e2]; exact new_of _ (new_of _ hs)
  have hc := fun m => callsIn_wide (n := m) |>.2 (callsIn_wide.1 (collect_in w.heap.size (w.heap.size + 1) q sb 1 L hL W2 cp))
  gi_wp2_with (first | (gi_at_call 25; refine (each_make _ _ _ _).mono ?_; rintro e w' ⟨rfl, rfl⟩; rw [hW2]) | (gi_at_call 26; refine (hc _).mono ?_; rintro e w' ⟨v, rfl, hr, hB⟩))
  go_ret
  refine ⟨v, rfl, ⟨hr.1, ?_⟩, hB2.trans (hB.mono (by omega))⟩
  rcases hr.2 with h | ⟨g, cap, cur, h1, h2, h3⟩
  · exact .inl h
  · exact .inr ⟨g, cap, cur, h1, by omega, h3⟩
theorem enc_map (l : List Int) : encL iN l = l.map (Value.int .i64) := by
  induction l with
  | nil => rfl
  | cons x l ih => show [Value.int .i64 x] ++ encL iN l = _; rw [ih]; rfl
theorem Taken_spec {h : Hp} {q sb : Nat} {L : List Int} (hL : L.length ≤ 1000000) (hq : bk h q = some (blk 54 [.slice (some ⟨sb, 0, none⟩) L.length L.length])) (hs : bk h sb = some (blk 3 (encL iN L))) :
    CallsH Try.prog 18 [.pointer (some ⟨q, 0, none⟩)] h fun v h' => ∃ a c, v = .slice a (posL L 1 L.length).length c ∧ rowAtK h' a (encL iN (posL L 1 L.length)) ∧ Fr [] h h' := by
  rintro w rfl
  refine (callsIn_wide.1 (taken_in q sb L hL w hq hs)).mono ?_
  rintro e w' ⟨v, rfl, hr, hB⟩
  refine ⟨_, rfl, ⟨hB.os, hB.tape, hB.output⟩, ?_⟩
  have hf : Fr [] w.heap w'.heap := ⟨hB.size, fun b hb _ => hB.block b hb⟩
  rcases hr.2 with ⟨rfl, h0⟩ | ⟨g, cap, cur, rfl, h2, h3, h4, h5, h6, h7⟩
  · refine ⟨none, 0, by rw [h0], .inl ?_, hf⟩
    have : posL L 1 L.length = [] := List.eq_nil_of_length_eq_zero h0
    rw [this]; rfl
  · refine ⟨some ⟨g, 0, none⟩, cap, rfl, .inr ⟨g, 0, rfl, ?_⟩, hf⟩
    have hb : bk w'.heap g = some (blk 3 cur.toList) := h3
    refine readAt_of hb 0 _ ?_
    rw [enc_map, List.drop_zero, List.length_map]
    rw [Nat.mul_one] at h7
    exact h7
end Go.Proofs.Ytmocndbebknbgaa
