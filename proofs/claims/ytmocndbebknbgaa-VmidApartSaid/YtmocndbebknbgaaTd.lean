import Derived.Test.YtmocndbebknbgaaTc
namespace Go.Proofs.Ytmocndbebknbgaa
open Go Go.Wd
set_option linter.unusedVariables false
set_option linter.unusedSimpArgs false
set_option linter.unnecessarySimpa false

/-! ## looking up -/
def noS : S := ⟨0, 0, 0, false, false⟩
theorem S.ret {h : Hp} {b : Nat} {T : TypeId} {l0 : List Value} (hb : bk h b = some (blk T l0)) (hl : l0.length = 5) (x : S) {K : Int → Int → Int → Bool → Bool → Hp → Prop} (hK : K x.vm x.pg x.fr x.wr x.ex (upd h b T x.cells)) :
    truly true ∧ ∃ T1 : TypeId, ∃ l : List Value, bk h b = some (blk T1 l) ∧ 0 + 5 ≤ l.length ∧ ∀ h4 : Hp, h4 = upd h b T1 (writeAt l 0 [.int .i64 x.vm, .int .i64 x.pg, .int .i64 x.fr, .bool x.wr, .bool x.ex]) → ∃ a1 : Int, cellAt h4 b (0 + 0) = some (.int .i64 a1) ∧ ∃ a2 : Int, cellAt h4 b (0 + 1) = some (.int .i64 a2) ∧ ∃ a3 : Int, cellAt h4 b (0 + 2) = some (.int .i64 a3) ∧ ∃ a4 : Bool, cellAt h4 b (0 + 3) = some (.bool a4) ∧ ∃ a5 : Bool, cellAt h4 b (0 + 4) = some (.bool a5) ∧ K a1 a2 a3 a4 a5 h4 := by
  refine ⟨rfl, T, l0, hb, by omega, ?_⟩
  rintro h4 rfl
  have hw : writeAt l0 0 [.int .i64 x.vm, .int .i64 x.pg, .int .i64 x.fr, .bool x.wr, .bool x.ex] = x.cells := by
    rw [writeAt_eq _ _ _ (by rw [hl]; exact Nat.le_refl _)]
    have : l0.drop (0 + 5) = [] := List.drop_eq_nil_of_le (by omega)
    simp only [List.take_zero, List.nil_append, List.length_cons, List.length_nil, Nat.zero_add, Nat.reduceAdd] at this ⊢
    rw [this, List.append_nil]; rfl
  rw [hw]
  exact ⟨_, (cell_upd hb _ _ _).trans rfl, _, (cell_upd hb _ _ _).trans rfl, _, (cell_upd hb _ _ _).trans rfl, _, (cell_upd hb _ _ _).trans rfl, _, (cell_upd hb _ _ _).trans rfl, hK⟩
/-- What is found of a number and a page. -/
def findL (L : List (Option S)) (v p : Int) : Option S := match atK L v p with
  | some k => (L[k]?).getD none
  | none => none
/-! ## dropping -/
theorem gone_len (f : S → Bool) (L : List (Option S)) (k : Nat) : ((L.take k).map (gone f) ++ L.drop k).length = L.length := by simp; omega
theorem gone_at {f : S → Bool} {L : List (Option S)} {k : Nat} (hk : k < L.length) : ((L.take k).map (gone f) ++ L.drop k)[k]? = L[k]? := by
  rw [List.getElem?_append_right (by simp; omega)]
  simp
  congr 1; omega
theorem gone_step {f : S → Bool} {L : List (Option S)} {k : Nat} {o : Option S} (hk : L[k]? = some o) : ((L.take k).map (gone f) ++ L.drop k).set k (gone f o) = (L.take (k + 1)).map (gone f) ++ L.drop (k + 1) := by
  have hkl := (List.getElem?_eq_some_iff.1 hk).1
  rw [List.set_append_right _ _ (by simp; omega), List.take_add_one, hk, List.map_append]
  simp [Nat.min_eq_left (Nat.le_of_lt hkl)]
  rw [List.drop_eq_getElem_cons hkl]; rfl
theorem gone_keep {f : S → Bool} {L : List (Option S)} {k : Nat} {o : Option S} (hk : L[k]? = some o) (ho : gone f o = o) : (L.take k).map (gone f) ++ L.drop k = (L.take (k + 1)).map (gone f) ++ L.drop (k + 1) := by
  rw [← gone_step hk, ho]
  apply List.ext_getElem?
  intro i
  rw [List.getElem?_set]
  by_cases e : k = i
  · have hkl := (List.getElem?_eq_some_iff.1 hk).1
    subst e
    rw [if_pos rfl, if_pos (by rw [gone_len]; exact hkl), gone_at hkl, hk]
  · rw [if_neg e]
theorem hit_step {f : S → Bool} {L : List (Option S)} {k : Nat} {o : Option S} (hk : L[k]? = some o) : dropN f (L.take (k + 1)) = dropN f (L.take k) + if hit f o then 1 else 0 := by
  unfold dropN
  rw [List.take_add_one, hk, List.countP_append]
  simp [List.countP_cons, List.countP_nil]

/-- The round of a drop, whatever tells which ones go. -/
theorem drop_loop {h : Hp} {q pl mp : Nat} {L : List (Option S)} {nx : Nat} (w : TS h q pl mp L nx) (f : S → Bool) {C : Option Addr → Hp → (Value → Hp → Prop) → Prop}
    (hC : ∀ (b : Nat) (s : S) (h1 : Hp) (K : Value → Hp → Prop), bk h1 b = some (blk 51 s.cells) → Fr [pl, mp] h h1 → K (.bool (f s)) h1 → C (some ⟨b, 0, none⟩) h1 K) {R : Value → Hp → Prop}
    (hR : ∀ h', TS h' q pl mp (dropL f L) nx → Fr [pl, mp] h h' → R (.int .i64 (dropN f L : Nat)) h') :
    ∃ placesa1 : Option Addr, ∃ placesl2 : Nat, ∃ placesc3 : Nat, cellAt h q 0 = some (.slice placesa1 placesl2 placesc3) ∧ ∃ I4 : Int → Int → Hp → Prop, ∃ m5 : Int → Int → Hp → Nat, I4 0 0 h ∧ ∀ n6 : Int, ∀ x7 : Int, ∀ h1 : Hp, I4 n6 x7 h1 →
      ((decide (x7 < ((placesl2 : Nat) : Int))) = true → ((0 : Int) ≤ x7 ∧ x7 < ((placesl2 : Nat) : Int) ∧ ∃ b8 : Nat, ∃ o9 : Nat, (placesa1 : Option Addr) = some ⟨b8, o9, none⟩ ∧ ∃ x10 : Option Addr, cellAt h1 b8 (o9 + x7.toNat * 1) = some (.pointer x10) ∧
      ((notIf false x10.isNone) = true → (C x10 h1 fun r11 h2 => ∃ Drop12 : Bool, r11 = .bool Drop12 ∧
      ((Drop12) = true → (CallsH Try.prog 27 [.pointer (some ⟨q, 0, none⟩), .int .i64 x7] h2 fun r13 h3 => r13 = .tuple #[] ∧ I4 (IntKind.wrap .i64 (n6 + 1)) (IntKind.wrap .i64 (x7 + 1)) h3 ∧ m5 (IntKind.wrap .i64 (n6 + 1)) (IntKind.wrap .i64 (x7 + 1)) h3 < m5 n6 x7 h1)) ∧
      ((Drop12) = false → (I4 n6 (IntKind.wrap .i64 (x7 + 1)) h2 ∧ m5 n6 (IntKind.wrap .i64 (x7 + 1)) h2 < m5 n6 x7 h1)))) ∧ ((notIf false x10.isNone) = false → (I4 n6 (IntKind.wrap .i64 (x7 + 1)) h1 ∧ m5 n6 (IntKind.wrap .i64 (x7 + 1)) h1 < m5 n6 x7 h1)))) ∧
      ((decide (x7 < ((placesl2 : Nat) : Int))) = false → (R (.int .i64 n6) h1)) := by
  have hpos := w.pos
  refine ⟨_, _, _, w.row, ?_⟩
  refine ⟨fun n x h1 => ∃ k : Nat, x = k ∧ k ≤ L.length ∧ n = (dropN f (L.take k) : Nat) ∧ TS h1 q pl mp ((L.take k).map (gone f) ++ L.drop k) nx ∧ Fr [pl, mp] h h1, fun _ x _ => L.length - x.toNat, ⟨0, rfl, by omega, by simp [dropN], by simpa using w, Fr.refl _ _⟩, ?_⟩
  rintro n x h1 ⟨k, rfl, hk, rfl, w1, f1⟩
  refine ⟨fun hc => ?_, fun hc => ?_⟩
  · have hk : k < L.length := by simpa using hc
    obtain ⟨o, ho⟩ : ∃ o, L[k]? = some o := ⟨_, List.getElem?_eq_getElem hk⟩
    obtain ⟨A, hA, hS⟩ := w1.hpl
    have hlen := gone_len f L k
    have hka : k < A.length := by rw [hS.len, hlen]; exact hk
    obtain ⟨a, ha⟩ : ∃ a, A[k]? = some a := ⟨_, List.getElem?_eq_getElem hka⟩
    have hcnt : dropN f (L.take k) ≤ k := by
      have := List.countP_le_length (p := hit f) (l := L.take k)
      rw [List.length_take] at this; unfold dropN; omega
    rw [wrapT hk (by omega)]
    have hw : IntKind.wrap .i64 ((dropN f (L.take k) : Int) + 1) = ((dropN f (L.take k) + 1 : Nat) : Int) := by rw [wrap_i64 (by omega) (by omega)]; omega
    refine ⟨by omega, by omega, _, _, rfl, _, by rw [Int.toNat_natCast, Nat.mul_one, Nat.zero_add, cellAt_of hA]; exact ptrs_at ha, fun hn => ?_, fun hn => ?_⟩
    · cases a with
      | none => simp [notIf] at hn
      | some b =>
        obtain ⟨s, hs, hb, _⟩ := hS.has k b ha
        rw [gone_at hk, ho] at hs
        cases hs
        refine hC b s h1 _ hb f1 ⟨_, rfl, fun hf => ?_, fun hf => ?_⟩
        · refine (free_spec w1 (by rw [hlen]; exact hk)).mono ?_
          rintro v h3 ⟨rfl, w3, f3⟩
          have e : none = gone f (some s) := by simp [gone, hf]
          rw [e, gone_step ho] at w3
          rw [hw]
          exact ⟨rfl, ⟨k + 1, rfl, by omega, by rw [hit_step ho]; simp [hit, hf], w3, f1.trans f3⟩, decT hk⟩
        · exact ⟨⟨k + 1, rfl, by omega, by rw [hit_step ho]; simp [hit, hf], by rw [← gone_keep ho (by simp [gone, hf])]; exact w1, f1⟩, decT hk⟩
    · cases a with
      | some b => simp [notIf] at hn
      | none =>
        have hl := hS.no k ha
        rw [gone_at hk, ho] at hl
        cases hl
        exact ⟨⟨k + 1, rfl, by omega, by rw [hit_step ho]; simp [hit], by rw [← gone_keep ho (by simp [gone])]; exact w1, f1⟩, decT hk⟩
  · have hk : k = L.length := by have : ¬ k < L.length := by simpa using hc
                                 omega
    subst hk
    rw [List.take_length, List.drop_length, List.append_nil] at w1
    rw [List.take_length]
    exact hR _ w1 f1
theorem Clear_spec {h : Hp} {q pl mp : Nat} {L : List (Option S)} {nx : Nat} (w : TS h q pl mp L nx) :
    CallsH Try.prog 22 [.pointer (some ⟨q, 0, none⟩)] h fun r h' => r = .tuple #[] ∧ TS h' q pl mp (List.replicate L.length none) 0 ∧ Fr [q, pl, mp] h h' := by
  refine calls_k fun R hR => ?_
  apply tlb_Tlb_Clear.calls
  unfold tlb_Tlb_Clear.P
  have n1 := w.ne1
  have n2 := w.ne2
  have n3 := w.ne3
  have hpos := w.pos
  obtain ⟨A, hA, hS⟩ := w.hpl
  obtain ⟨M, c, hM, hI⟩ := w.hmp
  refine ⟨_, _, _, w.row, fun h0 => by omega, fun _ => ⟨pl, 0, _, _, rfl, hA, by rw [ptrs_len, hS.len]; omega, ?_⟩⟩
  intro h1 e1
  have hz : writeAt (ptrs A) 0 (zeros [.pointer none] L.length) = ptrs (List.replicate L.length none) := by
    have hzl : zeros [.pointer none] L.length = ptrs (List.replicate L.length none) := by
      simp only [zeros, ptrs, List.map_replicate]
      generalize L.length = m
      induction m with
      | zero => rfl
      | succ m ih => rw [List.replicate_succ, List.flatten_cons, ih, List.replicate_succ]; rfl
    rw [hzl, writeAt_eq _ _ _ (by simp [ptrs_len, hS.len])]
    rw [List.take_zero, List.nil_append, List.drop_eq_nil_of_le (by simp [ptrs_len, hS.len]), List.append_nil]
  rw [hz] at e1
  have q1 : bk h1 q = some (blk 63 [.slice (some ⟨pl, 0, none⟩) L.length L.length, .map (some mp), .int .i64 (nx : Int)]) := by rw [e1, upd_other (fun e => n1 e.symm)]; exact w.hq
  have p1 : bk h1 pl = some (blk 64 (ptrs (List.replicate L.length none))) := by rw [e1]; exact upd_same hA _ _
  have m1 : bk h1 mp = some (.map ⟨M.map En.me⟩ c) := by rw [e1, upd_other n3]; exact hM
  have f1 : Fr [pl] h h1 := by rw [e1]; exact Fr.upd (by simp) _ _ _
  clear e1
  refine ⟨_, (cellAt_of q1 1).trans rfl, mp, _, c, rfl, m1, ?_⟩
  intro h4 e4
  have q4 : bk h4 q = some (blk 63 [.slice (some ⟨pl, 0, none⟩) L.length L.length, .map (some mp), .int .i64 (nx : Int)]) := by rw [e4, updO_other (fun e => n2 e.symm)]; exact q1
  have p4 : bk h4 pl = some (blk 64 (ptrs (List.replicate L.length none))) := by rw [e4, updO_other (fun e => n3 e.symm)]; exact p1
  have m4 : bk h4 mp = some (.map ⟨([] : List En).map En.me⟩ c) := by rw [e4]; exact updO_same m1 _
  have f4 : Fr [mp] h1 h4 := by rw [e4]; exact Fr.updO (by simp) _ _
  clear e4
  refine ⟨truly_rfl, _, _, q4, by simp, ?_⟩
  intro h5 e5
  have q5 : bk h5 q = some (blk 63 [.slice (some ⟨pl, 0, none⟩) L.length L.length, .map (some mp), .int .i64 0]) := by rw [e5]; exact upd_same q4 _ _
  have f5 : Fr [q] h4 h5 := by rw [e5]; exact Fr.upd (by simp) _ _ _
  refine hR _ _ ⟨rfl, ⟨by rw [q5]; simp, ⟨_, f5.at p4 (by simpa using n1), by simp, fun i hi => ?_, fun i b hb => ?_⟩, ⟨[], c, f5.at m4 (by simpa using n2), MI.none c _⟩, by simpa using hpos, by simp; omega⟩, ((f1.sub (by simp)).trans (f4.sub (by simp))).trans (f5.sub (by simp))⟩
  · have hi' := (List.getElem?_eq_some_iff.1 hi).1
    rw [List.getElem?_replicate, if_pos (by simpa using hi')]
  · have := List.mem_of_getElem? hb
    simp at this
/-- All that are kept, in a new row. -/
theorem List_spec {h : Hp} {q pl mp : Nat} {L : List (Option S)} {nx : Nat} (w : TS h q pl mp L nx) :
    CallsH Try.prog 20 [.pointer (some ⟨q, 0, none⟩)] h fun r h' => ∃ (a : Option Addr) (c : Nat), r = .slice a (L.filterMap id).length c ∧ Own h' 51 5 a (L.filterMap id).length c (encL S.cells (L.filterMap id)) ∧ (∀ x ∈ foot a, sz h ≤ x) ∧ Fr [] h h' := by
  refine calls_k fun R hR => ?_
  apply tlb_Tlb_List.calls
  unfold tlb_Tlb_List.P
  have hpos := w.pos
  refine ⟨_, _, _, w.row, ?_⟩
  refine ⟨fun a l c x h1 => ∃ k : Nat, x = k ∧ k ≤ L.length ∧ l = ((L.take k).filterMap id).length ∧ Own h1 51 5 a l c (encL S.cells ((L.take k).filterMap id)) ∧ (∀ x ∈ foot a, sz h ≤ x) ∧ Fr [] h h1, fun _ _ _ x _ => L.length - x.toNat,
    ⟨0, rfl, by omega, rfl, Own.nil _ _ _, by simp [foot], Fr.refl _ _⟩, ?_⟩
  rintro a l c x h1 ⟨k, rfl, hk, rfl, o1, fa, f1⟩
  have w1 := w.fr0 f1
  refine ⟨fun hc => ?_, fun hc => ?_⟩
  · have hk : k < L.length := by simpa using hc
    obtain ⟨o, ho⟩ : ∃ o, L[k]? = some o := ⟨_, List.getElem?_eq_getElem hk⟩
    obtain ⟨A, hA, hS⟩ := w1.hpl
    have hka : k < A.length := by rw [hS.len]; exact hk
    obtain ⟨b0, ha⟩ : ∃ a, A[k]? = some a := ⟨_, List.getElem?_eq_getElem hka⟩
    have htk : (L.take (k + 1)).filterMap id = (L.take k).filterMap id ++ o.toList := by
      rw [List.take_add_one, ho, List.filterMap_append]
      cases o <;> rfl
    have hcnt : ((L.take k).filterMap id).length ≤ k := by
      have := List.length_filterMap_le id (L.take k)
      rw [List.length_take] at this; omega
    rw [wrapT hk (by omega)]
    refine ⟨by omega, by omega, _, _, rfl, _, by rw [Int.toNat_natCast, Nat.mul_one, Nat.zero_add, cellAt_of hA]; exact ptrs_at ha, fun hn => ?_, fun hn => ?_⟩
    · cases b0 with
      | none => simp [notIf] at hn
      | some b =>
        obtain ⟨s, hs, hb, _⟩ := hS.has k b ha
        rw [ho] at hs
        cases hs
        refine ⟨b, 0, rfl, s.vm, (cellAt_of hb _).trans rfl, s.pg, (cellAt_of hb _).trans rfl, s.fr, (cellAt_of hb _).trans rfl, s.wr, (cellAt_of hb _).trans rfl, s.ex, (cellAt_of hb _).trans rfl, ?_⟩
        intro h2 e2
        refine append_new (h0 := h) (F := []) o1 rfl f1 (fun x hx => .inr (fa x hx)) rfl rfl e2 (by omega) (by omega) ?_
        intro a' c' h3 o3 f3 fa3 _ _
        have e3 : encL S.cells ((L.take (k + 1)).filterMap id) = encL S.cells ((L.take k).filterMap id) ++ [.int .i64 s.vm, .int .i64 s.pg, .int .i64 s.fr, .bool s.wr, .bool s.ex] := by
          rw [htk, encL_append]; rfl
        refine ⟨⟨k + 1, rfl, by omega, by rw [htk]; simp, by rw [e3]; exact o3, fun x hx => (fa3 x hx).resolve_left (by simp), f3⟩, decT hk⟩
    · cases b0 with
      | some b => simp [notIf] at hn
      | none =>
        have hl := hS.no k ha
        rw [ho] at hl
        cases hl
        rw [Option.toList_none, List.append_nil] at htk
        exact ⟨⟨k + 1, rfl, by omega, by rw [htk], by rw [htk]; exact o1, fa, f1⟩, decT hk⟩
  · have hk : k = L.length := by have : ¬ k < L.length := by simpa using hc
                                 omega
    subst hk
    rw [List.take_length] at o1 ⊢
    exact hR _ _ ⟨a, c, rfl, o1, fa, f1⟩
end Go.Proofs.Ytmocndbebknbgaa
