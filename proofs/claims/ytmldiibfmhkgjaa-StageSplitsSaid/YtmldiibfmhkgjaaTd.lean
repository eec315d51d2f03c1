import Derived.Test.YtmldiibfmhkgjaaTc
namespace Go.Proofs.Ytmldiibfmhkgjaa
open Go Go.Wd
set_option linter.unusedVariables false
set_option linter.unusedSimpArgs false

/-! ## looking up -/
def noS : S := ⟨0, 0, 0, false, false⟩
theorem S.ret {h : Hp} {b : Nat} {T : TypeId} {l0 : List Value} (hb : bk h b = some (blk T l0)) (hl : l0.length = 5) (x : S) {K : Int → Int → Int → Bool → Bool → Hp → Prop} (hK : K x.vm x.pg x.fr x.wr x.ex (upd h b T x.cells)) :
    truly true ∧ ∃ T1 : TypeId, ∃ l : List Value, bk h b = some (blk T1 l) ∧ 0 + 5 ≤ l.length ∧ ∀ h4 : Hp, h4 = upd h b T1 (writeAt l 0 [.int .i64 x.vm, .int .i64 x.pg, .int .i64 x.fr, .bool x.wr, .bool x.ex]) → ∃ a1 : Int, cellAt h4 b (0 + 0) = some (.int .i64 a1) ∧ ∃ a2 : Int, cellAt h4 b (0 + 1) = some (.int .i64 a2) ∧ ∃ a3 : Int, cellAt h4 b (0 + 2) = some (.int .i64 a3) ∧ ∃ a4 : Bool, cellAt h4 b (0 + 3) = some (.bool a4) ∧ ∃ a5 : Bool, cellAt h4 b (0 + 4) = some (.bool a5) ∧ K a1 a2 a3 a4 a5 h4 := by
  refine ⟨rfl, T, l0, hb, by omega, ?_⟩
  rintro h4 rfl
  have hw : writeAt l0 0 [.int .i64 x.vm, .int .i64 x.pg, .int .i64 x.fr, .bool x.wr, .bool x.ex] = x.cells := by
    rw [writeAt_eq _ _ _ (by rw [hl]; exact Nat.le_refl _)]
    have : l0.drop (0 + 5) = [] := List.drop_eq_nil_of_le (by omega)
    simp only [List.take_zero, List.nil_append, List.length_cons, List.length_nil, Nat.zero_add, Nat.reduceAdd] at this ⊢
    rw [this, List.append_nil]; rfl
  rw [hw]
  exact ⟨_, (cell_upd hb _ _ _).trans rfl, _, (cell_upd hb _ _ _).trans rfl, _, (cell_upd hb _ _ _).trans rfl, _, (cell_upd hb _ _ _).trans rfl, _, (cell_upd hb _ _ _).trans rfl, hK⟩
/-- What is found of a number and a page. -/
def findL (L : List (Option S)) (v p : Int) : Option S := match atK L v p with
  | some k => (L[k]?).getD none
  | none => none
theorem TFind_spec {h : Hp} {q pl mp : Nat} {L : List (Option S)} {nx : Nat} (w : TS h q pl mp L nx) (v p : Int) :
    CallsH Try.prog 34 [.pointer (some ⟨q, 0, none⟩), .int .i64 v, .int .i64 p] h fun r h' => r = .tuple #[.agg ⟨((findL L v p).getD noS).cells⟩, .bool (findL L v p).isSome] ∧ Fr [] h h' := by
  refine calls_k fun R hR => ?_
  apply tlb_Tlb_Find.calls
  unfold tlb_Tlb_Find.P
  intro h1 e1
  have b1 : bk h1 (sz h) = some (blk 64 noS.cells) := by rw [e1]; exact new_at _ _
  have f1 : Fr [] h h1 := by rw [e1]; exact Fr.new _ _ _
  clear e1
  have w1 := w.fr0 f1
  obtain ⟨M, c, hM, hI⟩ := w1.hmp
  have ff : ∀ T l, Fr [] h (upd h1 (sz h) T l) := fun T l => f1.later (Fr.upd (F := [sz h]) (by simp) _ _ _) (by simp)
  refine ⟨_, w1.map, ?_⟩
  rcases hI.look v p with ⟨g1, g2, g3⟩ | ⟨k, j, m, t, g1, g2, g3, g4, g5, g6, g7⟩
  · have hf : findL L v p = none := by unfold findL; rw [g1]
    rw [hf] at hR
    refine ⟨none, ⟨M.map En.me, c, _, hM, lookM_en v p M 0, by rw [g2]; rfl⟩, 0, rfl, fun _ => ?_, fun hn => absurd hn (by simp)⟩
    exact S.ret b1 rfl noS (hR _ _ ⟨rfl, ff _ _⟩)
  · have hf : findL L v p = some t := by unfold findL; rw [g1]; simp only [g2, Option.getD_some]
    rw [hf] at hR
    have hk : k < L.length := (List.getElem?_eq_some_iff.1 g2).1
    obtain ⟨A, hA, hS⟩ := w1.hpl
    obtain ⟨a, ha⟩ : ∃ a, A[k]? = some a := ⟨_, List.getElem?_eq_getElem (by rw [hS.len]; exact hk)⟩
    cases a with
    | none => have := hS.no k ha; rw [g2] at this; cases this
    | some b =>
      obtain ⟨t', a1, a2, _⟩ := hS.has k b ha
      rw [g2] at a1; cases a1
      refine ⟨some (.int .i64 (k : Int)), ⟨M.map En.me, c, _, hM, lookM_en v p M 0, by rw [g4]; rfl⟩, (k : Int), rfl, fun hn => absurd hn (by simp), fun _ => ?_⟩
      refine ⟨_, _, _, w1.row, by omega, by omega, _, _, rfl, _, ?_, b, 0, rfl, t.vm, (cellAt_of a2 _).trans rfl, t.pg, (cellAt_of a2 _).trans rfl, t.fr, (cellAt_of a2 _).trans rfl, t.wr, (cellAt_of a2 _).trans rfl, t.ex, (cellAt_of a2 _).trans rfl, ?_⟩
      · rw [Int.toNat_natCast, Nat.mul_one, Nat.zero_add, cellAt_of hA]; exact ptrs_at ha
      · exact S.ret b1 rfl t (hR _ _ ⟨rfl, ff _ _⟩)

/-! ## dropping -/
theorem gone_len (f : S → Bool) (L : List (Option S)) (k : Nat) : ((L.take k).map (gone f) ++ L.drop k).length = L.length := by simp; omega
theorem gone_at {f : S → Bool} {L : List (Option S)} {k : Nat} (hk : k < L.length) : ((L.take k).map (gone f) ++ L.drop k)[k]? = L[k]? := by
  rw [List.getElem?_append_right (by simp; omega)]
  simp
  congr 1; omega
theorem gone_step {f : S → Bool} {L : List (Option S)} {k : Nat} {o : Option S} (hk : L[k]? = some o) : ((L.take k).map (gone f) ++ L.drop k).set k (gone f o) = (L.take (k + 1)).map (gone f) ++ L.drop (k + 1) := by
  have hkl := (List.getElem?_eq_some_iff.1 hk).1
  rw [List.set_append_right _ _ (by simp; omega), List.take_add_one, hk, List.map_append]
  simp [Nat.min_eq_left (Nat.le_of_lt hkl)]
  rw [List.drop_eq_getElem_cons hkl]; rfl
theorem gone_keep {f : S → Bool} {L : List (Option S)} {k : Nat} {o : Option S} (hk : L[k]? = some o) (ho : gone f o = o) : (L.take k).map (gone f) ++ L.drop k = (L.take (k + 1)).map (gone f) ++ L.drop (k + 1) := by
  rw [← gone_step hk, ho]
  apply List.ext_getElem?
  intro i
  rw [List.getElem?_set]
  by_cases e : k = i
  · have hkl := (List.getElem?_eq_some_iff.1 hk).1
    subst e
    rw [if_pos rfl, if_pos (by rw [gone_len]; exact hkl), gone_at hkl, hk]
  · rw [if_neg e]
theorem hit_step {f : S → Bool} {L : List (Option S)} {k : Nat} {o : Option S} (hk : L[k]? = some o) : dropN f (L.take (k + 1)) = dropN f (L.take k) + if hit f o then 1 else 0 := by
  unfold dropN
  rw [List.take_add_one, hk, List.countP_append]
  simp [List.countP_cons, List.countP_nil]

/-- The round of a drop, whatever tells which ones go. -/
theorem drop_loop {h : Hp} {q pl mp : Nat} {L : List (Option S)} {nx : Nat} (w : TS h q pl mp L nx) (f : S → Bool) {C : Option Addr → Hp → (Value → Hp → Prop) → Prop}
    (hC : ∀ (b : Nat) (s : S) (h1 : Hp) (K : Value → Hp → Prop), bk h1 b = some (blk 64 s.cells) → Fr [pl, mp] h h1 → K (.bool (f s)) h1 → C (some ⟨b, 0, none⟩) h1 K) {R : Value → Hp → Prop}
    (hR : ∀ h', TS h' q pl mp (dropL f L) nx → Fr [pl, mp] h h' → R (.int .i64 (dropN f L : Nat)) h') :
    ∃ placesa1 : Option Addr, ∃ placesl2 : Nat, ∃ placesc3 : Nat, cellAt h q 0 = some (.slice placesa1 placesl2 placesc3) ∧ ∃ I4 : Int → Int → Hp → Prop, ∃ m5 : Int → Int → Hp → Nat, I4 0 0 h ∧ ∀ n6 : Int, ∀ x7 : Int, ∀ h1 : Hp, I4 n6 x7 h1 →
      ((decide (x7 < ((placesl2 : Nat) : Int))) = true → ((0 : Int) ≤ x7 ∧ x7 < ((placesl2 : Nat) : Int) ∧ ∃ b8 : Nat, ∃ o9 : Nat, (placesa1 : Option Addr) = some ⟨b8, o9, none⟩ ∧ ∃ x10 : Option Addr, cellAt h1 b8 (o9 + x7.toNat * 1) = some (.pointer x10) ∧
      ((notIf false x10.isNone) = true → (C x10 h1 fun r11 h2 => ∃ Drop12 : Bool, r11 = .bool Drop12 ∧
      ((Drop12) = true → (CallsH Try.prog 81 [.pointer (some ⟨q, 0, none⟩), .int .i64 x7] h2 fun r13 h3 => r13 = .tuple #[] ∧ I4 (IntKind.wrap .i64 (n6 + 1)) (IntKind.wrap .i64 (x7 + 1)) h3 ∧ m5 (IntKind.wrap .i64 (n6 + 1)) (IntKind.wrap .i64 (x7 + 1)) h3 < m5 n6 x7 h1)) ∧
      ((Drop12) = false → (I4 n6 (IntKind.wrap .i64 (x7 + 1)) h2 ∧ m5 n6 (IntKind.wrap .i64 (x7 + 1)) h2 < m5 n6 x7 h1)))) ∧ ((notIf false x10.isNone) = false → (I4 n6 (IntKind.wrap .i64 (x7 + 1)) h1 ∧ m5 n6 (IntKind.wrap .i64 (x7 + 1)) h1 < m5 n6 x7 h1)))) ∧
      ((decide (x7 < ((placesl2 : Nat) : Int))) = false → (R (.int .i64 n6) h1)) := by
  have hpos := w.pos
  refine ⟨_, _, _, w.row, ?_⟩
  refine ⟨fun n x h1 => ∃ k : Nat, x = k ∧ k ≤ L.length ∧ n = (dropN f (L.take k) : Nat) ∧ TS h1 q pl mp ((L.take k).map (gone f) ++ L.drop k) nx ∧ Fr [pl, mp] h h1, fun _ x _ => L.length - x.toNat, ⟨0, rfl, by omega, by simp [dropN], by simpa using w, Fr.refl _ _⟩, ?_⟩
  rintro n x h1 ⟨k, rfl, hk, rfl, w1, f1⟩
  refine ⟨fun hc => ?_, fun hc => ?_⟩
  · have hk : k < L.length := by simpa using hc
    obtain ⟨o, ho⟩ : ∃ o, L[k]? = some o := ⟨_, List.getElem?_eq_getElem hk⟩
    obtain ⟨A, hA, hS⟩ := w1.hpl
    have hlen := gone_len f L k
    have hka : k < A.length := by rw [hS.len, hlen]; exact hk
    obtain ⟨a, ha⟩ : ∃ a, A[k]? = some a := ⟨_, List.getElem?_eq_getElem hka⟩
    have hcnt : dropN f (L.take k) ≤ k := by
      have := List.countP_le_length (p := hit f) (l := L.take k)
      rw [List.length_take] at this; unfold dropN; omega
    rw [wrapT hk (by omega)]
    have hw : IntKind.wrap .i64 ((dropN f (L.take k) : Int) + 1) = ((dropN f (L.take k) + 1 : Nat) : Int) := by rw [wrap_i64 (by omega) (by omega)]; omega
    refine ⟨by omega, by omega, _, _, rfl, _, by rw [Int.toNat_natCast, Nat.mul_one, Nat.zero_add, cellAt_of hA]; exact ptrs_at ha, fun hn => ?_, fun hn => ?_⟩
    · cases a with
      | none => simp [notIf] at hn
      | some b =>
        obtain ⟨s, hs, hb, _⟩ := hS.has k b ha
        rw [gone_at hk, ho] at hs
        cases hs
        refine hC b s h1 _ hb f1 ⟨_, rfl, fun hf => ?_, fun hf => ?_⟩
        · refine (Tfree_spec w1 (by rw [hlen]; exact hk)).mono ?_
          rintro v h3 ⟨rfl, w3, f3⟩
          have e : none = gone f (some s) := by simp [gone, hf]
          rw [e, gone_step ho] at w3
          rw [hw]
          exact ⟨rfl, ⟨k + 1, rfl, by omega, by rw [hit_step ho]; simp [hit, hf], w3, f1.trans f3⟩, decT hk⟩
        · exact ⟨⟨k + 1, rfl, by omega, by rw [hit_step ho]; simp [hit, hf], by rw [← gone_keep ho (by simp [gone, hf])]; exact w1, f1⟩, decT hk⟩
    · cases a with
      | some b => simp [notIf] at hn
      | none =>
        have hl := hS.no k ha
        rw [gone_at hk, ho] at hl
        cases hl
        exact ⟨⟨k + 1, rfl, by omega, by rw [hit_step ho]; simp [hit], by rw [← gone_keep ho (by simp [gone])]; exact w1, f1⟩, decT hk⟩
  · have hk : k = L.length := by have : ¬ k < L.length := by simpa using hc
                                 omega
    subst hk
    rw [List.take_length, List.drop_length, List.append_nil] at w1
    rw [List.take_length]
    exact hR _ w1 f1
/-- All that are kept, in a new row. -/
theorem TDropAll_spec {h : Hp} {q pl mp : Nat} {L : List (Option S)} {nx : Nat} (w : TS h q pl mp L nx) (v : Int) :
    CallsH Try.prog 91 [.pointer (some ⟨q, 0, none⟩), .int .i64 v] h fun r h' => r = .int .i64 (dropN (fun s => s.vm == v) L : Nat) ∧ TS h' q pl mp (dropL (fun s => s.vm == v) L) nx ∧ Fr [pl, mp] h h' := by
  refine calls_k fun R hR => ?_
  apply tlb_Tlb_DropAll.calls
  unfold tlb_Tlb_DropAll.P
  intro h1 e1
  have b1 : bk h1 (sz h) = some (blk 3 [.int .i64 v]) := by rw [e1]; exact new_at _ _
  have f1 : Fr [] h h1 := by rw [e1]; exact Fr.new _ _ _
  clear e1
  have l1 := w.lpl
  have l2 := w.lmp
  apply tlb_Tlb_drop_113.calls
  unfold tlb_Tlb_drop_113.P
  refine drop_loop (C := fun a hh K => CallsH Try.prog 113 [.pointer a, .pointer (some ⟨sz h, 0, none⟩)] hh K) (R := fun r1 h2 => ∃ drop2 : Int, r1 = .int .i64 drop2 ∧ R (.int .i64 drop2) h2) (w.fr0 f1) (fun s => s.vm == v) (fun b s h2 K hb f2 hK => ?_) (fun h' w' f' => ⟨_, rfl, hR _ _ ⟨rfl, w', (f1.mono (by simp)).trans f'⟩⟩)
  apply tlb_Tlb_DropAll_1.calls
  exact ⟨_, (cellAt_of hb 0).trans rfl, _, (cellAt_of (f2.at b1 (by simp; omega)) 0).trans rfl, hK⟩
end Go.Proofs.Ytmldiibfmhkgjaa
