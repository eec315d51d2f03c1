import Derived.Test.YtmldiibfmhkgjaaTa
namespace Go.Proofs.Ytmldiibfmhkgjaa
open Go Go.Wd
set_option linter.unusedVariables false
set_option linter.unusedSimpArgs false

/-! ## the TLB in memory -/
def ptrs (A : List (Option Nat)) : List Value := A.map fun a => .pointer (a.map fun b => ⟨b, 0, none⟩)
theorem ptrs_at {A : List (Option Nat)} {i : Nat} {a : Option Nat} (h : A[i]? = some a) : (ptrs A)[i]? = some (.pointer (a.map fun b => ⟨b, 0, none⟩)) := by
  simp [ptrs, h]
theorem ptrs_len (A : List (Option Nat)) : (ptrs A).length = A.length := by simp [ptrs]
theorem ptrs_set (A : List (Option Nat)) (i : Nat) (a : Option Nat) : (ptrs A).set i (.pointer (a.map fun b => ⟨b, 0, none⟩)) = ptrs (A.set i a) := by simp [ptrs, List.map_set]
/-- Places and what they point to: blocks that are none of those that change. -/
structure Slots (h : Hp) (B : List Nat) (A : List (Option Nat)) (L : List (Option S)) : Prop where
  len : A.length = L.length
  no : ∀ i : Nat, A[i]? = some none → L[i]? = some none
  has : ∀ (i b : Nat), A[i]? = some (some b) → ∃ s : S, L[i]? = some (some s) ∧ bk h b = some (blk 64 s.cells) ∧ b ∉ B
structure TS (h : Hp) (q pl mp : Nat) (L : List (Option S)) (nx : Nat) : Prop where
  hq : bk h q = some (blk 126 [.slice (some ⟨pl, 0, none⟩) L.length L.length, .map (some mp), .int .i64 (nx : Int)])
  hpl : ∃ A, bk h pl = some (blk 127 (ptrs A)) ∧ Slots h [q, pl, mp] A L
  hmp : ∃ M c, bk h mp = some (.map ⟨M.map En.me⟩ c) ∧ MI M c L
  pos : 1 ≤ L.length ∧ L.length ≤ 64
  lt : nx < L.length
section
variable {h h' : Hp} {q pl mp : Nat} {L : List (Option S)} {nx : Nat}
theorem TS.ne1 (w : TS h q pl mp L nx) : pl ≠ q := by
  intro e; obtain ⟨A, hA, _⟩ := w.hpl; have := w.hq; rw [← e, hA] at this; simp [blk] at this
theorem TS.ne2 (w : TS h q pl mp L nx) : mp ≠ q := by
  intro e; obtain ⟨M, c, hM, _⟩ := w.hmp; have := w.hq; rw [← e, hM] at this; cases this
theorem TS.ne3 (w : TS h q pl mp L nx) : mp ≠ pl := by
  intro e; obtain ⟨M, c, hM, _⟩ := w.hmp; obtain ⟨A, hA, _⟩ := w.hpl; rw [e, hA] at hM; cases hM
theorem Slots.fr {B : List Nat} {A : List (Option Nat)} (w : Slots h B A L) {F : List Nat} (k : Fr F h h') (hF : ∀ x ∈ F, x ∈ B ∨ ∀ b, some b ∈ A → x ≠ b) : Slots h' B A L := by
  refine ⟨w.len, w.no, fun i b hb => ?_⟩
  obtain ⟨s, h1, h2, h3⟩ := w.has i b hb
  refine ⟨s, h1, k.at h2 fun hm => ?_, h3⟩
  rcases hF b hm with h | h
  · exact h3 h
  · exact h b (List.mem_of_getElem? hb) rfl
/-- Blocks of other work change nothing. -/
theorem TS.fr (w : TS h q pl mp L nx) {F : List Nat} (k : Fr F h h') (h1 : q ∉ F) (h2 : pl ∉ F) (h3 : mp ∉ F) (hF : ∀ x ∈ F, ∀ T l, bk h x = some (blk T l) → T ≠ 64) : TS h' q pl mp L nx := by
  obtain ⟨A, hA, hS⟩ := w.hpl
  obtain ⟨M, c, hM, hI⟩ := w.hmp
  refine ⟨k.at w.hq h1, ⟨A, k.at hA h2, ?_⟩, ⟨M, c, k.at hM h3, hI⟩, w.pos, w.lt⟩
  refine ⟨hS.len, hS.no, fun i b hb => ?_⟩
  obtain ⟨s, g1, g2, g3⟩ := hS.has i b hb
  exact ⟨s, g1, k.at g2 (fun hm => hF b hm _ _ g2 rfl), g3⟩
theorem TS.fr0 (w : TS h q pl mp L nx) (k : Fr [] h h') : TS h' q pl mp L nx := w.fr k (by simp) (by simp) (by simp) (by simp)
theorem TS.lq (w : TS h q pl mp L nx) : q < sz h := lt_of_bk w.hq
theorem TS.lpl (w : TS h q pl mp L nx) : pl < sz h := by obtain ⟨A, hA, _⟩ := w.hpl; exact lt_of_bk hA
theorem TS.lmp (w : TS h q pl mp L nx) : mp < sz h := by obtain ⟨M, c, hM, _⟩ := w.hmp; exact lt_of_bk hM
theorem TS.row (w : TS h q pl mp L nx) : cellAt h q 0 = some (.slice (some ⟨pl, 0, none⟩) L.length L.length) := (cellAt_of w.hq 0).trans rfl
theorem TS.map (w : TS h q pl mp L nx) : cellAt h q (0 + 1) = some (.map (some mp)) := (cellAt_of w.hq 1).trans rfl
theorem TS.next (w : TS h q pl mp L nx) : cellAt h q (0 + 2) = some (.int .i64 (nx : Int)) := (cellAt_of w.hq 2).trans rfl
end

theorem TNew_spec {h : Hp} (n : Int) : CallsH Try.prog 44 [.int .i64 n] h fun v h' => Fr [] h h' ∧
    ((¬ (1 ≤ n ∧ n ≤ 64) ∧ v = .tuple #[.pointer none, .int .i64 11]) ∨ (1 ≤ n ∧ n ≤ 64 ∧ v = .tuple #[.pointer (some ⟨sz h + 2, 0, none⟩), .int .i64 0] ∧ TS h' (sz h + 2) (sz h) (sz h + 1) (List.replicate n.toNat none) 0)) := by
  refine calls_k fun R hR => ?_
  apply tlb_New.calls
  unfold tlb_New.P
  refine ⟨fun c => ?_, fun c => ⟨fun c2 => ?_, fun c2 => ?_⟩⟩
  · simp only [decide_eq_true_eq] at c
    exact hR _ _ ⟨Fr.refl _ _, .inl ⟨by omega, rfl⟩⟩
  · simp only [decide_eq_true_eq] at c2
    exact hR _ _ ⟨Fr.refl _ _, .inl ⟨by omega, rfl⟩⟩
  simp only [decide_eq_false_iff_not] at c c2
  refine ⟨by omega, by omega, by omega, by omega, rfl, ?_⟩
  intro h1 e1 h2 e2 h3 e3
  have s1 : sz h1 = sz h + 1 := by rw [e1]; exact sz_new _ _
  have s2 : sz h2 = sz h + 2 := by rw [e2, sz_new, s1]
  have k1 : bk h3 (sz h) = some (blk 127 (ptrs (List.replicate n.toNat none))) := by
    rw [e3, bk_new, if_neg (by omega), e2, bk_new, if_neg (by omega), e1, new_at]
    congr 2
    simp only [zeros, ptrs, List.map_replicate]
    rw [show ([Value.pointer none] : List Value) = [Value.pointer none] from rfl]
    induction n.toNat with
    | zero => rfl
    | succ m ih => rw [List.replicate_succ, List.flatten_cons, ih, List.replicate_succ]; rfl
  have k2 : bk h3 (sz h + 1) = some (.map ⟨([] : List En).map En.me⟩ 0) := by
    rw [e3, bk_new, if_neg (by omega), e2, ← s1, new_at]; rfl
  have k3 : bk h3 (sz h + 2) = some (blk 126 [.slice (some ⟨sz h, 0, none⟩) n.toNat n.toNat, .map (some (sz h + 1)), .int .i64 0]) := by rw [e3, ← s2, new_at, s1]
  have f3 : Fr [] h h3 := by rw [e3, e2, e1]; exact ((Fr.new [] h _).trans (Fr.new [] _ _)).trans (Fr.new [] _ _)
  rw [s2]
  refine hR _ _ ⟨f3, .inr ⟨by omega, by omega, rfl, ⟨by rw [k3]; simp, ⟨_, k1, by simp, fun i hi => ?_, fun i b hb => ?_⟩, ⟨[], 0, k2, MI.none 0 _⟩, by simp; omega, by simp; omega⟩⟩⟩
  · have hi' := (List.getElem?_eq_some_iff.1 hi).1
    rw [List.getElem?_replicate, if_pos (by simpa using hi')]
  · have := List.mem_of_getElem? hb
    simp at this

theorem map_erase {α β : Type} (f : α → β) : ∀ (l : List α) (k : Nat), (l.map f).eraseIdx k = (l.eraseIdx k).map f
  | [], _ => rfl
  | a :: l, 0 => rfl
  | a :: l, k + 1 => by simp [map_erase f l k]
/-- A place is made free. -/
theorem Tfree_spec {h : Hp} {q pl mp : Nat} {L : List (Option S)} {nx : Nat} (w : TS h q pl mp L nx) {k : Nat} (hk : k < L.length) :
    CallsH Try.prog 81 [.pointer (some ⟨q, 0, none⟩), .int .i64 (k : Int)] h fun v h' => v = .tuple #[] ∧ TS h' q pl mp (L.set k none) nx ∧ Fr [pl, mp] h h' := by
  refine calls_k fun R hR => ?_
  apply tlb_Tlb_free.calls
  unfold tlb_Tlb_free.P
  obtain ⟨A, hA, hS⟩ := w.hpl
  obtain ⟨M, c, hM, hI⟩ := w.hmp
  have n1 := w.ne1
  have n2 := w.ne2
  have n3 := w.ne3
  have hka : k < A.length := by rw [hS.len]; exact hk
  obtain ⟨a, ha⟩ : ∃ a, A[k]? = some a := ⟨_, List.getElem?_eq_getElem hka⟩
  have hc : cellAt h pl (0 + (k : Int).toNat * 1) = some (.pointer (a.map fun b => ⟨b, 0, none⟩)) := by
    rw [Int.toNat_natCast, Nat.mul_one, Nat.zero_add, cellAt_of hA]; exact ptrs_at ha
  refine ⟨_, _, _, w.row, by omega, by omega, _, _, rfl, _, hc, fun hn => ?_, fun hn => ?_⟩
  · cases a with
    | none => simp [notIf] at hn
    | some b =>
      obtain ⟨s, hs, hb, hbB⟩ := hS.has k b ha
      simp only [List.mem_cons, List.not_mem_nil, or_false, not_or] at hbB
      refine ⟨_, w.map, _, _, rfl, s.vm, (cellAt_of hb 0).trans rfl, _, _, rfl, s.pg, (cellAt_of hb 1).trans rfl, mp, M.map En.me, c, _, rfl, hM, lookM_en s.vm s.pg M 0, ?_⟩
      rcases hI.look s.vm s.pg with ⟨h1, _⟩ | ⟨k', j, m, s', h1, h2, h3, h4, h5, h6, h7⟩
      · have := atK_none h1 k s hs
        rw [S.is_iff.2 ⟨rfl, rfl⟩] at this; cases this
      have e := S.is_iff.1 h3
      have hkk : k' = k := hI.uniq h2 hs e.1 e.2
      subst hkk
      rw [h4]
      intro h1' e1
      have hdrop : dropM (M.map En.me) (some (j, .int .i64 (k' : Int))) = (M.eraseIdx j).map En.me := by simp only [dropM]; exact map_erase En.me M j
      rw [hdrop] at e1
      have q1 : bk h1' q = some (blk 126 [.slice (some ⟨pl, 0, none⟩) L.length L.length, .map (some mp), .int .i64 (nx : Int)]) := by rw [e1, updO_other (fun e => n2 e.symm)]; exact w.hq
      have p1 : bk h1' pl = some (blk 127 (ptrs A)) := by rw [e1, updO_other (fun e => n3 e.symm)]; exact hA
      have m1 : bk h1' mp = some (.map ⟨(M.eraseIdx j).map En.me⟩ c) := by rw [e1]; exact updO_same hM _
      have f1 : Fr [mp] h h1' := by rw [e1]; exact Fr.updO (by simp) _ _
      clear e1
      refine ⟨_, _, _, (cellAt_of q1 0).trans rfl, by omega, by omega, _, _, rfl, truly_rfl, _, _, p1, by rw [ptrs_len, Int.toNat_natCast]; omega, ?_⟩
      intro h2' e2
      rw [Int.toNat_natCast, Nat.mul_one, Nat.zero_add, writeAt_one, show (Value.pointer none) = .pointer ((none : Option Nat).map fun b => ⟨b, 0, none⟩) from rfl, ptrs_set] at e2
      have f2 : Fr [pl] h1' h2' := by rw [e2]; exact Fr.upd (by simp) _ _ _
      have ff : Fr [pl, mp] h h2' := (f1.sub (by simp)).trans (f2.sub (by simp))
      refine hR _ _ ⟨rfl, ⟨?_, ⟨A.set k' none, ?_, ?_⟩, ⟨M.eraseIdx j, c, f2.at m1 (by simpa using n3), hI.free hs h5 h7⟩, by simpa using w.pos, by simpa using w.lt⟩, ff⟩
      · rw [List.length_set]; exact f2.at q1 (by simpa using fun e => n1 e.symm)
      · rw [e2]; exact upd_same p1 _ _
      · refine ⟨by simp [hS.len], fun i hi => ?_, fun i b' hb' => ?_⟩
        · rw [List.getElem?_set] at hi ⊢
          by_cases e : k' = i
          · rw [if_pos e, if_pos hk]
          · rw [if_neg e] at hi ⊢; exact hS.no i hi
        · rw [List.getElem?_set] at hb'
          by_cases e : k' = i
          · rw [if_pos e, if_pos hka] at hb'; cases hb'
          · rw [if_neg e] at hb'
            obtain ⟨t, g1, g2, g3⟩ := hS.has i b' hb'
            simp only [List.mem_cons, List.not_mem_nil, or_false, not_or] at g3
            refine ⟨t, by rw [List.getElem?_set, if_neg e]; exact g1, ff.at g2 (by simp; exact ⟨g3.2.1, g3.2.2⟩), by simp; exact g3⟩
  · cases a with
    | some b => simp [notIf] at hn
    | none =>
      have hl := hS.no k ha
      have : L.set k none = L := by
        apply List.ext_getElem?
        intro i
        rw [List.getElem?_set]
        by_cases e : k = i
        · subst e; rw [if_pos rfl, if_pos hk, hl]
        · rw [if_neg e]
      exact hR _ _ ⟨rfl, by rw [this]; exact w, Fr.refl _ _⟩
end Go.Proofs.Ytmldiibfmhkgjaa
