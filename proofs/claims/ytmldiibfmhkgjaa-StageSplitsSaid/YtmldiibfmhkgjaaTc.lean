import Derived.Test.YtmldiibfmhkgjaaTb
namespace Go.Proofs.Ytmldiibfmhkgjaa
open Go Go.Wd
set_option linter.unusedVariables false
set_option linter.unusedSimpArgs false

theorem set_none_length (L : List (Option S)) (k : Nat) (o : Option S) : (L.set k o).length = L.length := List.length_set
theorem mod_next {nx n : Nat} (h : nx < n) (hn : n ≤ 64) : Int.tmod (IntKind.wrap .i64 ((nx : Int) + 1)) ((n : Nat) : Int) = (((nx + 1) % n : Nat) : Int) := by
  rw [wrap_i64 (by omega) (by omega), tmod_nat (by omega), show (nx : Int) + 1 = ((nx + 1 : Nat) : Int) by omega, ← Int.natCast_emod]

set_option maxHeartbeats 2000000 in
theorem TFill_spec {h : Hp} {q pl mp : Nat} {L : List (Option S)} {nx : Nat} (w : TS h q pl mp L nx) (s : S) :
    CallsH Try.prog 29 [.pointer (some ⟨q, 0, none⟩), .agg ⟨s.cells⟩] h fun v h' => v = .tuple #[] ∧ TS h' q pl mp (tfillL L nx s).1 (tfillL L nx s).2 ∧ Fr [q, pl, mp] h h' := by
  refine calls_k fun R hR => ?_
  apply tlb_Tlb_Fill.calls
  unfold tlb_Tlb_Fill.P
  have lq := w.lq
  have lpl := w.lpl
  have lmp := w.lmp
  have n1 := w.ne1
  have n2 := w.ne2
  have n3 := w.ne3
  intro h1 e1
  have b1 : bk h1 (sz h) = some (blk 64 s.cells) := by rw [e1]; exact new_at _ _
  have s1 : sz h1 = sz h + 1 := by rw [e1]; exact sz_new _ _
  have f1 : Fr [] h h1 := by rw [e1]; exact Fr.new _ _ _
  clear e1
  refine ⟨s.vm, (cellAt_of b1 0).trans rfl, s.pg, (cellAt_of b1 1).trans rfl, ?_⟩
  refine put_local rfl (by decide) ?_
  intro h3 b3 f3 s3
  have b13 := f3.at b1 (by simp)
  have f13 := f1.trans f3
  have w3 := w.fr0 f13
  refine ⟨_, w3.map, s.vm, (cellAt_of b3 0).trans rfl, s.pg, (cellAt_of b3 1).trans rfl, ?_⟩
  obtain ⟨M, c, hM, hI⟩ := w3.hmp
  have hlook := hI.look s.vm s.pg
  -- behind the choice of a place: the place is free, or it is the key's
  have rest : ∀ (k : Nat) (h6 : Hp) (M' : List En) (c' : Nat) (L' : List (Option S)) (nx' : Nat), TS h6 q pl mp L' nx' → Fr [q, pl, mp] h3 h6 → bk h6 mp = some (.map ⟨M'.map En.me⟩ c') → MI M' c' L' → k < L'.length →
      ((∃ (j : Nat) (m : En), tlookE s.vm s.pg M' 0 = some (j, .int .i64 (k : Int)) ∧ M'[j]? = some m ∧ m.is s.vm s.pg = true ∧ m.ix = k) ∨ (tlookE s.vm s.pg M' 0 = none ∧ L'[k]? = some none ∧ ∀ m ∈ M', m.is s.vm s.pg = false)) →
      L'.set k (some s) = (tfillL L nx s).1 → nx' = (tfillL L nx s).2 →
      ∃ placesa20 : Option Addr, ∃ placesl21 : Nat, ∃ placesc22 : Nat, cellAt h6 q 0 = some (.slice placesa20 placesl21 placesc22) ∧
  ∃ index23 : Option Nat, cellAt h6 q (0 + 1) = some (.map index23) ∧ ∃ x24 : Int, cellAt h6 (sz h1) (0 + 0) = some (.int .i64 x24) ∧ ∃ x25 : Int, cellAt h6 (sz h1) (0 + 1) = some (.int .i64 x25) ∧
  (0 : Int) ≤ (k : Int) ∧ (k : Int) < ((placesl21 : Nat) : Int) ∧ ∃ b26 : Nat, ∃ o27 : Nat, (placesa20 : Option Addr) = some ⟨b26, o27, none⟩ ∧ truly true ∧ ∃ T28 : TypeId, ∃ l29 : List Value, bk h6 b26 = some (blk T28 l29) ∧
  (o27 + (k : Int).toNat * 1) + 1 ≤ l29.length ∧ ∀ h7 : Hp, h7 = upd h6 b26 T28 (writeAt l29 (o27 + (k : Int).toNat * 1) [.pointer (some ⟨(sz h), 0, none⟩)]) → cellAt h7 (sz h1) (0 + 0) = some (.int .i64 x24) ∧
  cellAt h7 (sz h1) (0 + 1) = some (.int .i64 x25) ∧ ∃ r30 : Nat, ∃ es31 : List MapEntry, ∃ c32 : Nat, ∃ q33 : Option (Nat × Value), index23 = some r30 ∧ bk h7 r30 = some (.map ⟨es31⟩ c32) ∧ lookM true [.int .i64, .int .i64] [.int .i64 x24, .int .i64 x25] es31 0 = some q33 ∧
  ∀ h8 : Hp, h8 = updO h7 r30 (.map ⟨(entM es31 c32 q33 (.agg #[.int .i64 x24, .int .i64 x25]) (.int .i64 0)).1⟩ (entM es31 c32 q33 (.agg #[.int .i64 x24, .int .i64 x25]) (.int .i64 0)).2) → ∃ r34 : Nat, ∃ es35 : List MapEntry, ∃ c36 : Nat, ∃ i37 : Nat, index23 = some r34 ∧
  bk h8 r34 = some (.map ⟨es35⟩ c36) ∧ es35.findIdx? (fun e => (e.born : Int) == ((entS es31 c32 q33 : Nat) : Int)) = some i37 ∧ ∀ h9 : Hp, h9 = updO h8 r34 (.map ⟨es35.modify i37 fun e => { e with val := .int .i64 (k : Int) }⟩ c36) →
  R (.tuple #[]) h9 := by
    intro k h6 M' c' L' nx' w6 f6 hM6 hI6 hk hcase hL' hnx'
    have bs : bk h6 (sz h) = some (blk 64 s.cells) := f6.at b13 (by simp; omega)
    have b6 : bk h6 (sz h1) = some (blk 121 [.int .i64 s.vm, .int .i64 s.pg]) := f6.at b3 (by simp; omega)
    obtain ⟨A, hA, hS⟩ := w6.hpl
    have hka : k < A.length := by rw [hS.len]; exact hk
    refine ⟨_, _, _, w6.row, _, w6.map, s.vm, (cellAt_of b6 0).trans rfl, s.pg, (cellAt_of b6 1).trans rfl, by omega, by omega, _, _, rfl, truly_rfl, _, _, hA, by rw [ptrs_len, Int.toNat_natCast]; omega, ?_⟩
    intro h7 e7
    rw [Int.toNat_natCast, Nat.mul_one, Nat.zero_add, writeAt_one, show (Value.pointer (some ⟨sz h, 0, none⟩)) = .pointer ((some (sz h)).map fun b => ⟨b, 0, none⟩) from rfl, ptrs_set] at e7
    have hA7 : bk h7 pl = some (blk 127 (ptrs (A.set k (some (sz h))))) := by rw [e7]; exact upd_same hA _ _
    have f7 : Fr [pl] h6 h7 := by rw [e7]; exact Fr.upd (by simp) _ _ _
    clear e7
    have b7 := f7.at b6 (by simp; omega)
    have hM7 := f7.at hM6 (by simpa using n3)
    refine ⟨(cellAt_of b7 0).trans rfl, (cellAt_of b7 1).trans rfl, mp, M'.map En.me, c', _, rfl, hM7, lookM_en s.vm s.pg M' 0, ?_⟩
    intro h8 e8
    have fin : ∀ (M2 : List En) (c2 j2 : Nat), bk h8 mp = some (.map ⟨M2.map En.me⟩ c2) → Fr [mp] h7 h8 → (M2.map En.me).findIdx? (fun e => (e.born : Int) == ((entS (M'.map En.me) c' (tlookE s.vm s.pg M' 0) : Nat) : Int)) = some j2 →
        (∃ m2, M2[j2]? = some m2 ∧ MI (M2.set j2 { m2 with ix := k }) c2 (L'.set k (some s))) → ∃ r34 : Nat, ∃ es35 : List MapEntry, ∃ c36 : Nat, ∃ i37 : Nat, some mp = some r34 ∧
          bk h8 r34 = some (.map ⟨es35⟩ c36) ∧ es35.findIdx? (fun e => (e.born : Int) == ((entS (M'.map En.me) c' (tlookE s.vm s.pg M' 0) : Nat) : Int)) = some i37 ∧ ∀ h9 : Hp, h9 = updO h8 r34 (.map ⟨es35.modify i37 fun e => { e with val := .int .i64 (k : Int) }⟩ c36) →
          R (.tuple #[]) h9 := by
      rintro M2 c2 j2 hM8 f8 hfind ⟨m2, hm2, hI2⟩
      refine ⟨mp, M2.map En.me, c2, j2, rfl, hM8, hfind, ?_⟩
      intro h9 e9
      rw [modify_me hm2] at e9
      have f9 : Fr [mp] h8 h9 := by rw [e9]; exact Fr.updO (by simp) _ _
      have f79 := f8.trans f9
      have f69 : Fr [pl, mp] h6 h9 := (f7.sub (by simp)).trans (f79.sub (by simp))
      have ff : Fr [q, pl, mp] h h9 := (f13.mono (by simp)).trans (f6.trans (f69.sub (by simp)))
      have h6q : bk h9 q = some (blk 126 [.slice (some ⟨pl, 0, none⟩) L'.length L'.length, .map (some mp), .int .i64 (nx' : Int)]) := f69.at w6.hq (by simp; exact ⟨fun e => n1 e.symm, fun e => n2 e.symm⟩)
      refine hR _ _ ⟨rfl, ?_, ff⟩
      rw [← hL', ← hnx']
      refine ⟨by rw [List.length_set]; exact h6q, ⟨_, f79.at hA7 (by simpa using fun e => n3 e.symm), ?_⟩, ⟨_, c2, by rw [e9]; exact updO_same hM8 _, hI2⟩, by simpa using w6.pos, by simpa using w6.lt⟩
      refine ⟨by simp [hS.len], fun i hi => ?_, fun i b hb => ?_⟩
      · rw [List.getElem?_set] at hi ⊢
        by_cases e : k = i
        · rw [if_pos e, if_pos hka] at hi; cases hi
        · rw [if_neg e] at hi ⊢; exact hS.no i hi
      · rw [List.getElem?_set] at hb
        by_cases e : k = i
        · rw [if_pos e, if_pos hka] at hb
          cases hb
          exact ⟨s, by rw [List.getElem?_set, if_pos e, if_pos hk], f69.at bs (by simp; omega), by simp; omega⟩
        · rw [if_neg e] at hb
          obtain ⟨t, g1, g2, g3⟩ := hS.has i b hb
          simp only [List.mem_cons, List.not_mem_nil, or_false, not_or] at g3
          exact ⟨t, by rw [List.getElem?_set, if_neg e]; exact g1, f69.at g2 (by simp; exact ⟨g3.2.1, g3.2.2⟩), by simp; exact g3⟩
    rcases hcase with ⟨j, m, g1, g2, g3, g4⟩ | ⟨g1, g2, g3⟩
    · rw [g1] at e8 fin ⊢
      obtain ⟨e2, e3⟩ := putE_again g2 g3 c' (.int .i64 (k : Int))
      rw [e2] at e8
      have gi := En.is_iff.1 g3
      obtain ⟨t, ht, a1, a2⟩ := hI6.to m (List.mem_of_getElem? g2)
      rw [g4] at ht
      refine fin M' c' j (by rw [e8]; exact updO_same hM7 _) (by rw [e8]; exact Fr.updO (by simp) _ _) (by rw [e3]; exact find_bn hI6.bn g2) ⟨m, g2, ?_⟩
      rw [set_same g2 g4]
      exact hI6.again ht (by rw [a1, gi.1]) (by rw [a2, gi.2])
    · rw [g1] at e8 fin ⊢
      have e2 : (M'.map En.me) ++ [{ key := .agg #[.int .i64 s.vm, .int .i64 s.pg], val := .int .i64 0, born := c' }] = (M' ++ [(⟨s.vm, s.pg, 0, c'⟩ : En)]).map En.me := by rw [List.map_append]; rfl
      have e3 : (entM (M'.map En.me) c' none (.agg #[.int .i64 s.vm, .int .i64 s.pg]) (.int .i64 0)) = ((M' ++ [(⟨s.vm, s.pg, 0, c'⟩ : En)]).map En.me, c' + 1) := by rw [← e2]; rfl
      rw [e3] at e8
      have hI7 := hI6.add g2 g3
      have hj : (M' ++ [(⟨s.vm, s.pg, 0, c'⟩ : En)])[M'.length]? = some ⟨s.vm, s.pg, 0, c'⟩ := by simp
      have hnd : ((M' ++ [(⟨s.vm, s.pg, 0, c'⟩ : En)]).map En.bn).Nodup := by
        have := hI7.bn
        rw [List.map_append] at this ⊢
        exact this
      refine fin _ _ M'.length (by rw [e8]; exact updO_same hM7 _) (by rw [e8]; exact Fr.updO (by simp) _ _) (find_bn hnd hj) ⟨_, hj, ?_⟩
      have e4 : (M' ++ [(⟨s.vm, s.pg, 0, c'⟩ : En)]).set M'.length ⟨s.vm, s.pg, k, c'⟩ = M' ++ [⟨s.vm, s.pg, k, c'⟩] := by simp
      rw [e4]; exact hI7
  rcases hlook with ⟨g1, g2, g3⟩ | ⟨k, j, m, t, g1, g2, g3, g4, g5, g6, g7⟩
  · -- the key is new
    refine ⟨none, ⟨M.map En.me, c, _, hM, lookM_en s.vm s.pg M 0, by rw [g2]; rfl⟩, 0, rfl, ?_⟩
    refine ⟨fun at' h6 => at' = (nx : Int) ∧ TS h6 q pl mp (L.set nx none) ((nx + 1) % L.length) ∧ Fr [q, pl, mp] h3 h6, ⟨fun _ => ?_, fun hn => absurd hn (by simp)⟩, ?_⟩
    · refine ⟨_, w3.next, _, w3.next, _, _, _, w3.row, by have := w.pos; omega, truly_rfl, _, _, w3.hq, by simp, ?_⟩
      intro h4 e4
      rw [mod_next w.lt w.pos.2] at e4
      have f4 : Fr [q] h3 h4 := by rw [e4]; exact Fr.upd (by simp) _ _ _
      have k4 : bk h4 q = some (blk 126 [.slice (some ⟨pl, 0, none⟩) L.length L.length, .map (some mp), .int .i64 (((nx + 1) % L.length : Nat) : Int)]) := by rw [e4]; exact upd_same w3.hq _ _
      obtain ⟨A, hA, hS⟩ := w3.hpl
      have w4 : TS h4 q pl mp L ((nx + 1) % L.length) := ⟨k4, ⟨A, f4.at hA (by simpa using n1), hS.fr f4 (by simp)⟩, ⟨M, c, f4.at hM (by simpa using n2), hI⟩, w.pos, Nat.mod_lt _ (by have := w.pos; omega)⟩
      refine (Tfree_spec w4 w.lt).mono ?_
      rintro v h5 ⟨rfl, w5, f5⟩
      exact ⟨rfl, rfl, w5, (f4.sub (by simp)).trans (f5.sub (by simp))⟩
    · rintro at' h6 ⟨rfl, w6, f6⟩
      obtain ⟨M6, c6, hM6, hI6⟩ := w6.hmp
      have hfl : tfillL L nx s = (L.set nx (some s), (nx + 1) % L.length) := by unfold tfillL; rw [g1]
      have hno : ∀ (i : Nat) (u : S), (L.set nx none)[i]? = some (some u) → u.is s.vm s.pg = false := by
        intro i u hu
        rw [List.getElem?_set] at hu
        by_cases e : nx = i
        · rw [if_pos e] at hu; split at hu <;> cases hu
        · rw [if_neg e] at hu; exact atK_none g1 i u hu
      refine rest nx h6 M6 c6 _ _ w6 f6 hM6 hI6 (by rw [List.length_set]; exact w.lt) (.inr ?_) (by rw [hfl, List.set_set]) (by rw [hfl])
      rcases hI6.look s.vm s.pg with ⟨_, a2, a3⟩ | ⟨k2, _, _, t2, _, a2, a3, _⟩
      · exact ⟨a2, by rw [List.getElem?_set, if_pos rfl, if_pos w.lt], a3⟩
      · rw [hno k2 t2 a2] at a3; cases a3
  · refine ⟨some (.int .i64 (k : Int)), ⟨M.map En.me, c, _, hM, lookM_en s.vm s.pg M 0, by rw [g4]; rfl⟩, (k : Int), rfl, ?_⟩
    refine ⟨fun at' h6 => at' = (k : Int) ∧ h6 = h3, ⟨fun hn => absurd hn (by simp), fun _ => ⟨rfl, rfl⟩⟩, ?_⟩
    rintro at' h6 ⟨rfl, rfl⟩
    have hfl : tfillL L nx s = (L.set k (some s), nx) := by unfold tfillL; rw [g1]
    have hk : k < L.length := (List.getElem?_eq_some_iff.1 g2).1
    exact rest k h6 M c L nx w3 (Fr.refl _ _) hM hI hk (.inl ⟨j, m, g4, g5, g6, g7⟩) (by rw [hfl]) (by rw [hfl])
end Go.Proofs.Ytmldiibfmhkgjaa
