import Derived.Test.YtadghpkdkdphdaaGc
namespace Go.Proofs.Ytadghpkdkdphdaa
open Go Go.Wd
set_option linter.unusedVariables false
set_option linter.unusedSimpArgs false

theorem offer_spec {h : Hp} {q : Nat} {L : List G} (w : GS h q L) (o f t : Int) (wr : Bool) :
    CallsH Try.prog 10 [.pointer (some ⟨q, 0, none⟩), .int .i64 o, .int .i64 f, .int .i64 t, .bool wr] h fun v h' => v = .tuple #[.int .i64 (offerI L o f t), .int .i64 (offerE L o f t)] ∧ GS h' q (offerL L o f t wr) ∧ Fr [q] h h' := by
  refine calls_k fun R hR => ?_
  apply grant_Grants_Offer.calls
  unfold grant_Grants_Offer.P
  rintro h1 e1 h2 e2 h3 e3
  have f1 : Fr [] h h1 := by subst e1; exact Fr.new _ _ _
  have f2 : Fr [] h1 h2 := by subst e2; exact Fr.new _ _ _
  have f3 : Fr [] h2 h3 := by subst e3; exact Fr.new _ _ _
  have c0 : cellAt h3 (sz h) 0 = some (.int .i64 o) := (f2.trans f3).cell (by subst e1; exact box1) (by simp)
  have c1 : cellAt h3 (sz h1) 0 = some (.int .i64 f) := f3.cell (by subst e2; exact box1) (by simp)
  have c2 : cellAt h3 (sz h2) 0 = some (.int .i64 t) := by subst e3; exact box1
  clear e1 e2 e3
  have f03 := (f1.trans f2).trans f3
  refine ⟨_, c0, _, c1, _, c2, ?_⟩
  refine put_local rfl (by simp) ?_
  intro h5 k5 f5 s5
  have f05 := f03.trans f5
  have w5 := w.fr f05 (by simp)
  have c0 := f5.cell c0 (by simp)
  have c1 := f5.cell c1 (by simp)
  have c2 := f5.cell c2 (by simp)
  have z1 := f1.size
  have z2 := f2.size
  have z3 := f3.size
  have hq := w.lt
  refine ⟨fun h10 => Fr [] h5 h10 ∧ offerBad o f t = false ∧ ¬ (0 ≤ idx (likeP o f t) L), ?_, ?_⟩
  · refine ⟨fun b h8 => b = offerBad o f t ∧ h8 = h5, ⟨_, c0, ?_⟩, ?_⟩
    · refine (guest_spec o).mono ?_
      rintro v h6 ⟨rfl, rfl⟩
      refine ⟨_, rfl, fun d => ⟨by simp only [offerBad, d, Bool.true_or], rfl⟩, fun d => ⟨_, c2, ?_⟩⟩
      refine (guest_spec t).mono ?_
      rintro v h6 ⟨rfl, rfl⟩
      refine ⟨_, rfl, fun d2 => ⟨by simp only [offerBad, d2, Bool.true_or, Bool.or_true], rfl⟩, fun d2 => ⟨_, c0, _, c2, fun d3 => ⟨?_, rfl⟩, fun d3 => ⟨_, c1, ?_, rfl⟩⟩⟩
      · have d3' : o = t := by simpa using d3
        simp only [offerBad, d3', decide_true, Bool.true_or, Bool.or_true]
      · have d3' : ¬ (o = t) := by simpa using d3
        simp only [offerBad, d, d2, decide_eq_false d3', Bool.false_or]
    · rintro b h8 ⟨rfl, rfl⟩
      refine ⟨fun d => ?_, fun d => ?_⟩
      · have he : offerE L o f t = 11 := by simp [offerE, d]
        have hi : offerI L o f t = -1 := by simp [offerI, he]
        have hl : offerL L o f t wr = L := by simp [offerL, he]
        rw [he, hi, hl] at hR
        exact hR _ _ ⟨rfl, w5, f05.mono (by simp)⟩
      · refine (find22 w5 (p := likeP o f t) (fun h1 x f => like_spec x (f.cell c0 (by simp)) (f.cell c1 (by simp)) (f.cell c2 (by simp)))).mono ?_
        rintro v h9 ⟨rfl, f9⟩
        refine ⟨_, rfl, fun d2 => ?_, fun d2 => ⟨f9, d, by simpa using d2⟩⟩
        have d2' : 0 ≤ idx (likeP o f t) L := by simpa using d2
        have he : offerE L o f t = 13 := by simp [offerE, d, d2']
        have hi : offerI L o f t = -1 := by simp [offerI, he]
        have hl : offerL L o f t wr = L := by simp [offerL, he]
        rw [he, hi, hl] at hR
        exact hR _ _ ⟨rfl, w5.fr f9 (by simp), (f05.trans f9).mono (by simp)⟩
  rintro h10 ⟨f10, d1, d2⟩
  refine (find25 (w5.fr f10 (by simp)) (p := freeP) (fun h1 x f => free_spec x)).mono ?_
  rintro v h11 ⟨rfl, f11⟩
  have w11 := (w5.fr f10 (by simp)).fr f11 (by simp)
  have f511 := f10.trans f11
  have k11 := f511.at k5 (by simp)
  have f011 := f05.trans f511
  refine ⟨_, rfl, fun d3 => ?_, fun d3 => ?_⟩
  · have d3' : idx freeP L < 0 := by simpa using d3
    have he : offerE L o f t = 15 := by simp [offerE, d1, d2, d3']
    have hi : offerI L o f t = -1 := by simp [offerI, he]
    have hl : offerL L o f t wr = L := by simp [offerL, he]
    rw [he, hi, hl] at hR
    exact hR _ _ ⟨rfl, w11, f011.mono (by simp)⟩
  · have d3' : ¬ (idx freeP L < 0) := by simpa using d3
    have he : offerE L o f t = 0 := by simp [offerE, d1, d2, d3']
    have hi : offerI L o f t = idx freeP L := by simp [offerI, he]
    have hl : offerL L o f t wr = L.set (idx freeP L).toNat ⟨1, o, f, t, 0, wr⟩ := by simp [offerL, he]
    rw [he, hi, hl] at hR
    rcases idx_cases freeP L with ⟨h0, _⟩ | ⟨k, x, hk, hx, _, _⟩
    · omega
    rw [hk] at hR ⊢
    have hkl := (List.getElem?_eq_some_iff.1 hx).1
    have hlen := w.len
    have r : ∀ j, j < 6 → cellAt h11 (sz h3) (0 + j) = (G.mk 1 o f t 0 wr).cells[j]? := fun j hj => by rw [cellAt_of k11, Nat.zero_add]; rfl
    refine G.rd _ r ?_
    simp only [Nat.zero_add, Int.toNat_natCast] at hR ⊢
    refine ⟨by omega, by omega, truly_rfl, _, _, w11.arr.hq, w11.arr.room (k := k) (j := 0) (n := 6) G.len hkl (by omega), ?_⟩
    rintro h12 rfl
    have := w11.arr.put G.len (j := 0) (y := ⟨1, o, f, t, 0, wr⟩) (vs := (G.mk 1 o f t 0 wr).cells) hx (by simp [G.cells]) rfl
    exact hR _ _ ⟨rfl, ⟨by simpa [G.cells] using this, by simp [hlen]⟩, (f011.mono (by simp)).trans (Fr.upd (by simp) _ _ _)⟩

theorem made_spec {h : Hp} {q : Nat} {L : List G} (w : GS h q L) (i t : Int) :
    CallsH Try.prog 33 [.pointer (some ⟨q, 0, none⟩), .int .i64 i, .int .i64 t] h fun v h' => v = .tuple #[.pointer (if madeE L i t = 0 then some ⟨q, i.toNat * 6, none⟩ else none), .int .i64 (madeE L i t)] ∧ h' = h := by
  refine calls_k fun R hR => ?_
  apply grant_Grants_made.calls
  unfold grant_Grants_made.P
  refine ⟨fun h3 => h3 = h ∧ isThere i = true ∧ isGuest t = true, ?_, ?_⟩
  · refine (there_spec i).mono ?_
    rintro v h1 ⟨rfl, rfl⟩
    have bad : isThere i = false ∨ isGuest t = false → R (.tuple #[.pointer none, .int .i64 11]) h1 := by
      intro hb
      have he : madeE L i t = 11 := by simp [madeE]; intro a; rcases hb with hb | hb <;> simp_all
      rw [he] at hR
      exact hR _ _ ⟨rfl, rfl⟩
    refine ⟨_, rfl, fun d => bad (.inl (by simpa using d)), fun d => ?_⟩
    refine (guest_spec t).mono ?_
    rintro v h2 ⟨rfl, rfl⟩
    exact ⟨_, rfl, fun d2 => bad (.inr (by simpa using d2)), fun d2 => ⟨rfl, by simpa using d, by simpa using d2⟩⟩
  · rintro h3 ⟨rfl, d1, d2⟩
    obtain ⟨k, rfl, hk⟩ := isThere_nat d1
    obtain ⟨x, hx⟩ := w.ex hk
    have hm : madeE L k t = if x.state != 0 && x.to == t then 0 else 12 := by simp only [madeE, d1, d2, getG_nat hk hx]; rfl
    have c0 := w.arr.get G.len hx 0 (by omega)
    have c3 := w.arr.get G.len hx 3 (by omega)
    simp only [Nat.zero_add, Int.toNat_natCast] at hR ⊢
    refine ⟨by omega, by omega, _, c0, fun e1 => ⟨_, c3, fun e2 => ?_, fun e2 => ?_⟩, fun e1 => ?_⟩
    · have he : madeE L k t = 0 := by rw [hm, e1, e2]; rfl
      rw [he] at hR
      exact hR _ _ ⟨rfl, rfl⟩
    · have he : madeE L k t = 12 := by rw [hm, e1, e2]; rfl
      rw [he] at hR
      exact hR _ _ ⟨rfl, rfl⟩
    · have he : madeE L k t = 12 := by rw [hm, e1]; rfl
      rw [he] at hR
      exact hR _ _ ⟨rfl, rfl⟩
theorem madeE_zero {L : List G} {i t : Int} (h : madeE L i t = 0) : isThere i = true ∧ isGuest t = true ∧ (getG L i).state ≠ 0 ∧ (getG L i).to = t := by
  unfold madeE at h
  split at h
  · cases h
  · rename_i a
    split at h
    · rename_i b
      simp at a b
      exact ⟨a.1, a.2, b.1, b.2⟩
    · cases h
end Go.Proofs.Ytadghpkdkdphdaa
