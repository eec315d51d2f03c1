import Derived.Test.YtgajaoophcljnaaRh
namespace Go.Proofs.Ytgajaoophcljnaa
open Go Go.Wd
set_option linter.unusedVariables false
set_option linter.unusedSimpArgs false

/-- The document's row in memory. -/
structure RefRow (h : Hp) (s n : Nat) (L : List (Int × Int)) (a : Option Addr) (c : Nat) : Prop where
  hs : bk h s = some (blk 45 [.int .i64 n, .slice a L.length c])
  own : Own h 48 2 a L.length c (encR L)
  ne : ∀ x ∈ foot a, x ≠ s

theorem RefRow.fr {h h' : Hp} {s n : Nat} {L : List (Int × Int)} {a : Option Addr} {c : Nat} (w : RefRow h s n L a c) {F : List Nat} (f : Fr F h h') (h1 : s ∉ F) (h2 : ∀ x ∈ foot a, x ∉ F) : RefRow h' s n L a c :=
  ⟨f.at w.hs h1, w.own.fr f h2, w.ne⟩

theorem RefRow.get {h : Hp} {s n : Nat} {L : List (Int × Int)} {a : Option Addr} {c : Nat} (w : RefRow h s n L a c) {k : Nat} {p : Int × Int} (hp : L[k]? = some p) :
    ∃ b, a = some ⟨b, 0, none⟩ ∧ cellAt h b (k * 2) = some (.int .u64 p.1) ∧ cellAt h b (k * 2 + 1) = some (.int .u64 p.2) := by
  have hk := (List.getElem?_eq_some_iff.1 hp).1
  obtain ⟨b, rfl, h1⟩ := w.own.cell (i := k * 2) (by rw [encR_length]; omega)
  obtain ⟨b2, e, h2⟩ := w.own.cell (i := k * 2 + 1) (by rw [encR_length]; omega)
  cases e
  exact ⟨b, rfl, by rw [h1, encR_fst _ _ _ hp], by rw [h2, encR_snd _ _ _ hp]⟩

theorem ref_total {h : Hp} {s n : Nat} {L : List (Int × Int)} {a : Option Addr} {c : Nat} (w : RefRow h s n L a c) (g : Good L) (hl : L.length ≤ 1000) :
    CallsH Try.prog 17 [.pointer (some ⟨s, 0, none⟩)] h fun v h' => v = .int .u64 (sumA L) ∧ h' = h := by
  apply warderref16_Row_Total.calls
  unfold warderref16_Row_Total.P
  refine ⟨fun n i h1 => ∃ k : Nat, i = k ∧ k ≤ L.length ∧ n = sumA (L.take k) ∧ h1 = h, fun n i h1 => L.length - i.toNat, ⟨0, rfl, by omega, rfl, rfl⟩, ?_⟩
  rintro n i h1 ⟨k, rfl, hk, rfl, rfl⟩
  by_cases hkl : k < L.length
  · obtain ⟨p, hp⟩ : ∃ p, L[k]? = some p := ⟨_, List.getElem?_eq_getElem hkl⟩
    obtain ⟨b, rfl, hc1, hc2⟩ := w.get hp
    have n1 : ¬ (L.length ≤ k) := by omega
    have hw : IntKind.wrap .i64 ((k : Int) + 1) = (k : Int) + 1 := wrap_i64 (by omega) (by omega)
    have htake : sumA (L.take (k + 1)) = sumA (L.take k) + p.2 := by rw [List.take_add_one, hp, sumA_append]; simp [sumA]
    have h1 := sumA_nonneg (L.take k) fun q hq => by have := g.each q (List.mem_of_mem_take hq); omega
    have h2 := sumA_nonneg (L.drop (k + 1)) fun q hq => by have := g.each q (List.mem_of_mem_drop hq); omega
    have h3 := sumA_append (L.take (k + 1)) (L.drop (k + 1))
    rw [List.take_append_drop, htake] at h3
    have h4 := g.sum
    have h5 := g.each p (List.mem_of_getElem? hp)
    simp only [LC] at h4
    have hw2 : IntKind.wrap .u64 (sumA (L.take k) + p.2) = sumA (L.take k) + p.2 := wrap_u64 (by omega) (by omega)
    simp [and_assoc, cellAt_of w.hs, hkl, n1, hc1, hc2, hw, hw2]
    exact ⟨⟨k + 1, by omega, by omega, htake.symm⟩, by omega⟩
  · have : k = L.length := by omega
    subst this
    simp [and_assoc, cellAt_of w.hs]

theorem ref_push {h : Hp} {s n : Nat} {L : List (Int × Int)} {a : Option Addr} {c : Nat} (w : RefRow h s n L a c) (g : Good L) (hn : L.length ≤ n) (hn1 : 1 ≤ n) (hn2 : n ≤ 16) {t m : Int} (h0 : 0 ≤ t) (hm : 0 ≤ m) :
    CallsH Try.prog 13 [.pointer (some ⟨s, 0, none⟩), .int .u64 t, .int .u64 m] h fun v h' => v = .int .i64 (pushE L t m) ∧
      ∃ a' c', RefRow h' s n (pushL n L t m) a' c' ∧ Fr (s :: foot a) h h' ∧ ∀ x ∈ foot a', x ∈ foot a ∨ sz h ≤ x := by
  refine calls_k fun R hR => ?_
  apply warderref16_Row_Push.calls
  unfold warderref16_Row_Push.P
  have hs := w.hs
  have hsum := g.sum
  have hnn := g.nonneg
  have stay : ∃ a' c', RefRow h s n L a' c' ∧ Fr (s :: foot a) h h ∧ ∀ x ∈ foot a', x ∈ foot a ∨ sz h ≤ x := ⟨a, c, w, Fr.refl _ _, fun x hx => .inl hx⟩
  by_cases hb : m = 0 ∨ m > LC ∨ t > LC ∨ lateB L t = true
  · have he : pushE L t m = 11 := by simp only [pushE]; rw [if_pos hb]
    have hL : pushL n L t m = L := by simp [pushL, he]
    rw [he, hL] at hR
    by_cases c1 : m = 0
    · simp [c1, cellAt_of hs]; exact hR _ _ ⟨rfl, stay⟩
    by_cases c2 : m > LC
    · simp [LC] at c2; simp [c1, c2, cellAt_of hs]; exact hR _ _ ⟨rfl, stay⟩
    by_cases c3 : t > LC
    · simp [LC] at c2 c3; simp [c1, c2, c3, cellAt_of hs]; first | exact hR _ _ ⟨rfl, stay⟩ | (refine ⟨?_, ?_⟩ <;> intros <;> exact hR _ _ ⟨rfl, stay⟩)
    · simp only [c1, c2, c3, false_or] at hb
      rcases nil_or_snoc L with rfl | ⟨L', p, rfl⟩
      · simp [lateB] at hb
      · simp [lateB] at hb
        obtain ⟨b, rfl, hc1, hc2⟩ := w.get (k := L'.length) (p := p) (by simp)
        simp [LC] at c2 c3
        have n2 : ¬ (4611686018427387904 < m) := by omega
        have n3 : ¬ (4611686018427387904 < t) := by omega
        have n4 : ¬ (p.1 ≤ t) := by omega
        have hpos : (0 : Int) < (L'.length : Int) + 1 := by omega
        have hlt1 : (L'.length : Int) < (L'.length : Int) + 1 := by omega
        have hw1 : IntKind.wrap .i64 (L'.length : Int) = (L'.length : Int) := by simp at hn; exact wrap_i64 (by omega) (by omega)
        simp [and_assoc, c1, n2, n3, hpos, hb, n4, cellAt_of hs, hw1, hlt1, hc1]
        exact hR _ _ ⟨rfl, stay⟩
  · have hb' := hb
    simp only [not_or] at hb
    obtain ⟨b1, b2, b3, b4⟩ := hb
    have hlast : ∀ p, L.getLast? = some p → p.1 ≤ t := by
      intro p hp
      simp only [lateB, hp, decide_eq_true_eq] at b4
      omega
    have hw9 : IntKind.wrap .u64 (sumA L + m) = sumA L + m := wrap_u64 (by omega) (by simp only [LC] at *; omega)
    have n2 : ¬ (4611686018427387904 < m) := by simp only [LC] at *; omega
    have n3 : ¬ (4611686018427387904 < t) := by simp only [LC] at *; omega
    by_cases hs2 : LC - sumA L < m
    · have he : pushE L t m = 14 := by simp only [pushE]; rw [if_neg hb', if_pos hs2]
      have hL : pushL n L t m = L := by simp [pushL, he]
      rw [he, hL] at hR
      have n5 : 4611686018427387904 < sumA L + m := by simp only [LC] at *; omega
      have n5' : ¬ (sumA L + m ≤ 4611686018427387904) := by simp only [LC] at *; omega
      rcases nil_or_snoc L with rfl | ⟨L', p, rfl⟩
      · simp [and_assoc, b1, n2, n3, cellAt_of hs]
        refine (ref_total w g (by omega)).mono ?_
        rintro v h' ⟨rfl, rfl⟩
        simp [hw9, n5, n5']
        exact hR _ _ ⟨rfl, stay⟩
      · obtain ⟨b, rfl, hc1, hc2⟩ := w.get (k := L'.length) (p := p) (by simp)
        have n4 := hlast p (by simp)
        have n4' : ¬ (t < p.1) := by omega
        have hpos : (0 : Int) < (L'.length : Int) + 1 := by omega
        have hlt1 : (L'.length : Int) < (L'.length : Int) + 1 := by omega
        have hpos' : ¬ ((L'.length : Int) + 1 ≤ 0) := by omega
        have hw1 : IntKind.wrap .i64 (L'.length : Int) = (L'.length : Int) := by simp at hn; exact wrap_i64 (by omega) (by omega)
        simp [and_assoc, b1, n2, n3, hpos, hpos', n4, n4', cellAt_of hs, hw1, hlt1, hc1]
        refine (ref_total w g (by omega)).mono ?_
        rintro v h' ⟨rfl, rfl⟩
        simp [hw9, n5, n5']
        exact hR _ _ ⟨rfl, stay⟩
    · have he : pushE L t m = 0 := by simp only [pushE]; rw [if_neg hb', if_neg hs2]
      have hL : pushL n L t m = pushed n L t m := by simp [pushL, he]
      rw [he, hL] at hR
      have n5 : ¬ (4611686018427387904 < sumA L + m) := by simp only [LC] at *; omega
      have n5' : (sumA L + m ≤ 4611686018427387904) := by simp only [LC] at *; omega
      have lq := lt_of_bk hs
      rcases nil_or_snoc L with rfl | ⟨L', p, rfl⟩
      · simp [and_assoc, b1, n2, n3, cellAt_of hs]
        refine (ref_total w g (by omega)).mono ?_
        rintro v h' ⟨rfl, rfl⟩
        have n6 : ¬ ((n : Int) = 0) := by omega
        have n6' : ¬ ((0 : Int) = n) := by omega
        have n6'' : ¬ (n = 0) := by omega
        simp [and_assoc, hw9, n5, n5', cellAt_of hs, n6, n6', n6'']
        refine append_new (h0 := h') (F := foot a) w.own rfl (Fr.refl _ _) (fun y hy => .inl hy) rfl rfl rfl (by simp) (by simp) ?_
        intro a' c' h4 o4 f4 g4 l4 t4
        have hs4 := f4.at hs (fun hx => w.ne _ hx rfl)
        have lq4 := lt_of_bk hs4
        have hne' : ∀ x ∈ foot a', x ≠ s := fun x hx => by
          rcases g4 x hx with h | h
          · exact w.ne x h
          · omega
        simp [and_assoc, hs4, writeAt, pushed]
        refine hR _ _ ⟨rfl, a', c', ⟨?_, ?_, hne'⟩, ?_, g4⟩
        · rw [bk_upd lq4, if_pos rfl]; rfl
        · refine Own.fr ?_ (Fr.upd (F := [s]) (by simp) h4 _ _) (by simpa using hne')
          simpa [encR, pushed] using o4
        · exact (f4.mono (by simp; exact fun x hx => .inr hx)).trans (Fr.upd (by simp) _ _ _)
      · obtain ⟨b, rfl, hc1, hc2⟩ := w.get (k := L'.length) (p := p) (by simp)
        have n4 := hlast p (by simp)
        have n4' : ¬ (t < p.1) := by omega
        have hpos : (0 : Int) < (L'.length : Int) + 1 := by omega
        have hlt1 : (L'.length : Int) < (L'.length : Int) + 1 := by omega
        have hpos' : ¬ ((L'.length : Int) + 1 ≤ 0) := by omega
        have hw1 : IntKind.wrap .i64 (L'.length : Int) = (L'.length : Int) := by simp at hn; exact wrap_i64 (by omega) (by omega)
        have gp := g.each p (by simp)
        have hpl : p.2 ≤ sumA (L' ++ [p]) := by
          rw [sumA_append]
          have := sumA_nonneg L' fun q hq => by have := g.each q (by simp [hq]); omega
          simp [sumA]; omega
        have hw8 : IntKind.wrap .u64 (p.2 + m) = p.2 + m := wrap_u64 (by omega) (by simp only [LC] at *; omega)
        obtain ⟨rest, hbk, hlen, hle⟩ : ∃ rest, bk h b = some (blk 48 (encR (L' ++ [p]) ++ rest)) ∧ (encR (L' ++ [p]) ++ rest).length = c * 2 ∧ (L' ++ [p]).length ≤ c := by
          rcases w.own.2 with ⟨h1, _⟩ | ⟨b', rest, h1, h2, h3, h4⟩
          · cases h1
          · cases h1; exact ⟨rest, h2, h3, h4⟩
        have lb := lt_of_bk hbk
        have hbs : b ≠ s := w.ne b (by simp [foot])
        have hmerge : ∀ h2, h2 = upd h b 48 (writeAt (encR (L' ++ [p]) ++ rest) (L'.length * 2) [.int .u64 t, .int .u64 (p.2 + m)]) →
            RefRow h2 s n (L' ++ [(t, p.2 + m)]) (some ⟨b, 0, none⟩) c ∧ Fr (s :: foot (some ⟨b, 0, none⟩)) h h2 := by
          rintro h2 rfl
          have hwr : writeAt (encR (L' ++ [p]) ++ rest) (L'.length * 2) [.int .u64 t, .int .u64 (p.2 + m)] = encR (L' ++ [(t, p.2 + m)]) ++ rest := by
            rw [encR_append, encR_append, writeAt_eq _ _ _ (by simp [encR_length, encR])]
            have e1 : L'.length * 2 = (encR L').length := by rw [encR_length]
            rw [e1, List.append_assoc, List.append_assoc, List.take_left, List.drop_append]
            simp [encR]
          rw [hwr]
          refine ⟨⟨?_, ⟨by simp [encR_length], .inr ⟨b, rest, rfl, ?_, ?_, by simpa using hle⟩⟩, by simpa [foot] using hbs⟩, Fr.upd (by simp [foot]) _ _ _⟩
          · rw [bk_upd lb, if_neg hbs.symm]; simpa using hs
          · rw [bk_upd lb, if_pos rfl]
          · rw [← hlen]; simp [encR_length]
        simp [and_assoc, b1, n2, n3, hpos, hpos', n4, n4', cellAt_of hs, hw1, hlt1, hc1]
        refine (ref_total w g (by omega)).mono ?_
        rintro v h' ⟨rfl, rfl⟩
        rw [pushed_snoc] at hR
        have le1 : L'.length * 2 + 2 ≤ (encR (L' ++ [p])).length + rest.length := by rw [encR_length]; simp only [List.length_append, List.length_cons, List.length_nil]; omega
        have ow : Own h' 48 2 (some ⟨b, 0, none⟩) (L'.length + 1) c (encR (L' ++ [p])) := by simpa using w.own
        by_cases r1 : L'.length + 1 = n
        · rw [if_pos (.inl r1)] at hR
          have r1' : ((L'.length : Int) + 1 = (n : Int)) := by omega
          simp [and_assoc, hw9, n5, n5', cellAt_of hs, r1, r1', hw1, hlt1, hc1, hc2, hbk, hw8]
          obtain ⟨m1, m2⟩ := hmerge _ rfl
          first | exact ⟨by omega, le1, hR _ _ ⟨rfl, _, _, m1, m2, fun x hx => .inl hx⟩⟩ | exact ⟨le1, hR _ _ ⟨rfl, _, _, m1, m2, fun x hx => .inl hx⟩⟩ | exact ⟨by omega, hR _ _ ⟨rfl, _, _, m1, m2, fun x hx => .inl hx⟩⟩
        have r1' : ¬ ((L'.length : Int) + 1 = (n : Int)) := by omega
        by_cases r2 : p.1 = t
        · rw [if_pos (.inr r2)] at hR
          have n4'' : ¬ (t < t) := by omega
          simp [and_assoc, hw9, n5, n5', cellAt_of hs, r1, r1', hw1, hlt1, hc1, hc2, hbk, hw8, hpos, hpos', r2]
          obtain ⟨m1, m2⟩ := hmerge _ rfl
          first | exact ⟨by omega, le1, hR _ _ ⟨rfl, _, _, m1, m2, fun x hx => .inl hx⟩⟩ | exact ⟨le1, hR _ _ ⟨rfl, _, _, m1, m2, fun x hx => .inl hx⟩⟩ | exact ⟨by omega, hR _ _ ⟨rfl, _, _, m1, m2, fun x hx => .inl hx⟩⟩
        · rw [if_neg (by simp [r1, r2])] at hR
          simp [and_assoc, hw9, n5, n5', cellAt_of hs, r1, r1', hw1, hlt1, hc1, hc2, hbk, hw8, hpos, hpos', r2]
          refine append_new (h0 := h') (F := foot (some ⟨b, 0, none⟩)) ow rfl (Fr.refl _ _) (fun y hy => .inl hy) rfl rfl rfl (by simp at hn; omega) (by simp at hn; omega) ?_
          intro a' c' h4 o4 f4 g4 l4 t4
          have hs4 := f4.at hs (fun hx => w.ne _ hx rfl)
          have lq4 := lt_of_bk hs4
          have hne' : ∀ x ∈ foot a', x ≠ s := fun x hx => by
            rcases g4 x hx with h | h
            · exact w.ne x h
            · omega
          simp [and_assoc, hs4, writeAt]
          refine hR _ _ ⟨rfl, a', c', ⟨?_, ?_, hne'⟩, ?_, g4⟩
          · rw [bk_upd lq4, if_pos rfl]; simp
          · refine Own.fr ?_ (Fr.upd (F := [s]) (by simp) h4 _ _) (by simpa using hne')
            have e1 : encR (L' ++ [p] ++ [(t, m)]) = encR (L' ++ [p]) ++ [.int .u64 t, .int .u64 m] := by rw [encR_append (L' ++ [p])]; rfl
            rw [e1]
            simpa using o4
          · exact (f4.mono (by simp; exact fun x hx => .inr hx)).trans (Fr.upd (by simp) _ _ _)

theorem ref_take {h : Hp} {s n : Nat} {L : List (Int × Int)} {a : Option Addr} {c : Nat} (w : RefRow h s n L a c) (g : Good L) (hl : L.length ≤ 1000) (now : Int) :
    CallsH Try.prog 14 [.pointer (some ⟨s, 0, none⟩), .int .u64 now] h fun v h' => v = .int .u64 (dueA now L) ∧
      ∃ a' c', RefRow h' s n (restU now L) a' c' ∧ Fr [s] h h' ∧ ∀ x ∈ foot a', sz h ≤ x := by
  refine calls_k fun R hR => ?_
  apply warderref16_Row_Take.calls
  unfold warderref16_Row_Take.P
  have hs := w.hs
  have lq := lt_of_bk hs
  have hsplit := split_due now L
  have hru := restU_spec (s := now) g.sorted
  rintro h1 rfl
  refine ⟨fun m ta tl tc i h2 => ∃ k : Nat, i = k ∧ k ≤ L.length ∧ m = sumA ((sumU now L).take k) ∧ tl = (restU now (L.take k)).length ∧ Own h2 48 2 ta tl tc (encR (restU now (L.take k))) ∧ Fr [] h h2 ∧ ∀ x ∈ foot ta, sz h ≤ x,
    fun _ _ _ _ i _ => L.length - i.toNat, ⟨0, rfl, by omega, by simp [sumA], by simp [restU], ?_, Fr.new _ _ _, by simp [foot]⟩, ?_⟩
  · exact ⟨rfl, .inr ⟨sz h, [], rfl, new_at _ _, rfl, by omega⟩⟩
  rintro m ta tl tc i h2 ⟨k, rfl, hk, rfl, rfl, o, f, hta⟩
  have w2 := w.fr f (by simp) (by simp)
  have hs2 := w2.hs
  by_cases hkl : k < L.length
  · obtain ⟨p, hp⟩ : ∃ p, L[k]? = some p := ⟨_, List.getElem?_eq_getElem hkl⟩
    obtain ⟨b, rfl, hc1, hc2⟩ := w2.get hp
    have n1 : ¬ (L.length ≤ k) := by omega
    have hw : IntKind.wrap .i64 ((k : Int) + 1) = (k : Int) + 1 := wrap_i64 (by omega) (by omega)
    have htake : L.take (k + 1) = L.take k ++ [p] := by rw [List.take_add_one, hp]; rfl
    have hall : ∀ q ∈ L.take k, q.1 ≤ p.1 := by
      intro q hq
      have h1 : L = L.take k ++ L.drop k := (List.take_append_drop k L).symm
      have h2 := g.sorted
      rw [h1] at h2
      refine (List.pairwise_append.1 h2).2.2 q hq p ?_
      rw [List.mem_iff_getElem?]
      exact ⟨0, by rw [List.getElem?_drop]; simpa using hp⟩
    simp [and_assoc, cellAt_of hs2, hkl, n1, hc1, hc2, hw]
    by_cases hpn : p.1 ≤ now
    · have hpn' : ¬ (now < p.1) := by omega
      have hle : ∀ q ∈ L.take (k + 1), q.1 ≤ now := by
        rw [htake]; intro q hq
        rcases List.mem_append.1 hq with hq | hq
        · have := hall q hq; omega
        · simp at hq; subst hq; exact hpn
      have hrest : restU now (L.take (k + 1)) = [] ∧ restU now (L.take k) = [] ∧ sumU now (L.take (k + 1)) = L.take (k + 1) ∧ sumU now (L.take k) = L.take k := by
        have h1 := while_split (t := now) (A := L.take (k + 1)) (B := []) hle (by simp)
        have h2 := while_split (t := now) (A := L.take k) (B := []) (fun q hq => hle q (by rw [htake]; simp [hq])) (by simp)
        simp at h1 h2
        exact ⟨h1.2, h2.2, h1.1, h2.1⟩
      have hU : ∀ j, j ≤ k + 1 → (sumU now L).take j = L.take j := by
        intro j hj
        have h1 : L = L.take (k + 1) ++ L.drop (k + 1) := (List.take_append_drop (k + 1) L).symm
        have h2 : sumU now L = L.take (k + 1) ++ sumU now (L.drop (k + 1)) := by
          conv => lhs; rw [h1]
          unfold sumU
          rw [List.takeWhile_append_of_pos (by simpa using hle)]
        rw [h2, List.take_append_of_le_length (by simp; omega), List.take_take, Nat.min_eq_left hj]
      have hs3 : sumA ((sumU now L).take (k + 1)) = sumA ((sumU now L).take k) + p.2 := by rw [hU _ (by omega), hU _ (by omega), htake, sumA_append]; simp [sumA]
      have q1 := sumA_nonneg ((sumU now L).take k) fun q hq => by rw [hU _ (by omega)] at hq; have := g.each q (List.mem_of_mem_take hq); omega
      have q2 := sumA_nonneg (L.drop (k + 1)) fun q hq => by have := g.each q (List.mem_of_mem_drop hq); omega
      have q3 := sumA_append (L.take (k + 1)) (L.drop (k + 1))
      rw [List.take_append_drop, ← hU _ (Nat.le_refl _), hs3] at q3
      have q4 := g.sum
      have q5 := g.each p (List.mem_of_getElem? hp)
      simp only [LC] at q4
      have hw2 : IntKind.wrap .u64 (sumA ((sumU now L).take k) + p.2) = sumA ((sumU now L).take k) + p.2 := wrap_u64 (by omega) (by omega)
      simp [hpn, hpn', hw2]
      exact ⟨⟨k + 1, by omega, by omega, hs3.symm, by rw [hrest.1, hrest.2.1], by rw [hrest.1]; rw [hrest.2.1] at o ⊢; simpa using o, f, hta⟩, by omega⟩
    · have hpn' : now < p.1 := by omega
      simp [hpn, hpn']
      have hr : restU now (L.take (k + 1)) = restU now (L.take k) ++ [p] := by
        rw [htake]
        unfold restU
        rw [List.dropWhile_append]
        split
        · rename_i he
          simp at he
          have : List.dropWhile (fun p => decide (p.1 ≤ now)) (L.take k) = [] := by simpa using he
          rw [this]; simp [hpn]
        · rfl
      have hU : ∀ j, k ≤ j → (sumU now L).take j = (sumU now L).take k := by
        intro j hj
        have hlen : (sumU now L).length ≤ k := by
          rcases Nat.lt_or_ge k (sumU now L).length with h | h
          · exfalso
            have h1 : (sumU now L)[k]? = L[k]? := by
              have : L = sumU now L ++ restU now L := hsplit.symm
              conv => rhs; rw [this]
              rw [List.getElem?_append_left h]
            rw [hp] at h1
            have := hru.1 p (List.mem_of_getElem? h1)
            omega
          · exact h
        rw [List.take_of_length_le (by omega), List.take_of_length_le hlen]
      have hlr : (restU now (L.take k)).length ≤ L.length := by
        have := congrArg List.length (split_due now (L.take k))
        simp at this; omega
      refine append_new (h0 := h) (F := []) o rfl f (fun y hy => .inr (hta y hy)) rfl rfl rfl (by omega) (by omega) ?_
      intro a' c' h4 o4 f4 g4 l4 t4
      refine ⟨⟨k + 1, by omega, by omega, by rw [hU (k + 1) (by omega)], by rw [hr]; simp, ?_, f4, fun x hx => by simpa using g4 x hx⟩, by omega⟩
      rw [hr, encR_append]
      simpa [encR] using o4
  · have hk' : k = L.length := by omega
    subst hk'
    have lq2 := lt_of_bk hs2
    simp [and_assoc, cellAt_of hs2, hs2, writeAt]
    have hul : (sumU now L).length ≤ L.length := by
      have := congrArg List.length hsplit
      simp at this; omega
    rw [List.take_of_length_le hul]
    have e9 : sumA (sumU now L) = dueA now L := rfl
    rw [e9]
    have ht : List.take L.length L = L := List.take_length
    rw [ht] at o
    refine hR _ _ ⟨rfl, ta, tc, ⟨?_, ?_, ?_⟩, (f.mono (by simp)).trans (Fr.upd (by simp) _ _ _), hta⟩
    · rw [bk_upd lq2, if_pos rfl]
    · exact o.fr (Fr.upd (F := [s]) (by simp) h2 _ _) (fun x hx => by have := hta x hx; simp; omega)
    · intro x hx; have := hta x hx; omega

theorem same_spec {h : Hp} {a b : Option Addr} {c d : Nat} {L : List (Int × Int)} (ha : rowAtK h a (encR L)) (hb : rowAtK h b (encR L)) (hl : L.length ≤ 1000) :
    CallsH Try.prog 18 [.slice a L.length c, .slice b L.length d] h fun v h' => v = .bool true ∧ h' = h := by
  apply warderlaw16_same.calls
  unfold warderlaw16_same.P
  simp
  refine ⟨fun i h1 => ∃ k : Nat, i = k ∧ k ≤ L.length ∧ h1 = h, ⟨0, rfl, by omega, rfl⟩, fun i h1 => L.length - i.toNat, ?_⟩
  rintro i h1 ⟨k, rfl, hk, rfl⟩
  by_cases hkl : k < L.length
  · obtain ⟨p, hp⟩ : ∃ p, L[k]? = some p := ⟨_, List.getElem?_eq_getElem hkl⟩
    obtain ⟨b1, o1, rfl, d1⟩ := ha.cell (i := k * 2) (by rw [encR_length]; omega)
    obtain ⟨_, _, e, d2⟩ := ha.cell (i := k * 2 + 1) (by rw [encR_length]; omega)
    cases e
    obtain ⟨b2, o2, rfl, d3⟩ := hb.cell (i := k * 2) (by rw [encR_length]; omega)
    obtain ⟨_, _, e, d4⟩ := hb.cell (i := k * 2 + 1) (by rw [encR_length]; omega)
    cases e
    rw [encR_fst _ _ _ hp] at d1 d3
    rw [encR_snd _ _ _ hp] at d2 d4
    have n1 : ¬ (L.length ≤ k) := by omega
    have hw : IntKind.wrap .i64 ((k : Int) + 1) = (k : Int) + 1 := wrap_i64 (by omega) (by omega)
    simp [and_assoc, hkl, n1, d1, d2, d3, d4, hw, Nat.add_assoc]
    exact ⟨⟨k + 1, by omega, by omega⟩, by omega⟩
  · simp [hkl]
end Go.Proofs.Ytgajaoophcljnaa
