import Derived.Test.YtgajaoophcljnaaRa
namespace Go.Proofs.Ytgajaoophcljnaa
open Go Go.Wd
set_option linter.unusedVariables false
set_option linter.unusedSimpArgs false

def sumU (t : Int) (L : List (Int × Int)) : List (Int × Int) := L.takeWhile fun p => decide (p.1 ≤ t)
def restU (t : Int) (L : List (Int × Int)) : List (Int × Int) := L.dropWhile fun p => decide (p.1 ≤ t)

theorem sumA_append : ∀ a b, sumA (a ++ b) = sumA a + sumA b
  | [], b => by simp [sumA]
  | p :: a, b => by simp [sumA, sumA_append a b]; omega

theorem sumA_nonneg : ∀ l : List (Int × Int), (∀ p ∈ l, 0 ≤ p.2) → 0 ≤ sumA l
  | [], _ => by simp [sumA]
  | p :: l, h => by
    have := h p List.mem_cons_self
    have := sumA_nonneg l fun q hq => h q (List.mem_cons_of_mem _ hq)
    simp [sumA]; omega

theorem while_split {t : Int} {A B : List (Int × Int)} (hA : ∀ p ∈ A, p.1 ≤ t) (hB : ∀ p, B.head? = some p → t < p.1) : sumU t (A ++ B) = A ∧ restU t (A ++ B) = B := by
  unfold sumU restU
  induction A with
  | nil =>
    cases B with
    | nil => simp
    | cons p B =>
      have := hB p rfl
      have h : ¬ p.1 ≤ t := by omega
      simp [h]
  | cons a A ih =>
    have h1 := hA a List.mem_cons_self
    have h2 := ih fun p hp => hA p (List.mem_cons_of_mem _ hp)
    simp [h1]
    simpa using h2

/-- A row: what it holds, wherever its ring begins. -/
def Row (h : Hp) (q r n : Nat) (L : List (Int × Int)) (total : Int) : Prop := ∃ ring first, RowRep h q r n L total ring first

theorem RowRep.fr {h h' : Hp} {q r n : Nat} {L : List (Int × Int)} {total : Int} {ring : List (Int × Int)} {first : Nat} (w : RowRep h q r n L total ring first) {F : List Nat} (f : Fr F h h') (h1 : q ∉ F) (h2 : r ∉ F) : RowRep h' q r n L total ring first :=
  ⟨⟨f.at w.raw.hq h1, f.at w.raw.hr h2, w.raw.n1, w.raw.n2, w.raw.hf, w.raw.hc⟩, w.n, w.at_⟩

theorem Row.fr {h h' : Hp} {q r n : Nat} {L : List (Int × Int)} {total : Int} (w : Row h q r n L total) {F : List Nat} (f : Fr F h h') (h1 : q ∉ F) (h2 : r ∉ F) : Row h' q r n L total := by
  obtain ⟨ring, first, w⟩ := w
  exact ⟨ring, first, w.fr f h1 h2⟩

theorem Row.lt {h : Hp} {q r n : Nat} {L : List (Int × Int)} {total : Int} (w : Row h q r n L total) : q < sz h ∧ r < sz h ∧ q ≠ r ∧ 1 ≤ n ∧ n ≤ 16 ∧ L.length ≤ n := by
  obtain ⟨ring, first, w⟩ := w
  exact ⟨lt_of_bk w.raw.hq, lt_of_bk w.raw.hr, w.raw.ne, w.n ▸ w.raw.n1, w.n ▸ w.raw.n2, w.n ▸ w.raw.hc⟩

theorem take_spec {h : Hp} {q r n : Nat} {L : List (Int × Int)} {total : Int} (w : Row h q r n L total) (now : Int) (hs : ∀ p ∈ L, 0 ≤ p.2) (t0 : sumA L ≤ LC) (t1 : sumA L = total) :
    CallsH Try.prog 11 [.pointer (some ⟨q, 0, none⟩), .int .u64 now] h fun v h' => v = .int .u64 (sumA (sumU now L)) ∧ Row h' q r n (restU now L) (total - sumA (sumU now L)) ∧ Fr [q, r] h h' ∧ sz h' = sz h := by
  obtain ⟨ring, first, w⟩ := w
  apply refill_Row_Take.calls
  unfold refill_Row_Take.P
  simp only [LC] at *
  refine ⟨fun out h1 => ∃ A B first', L = A ++ B ∧ (∀ p ∈ A, p.1 ≤ now) ∧ out = sumA A ∧ RowRep h1 q r n B total ring first' ∧ Fr [q] h h1 ∧ sz h1 = sz h,
    fun out h1 => match cellAt h1 q 2 with | some (.int _ c) => c.toNat | _ => 0, ⟨[], L, first, by simp, by simp, rfl, w, Fr.refl _ _, rfl⟩, ?_⟩
  rintro out h1 ⟨A, B, first', rfl, hA, rfl, w1, f1, s1⟩
  have hq := w1.raw.hq
  have hr := w1.raw.hr
  have hne := w1.raw.ne
  have lq := lt_of_bk hq
  have k1 := w1.raw.n1
  have k2 := w1.raw.n2
  have k3 := w1.raw.hf
  have k4 := w1.raw.hc
  have hsA := sumA_nonneg A fun p hp => hs p (by simp [hp])
  have hsB := sumA_nonneg B fun p hp => hs p (by simp [hp])
  rw [sumA_append] at t0 t1
  have hwf : IntKind.wrap .u64 (total - sumA A) = total - sumA A := wrap_u64 (by omega) (by omega)
  -- the end: the sum is set anew
  have hend : (∀ p, B.head? = some p → now < p.1) → ∀ h2, h2 = upd h1 q 51 [.slice (some ⟨r, 0, none⟩) ring.length ring.length, .int .i64 first', .int .i64 B.length, .int .u64 (total - sumA A)] →
      Value.int IntKind.u64 (sumA A) = Value.int IntKind.u64 (sumA (sumU now (A ++ B))) ∧ Row h2 q r n (restU now (A ++ B)) (total - sumA (sumU now (A ++ B))) ∧ Fr [q, r] h h2 ∧ sz h2 = sz h := by
    rintro hB h2 rfl
    obtain ⟨e1, e2⟩ := while_split hA hB
    rw [e1, e2]
    refine ⟨rfl, ⟨ring, first', ⟨⟨?_, ?_, k1, k2, k3, k4⟩, w1.n, w1.at_⟩⟩, (f1.mono (by simp)).trans (Fr.upd (by simp) _ _ _), by rw [sz_upd, s1]⟩
    · rw [bk_upd lq, if_pos rfl]
    · rw [bk_upd lq, if_neg hne.symm]; exact hr
  cases B with
  | nil =>
    simp [and_assoc, cellAt_of hq, hq, writeAt, hwf]
    simpa using hend (by simp) _ rfl
  | cons p B =>
    have hg := ring_get w1 (k := 0) (p := p) (by simp)
    simp only [Nat.add_zero] at hg
    have hat := at_spec w1.raw 0 (by omega)
    have hpos : (0 : Int) < (B.length : Int) + 1 := by omega
    have hpos' : ¬ ((B.length : Int) + 1 ≤ 0) := by omega
    simp [cellAt_of hq, hpos, hpos']
    refine hat.mono ?_
    rintro v h2 ⟨rfl, rfl⟩
    simp [and_assoc, hg.1, hg.2]
    by_cases hp : p.1 ≤ now
    · have hp' : ¬ (now < p.1) := by omega
      simp [hp, hp']
      refine hat.mono ?_
      rintro v h3 ⟨rfl, rfl⟩
      have hw1 : IntKind.wrap .i64 ((first' : Int) + 1) = (first' : Int) + 1 := wrap_i64 (by omega) (by omega)
      have hm : Int.tmod ((first' : Int) + 1) (ring.length : Int) = (((first' + 1) % ring.length : Nat) : Int) := by
        rw [tmod_nat (by omega)]; exact mod_sum first' 1 ring.length
      have hp2 := hs p (by simp)
      have hsB2 := sumA_nonneg B fun p hp => hs p (by simp [hp])
      simp only [sumA] at t0 t1 hsB
      have hw2 : IntKind.wrap .u64 (sumA A + p.2) = sumA A + p.2 := wrap_u64 (by omega) (by omega)
      have hw3 : IntKind.wrap .i64 (B.length : Int) = (B.length : Int) := by
        simp at k4
        rw [wrap_i64 (by omega) (by omega)]
      have n1 : ¬ (ring.length = 0) := by omega
      have n2 : ring ≠ [] := by intro e; simp [e] at n1
      simp [and_assoc, hg.1, hg.2, cellAt_of hq, hq, hw1, hm, writeAt, cellAt_upd, bk_upd, sz_upd, lq, upd_upd, hw2, hw3, n1, n2]
      refine ⟨⟨A ++ [p], B, by simp, ?_, by rw [sumA_append]; simp [sumA], ⟨(first' + 1) % ring.length, ?_⟩, ?_, ?_⟩, ?_⟩
      · intro a b hab
        rcases List.mem_append.1 hab with hab | hab
        · exact hA _ hab
        · simp at hab; subst hab; exact hp
      · have hk4 : B.length + 1 ≤ ring.length := by simpa using k4
        refine ⟨⟨?_, ?_, k1, k2, Nat.mod_lt _ k1, by omega⟩, w1.n, fun k hk => ?_⟩
        · rw [bk_upd lq, if_pos rfl]; simp
        · rw [bk_upd lq, if_neg hne.symm]; exact hr
        · have := w1.at_ (k + 1) (by simp; omega)
          rw [Nat.mod_add_mod, show first' + 1 + k = first' + (k + 1) by omega, this]
          simp
      · exact f1.trans (Fr.upd (by simp) _ _ _)
      · exact s1
      · omega
    · have hp' : now < p.1 := by omega
      simp [hp, hp']
      simp [and_assoc, cellAt_of hq, hq, writeAt, hwf]
      simpa using hend (by simp; omega) _ rfl

theorem next_none {h : Hp} {q r n : Nat} {total : Int} (w : Row h q r n [] total) :
    CallsH Try.prog 16 [.pointer (some ⟨q, 0, none⟩)] h fun v h' => v = .tuple #[.int .u64 0, .bool false] ∧ h' = h := by
  obtain ⟨ring, first, w⟩ := w
  apply refill_Row_Next.calls
  unfold refill_Row_Next.P
  simp [cellAt_of w.raw.hq]

theorem next_some {h : Hp} {q r n : Nat} {p : Int × Int} {L : List (Int × Int)} {total : Int} (w : Row h q r n (p :: L) total) :
    CallsH Try.prog 16 [.pointer (some ⟨q, 0, none⟩)] h fun v h' => v = .tuple #[.int .u64 p.1, .bool true] ∧ h' = h := by
  obtain ⟨ring, first, w⟩ := w
  apply refill_Row_Next.calls
  unfold refill_Row_Next.P
  have hg := ring_get w (k := 0) (p := p) (by simp)
  simp only [Nat.add_zero] at hg
  have hpos : ¬ ((L.length : Int) + 1 = 0) := by omega
  simp [cellAt_of w.raw.hq, hpos]
  refine (at_spec w.raw 0 (by omega)).mono ?_
  rintro v h' ⟨rfl, rfl⟩
  simp [and_assoc, hg.1]

theorem total_spec {h : Hp} {q r n : Nat} {L : List (Int × Int)} {total : Int} (w : Row h q r n L total) :
    CallsH Try.prog 12 [.pointer (some ⟨q, 0, none⟩)] h fun v h' => v = .int .u64 total ∧ h' = h := by
  obtain ⟨ring, first, w⟩ := w
  apply refill_Row_Total.calls
  unfold refill_Row_Total.P
  simp [cellAt_of w.raw.hq]

theorem clear_spec {h : Hp} {q r n : Nat} {L : List (Int × Int)} {total : Int} (w : Row h q r n L total) :
    CallsH Try.prog 15 [.pointer (some ⟨q, 0, none⟩)] h fun v h' => v = .tuple #[] ∧ Row h' q r n [] 0 ∧ Fr [q, r] h h' ∧ sz h' = sz h := by
  obtain ⟨ring, first, w⟩ := w
  apply refill_Row_Clear.calls
  unfold refill_Row_Clear.P
  have hq := w.raw.hq
  have lq := lt_of_bk hq
  have k1 := w.raw.n1
  simp [and_assoc, hq, lq, writeAt, bk_upd, cellAt_upd, sz_upd, upd_upd]
  refine ⟨⟨ring, 0, ⟨⟨?_, ?_, w.raw.n1, w.raw.n2, by omega, by simp⟩, w.n, by simp⟩⟩, Fr.upd (by simp) _ _ _⟩
  · rw [bk_upd lq, if_pos rfl]; simp
  · rw [bk_upd lq, if_neg w.raw.ne.symm]; exact w.raw.hr

theorem encR_zeros (n : Nat) : zeros [.int .u64 0, .int .u64 0] n = encR (List.replicate n (0, 0)) := by
  induction n with
  | zero => rfl
  | succ n ih => simp only [zeros] at ih ⊢; rw [List.replicate_succ, List.replicate_succ, List.flatten_cons, ih]; rfl

theorem new_bad {h : Hp} (room : Int) (hb : room < 1 ∨ 16 < room) :
    CallsH Try.prog 8 [.int .i64 room] h fun v h' => v = .tuple #[.pointer none, .int .i64 11] ∧ h' = h := by
  apply refill_New.calls
  unfold refill_New.P
  by_cases h1 : room < 1
  · have : ¬ (1 ≤ room) := by omega
    simp [h1, this]
  · have h2 : 16 < room := by omega
    have h3 : ¬ (room ≤ 16) := by omega
    simp [h1, h2, h3]

theorem new_good {h : Hp} (room : Nat) (h1 : 1 ≤ room) (h2 : room ≤ 16) :
    CallsH Try.prog 8 [.int .i64 (room : Int)] h fun v h' => v = .tuple #[.pointer (some ⟨sz h + 1, 0, none⟩), .int .i64 0] ∧ Row h' (sz h + 1) (sz h) room [] 0 ∧ Fr [] h h' ∧ sz h' = sz h + 2 := by
  apply refill_New.calls
  unfold refill_New.P
  have n1 : ¬ ((room : Int) < 1) := by omega
  have n2 : ¬ (16 < (room : Int)) := by omega
  simp [n1, n2, sz_new]
  refine ⟨by omega, by omega, ⟨List.replicate room (0, 0), 0, ⟨⟨?_, ?_, by simp; omega, by simp; omega, by simp; omega, by simp⟩, by simp, by simp⟩⟩, ?_⟩
  · rw [bk_new, if_pos (by rw [sz_new])]; simp
  · rw [bk_new, if_neg (by rw [sz_new]; omega), bk_new, if_pos rfl, encR_zeros]
  · exact (Fr.new _ _ _).trans (Fr.new _ _ _)
end Go.Proofs.Ytgajaoophcljnaa
