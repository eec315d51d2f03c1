import Derived.Test.YtmldiibfmhkgjaaP2
import Derived.Test.YtmldiibfmhkgjaaWdBits
import Derived.Test.YtmldiibfmhkgjaaWdRow
namespace Go.Proofs.Ytmldiibfmhkgjaa
open Go Go.Wd
set_option linter.unusedVariables false
set_option linter.unusedSimpArgs false

theorem decT {n k : Nat} (h : k < n) : n - ((k + 1 : Nat) : Int).toNat < n - (k : Int).toNat := by omega
theorem wrapT {j n : Nat} (h : j < n) (hn : n ≤ 1000000) : IntKind.wrap .i64 ((j : Int) + 1) = ((j + 1 : Nat) : Int) := by rw [wrap_i64 (by omega) (by omega)]; omega

/-! ## a map's entries -/
structure En where
  vm : Int
  pg : Int
  ix : Nat
  bn : Nat
def En.me (m : En) : MapEntry := { key := .agg #[.int .i64 m.vm, .int .i64 m.pg], val := .int .i64 (m.ix : Int), born := m.bn }
def En.is (v p : Int) (m : En) : Bool := decide (m.vm = v) && decide (m.pg = p)
def tlookE (v p : Int) : List En → Nat → Option (Nat × Value)
  | [], _ => none
  | m :: r, i => if m.is v p then some (i, .int .i64 (m.ix : Int)) else tlookE v p r (i + 1)
theorem lookM_en (v p : Int) : ∀ (M : List En) (i : Nat), lookM true [.int .i64, .int .i64] [.int .i64 v, .int .i64 p] (M.map En.me) i = some (tlookE v p M i)
  | [], i => rfl
  | m :: M, i => by
    simp only [List.map_cons, lookM, tlookE, En.me, keyCells, cond_true]
    simp only [eqCells, eqCell, if_pos, Bool.and_true]
    by_cases h1 : m.vm = v
    · by_cases h2 : m.pg = p
      · subst h1; subst h2
        simp [En.is]
      · have e : (p == m.pg) = false := by simpa using fun e => h2 e.symm
        simp only [h1, beq_self_eq_true, e, Bool.and_false, En.is, decide_eq_false h2, Bool.and_false, Bool.false_eq_true, if_false]
        exact lookM_en v p M (i + 1)
    · have e : (v == m.vm) = false := by simpa using fun e => h1 e.symm
      simp only [e, Bool.false_and, En.is, decide_eq_false h1, Bool.false_and, Bool.false_eq_true, if_false]
      exact lookM_en v p M (i + 1)
theorem tlookE_cases (v p : Int) : ∀ (M : List En) (i : Nat), (tlookE v p M i = none ∧ ∀ m ∈ M, m.is v p = false) ∨ ∃ (j : Nat) (m : En), tlookE v p M i = some (i + j, .int .i64 (m.ix : Int)) ∧ M[j]? = some m ∧ m.is v p = true
  | [], i => .inl ⟨rfl, by simp⟩
  | m :: M, i => by
    simp only [tlookE]
    by_cases h : m.is v p = true
    · rw [if_pos h]
      exact .inr ⟨0, m, rfl, rfl, h⟩
    · rw [if_neg h]
      rcases tlookE_cases v p M (i + 1) with ⟨h1, h2⟩ | ⟨j, m', h1, h2, h3⟩
      · refine .inl ⟨h1, fun x hx => ?_⟩
        rcases List.mem_cons.1 hx with rfl | hx
        · simpa using h
        · exact h2 x hx
      · exact .inr ⟨j + 1, m', by rw [h1, show i + 1 + j = i + (j + 1) by omega], by simpa using h2, h3⟩
theorem En.is_iff {v p : Int} {m : En} : m.is v p = true ↔ m.vm = v ∧ m.pg = p := by simp [En.is]

/-! ## places -/
structure S where
  vm : Int
  pg : Int
  fr : Int
  wr : Bool
  ex : Bool
  deriving DecidableEq
def S.cells (x : S) : List Value := [.int .i64 x.vm, .int .i64 x.pg, .int .i64 x.fr, .bool x.wr, .bool x.ex]
theorem S.len (x : S) : x.cells.length = 5 := rfl
def S.is (v p : Int) (s : S) : Bool := decide (s.vm = v) && decide (s.pg = p)
theorem S.is_iff {v p : Int} {s : S} : s.is v p = true ↔ s.vm = v ∧ s.pg = p := by simp [S.is]

/-- The map tells just the places that are taken. -/
structure MI (M : List En) (c : Nat) (L : List (Option S)) : Prop where
  old : ∀ m ∈ M, m.bn < c
  bn : (M.map En.bn).Nodup
  to : ∀ m ∈ M, ∃ s, L[m.ix]? = some (some s) ∧ s.vm = m.vm ∧ s.pg = m.pg
  of : ∀ (i : Nat) (s : S), L[i]? = some (some s) → ∃ m ∈ M, m.vm = s.vm ∧ m.pg = s.pg ∧ m.ix = i
  one : ∀ m ∈ M, ∀ m' ∈ M, m.vm = m'.vm → m.pg = m'.pg → m = m'

/-- The place of a number and a page. -/
def atK (L : List (Option S)) (v p : Int) : Option Nat := L.findIdx? fun o => match o with
  | some s => s.is v p
  | none => false

theorem MI.uniq {M : List En} {c : Nat} {L : List (Option S)} (w : MI M c L) {i j : Nat} {s t : S} (hi : L[i]? = some (some s)) (hj : L[j]? = some (some t)) (h1 : s.vm = t.vm) (h2 : s.pg = t.pg) : i = j := by
  obtain ⟨m, hm, a1, a2, a3⟩ := w.of i s hi
  obtain ⟨m', hm', b1, b2, b3⟩ := w.of j t hj
  have := w.one m hm m' hm' (by rw [a1, b1, h1]) (by rw [a2, b2, h2])
  rw [← a3, ← b3, this]

theorem atK_none {L : List (Option S)} {v p : Int} (h : atK L v p = none) : ∀ (i : Nat) (s : S), L[i]? = some (some s) → s.is v p = false := by
  intro i s hs
  unfold atK at h
  rw [List.findIdx?_eq_none_iff] at h
  exact h _ (List.mem_of_getElem? hs)
theorem atK_some {L : List (Option S)} {v p : Int} {k : Nat} (h : atK L v p = some k) : ∃ s, L[k]? = some (some s) ∧ s.is v p = true := by
  unfold atK at h
  rw [List.findIdx?_eq_some_iff_getElem] at h
  obtain ⟨hk, h1, _⟩ := h
  rw [List.getElem?_eq_getElem hk]
  cases hl : L[k] with
  | none => rw [hl] at h1; cases h1
  | some s => rw [hl] at h1; exact ⟨s, rfl, h1⟩

/-- What the map tells of a key. -/
theorem MI.look {M : List En} {c : Nat} {L : List (Option S)} (w : MI M c L) (v p : Int) :
    (atK L v p = none ∧ tlookE v p M 0 = none ∧ ∀ m ∈ M, m.is v p = false) ∨
    ∃ (k j : Nat) (m : En) (s : S), atK L v p = some k ∧ L[k]? = some (some s) ∧ s.is v p = true ∧ tlookE v p M 0 = some (j, .int .i64 (k : Int)) ∧ M[j]? = some m ∧ m.is v p = true ∧ m.ix = k := by
  cases hat : atK L v p with
  | none =>
    refine .inl ⟨rfl, ?_⟩
    rcases tlookE_cases v p M 0 with ⟨h1, h2⟩ | ⟨j, m, h1, h2, h3⟩
    · exact ⟨h1, h2⟩
    · obtain ⟨s, hs, e1, e2⟩ := w.to m (List.mem_of_getElem? h2)
      have := atK_none hat _ s hs
      rw [S.is_iff.2 ⟨by rw [e1]; exact (En.is_iff.1 h3).1, by rw [e2]; exact (En.is_iff.1 h3).2⟩] at this
      cases this
  | some k =>
    obtain ⟨s, hs, his⟩ := atK_some hat
    have hs2 := S.is_iff.1 his
    obtain ⟨m0, hm0, a1, a2, a3⟩ := w.of k s hs
    rcases tlookE_cases v p M 0 with ⟨h1, h2⟩ | ⟨j, m, h1, h2, h3⟩
    · have := h2 m0 hm0
      rw [En.is_iff.2 ⟨by rw [a1, hs2.1], by rw [a2, hs2.2]⟩] at this
      cases this
    · have h4 := En.is_iff.1 h3
      have e := w.one m (List.mem_of_getElem? h2) m0 hm0 (by rw [h4.1, a1, hs2.1]) (by rw [h4.2, a2, hs2.2])
      refine .inr ⟨k, j, m, s, rfl, hs, his, ?_, h2, h3, by rw [e]; exact a3⟩
      rw [h1, Nat.zero_add, e, a3]

/-! ## what is kept, and what goes -/
def tfillL (L : List (Option S)) (nx : Nat) (s : S) : List (Option S) × Nat :=
  match atK L s.vm s.pg with
  | some k => (L.set k (some s), nx)
  | none => (L.set nx (some s), (nx + 1) % L.length)
def gone (f : S → Bool) (o : Option S) : Option S := match o with
  | some s => if f s then none else some s
  | none => none
def hit (f : S → Bool) (o : Option S) : Bool := match o with
  | some s => f s
  | none => false
def dropL (f : S → Bool) (L : List (Option S)) : List (Option S) := L.map (gone f)
def dropN (f : S → Bool) (L : List (Option S)) : Nat := L.countP (hit f)

/-- A place becomes free: its entry goes. -/
theorem MI.free {M : List En} {c : Nat} {L : List (Option S)} (w : MI M c L) {k j : Nat} {m : En} {s : S} (hs : L[k]? = some (some s)) (hj : M[j]? = some m) (hm : m.ix = k) : MI (M.eraseIdx j) c (L.set k none) := by
  have hjl := (List.getElem?_eq_some_iff.1 hj).1
  have hkl := (List.getElem?_eq_some_iff.1 hs).1
  have hsub : ∀ x ∈ M.eraseIdx j, x ∈ M := fun x hx => (List.eraseIdx_sublist M j).subset hx
  have hne : ∀ x ∈ M.eraseIdx j, x.bn ≠ m.bn := by
    intro x hx e
    obtain ⟨i, hi, h1⟩ := List.mem_iff_getElem.1 hx
    rw [List.getElem_eraseIdx] at h1
    have hnd := List.pairwise_iff_getElem.1 w.bn
    have hm' : M[j] = m := by rw [List.getElem?_eq_getElem hjl] at hj; exact Option.some.inj hj
    have hi' : i < M.length - 1 := by rw [List.length_eraseIdx_of_lt hjl] at hi; exact hi
    split at h1
    · rename_i hij
      have := hnd i j (by simp; omega) (by simpa using hjl) hij
      simp only [List.getElem_map] at this
      rw [h1, hm'] at this; exact this e
    · rename_i hij
      have := hnd j (i + 1) (by simpa using hjl) (by simp; omega) (by omega)
      simp only [List.getElem_map] at this
      rw [h1, hm'] at this; exact this e.symm
  refine ⟨fun x hx => w.old x (hsub x hx), ((List.eraseIdx_sublist M j).map _).nodup w.bn, fun x hx => ?_, fun i t ht => ?_, fun x hx y hy => w.one x (hsub x hx) y (hsub y hy)⟩
  · obtain ⟨t, ht, h1, h2⟩ := w.to x (hsub x hx)
    refine ⟨t, ?_, h1, h2⟩
    rw [List.getElem?_set, if_neg]
    · exact ht
    · intro e
      rw [← e, hs] at ht
      cases ht
      obtain ⟨m', hm', a1, a2, a3⟩ := w.of k s hs
      have e1 := w.one x (hsub x hx) m' hm' (by rw [← h1, a1]) (by rw [← h2, a2])
      obtain ⟨s', hs', b1, b2⟩ := w.to m (List.mem_of_getElem? hj)
      rw [hm, hs] at hs'
      cases hs'
      have e2 := w.one m (List.mem_of_getElem? hj) m' hm' (by rw [← b1, a1]) (by rw [← b2, a2])
      exact hne x hx (by rw [e1, e2])
  · rw [List.getElem?_set] at ht
    by_cases e : k = i
    · rw [if_pos e, if_pos hkl] at ht; cases ht
    · rw [if_neg e] at ht
      obtain ⟨x, hx, a1, a2, a3⟩ := w.of i t ht
      refine ⟨x, ?_, a1, a2, a3⟩
      obtain ⟨n, hn, h1⟩ := List.mem_iff_getElem.1 hx
      have hnj : n ≠ j := by
        intro e2; subst e2
        rw [List.getElem?_eq_getElem hn] at hj
        cases hj
        rw [h1] at hm
        exact e (hm.symm.trans a3)
      rw [List.mem_eraseIdx_iff_getElem]
      exact ⟨n, hn, hnj, h1⟩
/-- A new entry. -/
theorem MI.add {M : List En} {c : Nat} {L : List (Option S)} (w : MI M c L) {k : Nat} {s : S} (hk : L[k]? = some none) (hno : ∀ m ∈ M, m.is s.vm s.pg = false) : MI (M ++ [⟨s.vm, s.pg, k, c⟩]) (c + 1) (L.set k (some s)) := by
  have hkl := (List.getElem?_eq_some_iff.1 hk).1
  refine ⟨fun x hx => ?_, ?_, fun x hx => ?_, fun i t ht => ?_, fun x hx y hy h1 h2 => ?_⟩
  · rcases List.mem_append.1 hx with hx | hx
    · have := w.old x hx; omega
    · simp at hx; subst hx; simp
  · rw [List.map_append, List.nodup_append]
    refine ⟨w.bn, by simp, fun a ha b hb => ?_⟩
    simp at hb; subst hb
    obtain ⟨x, hx, rfl⟩ := List.mem_map.1 ha
    have := w.old x hx; omega
  · rcases List.mem_append.1 hx with hx | hx
    · obtain ⟨t, ht, h1, h2⟩ := w.to x hx
      refine ⟨t, ?_, h1, h2⟩
      rw [List.getElem?_set, if_neg]
      · exact ht
      · intro e; rw [← e, hk] at ht; cases ht
    · simp at hx; subst hx
      exact ⟨s, by rw [List.getElem?_set, if_pos rfl, if_pos hkl], rfl, rfl⟩
  · rw [List.getElem?_set] at ht
    by_cases e : k = i
    · rw [if_pos e, if_pos hkl] at ht
      cases ht
      exact ⟨_, List.mem_append.2 (.inr (List.mem_singleton.2 rfl)), rfl, rfl, e⟩
    · rw [if_neg e] at ht
      obtain ⟨x, hx, h⟩ := w.of i t ht
      exact ⟨x, List.mem_append.2 (.inl hx), h⟩
  · rcases List.mem_append.1 hx with hx | hx
    · rcases List.mem_append.1 hy with hy | hy
      · exact w.one x hx y hy h1 h2
      · simp at hy; subst hy
        have := hno x hx
        rw [En.is_iff.2 ⟨h1, h2⟩] at this; cases this
    · rcases List.mem_append.1 hy with hy | hy
      · simp at hx; subst hx
        have := hno y hy
        rw [En.is_iff.2 ⟨h1.symm, h2.symm⟩] at this; cases this
      · simp at hx hy; rw [hx, hy]
/-- An entry that is told anew. -/
theorem MI.again {M : List En} {c : Nat} {L : List (Option S)} (w : MI M c L) {k : Nat} {s t : S} (hk : L[k]? = some (some t)) (h1 : t.vm = s.vm) (h2 : t.pg = s.pg) : MI M c (L.set k (some s)) := by
  have hkl := (List.getElem?_eq_some_iff.1 hk).1
  refine ⟨w.old, w.bn, fun x hx => ?_, fun i u hu => ?_, w.one⟩
  · obtain ⟨u, hu, a1, a2⟩ := w.to x hx
    by_cases e : k = x.ix
    · rw [← e, hk] at hu
      cases hu
      exact ⟨s, by rw [← e, List.getElem?_set, if_pos rfl, if_pos hkl], by rw [← h1]; exact a1, by rw [← h2]; exact a2⟩
    · exact ⟨u, by rw [List.getElem?_set, if_neg e]; exact hu, a1, a2⟩
  · rw [List.getElem?_set] at hu
    by_cases e : k = i
    · rw [if_pos e, if_pos hkl] at hu
      cases hu
      obtain ⟨x, hx, a1, a2, a3⟩ := w.of k t hk
      exact ⟨x, hx, by rw [a1, h1], by rw [a2, h2], by rw [a3, e]⟩
    · rw [if_neg e] at hu
      exact w.of i u hu
theorem MI.none (c : Nat) (n : Nat) : MI [] c (List.replicate n Option.none) :=
  ⟨by simp, List.nodup_nil, by simp, fun i s hs => by
    have := List.mem_of_getElem? hs
    simp at this, by simp⟩

/-! ## entries as they are changed -/
theorem putE_again {M : List En} {j : Nat} {m : En} {v p : Int} (hj : M[j]? = some m) (hm : m.is v p = true) (c : Nat) (u : Value) :
    (entM (M.map En.me) c (some (j, u)) (.agg #[.int .i64 v, .int .i64 p]) (.int .i64 0)) = (M.map En.me, c) ∧ entS (M.map En.me) c (some (j, u)) = m.bn := by
  have h := En.is_iff.1 hm
  constructor
  · simp only [entM]
    congr 1
    apply List.ext_getElem?
    intro i
    rw [List.getElem?_modify]
    by_cases e : j = i
    · subst e
      rw [List.getElem?_map, hj]
      simp only [Option.map_some, if_true]
      simp only [En.me, h.1, h.2]
      rfl
    · simp [e]
  · simp only [entS, List.getElem?_map, hj, Option.map_some, Option.getD_some]
    rfl
theorem find_bn {M : List En} (hnd : (M.map En.bn).Nodup) {j : Nat} {m : En} (hj : M[j]? = some m) : (M.map En.me).findIdx? (fun e => (e.born : Int) == ((m.bn : Nat) : Int)) = some j := by
  have hjl := (List.getElem?_eq_some_iff.1 hj).1
  rw [List.findIdx?_eq_some_iff_getElem]
  have hm' : M[j] = m := by rw [List.getElem?_eq_getElem hjl] at hj; exact Option.some.inj hj
  refine ⟨by simpa using hjl, by simp [En.me, hm'], fun i hi => ?_⟩
  have := List.pairwise_iff_getElem.1 hnd i j (by simp; omega) (by simpa using hjl) hi
  simp only [List.getElem_map, hm'] at this
  simp only [List.getElem_map, En.me]
  simp only [beq_iff_eq, Bool.not_eq_true, beq_eq_false_iff_ne, ne_eq]
  omega
theorem modify_me {M : List En} {j : Nat} {m : En} (hj : M[j]? = some m) (k : Nat) : ((M.map En.me).modify j fun e => { e with val := .int .i64 (k : Int) }) = (M.set j { m with ix := k }).map En.me := by
  apply List.ext_getElem?
  intro i
  rw [List.getElem?_modify, List.getElem?_map, List.getElem?_map, List.getElem?_set]
  have hjl := (List.getElem?_eq_some_iff.1 hj).1
  by_cases e : j = i
  · subst e
    rw [hj]
    simp [hjl, En.me]
  · simp [e]
theorem set_same {M : List En} {j : Nat} {m : En} (hj : M[j]? = some m) {k : Nat} (hk : m.ix = k) : M.set j { m with ix := k } = M := by
  subst hk
  apply List.ext_getElem?
  intro i
  rw [List.getElem?_set]
  have hjl := (List.getElem?_eq_some_iff.1 hj).1
  by_cases e : j = i
  · subst e; rw [if_pos rfl, if_pos hjl, hj]
  · rw [if_neg e]
end Go.Proofs.Ytmldiibfmhkgjaa
