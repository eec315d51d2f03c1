import Derived.Test.YtmldiibfmhkgjaaP2
import Derived.Test.YtmldiibfmhkgjaaWdBits
import Derived.Test.YtmldiibfmhkgjaaWdRow
namespace Go.Proofs.Ytmldiibfmhkgjaa
open Go Go.Wd
set_option linter.unusedVariables false
set_option linter.unusedSimpArgs false
set_option linter.unnecessarySimpa false


theorem decT {n k : Nat} (h : k < n) : n - ((k + 1 : Nat) : Int).toNat < n - (k : Int).toNat := by omega
theorem wrapT {j n : Nat} (h : j < n) (hn : n ≤ 1000000) : IntKind.wrap .i64 ((j : Int) + 1) = ((j + 1 : Nat) : Int) := by rw [wrap_i64 (by omega) (by omega)]; omega

/-! ## a map's entries -/
structure En where
  vm : Int
  pg : Int
  ix : Nat
  bn : Nat
def En.me (m : En) : MapEntry := { key := .agg #[.int .i64 m.vm, .int .i64 m.pg], val := .int .i64 (m.ix : Int), born := m.bn }
def En.is (v p : Int) (m : En) : Bool := decide (m.vm = v) && decide (m.pg = p)
def tlookE (v p : Int) : List En → Nat → Option (Nat × Value)
  | [], _ => none
  | m :: r, i => if m.is v p then some (i, .int .i64 (m.ix : Int)) else tlookE v p r (i + 1)
theorem lookM_en (v p : Int) : ∀ (M : List En) (i : Nat), lookM true [.int .i64, .int .i64] [.int .i64 v, .int .i64 p] (M.map En.me) i = some (tlookE v p M i)
  | [], i => rfl
  | m :: M, i => by
    simp only [List.map_cons, lookM, tlookE, En.me, keyCells, cond_true]
    simp only [eqCells, eqCell, if_pos, Bool.and_true]
    by_cases h1 : m.vm = v
    · by_cases h2 : m.pg = p
      · subst h1; subst h2
        simp [En.is]
      · have e : (p == m.pg) = false := by simpa using fun e => h2 e.symm
        simp only [h1, beq_self_eq_true, e, Bool.and_false, En.is, decide_eq_false h2, Bool.and_false, Bool.false_eq_true, if_false]
        exact lookM_en v p M (i + 1)
    · have e : (v == m.vm) = false := by simpa using fun e => h1 e.symm
      simp only [e, Bool.false_and, En.is, decide_eq_false h1, Bool.false_and, Bool.false_eq_true, if_false]
      exact lookM_en v p M (i + 1)
theorem tlookE_cases (v p : Int) : ∀ (M : List En) (i : Nat), (tlookE v p M i = none ∧ ∀ m ∈ M, m.is v p = false) ∨ ∃ (j : Nat) (m : En), tlookE v p M i = some (i + j, .int .i64 (m.ix : Int)) ∧ M[j]? = some m ∧ m.is v p = true
  | [], i => .inl ⟨rfl, by simp⟩
  | m :: M, i => by
    simp only [tlookE]
    by_cases h : m.is v p = true
    · rw [if_pos h]
      exact .inr ⟨0, m, rfl, rfl, h⟩
    · rw [if_neg h]
      rcases tlookE_cases v p M (i + 1) with ⟨h1, h2⟩ | ⟨j, m', h1, h2, h3⟩
      · refine .inl ⟨h1, fun x hx => ?_⟩
        rcases List.mem_cons.1 hx with rfl | hx
        · simpa using h
        · exact h2 x hx
      · exact .inr ⟨j + 1, m', by rw [h1, show i + 1 + j = i + (j + 1) by omega], by simpa using h2, h3⟩
theorem En.is_iff {v p : Int} {m : En} : m.is v p = true ↔ m.vm = v ∧ m.pg = p := by simp [En.is]

/-! ## places -/
structure S where
  vm : Int
  pg : Int
  fr : Int
  wr : Bool
  ex : Bool
  deriving DecidableEq
def S.cells (x : S) : List Value := [.int .i64 x.vm, .int .i64 x.pg, .int .i64 x.fr, .bool x.wr, .bool x.ex]
theorem S.len (x : S) : x.cells.length = 5 := rfl
def S.is (v p : Int) (s : S) : Bool := decide (s.vm = v) && decide (s.pg = p)
theorem S.is_iff {v p : Int} {s : S} : s.is v p = true ↔ s.vm = v ∧ s.pg = p := by simp [S.is]

/-- The map tells just the places that are taken. -/
structure MI (M : List En) (c : Nat) (L : List (Option S)) : Prop where
  old : ∀ m ∈ M, m.bn < c
  bn : (M.map En.bn).Nodup
  to : ∀ m ∈ M, ∃ s, L[m.ix]? = some (some s) ∧ s.vm = m.vm ∧ s.pg = m.pg
  of : ∀ (i : Nat) (s : S), L[i]? = some (some s) → ∃ m ∈ M, m.vm = s.vm ∧ m.pg = s.pg ∧ m.ix = i
  one : ∀ m ∈ M, ∀ m' ∈ M, m.vm = m'.vm → m.pg = m'.pg → m = m'

/-- The place of a number and a page. -/
def atK (L : List (Option S)) (v p : Int) : Option Nat := L.findIdx? fun o => match o with
  | some s => s.is v p
  | none => false

theorem MI.uniq {M : List En} {c : Nat} {L : List (Option S)} (w : MI M c L) {i j : Nat} {s t : S} (hi : L[i]? = some (some s)) (hj : L[j]? = some (some t)) (h1 : s.vm = t.vm) (h2 : s.pg = t.pg) : i = j := by
  obtain ⟨m, hm, a1, a2, a3⟩ := w.of i s hi
  obtain ⟨m', hm', b1, b2, b3⟩ := w.of j t hj
  have := w.one m hm m' hm' (by rw [a1, b1, h1]) (by rw [a2, b2, h2])
  rw [← a3, ← b3, this]

theorem atK_none {L : List (Option S)} {v p : Int} (h : atK L v p = none) : ∀ (i : Nat) (s : S), L[i]? = some (some s) → s.is v p = false := by
  intro i s hs
  unfold atK at h
  rw [List.findIdx?_eq_none_iff] at h
  exact h _ (List.mem_of_getElem? hs)
theorem atK_some {L : List (Option S)} {v p : Int} {k : Nat} (h : atK L v p = some k) : ∃ s, L[k]? = some (some s) ∧ s.is v p = true := by
  unfold atK at h
  rw [List.findIdx?_eq_some_iff_getElem] at h
  obtain ⟨hk, h1, _⟩ := h
  rw [List.getElem?_eq_getElem hk]
  cases hl : L[k] with
  | none => rw [hl] at h1; cases h1
  | some s => rw [hl] at h1; exact ⟨s, rfl, h1⟩

/-- What the map tells of a key. -/
theorem MI.look {M : List En} {c : Nat} {L : List (Option S)} (w : MI M c L) (v p : Int) :
    (atK L v p = none ∧ tlookE v p M 0 = none ∧ ∀ m ∈ M, m.is v p = false) ∨
    ∃ (k j : Nat) (m : En) (s : S), atK L v p = some k ∧ L[k]? = some (some s) ∧ s.is v p = true ∧ tlookE v p M 0 = some (j, .int .i64 (k : Int)) ∧ M[j]? = some m ∧ m.is v p = true ∧ m.ix = k := by
  cases hat : atK L v p with
  | none =>
    refine .inl ⟨rfl, ?_⟩
    rcases tlookE_cases v p M 0 with ⟨h1, h2⟩ | ⟨j, m, h1, h2, h3⟩
    · exact ⟨h1, h2⟩
    · obtain ⟨s, hs, e1, e2⟩ := w.to m (List.mem_of_getElem? h2)
      have := atK_none hat _ s hs
      rw [S.is_iff.2 ⟨by rw [e1]; exact (En.is_iff.1 h3).1, by rw [e2]; exact (En.is_iff.1 h3).2⟩] at this
      cases this
  | some k =>
    obtain ⟨s, hs, his⟩ := atK_some hat
    have hs2 := S.is_iff.1 his
    obtain ⟨m0, hm0, a1, a2, a3⟩ := w.of k s hs
    rcases tlookE_cases v p M 0 with ⟨h1, h2⟩ | ⟨j, m, h1, h2, h3⟩
    · have := h2 m0 hm0
      rw [En.is_iff.2 ⟨by rw [a1, hs2.1], by rw [a2, hs2.2]⟩] at this
      cases this
    · have h4 := En.is_iff.1 h3
      have e := w.one m (List.mem_of_getElem? h2) m0 hm0 (by rw [h4.1, a1, hs2.1]) (by rw [h4.2, a2, hs2.2])
      refine .inr ⟨k, j, m, s, rfl, hs, his, ?_, h2, h3, by rw [e]; exact a3⟩
      rw [h1, Nat.zero_add, e, a3]

/-! ## what is kept, and what goes -/
def tfillL (L : List (Option S)) (nx : Nat) (s : S) : List (Option S) × Nat :=
  match atK L s.vm s.pg with
  | some k => (L.set k (some s), nx)
  | none => (L.set nx (some s), (nx + 1) % L.length)
def gone (f : S → Bool) (o : Option S) : Option S := match o with
  | some s => if f s then none else some s
  | none => none
def hit (f : S → Bool) (o : Option S) : Bool := match o with
  | some s => f s
  | none => false
def dropL (f : S → Bool) (L : List (Option S)) : List (Option S) := L.map (gone f)
def dropN (f : S → Bool) (L : List (Option S)) : Nat := L.countP (hit f)

/-- A place becomes free: its entry goes. -/
theorem MI.free {M : List En} {c : Nat} {L : List (Option S)} (w : MI M c L) {k j : Nat} {m : En} {s : S} (hs : L[k]? = some (some s)) (hj : M[j]? = some m) (hm : m.ix = k) : MI (M.eraseIdx j) c (L.set k none) := by
  have hjl := (List.getElem?_eq_some_iff.1 hj).1
  have hkl := (List.getElem?_eq_some_iff.1 hs).1
  have hsub : ∀ x ∈ M.eraseIdx j, x ∈ M := fun x hx => (List.eraseIdx_sublist M j).subset hx
  have hne : ∀ x ∈ M.eraseIdx j, x.bn ≠ m.bn := by
    intro x hx e
    obtain ⟨i, hi, h1⟩ := List.mem_iff_getElem.1 hx
    rw [List.getElem_eraseIdx] at h1
    have hnd := List.pairwise_iff_getElem.1 w.bn
    have hm' : M[j] = m := by rw [List.getElem?_eq_getElem hjl] at hj; exact Option.some.inj hj
    have hi' : i < M.length - 1 := by rw [List.length_eraseIdx_of_lt hjl] at hi; exact hi
    split at h1
    · rename_i hij
      have := hnd i j (by simp; omega) (by simpa using hjl) hij
      simp only [List.getElem_map] at this
      rw [h1, hm'] at this; exact this e
    · rename_i hij
      have := hnd j (i + 1) (by simpa using hjl) (by simp; omega) (by omega)
      simp only [List.getElem_map] at this
      rw [h1, hm'] at this; exact this e.symm
  refine ⟨fun x hx => w.old x (hsub x hx), ((List.eraseIdx_sublist M j).map _).nodup w.bn, fun x hx => ?_, fun i t ht => ?_, fun x hx y hy => w.one x (hsub x hx) y (hsub y hy)⟩
  · obtain ⟨t, ht, h1, h2⟩ := w.to x (hsub x hx)
    refine ⟨t, ?_, h1, h2⟩
    rw [List.getElem?_set, if_neg]
    · exact ht
    · intro e
      rw [← e, hs] at ht
      cases ht
      obtain ⟨m', hm', a1, a2, a3⟩ := w.of k s hs
      have e1 := w.one x (hsub x hx) m' hm' (by rw [← h1, a1]) (by rw [← h2, a2])
      obtain ⟨s', hs', b1, b2⟩ := w.to m (List.mem_of_getElem? hj)
      rw [hm, hs] at hs'
      cases hs'
      have e2 := w.one m (List.mem_of_getElem? hj) m' hm' (by rw [← b1, a1]) (by rw [← b2, a2])
      exact hne x hx (by rw [e1, e2])
  · rw [List.getElem?_set] at ht
    by_cases e : k = i
    · rw [if_pos e, if_pos hkl] at ht; cases ht
    · rw [if_neg e] at ht
      obtain ⟨x, hx, a1, a2, a3⟩ := w.of i t ht
      refine ⟨x, ?_, a1, a2, a3⟩
      obtain ⟨n, hn, h1⟩ := List.mem_iff_getElem.1 hx
      have hnj : n ≠ j := by
        intro e2; subst e2
        rw [List.getElem?_eq_getElem hn] at hj
        cases hj
        rw [h1] at hm
        exact e (hm.symm.trans a3)
      rw [List.mem_eraseIdx_iff_getElem]
      exact ⟨n, hn, hnj, h1⟩
/-- A new entry. -/
theorem MI.add {M : List En} {c : Nat} {L : List (Option S)} (w : MI M c L) {k : Nat} {s : S} (hk : L[k]? = some none) (hno : ∀ m ∈ M, m.is s.vm s.pg = false) : MI (M ++ [⟨s.vm, s.pg, k, c⟩]) (c + 1) (L.set k (some s)) := by
  have hkl := (List.getElem?_eq_some_iff.1 hk).1
  refine ⟨fun x hx => ?_, ?_, fun x hx => ?_, fun i t ht => ?_, fun x hx y hy h1 h2 => ?_⟩
  · rcases List.mem_append.1 hx with hx | hx
    · have := w.old x hx; omega
    · simp at hx; subst hx; simp
  · rw [List.map_append, List.nodup_append]
    refine ⟨w.bn, by simp, fun a ha b hb => ?_⟩
    simp at hb; subst hb
    obtain ⟨x, hx, rfl⟩ := List.mem_map.1 ha
    have := w.old x hx; omega
  · rcases List.mem_append.1 hx with hx | hx
    · obtain ⟨t, ht, h1, h2⟩ := w.to x hx
      refine ⟨t, ?_, h1, h2⟩
      rw [List.getElem?_set, if_neg]
      · exact ht
      · intro e; rw [← e, hk] at ht; cases ht
    · simp at hx; subst hx
      exact ⟨s, by rw [List.getElem?_set, if_pos rfl, if_pos hkl], rfl, rfl⟩
  · rw [List.getElem?_set] at ht
    by_cases e : k = i
    · rw [if_pos e, if_pos hkl] at ht
      cases ht
      exact ⟨_, List.mem_append.2 (.inr (List.mem_singleton.2 rfl)), rfl, rfl, e⟩
    · rw [if_neg e] at ht
      obtain ⟨x, hx, h⟩ := w.of i t ht
      exact ⟨x, List.mem_append.2 (.inl hx), h⟩
  · rcases List.mem_append.1 hx with hx | hx
    · rcases List.mem_append.1 hy with hy | hy
      · exact w.one x hx y hy h1 h2
      · simp at hy; subst hy
        have := hno x hx
        rw [En.is_iff.2 ⟨h1, h2⟩] at this; cases this
    · rcases List.mem_append.1 hy with hy | hy
      · simp at hx; subst hx
        have := hno y hy
        rw [En.is_iff.2 ⟨h1.symm, h2.symm⟩] at this; cases this
      · simp at hx hy; rw [hx, hy]
/-- An entry that is told anew. -/
theorem MI.again {M : List En} {c : Nat} {L : List (Option S)} (w : MI M c L) {k : Nat} {s t : S} (hk : L[k]? = some (some t)) (h1 : t.vm = s.vm) (h2 : t.pg = s.pg) : MI M c (L.set k (some s)) := by
  have hkl := (List.getElem?_eq_some_iff.1 hk).1
  refine ⟨w.old, w.bn, fun x hx => ?_, fun i u hu => ?_, w.one⟩
  · obtain ⟨u, hu, a1, a2⟩ := w.to x hx
    by_cases e : k = x.ix
    · rw [← e, hk] at hu
      cases hu
      exact ⟨s, by rw [← e, List.getElem?_set, if_pos rfl, if_pos hkl], by rw [← h1]; exact a1, by rw [← h2]; exact a2⟩
    · exact ⟨u, by rw [List.getElem?_set, if_neg e]; exact hu, a1, a2⟩
  · rw [List.getElem?_set] at hu
    by_cases e : k = i
    · rw [if_pos e, if_pos hkl] at hu
      cases hu
      obtain ⟨x, hx, a1, a2, a3⟩ := w.of k t hk
      exact ⟨x, hx, by rw [a1, h1], by rw [a2, h2], by rw [a3, e]⟩
    · rw [if_neg e] at hu
      exact w.of i u hu
theorem MI.none (c : Nat) (n : Nat) : MI [] c (List.replicate n Option.none) :=
  ⟨by simp, List.nodup_nil, by simp, fun i s hs => by
    have := List.mem_of_getElem? hs
    simp at this, by simp⟩

/-! ## entries as they are changed -/
theorem putE_again {M : List En} {j : Nat} {m : En} {v p : Int} (hj : M[j]? = some m) (hm : m.is v p = true) (c : Nat) (u : Value) :
    (entM (M.map En.me) c (some (j, u)) (.agg #[.int .i64 v, .int .i64 p]) (.int .i64 0)) = (M.map En.me, c) ∧ entS (M.map En.me) c (some (j, u)) = m.bn := by
  have h := En.is_iff.1 hm
  constructor
  · simp only [entM]
    congr 1
    apply List.ext_getElem?
    intro i
    rw [List.getElem?_modify]
    by_cases e : j = i
    · subst e
      rw [List.getElem?_map, hj]
      simp only [Option.map_some, if_true]
      simp only [En.me, h.1, h.2]
      rfl
    · simp [e]
  · simp only [entS, List.getElem?_map, hj, Option.map_some, Option.getD_some]
    rfl
theorem find_bn {M : List En} (hnd : (M.map En.bn).Nodup) {j : Nat} {m : En} (hj : M[j]? = some m) : (M.map En.me).findIdx? (fun e => (e.born : Int) == ((m.bn : Nat) : Int)) = some j := by
  have hjl := (List.getElem?_eq_some_iff.1 hj).1
  rw [List.findIdx?_eq_some_iff_getElem]
  have hm' : M[j] = m := by rw [List.getElem?_eq_getElem hjl] at hj; exact Option.some.inj hj
  refine ⟨by simpa using hjl, by simp [En.me, hm'], fun i hi => ?_⟩
  have := List.pairwise_iff_getElem.1 hnd i j (by simp; omega) (by simpa using hjl) hi
  simp only [List.getElem_map, hm'] at this
  simp only [List.getElem_map, En.me]
  simp only [beq_iff_eq, Bool.not_eq_true, beq_eq_false_iff_ne, ne_eq]
  omega
theorem modify_me {M : List En} {j : Nat} {m : En} (hj : M[j]? = some m) (k : Nat) : ((M.map En.me).modify j fun e => { e with val := .int .i64 (k : Int) }) = (M.set j { m with ix := k }).map En.me := by
  apply List.ext_getElem?
  intro i
  rw [List.getElem?_modify, List.getElem?_map, List.getElem?_map, List.getElem?_set]
  have hjl := (List.getElem?_eq_some_iff.1 hj).1
  by_cases e : j = i
  · subst e
    rw [hj]
    simp [hjl, En.me]
  · simp [e]
theorem set_same {M : List En} {j : Nat} {m : En} (hj : M[j]? = some m) {k : Nat} (hk : m.ix = k) : M.set j { m with ix := k } = M := by
  subst hk
  apply List.ext_getElem?
  intro i
  rw [List.getElem?_set]
  have hjl := (List.getElem?_eq_some_iff.1 hj).1
  by_cases e : j = i
  · subst e; rw [if_pos rfl, if_pos hjl, hj]
  · rw [if_neg e]


/-! ## the TLB in memory -/
def ptrs (A : List (Option Nat)) : List Value := A.map fun a => .pointer (a.map fun b => ⟨b, 0, none⟩)
theorem ptrs_at {A : List (Option Nat)} {i : Nat} {a : Option Nat} (h : A[i]? = some a) : (ptrs A)[i]? = some (.pointer (a.map fun b => ⟨b, 0, none⟩)) := by
  simp [ptrs, h]
theorem ptrs_len (A : List (Option Nat)) : (ptrs A).length = A.length := by simp [ptrs]
theorem ptrs_set (A : List (Option Nat)) (i : Nat) (a : Option Nat) : (ptrs A).set i (.pointer (a.map fun b => ⟨b, 0, none⟩)) = ptrs (A.set i a) := by simp [ptrs, List.map_set]
/-- Places and what they point to: blocks that are none of those that change. -/
structure Slots (h : Hp) (B : List Nat) (A : List (Option Nat)) (L : List (Option S)) : Prop where
  len : A.length = L.length
  no : ∀ i : Nat, A[i]? = some none → L[i]? = some none
  has : ∀ (i b : Nat), A[i]? = some (some b) → ∃ s : S, L[i]? = some (some s) ∧ bk h b = some (blk 64 s.cells) ∧ b ∉ B
structure TS (h : Hp) (q pl mp : Nat) (L : List (Option S)) (nx : Nat) : Prop where
  hq : bk h q = some (blk 126 [.slice (some ⟨pl, 0, none⟩) L.length L.length, .map (some mp), .int .i64 (nx : Int)])
  hpl : ∃ A, bk h pl = some (blk 127 (ptrs A)) ∧ Slots h [q, pl, mp] A L
  hmp : ∃ M c, bk h mp = some (.map ⟨M.map En.me⟩ c) ∧ MI M c L
  pos : 1 ≤ L.length ∧ L.length ≤ 64
  lt : nx < L.length
section
variable {h h' : Hp} {q pl mp : Nat} {L : List (Option S)} {nx : Nat}
theorem TS.ne1 (w : TS h q pl mp L nx) : pl ≠ q := by
  intro e; obtain ⟨A, hA, _⟩ := w.hpl; have := w.hq; rw [← e, hA] at this; simp [blk] at this
theorem TS.ne2 (w : TS h q pl mp L nx) : mp ≠ q := by
  intro e; obtain ⟨M, c, hM, _⟩ := w.hmp; have := w.hq; rw [← e, hM] at this; cases this
theorem TS.ne3 (w : TS h q pl mp L nx) : mp ≠ pl := by
  intro e; obtain ⟨M, c, hM, _⟩ := w.hmp; obtain ⟨A, hA, _⟩ := w.hpl; rw [e, hA] at hM; cases hM
theorem Slots.fr {B : List Nat} {A : List (Option Nat)} (w : Slots h B A L) {F : List Nat} (k : Fr F h h') (hF : ∀ x ∈ F, x ∈ B ∨ ∀ b, some b ∈ A → x ≠ b) : Slots h' B A L := by
  refine ⟨w.len, w.no, fun i b hb => ?_⟩
  obtain ⟨s, h1, h2, h3⟩ := w.has i b hb
  refine ⟨s, h1, k.at h2 fun hm => ?_, h3⟩
  rcases hF b hm with h | h
  · exact h3 h
  · exact h b (List.mem_of_getElem? hb) rfl
/-- Blocks of other work change nothing. -/
theorem TS.fr (w : TS h q pl mp L nx) {F : List Nat} (k : Fr F h h') (h1 : q ∉ F) (h2 : pl ∉ F) (h3 : mp ∉ F) (hF : ∀ x ∈ F, ∀ T l, bk h x = some (blk T l) → T ≠ 64) : TS h' q pl mp L nx := by
  obtain ⟨A, hA, hS⟩ := w.hpl
  obtain ⟨M, c, hM, hI⟩ := w.hmp
  refine ⟨k.at w.hq h1, ⟨A, k.at hA h2, ?_⟩, ⟨M, c, k.at hM h3, hI⟩, w.pos, w.lt⟩
  refine ⟨hS.len, hS.no, fun i b hb => ?_⟩
  obtain ⟨s, g1, g2, g3⟩ := hS.has i b hb
  exact ⟨s, g1, k.at g2 (fun hm => hF b hm _ _ g2 rfl), g3⟩
theorem TS.fr0 (w : TS h q pl mp L nx) (k : Fr [] h h') : TS h' q pl mp L nx := w.fr k (by simp) (by simp) (by simp) (by simp)
theorem TS.lq (w : TS h q pl mp L nx) : q < sz h := lt_of_bk w.hq
theorem TS.lpl (w : TS h q pl mp L nx) : pl < sz h := by obtain ⟨A, hA, _⟩ := w.hpl; exact lt_of_bk hA
theorem TS.lmp (w : TS h q pl mp L nx) : mp < sz h := by obtain ⟨M, c, hM, _⟩ := w.hmp; exact lt_of_bk hM
theorem TS.row (w : TS h q pl mp L nx) : cellAt h q 0 = some (.slice (some ⟨pl, 0, none⟩) L.length L.length) := (cellAt_of w.hq 0).trans rfl
theorem TS.map (w : TS h q pl mp L nx) : cellAt h q (0 + 1) = some (.map (some mp)) := (cellAt_of w.hq 1).trans rfl
theorem TS.next (w : TS h q pl mp L nx) : cellAt h q (0 + 2) = some (.int .i64 (nx : Int)) := (cellAt_of w.hq 2).trans rfl
end

theorem TNew_spec {h : Hp} (n : Int) : CallsH Try.prog 44 [.int .i64 n] h fun v h' => Fr [] h h' ∧
    ((¬ (1 ≤ n ∧ n ≤ 64) ∧ v = .tuple #[.pointer none, .int .i64 11]) ∨ (1 ≤ n ∧ n ≤ 64 ∧ v = .tuple #[.pointer (some ⟨sz h + 2, 0, none⟩), .int .i64 0] ∧ TS h' (sz h + 2) (sz h) (sz h + 1) (List.replicate n.toNat none) 0)) := by
  refine calls_k fun R hR => ?_
  apply tlb_New.calls
  unfold tlb_New.P
  refine ⟨fun c => ?_, fun c => ⟨fun c2 => ?_, fun c2 => ?_⟩⟩
  · simp only [decide_eq_true_eq] at c
    exact hR _ _ ⟨Fr.refl _ _, .inl ⟨by omega, rfl⟩⟩
  · simp only [decide_eq_true_eq] at c2
    exact hR _ _ ⟨Fr.refl _ _, .inl ⟨by omega, rfl⟩⟩
  simp only [decide_eq_false_iff_not] at c c2
  refine ⟨by omega, by omega, by omega, by omega, rfl, ?_⟩
  intro h1 e1 h2 e2 h3 e3
  have s1 : sz h1 = sz h + 1 := by rw [e1]; exact sz_new _ _
  have s2 : sz h2 = sz h + 2 := by rw [e2, sz_new, s1]
  have k1 : bk h3 (sz h) = some (blk 127 (ptrs (List.replicate n.toNat none))) := by
    rw [e3, bk_new, if_neg (by omega), e2, bk_new, if_neg (by omega), e1, new_at]
    congr 2
    simp only [zeros, ptrs, List.map_replicate]
    rw [show ([Value.pointer none] : List Value) = [Value.pointer none] from rfl]
    induction n.toNat with
    | zero => rfl
    | succ m ih => rw [List.replicate_succ, List.flatten_cons, ih, List.replicate_succ]; rfl
  have k2 : bk h3 (sz h + 1) = some (.map ⟨([] : List En).map En.me⟩ 0) := by
    rw [e3, bk_new, if_neg (by omega), e2, ← s1, new_at]; rfl
  have k3 : bk h3 (sz h + 2) = some (blk 126 [.slice (some ⟨sz h, 0, none⟩) n.toNat n.toNat, .map (some (sz h + 1)), .int .i64 0]) := by rw [e3, ← s2, new_at, s1]
  have f3 : Fr [] h h3 := by rw [e3, e2, e1]; exact ((Fr.new [] h _).trans (Fr.new [] _ _)).trans (Fr.new [] _ _)
  rw [s2]
  refine hR _ _ ⟨f3, .inr ⟨by omega, by omega, rfl, ⟨by rw [k3]; simp, ⟨_, k1, by simp, fun i hi => ?_, fun i b hb => ?_⟩, ⟨[], 0, k2, MI.none 0 _⟩, by simp; omega, by simp; omega⟩⟩⟩
  · have hi' := (List.getElem?_eq_some_iff.1 hi).1
    rw [List.getElem?_replicate, if_pos (by simpa using hi')]
  · have := List.mem_of_getElem? hb
    simp at this

theorem map_erase {α β : Type} (f : α → β) : ∀ (l : List α) (k : Nat), (l.map f).eraseIdx k = (l.eraseIdx k).map f
  | [], _ => rfl
  | a :: l, 0 => rfl
  | a :: l, k + 1 => by simp [map_erase f l k]
/-- A place is made free. -/
theorem Tfree_spec {h : Hp} {q pl mp : Nat} {L : List (Option S)} {nx : Nat} (w : TS h q pl mp L nx) {k : Nat} (hk : k < L.length) :
    CallsH Try.prog 81 [.pointer (some ⟨q, 0, none⟩), .int .i64 (k : Int)] h fun v h' => v = .tuple #[] ∧ TS h' q pl mp (L.set k none) nx ∧ Fr [pl, mp] h h' := by
  refine calls_k fun R hR => ?_
  apply tlb_Tlb_free.calls
  unfold tlb_Tlb_free.P
  obtain ⟨A, hA, hS⟩ := w.hpl
  obtain ⟨M, c, hM, hI⟩ := w.hmp
  have n1 := w.ne1
  have n2 := w.ne2
  have n3 := w.ne3
  have hka : k < A.length := by rw [hS.len]; exact hk
  obtain ⟨a, ha⟩ : ∃ a, A[k]? = some a := ⟨_, List.getElem?_eq_getElem hka⟩
  have hc : cellAt h pl (0 + (k : Int).toNat * 1) = some (.pointer (a.map fun b => ⟨b, 0, none⟩)) := by
    rw [Int.toNat_natCast, Nat.mul_one, Nat.zero_add, cellAt_of hA]; exact ptrs_at ha
  refine ⟨_, _, _, w.row, by omega, by omega, _, _, rfl, _, hc, fun hn => ?_, fun hn => ?_⟩
  · cases a with
    | none => simp [notIf] at hn
    | some b =>
      obtain ⟨s, hs, hb, hbB⟩ := hS.has k b ha
      simp only [List.mem_cons, List.not_mem_nil, or_false, not_or] at hbB
      refine ⟨_, w.map, _, _, rfl, s.vm, (cellAt_of hb 0).trans rfl, _, _, rfl, s.pg, (cellAt_of hb 1).trans rfl, mp, M.map En.me, c, _, rfl, hM, lookM_en s.vm s.pg M 0, ?_⟩
      rcases hI.look s.vm s.pg with ⟨h1, _⟩ | ⟨k', j, m, s', h1, h2, h3, h4, h5, h6, h7⟩
      · have := atK_none h1 k s hs
        rw [S.is_iff.2 ⟨rfl, rfl⟩] at this; cases this
      have e := S.is_iff.1 h3
      have hkk : k' = k := hI.uniq h2 hs e.1 e.2
      subst hkk
      rw [h4]
      intro h1' e1
      have hdrop : dropM (M.map En.me) (some (j, .int .i64 (k' : Int))) = (M.eraseIdx j).map En.me := by simp only [dropM]; exact map_erase En.me M j
      rw [hdrop] at e1
      have q1 : bk h1' q = some (blk 126 [.slice (some ⟨pl, 0, none⟩) L.length L.length, .map (some mp), .int .i64 (nx : Int)]) := by rw [e1, updO_other (fun e => n2 e.symm)]; exact w.hq
      have p1 : bk h1' pl = some (blk 127 (ptrs A)) := by rw [e1, updO_other (fun e => n3 e.symm)]; exact hA
      have m1 : bk h1' mp = some (.map ⟨(M.eraseIdx j).map En.me⟩ c) := by rw [e1]; exact updO_same hM _
      have f1 : Fr [mp] h h1' := by rw [e1]; exact Fr.updO (by simp) _ _
      clear e1
      refine ⟨_, _, _, (cellAt_of q1 0).trans rfl, by omega, by omega, _, _, rfl, truly_rfl, _, _, p1, by rw [ptrs_len, Int.toNat_natCast]; omega, ?_⟩
      intro h2' e2
      rw [Int.toNat_natCast, Nat.mul_one, Nat.zero_add, writeAt_one, show (Value.pointer none) = .pointer ((none : Option Nat).map fun b => ⟨b, 0, none⟩) from rfl, ptrs_set] at e2
      have f2 : Fr [pl] h1' h2' := by rw [e2]; exact Fr.upd (by simp) _ _ _
      have ff : Fr [pl, mp] h h2' := (f1.sub (by simp)).trans (f2.sub (by simp))
      refine hR _ _ ⟨rfl, ⟨?_, ⟨A.set k' none, ?_, ?_⟩, ⟨M.eraseIdx j, c, f2.at m1 (by simpa using n3), hI.free hs h5 h7⟩, by simpa using w.pos, by simpa using w.lt⟩, ff⟩
      · rw [List.length_set]; exact f2.at q1 (by simpa using fun e => n1 e.symm)
      · rw [e2]; exact upd_same p1 _ _
      · refine ⟨by simp [hS.len], fun i hi => ?_, fun i b' hb' => ?_⟩
        · rw [List.getElem?_set] at hi ⊢
          by_cases e : k' = i
          · rw [if_pos e, if_pos hk]
          · rw [if_neg e] at hi ⊢; exact hS.no i hi
        · rw [List.getElem?_set] at hb'
          by_cases e : k' = i
          · rw [if_pos e, if_pos hka] at hb'; cases hb'
          · rw [if_neg e] at hb'
            obtain ⟨t, g1, g2, g3⟩ := hS.has i b' hb'
            simp only [List.mem_cons, List.not_mem_nil, or_false, not_or] at g3
            refine ⟨t, by rw [List.getElem?_set, if_neg e]; exact g1, ff.at g2 (by simp; exact ⟨g3.2.1, g3.2.2⟩), by simp; exact g3⟩
  · cases a with
    | some b => simp [notIf] at hn
    | none =>
      have hl := hS.no k ha
      have : L.set k none = L := by
        apply List.ext_getElem?
        intro i
        rw [List.getElem?_set]
        by_cases e : k = i
        · subst e; rw [if_pos rfl, if_pos hk, hl]
        · rw [if_neg e]
      exact hR _ _ ⟨rfl, by rw [this]; exact w, Fr.refl _ _⟩


theorem set_none_length (L : List (Option S)) (k : Nat) (o : Option S) : (L.set k o).length = L.length := List.length_set
theorem mod_next {nx n : Nat} (h : nx < n) (hn : n ≤ 64) : Int.tmod (IntKind.wrap .i64 ((nx : Int) + 1)) ((n : Nat) : Int) = (((nx + 1) % n : Nat) : Int) := by
  rw [wrap_i64 (by omega) (by omega), tmod_nat (by omega), show (nx : Int) + 1 = ((nx + 1 : Nat) : Int) by omega, ← Int.natCast_emod]

set_option maxHeartbeats 2000000 in
theorem TFill_spec {h : Hp} {q pl mp : Nat} {L : List (Option S)} {nx : Nat} (w : TS h q pl mp L nx) (s : S) :
    CallsH Try.prog 29 [.pointer (some ⟨q, 0, none⟩), .agg ⟨s.cells⟩] h fun v h' => v = .tuple #[] ∧ TS h' q pl mp (tfillL L nx s).1 (tfillL L nx s).2 ∧ Fr [q, pl, mp] h h' := by
  refine calls_k fun R hR => ?_
  apply tlb_Tlb_Fill.calls
  unfold tlb_Tlb_Fill.P
  have lq := w.lq
  have lpl := w.lpl
  have lmp := w.lmp
  have n1 := w.ne1
  have n2 := w.ne2
  have n3 := w.ne3
  intro h1 e1
  have b1 : bk h1 (sz h) = some (blk 64 s.cells) := by rw [e1]; exact new_at _ _
  have s1 : sz h1 = sz h + 1 := by rw [e1]; exact sz_new _ _
  have f1 : Fr [] h h1 := by rw [e1]; exact Fr.new _ _ _
  clear e1
  refine ⟨s.vm, (cellAt_of b1 0).trans rfl, s.pg, (cellAt_of b1 1).trans rfl, ?_⟩
  refine put_local rfl (by decide) ?_
  intro h3 b3 f3 s3
  have b13 := f3.at b1 (by simp)
  have f13 := f1.trans f3
  have w3 := w.fr0 f13
  refine ⟨_, w3.map, s.vm, (cellAt_of b3 0).trans rfl, s.pg, (cellAt_of b3 1).trans rfl, ?_⟩
  obtain ⟨M, c, hM, hI⟩ := w3.hmp
  have hlook := hI.look s.vm s.pg
  -- behind the choice of a place: the place is free, or it is the key's
  have rest : ∀ (k : Nat) (h6 : Hp) (M' : List En) (c' : Nat) (L' : List (Option S)) (nx' : Nat), TS h6 q pl mp L' nx' → Fr [q, pl, mp] h3 h6 → bk h6 mp = some (.map ⟨M'.map En.me⟩ c') → MI M' c' L' → k < L'.length →
      ((∃ (j : Nat) (m : En), tlookE s.vm s.pg M' 0 = some (j, .int .i64 (k : Int)) ∧ M'[j]? = some m ∧ m.is s.vm s.pg = true ∧ m.ix = k) ∨ (tlookE s.vm s.pg M' 0 = none ∧ L'[k]? = some none ∧ ∀ m ∈ M', m.is s.vm s.pg = false)) →
      L'.set k (some s) = (tfillL L nx s).1 → nx' = (tfillL L nx s).2 →
      ∃ placesa20 : Option Addr, ∃ placesl21 : Nat, ∃ placesc22 : Nat, cellAt h6 q 0 = some (.slice placesa20 placesl21 placesc22) ∧
  ∃ index23 : Option Nat, cellAt h6 q (0 + 1) = some (.map index23) ∧ ∃ x24 : Int, cellAt h6 (sz h1) (0 + 0) = some (.int .i64 x24) ∧ ∃ x25 : Int, cellAt h6 (sz h1) (0 + 1) = some (.int .i64 x25) ∧
  (0 : Int) ≤ (k : Int) ∧ (k : Int) < ((placesl21 : Nat) : Int) ∧ ∃ b26 : Nat, ∃ o27 : Nat, (placesa20 : Option Addr) = some ⟨b26, o27, none⟩ ∧ truly true ∧ ∃ T28 : TypeId, ∃ l29 : List Value, bk h6 b26 = some (blk T28 l29) ∧
  (o27 + (k : Int).toNat * 1) + 1 ≤ l29.length ∧ ∀ h7 : Hp, h7 = upd h6 b26 T28 (writeAt l29 (o27 + (k : Int).toNat * 1) [.pointer (some ⟨(sz h), 0, none⟩)]) → cellAt h7 (sz h1) (0 + 0) = some (.int .i64 x24) ∧
  cellAt h7 (sz h1) (0 + 1) = some (.int .i64 x25) ∧ ∃ r30 : Nat, ∃ es31 : List MapEntry, ∃ c32 : Nat, ∃ q33 : Option (Nat × Value), index23 = some r30 ∧ bk h7 r30 = some (.map ⟨es31⟩ c32) ∧ lookM true [.int .i64, .int .i64] [.int .i64 x24, .int .i64 x25] es31 0 = some q33 ∧
  ∀ h8 : Hp, h8 = updO h7 r30 (.map ⟨(entM es31 c32 q33 (.agg #[.int .i64 x24, .int .i64 x25]) (.int .i64 0)).1⟩ (entM es31 c32 q33 (.agg #[.int .i64 x24, .int .i64 x25]) (.int .i64 0)).2) → ∃ r34 : Nat, ∃ es35 : List MapEntry, ∃ c36 : Nat, ∃ i37 : Nat, index23 = some r34 ∧
  bk h8 r34 = some (.map ⟨es35⟩ c36) ∧ es35.findIdx? (fun e => (e.born : Int) == ((entS es31 c32 q33 : Nat) : Int)) = some i37 ∧ ∀ h9 : Hp, h9 = updO h8 r34 (.map ⟨es35.modify i37 fun e => { e with val := .int .i64 (k : Int) }⟩ c36) →
  R (.tuple #[]) h9 := by
    intro k h6 M' c' L' nx' w6 f6 hM6 hI6 hk hcase hL' hnx'
    have bs : bk h6 (sz h) = some (blk 64 s.cells) := f6.at b13 (by simp; omega)
    have b6 : bk h6 (sz h1) = some (blk 121 [.int .i64 s.vm, .int .i64 s.pg]) := f6.at b3 (by simp; omega)
    obtain ⟨A, hA, hS⟩ := w6.hpl
    have hka : k < A.length := by rw [hS.len]; exact hk
    refine ⟨_, _, _, w6.row, _, w6.map, s.vm, (cellAt_of b6 0).trans rfl, s.pg, (cellAt_of b6 1).trans rfl, by omega, by omega, _, _, rfl, truly_rfl, _, _, hA, by rw [ptrs_len, Int.toNat_natCast]; omega, ?_⟩
    intro h7 e7
    rw [Int.toNat_natCast, Nat.mul_one, Nat.zero_add, writeAt_one, show (Value.pointer (some ⟨sz h, 0, none⟩)) = .pointer ((some (sz h)).map fun b => ⟨b, 0, none⟩) from rfl, ptrs_set] at e7
    have hA7 : bk h7 pl = some (blk 127 (ptrs (A.set k (some (sz h))))) := by rw [e7]; exact upd_same hA _ _
    have f7 : Fr [pl] h6 h7 := by rw [e7]; exact Fr.upd (by simp) _ _ _
    clear e7
    have b7 := f7.at b6 (by simp; omega)
    have hM7 := f7.at hM6 (by simpa using n3)
    refine ⟨(cellAt_of b7 0).trans rfl, (cellAt_of b7 1).trans rfl, mp, M'.map En.me, c', _, rfl, hM7, lookM_en s.vm s.pg M' 0, ?_⟩
    intro h8 e8
    have fin : ∀ (M2 : List En) (c2 j2 : Nat), bk h8 mp = some (.map ⟨M2.map En.me⟩ c2) → Fr [mp] h7 h8 → (M2.map En.me).findIdx? (fun e => (e.born : Int) == ((entS (M'.map En.me) c' (tlookE s.vm s.pg M' 0) : Nat) : Int)) = some j2 →
        (∃ m2, M2[j2]? = some m2 ∧ MI (M2.set j2 { m2 with ix := k }) c2 (L'.set k (some s))) → ∃ r34 : Nat, ∃ es35 : List MapEntry, ∃ c36 : Nat, ∃ i37 : Nat, some mp = some r34 ∧
          bk h8 r34 = some (.map ⟨es35⟩ c36) ∧ es35.findIdx? (fun e => (e.born : Int) == ((entS (M'.map En.me) c' (tlookE s.vm s.pg M' 0) : Nat) : Int)) = some i37 ∧ ∀ h9 : Hp, h9 = updO h8 r34 (.map ⟨es35.modify i37 fun e => { e with val := .int .i64 (k : Int) }⟩ c36) →
          R (.tuple #[]) h9 := by
      rintro M2 c2 j2 hM8 f8 hfind ⟨m2, hm2, hI2⟩
      refine ⟨mp, M2.map En.me, c2, j2, rfl, hM8, hfind, ?_⟩
      intro h9 e9
      rw [modify_me hm2] at e9
      have f9 : Fr [mp] h8 h9 := by rw [e9]; exact Fr.updO (by simp) _ _
      have f79 := f8.trans f9
      have f69 : Fr [pl, mp] h6 h9 := (f7.sub (by simp)).trans (f79.sub (by simp))
      have ff : Fr [q, pl, mp] h h9 := (f13.mono (by simp)).trans (f6.trans (f69.sub (by simp)))
      have h6q : bk h9 q = some (blk 126 [.slice (some ⟨pl, 0, none⟩) L'.length L'.length, .map (some mp), .int .i64 (nx' : Int)]) := f69.at w6.hq (by simp; exact ⟨fun e => n1 e.symm, fun e => n2 e.symm⟩)
      refine hR _ _ ⟨rfl, ?_, ff⟩
      rw [← hL', ← hnx']
      refine ⟨by rw [List.length_set]; exact h6q, ⟨_, f79.at hA7 (by simpa using fun e => n3 e.symm), ?_⟩, ⟨_, c2, by rw [e9]; exact updO_same hM8 _, hI2⟩, by simpa using w6.pos, by simpa using w6.lt⟩
      refine ⟨by simp [hS.len], fun i hi => ?_, fun i b hb => ?_⟩
      · rw [List.getElem?_set] at hi ⊢
        by_cases e : k = i
        · rw [if_pos e, if_pos hka] at hi; cases hi
        · rw [if_neg e] at hi ⊢; exact hS.no i hi
      · rw [List.getElem?_set] at hb
        by_cases e : k = i
        · rw [if_pos e, if_pos hka] at hb
          cases hb
          exact ⟨s, by rw [List.getElem?_set, if_pos e, if_pos hk], f69.at bs (by simp; omega), by simp; omega⟩
        · rw [if_neg e] at hb
          obtain ⟨t, g1, g2, g3⟩ := hS.has i b hb
          simp only [List.mem_cons, List.not_mem_nil, or_false, not_or] at g3
          exact ⟨t, by rw [List.getElem?_set, if_neg e]; exact g1, f69.at g2 (by simp; exact ⟨g3.2.1, g3.2.2⟩), by simp; exact g3⟩
    rcases hcase with ⟨j, m, g1, g2, g3, g4⟩ | ⟨g1, g2, g3⟩
    · rw [g1] at e8 fin ⊢
      obtain ⟨e2, e3⟩ := putE_again g2 g3 c' (.int .i64 (k : Int))
      rw [e2] at e8
      have gi := En.is_iff.1 g3
      obtain ⟨t, ht, a1, a2⟩ := hI6.to m (List.mem_of_getElem? g2)
      rw [g4] at ht
      refine fin M' c' j (by rw [e8]; exact updO_same hM7 _) (by rw [e8]; exact Fr.updO (by simp) _ _) (by rw [e3]; exact find_bn hI6.bn g2) ⟨m, g2, ?_⟩
      rw [set_same g2 g4]
      exact hI6.again ht (by rw [a1, gi.1]) (by rw [a2, gi.2])
    · rw [g1] at e8 fin ⊢
      have e2 : (M'.map En.me) ++ [{ key := .agg #[.int .i64 s.vm, .int .i64 s.pg], val := .int .i64 0, born := c' }] = (M' ++ [(⟨s.vm, s.pg, 0, c'⟩ : En)]).map En.me := by rw [List.map_append]; rfl
      have e3 : (entM (M'.map En.me) c' none (.agg #[.int .i64 s.vm, .int .i64 s.pg]) (.int .i64 0)) = ((M' ++ [(⟨s.vm, s.pg, 0, c'⟩ : En)]).map En.me, c' + 1) := by rw [← e2]; rfl
      rw [e3] at e8
      have hI7 := hI6.add g2 g3
      have hj : (M' ++ [(⟨s.vm, s.pg, 0, c'⟩ : En)])[M'.length]? = some ⟨s.vm, s.pg, 0, c'⟩ := by simp
      have hnd : ((M' ++ [(⟨s.vm, s.pg, 0, c'⟩ : En)]).map En.bn).Nodup := by
        have := hI7.bn
        rw [List.map_append] at this ⊢
        exact this
      refine fin _ _ M'.length (by rw [e8]; exact updO_same hM7 _) (by rw [e8]; exact Fr.updO (by simp) _ _) (find_bn hnd hj) ⟨_, hj, ?_⟩
      have e4 : (M' ++ [(⟨s.vm, s.pg, 0, c'⟩ : En)]).set M'.length ⟨s.vm, s.pg, k, c'⟩ = M' ++ [⟨s.vm, s.pg, k, c'⟩] := by simp
      rw [e4]; exact hI7
  rcases hlook with ⟨g1, g2, g3⟩ | ⟨k, j, m, t, g1, g2, g3, g4, g5, g6, g7⟩
  · -- the key is new
    refine ⟨none, ⟨M.map En.me, c, _, hM, lookM_en s.vm s.pg M 0, by rw [g2]; rfl⟩, 0, rfl, ?_⟩
    refine ⟨fun at' h6 => at' = (nx : Int) ∧ TS h6 q pl mp (L.set nx none) ((nx + 1) % L.length) ∧ Fr [q, pl, mp] h3 h6, ⟨fun _ => ?_, fun hn => absurd hn (by simp)⟩, ?_⟩
    · refine ⟨_, w3.next, _, w3.next, _, _, _, w3.row, by have := w.pos; omega, truly_rfl, _, _, w3.hq, by simp, ?_⟩
      intro h4 e4
      rw [mod_next w.lt w.pos.2] at e4
      have f4 : Fr [q] h3 h4 := by rw [e4]; exact Fr.upd (by simp) _ _ _
      have k4 : bk h4 q = some (blk 126 [.slice (some ⟨pl, 0, none⟩) L.length L.length, .map (some mp), .int .i64 (((nx + 1) % L.length : Nat) : Int)]) := by rw [e4]; exact upd_same w3.hq _ _
      obtain ⟨A, hA, hS⟩ := w3.hpl
      have w4 : TS h4 q pl mp L ((nx + 1) % L.length) := ⟨k4, ⟨A, f4.at hA (by simpa using n1), hS.fr f4 (by simp)⟩, ⟨M, c, f4.at hM (by simpa using n2), hI⟩, w.pos, Nat.mod_lt _ (by have := w.pos; omega)⟩
      refine (Tfree_spec w4 w.lt).mono ?_
      rintro v h5 ⟨rfl, w5, f5⟩
      exact ⟨rfl, rfl, w5, (f4.sub (by simp)).trans (f5.sub (by simp))⟩
    · rintro at' h6 ⟨rfl, w6, f6⟩
      obtain ⟨M6, c6, hM6, hI6⟩ := w6.hmp
      have hfl : tfillL L nx s = (L.set nx (some s), (nx + 1) % L.length) := by unfold tfillL; rw [g1]
      have hno : ∀ (i : Nat) (u : S), (L.set nx none)[i]? = some (some u) → u.is s.vm s.pg = false := by
        intro i u hu
        rw [List.getElem?_set] at hu
        by_cases e : nx = i
        · rw [if_pos e] at hu; split at hu <;> cases hu
        · rw [if_neg e] at hu; exact atK_none g1 i u hu
      refine rest nx h6 M6 c6 _ _ w6 f6 hM6 hI6 (by rw [List.length_set]; exact w.lt) (.inr ?_) (by rw [hfl, List.set_set]) (by rw [hfl])
      rcases hI6.look s.vm s.pg with ⟨_, a2, a3⟩ | ⟨k2, _, _, t2, _, a2, a3, _⟩
      · exact ⟨a2, by rw [List.getElem?_set, if_pos rfl, if_pos w.lt], a3⟩
      · rw [hno k2 t2 a2] at a3; cases a3
  · refine ⟨some (.int .i64 (k : Int)), ⟨M.map En.me, c, _, hM, lookM_en s.vm s.pg M 0, by rw [g4]; rfl⟩, (k : Int), rfl, ?_⟩
    refine ⟨fun at' h6 => at' = (k : Int) ∧ h6 = h3, ⟨fun hn => absurd hn (by simp), fun _ => ⟨rfl, rfl⟩⟩, ?_⟩
    rintro at' h6 ⟨rfl, rfl⟩
    have hfl : tfillL L nx s = (L.set k (some s), nx) := by unfold tfillL; rw [g1]
    have hk : k < L.length := (List.getElem?_eq_some_iff.1 g2).1
    exact rest k h6 M c L nx w3 (Fr.refl _ _) hM hI hk (.inl ⟨j, m, g4, g5, g6, g7⟩) (by rw [hfl]) (by rw [hfl])


/-! ## looking up -/
def noS : S := ⟨0, 0, 0, false, false⟩
theorem S.ret {h : Hp} {b : Nat} {T : TypeId} {l0 : List Value} (hb : bk h b = some (blk T l0)) (hl : l0.length = 5) (x : S) {K : Int → Int → Int → Bool → Bool → Hp → Prop} (hK : K x.vm x.pg x.fr x.wr x.ex (upd h b T x.cells)) :
    truly true ∧ ∃ T1 : TypeId, ∃ l : List Value, bk h b = some (blk T1 l) ∧ 0 + 5 ≤ l.length ∧ ∀ h4 : Hp, h4 = upd h b T1 (writeAt l 0 [.int .i64 x.vm, .int .i64 x.pg, .int .i64 x.fr, .bool x.wr, .bool x.ex]) → ∃ a1 : Int, cellAt h4 b (0 + 0) = some (.int .i64 a1) ∧ ∃ a2 : Int, cellAt h4 b (0 + 1) = some (.int .i64 a2) ∧ ∃ a3 : Int, cellAt h4 b (0 + 2) = some (.int .i64 a3) ∧ ∃ a4 : Bool, cellAt h4 b (0 + 3) = some (.bool a4) ∧ ∃ a5 : Bool, cellAt h4 b (0 + 4) = some (.bool a5) ∧ K a1 a2 a3 a4 a5 h4 := by
  refine ⟨rfl, T, l0, hb, by omega, ?_⟩
  rintro h4 rfl
  have hw : writeAt l0 0 [.int .i64 x.vm, .int .i64 x.pg, .int .i64 x.fr, .bool x.wr, .bool x.ex] = x.cells := by
    rw [writeAt_eq _ _ _ (by rw [hl]; exact Nat.le_refl _)]
    have : l0.drop (0 + 5) = [] := List.drop_eq_nil_of_le (by omega)
    simp only [List.take_zero, List.nil_append, List.length_cons, List.length_nil, Nat.zero_add, Nat.reduceAdd] at this ⊢
    rw [this, List.append_nil]; rfl
  rw [hw]
  exact ⟨_, (cell_upd hb _ _ _).trans rfl, _, (cell_upd hb _ _ _).trans rfl, _, (cell_upd hb _ _ _).trans rfl, _, (cell_upd hb _ _ _).trans rfl, _, (cell_upd hb _ _ _).trans rfl, hK⟩
/-- What is found of a number and a page. -/
def findL (L : List (Option S)) (v p : Int) : Option S := match atK L v p with
  | some k => (L[k]?).getD none
  | none => none
theorem TFind_spec {h : Hp} {q pl mp : Nat} {L : List (Option S)} {nx : Nat} (w : TS h q pl mp L nx) (v p : Int) :
    CallsH Try.prog 34 [.pointer (some ⟨q, 0, none⟩), .int .i64 v, .int .i64 p] h fun r h' => r = .tuple #[.agg ⟨((findL L v p).getD noS).cells⟩, .bool (findL L v p).isSome] ∧ Fr [] h h' := by
  refine calls_k fun R hR => ?_
  apply tlb_Tlb_Find.calls
  unfold tlb_Tlb_Find.P
  intro h1 e1
  have b1 : bk h1 (sz h) = some (blk 64 noS.cells) := by rw [e1]; exact new_at _ _
  have f1 : Fr [] h h1 := by rw [e1]; exact Fr.new _ _ _
  clear e1
  have w1 := w.fr0 f1
  obtain ⟨M, c, hM, hI⟩ := w1.hmp
  have ff : ∀ T l, Fr [] h (upd h1 (sz h) T l) := fun T l => f1.later (Fr.upd (F := [sz h]) (by simp) _ _ _) (by simp)
  refine ⟨_, w1.map, ?_⟩
  rcases hI.look v p with ⟨g1, g2, g3⟩ | ⟨k, j, m, t, g1, g2, g3, g4, g5, g6, g7⟩
  · have hf : findL L v p = none := by unfold findL; rw [g1]
    rw [hf] at hR
    refine ⟨none, ⟨M.map En.me, c, _, hM, lookM_en v p M 0, by rw [g2]; rfl⟩, 0, rfl, fun _ => ?_, fun hn => absurd hn (by simp)⟩
    exact S.ret b1 rfl noS (hR _ _ ⟨rfl, ff _ _⟩)
  · have hf : findL L v p = some t := by unfold findL; rw [g1]; simp only [g2, Option.getD_some]
    rw [hf] at hR
    have hk : k < L.length := (List.getElem?_eq_some_iff.1 g2).1
    obtain ⟨A, hA, hS⟩ := w1.hpl
    obtain ⟨a, ha⟩ : ∃ a, A[k]? = some a := ⟨_, List.getElem?_eq_getElem (by rw [hS.len]; exact hk)⟩
    cases a with
    | none => have := hS.no k ha; rw [g2] at this; cases this
    | some b =>
      obtain ⟨t', a1, a2, _⟩ := hS.has k b ha
      rw [g2] at a1; cases a1
      refine ⟨some (.int .i64 (k : Int)), ⟨M.map En.me, c, _, hM, lookM_en v p M 0, by rw [g4]; rfl⟩, (k : Int), rfl, fun hn => absurd hn (by simp), fun _ => ?_⟩
      refine ⟨_, _, _, w1.row, by omega, by omega, _, _, rfl, _, ?_, b, 0, rfl, t.vm, (cellAt_of a2 _).trans rfl, t.pg, (cellAt_of a2 _).trans rfl, t.fr, (cellAt_of a2 _).trans rfl, t.wr, (cellAt_of a2 _).trans rfl, t.ex, (cellAt_of a2 _).trans rfl, ?_⟩
      · rw [Int.toNat_natCast, Nat.mul_one, Nat.zero_add, cellAt_of hA]; exact ptrs_at ha
      · exact S.ret b1 rfl t (hR _ _ ⟨rfl, ff _ _⟩)

/-! ## dropping -/
theorem gone_len (f : S → Bool) (L : List (Option S)) (k : Nat) : ((L.take k).map (gone f) ++ L.drop k).length = L.length := by simp; omega
theorem gone_at {f : S → Bool} {L : List (Option S)} {k : Nat} (hk : k < L.length) : ((L.take k).map (gone f) ++ L.drop k)[k]? = L[k]? := by
  rw [List.getElem?_append_right (by simp; omega)]
  simp
  congr 1; omega
theorem gone_step {f : S → Bool} {L : List (Option S)} {k : Nat} {o : Option S} (hk : L[k]? = some o) : ((L.take k).map (gone f) ++ L.drop k).set k (gone f o) = (L.take (k + 1)).map (gone f) ++ L.drop (k + 1) := by
  have hkl := (List.getElem?_eq_some_iff.1 hk).1
  rw [List.set_append_right _ _ (by simp; omega), List.take_add_one, hk, List.map_append]
  simp [Nat.min_eq_left (Nat.le_of_lt hkl)]
  rw [List.drop_eq_getElem_cons hkl]; rfl
theorem gone_keep {f : S → Bool} {L : List (Option S)} {k : Nat} {o : Option S} (hk : L[k]? = some o) (ho : gone f o = o) : (L.take k).map (gone f) ++ L.drop k = (L.take (k + 1)).map (gone f) ++ L.drop (k + 1) := by
  rw [← gone_step hk, ho]
  apply List.ext_getElem?
  intro i
  rw [List.getElem?_set]
  by_cases e : k = i
  · have hkl := (List.getElem?_eq_some_iff.1 hk).1
    subst e
    rw [if_pos rfl, if_pos (by rw [gone_len]; exact hkl), gone_at hkl, hk]
  · rw [if_neg e]
theorem hit_step {f : S → Bool} {L : List (Option S)} {k : Nat} {o : Option S} (hk : L[k]? = some o) : dropN f (L.take (k + 1)) = dropN f (L.take k) + if hit f o then 1 else 0 := by
  unfold dropN
  rw [List.take_add_one, hk, List.countP_append]
  simp [List.countP_cons, List.countP_nil]

/-- The round of a drop, whatever tells which ones go. -/
theorem drop_loop {h : Hp} {q pl mp : Nat} {L : List (Option S)} {nx : Nat} (w : TS h q pl mp L nx) (f : S → Bool) {C : Option Addr → Hp → (Value → Hp → Prop) → Prop}
    (hC : ∀ (b : Nat) (s : S) (h1 : Hp) (K : Value → Hp → Prop), bk h1 b = some (blk 64 s.cells) → Fr [pl, mp] h h1 → K (.bool (f s)) h1 → C (some ⟨b, 0, none⟩) h1 K) {R : Value → Hp → Prop}
    (hR : ∀ h', TS h' q pl mp (dropL f L) nx → Fr [pl, mp] h h' → R (.int .i64 (dropN f L : Nat)) h') :
    ∃ placesa1 : Option Addr, ∃ placesl2 : Nat, ∃ placesc3 : Nat, cellAt h q 0 = some (.slice placesa1 placesl2 placesc3) ∧ ∃ I4 : Int → Int → Hp → Prop, ∃ m5 : Int → Int → Hp → Nat, I4 0 0 h ∧ ∀ n6 : Int, ∀ x7 : Int, ∀ h1 : Hp, I4 n6 x7 h1 →
      ((decide (x7 < ((placesl2 : Nat) : Int))) = true → ((0 : Int) ≤ x7 ∧ x7 < ((placesl2 : Nat) : Int) ∧ ∃ b8 : Nat, ∃ o9 : Nat, (placesa1 : Option Addr) = some ⟨b8, o9, none⟩ ∧ ∃ x10 : Option Addr, cellAt h1 b8 (o9 + x7.toNat * 1) = some (.pointer x10) ∧
      ((notIf false x10.isNone) = true → (C x10 h1 fun r11 h2 => ∃ Drop12 : Bool, r11 = .bool Drop12 ∧
      ((Drop12) = true → (CallsH Try.prog 81 [.pointer (some ⟨q, 0, none⟩), .int .i64 x7] h2 fun r13 h3 => r13 = .tuple #[] ∧ I4 (IntKind.wrap .i64 (n6 + 1)) (IntKind.wrap .i64 (x7 + 1)) h3 ∧ m5 (IntKind.wrap .i64 (n6 + 1)) (IntKind.wrap .i64 (x7 + 1)) h3 < m5 n6 x7 h1)) ∧
      ((Drop12) = false → (I4 n6 (IntKind.wrap .i64 (x7 + 1)) h2 ∧ m5 n6 (IntKind.wrap .i64 (x7 + 1)) h2 < m5 n6 x7 h1)))) ∧ ((notIf false x10.isNone) = false → (I4 n6 (IntKind.wrap .i64 (x7 + 1)) h1 ∧ m5 n6 (IntKind.wrap .i64 (x7 + 1)) h1 < m5 n6 x7 h1)))) ∧
      ((decide (x7 < ((placesl2 : Nat) : Int))) = false → (R (.int .i64 n6) h1)) := by
  have hpos := w.pos
  refine ⟨_, _, _, w.row, ?_⟩
  refine ⟨fun n x h1 => ∃ k : Nat, x = k ∧ k ≤ L.length ∧ n = (dropN f (L.take k) : Nat) ∧ TS h1 q pl mp ((L.take k).map (gone f) ++ L.drop k) nx ∧ Fr [pl, mp] h h1, fun _ x _ => L.length - x.toNat, ⟨0, rfl, by omega, by simp [dropN], by simpa using w, Fr.refl _ _⟩, ?_⟩
  rintro n x h1 ⟨k, rfl, hk, rfl, w1, f1⟩
  refine ⟨fun hc => ?_, fun hc => ?_⟩
  · have hk : k < L.length := by simpa using hc
    obtain ⟨o, ho⟩ : ∃ o, L[k]? = some o := ⟨_, List.getElem?_eq_getElem hk⟩
    obtain ⟨A, hA, hS⟩ := w1.hpl
    have hlen := gone_len f L k
    have hka : k < A.length := by rw [hS.len, hlen]; exact hk
    obtain ⟨a, ha⟩ : ∃ a, A[k]? = some a := ⟨_, List.getElem?_eq_getElem hka⟩
    have hcnt : dropN f (L.take k) ≤ k := by
      have := List.countP_le_length (p := hit f) (l := L.take k)
      rw [List.length_take] at this; unfold dropN; omega
    rw [wrapT hk (by omega)]
    have hw : IntKind.wrap .i64 ((dropN f (L.take k) : Int) + 1) = ((dropN f (L.take k) + 1 : Nat) : Int) := by rw [wrap_i64 (by omega) (by omega)]; omega
    refine ⟨by omega, by omega, _, _, rfl, _, by rw [Int.toNat_natCast, Nat.mul_one, Nat.zero_add, cellAt_of hA]; exact ptrs_at ha, fun hn => ?_, fun hn => ?_⟩
    · cases a with
      | none => simp [notIf] at hn
      | some b =>
        obtain ⟨s, hs, hb, _⟩ := hS.has k b ha
        rw [gone_at hk, ho] at hs
        cases hs
        refine hC b s h1 _ hb f1 ⟨_, rfl, fun hf => ?_, fun hf => ?_⟩
        · refine (Tfree_spec w1 (by rw [hlen]; exact hk)).mono ?_
          rintro v h3 ⟨rfl, w3, f3⟩
          have e : none = gone f (some s) := by simp [gone, hf]
          rw [e, gone_step ho] at w3
          rw [hw]
          exact ⟨rfl, ⟨k + 1, rfl, by omega, by rw [hit_step ho]; simp [hit, hf], w3, f1.trans f3⟩, decT hk⟩
        · exact ⟨⟨k + 1, rfl, by omega, by rw [hit_step ho]; simp [hit, hf], by rw [← gone_keep ho (by simp [gone, hf])]; exact w1, f1⟩, decT hk⟩
    · cases a with
      | some b => simp [notIf] at hn
      | none =>
        have hl := hS.no k ha
        rw [gone_at hk, ho] at hl
        cases hl
        exact ⟨⟨k + 1, rfl, by omega, by rw [hit_step ho]; simp [hit], by rw [← gone_keep ho (by simp [gone])]; exact w1, f1⟩, decT hk⟩
  · have hk : k = L.length := by have : ¬ k < L.length := by simpa using hc
                                 omega
    subst hk
    rw [List.take_length, List.drop_length, List.append_nil] at w1
    rw [List.take_length]
    exact hR _ w1 f1
/-- All that are kept, in a new row. -/
theorem TDropAll_spec {h : Hp} {q pl mp : Nat} {L : List (Option S)} {nx : Nat} (w : TS h q pl mp L nx) (v : Int) :
    CallsH Try.prog 91 [.pointer (some ⟨q, 0, none⟩), .int .i64 v] h fun r h' => r = .int .i64 (dropN (fun s => s.vm == v) L : Nat) ∧ TS h' q pl mp (dropL (fun s => s.vm == v) L) nx ∧ Fr [pl, mp] h h' := by
  refine calls_k fun R hR => ?_
  apply tlb_Tlb_DropAll.calls
  unfold tlb_Tlb_DropAll.P
  intro h1 e1
  have b1 : bk h1 (sz h) = some (blk 3 [.int .i64 v]) := by rw [e1]; exact new_at _ _
  have f1 : Fr [] h h1 := by rw [e1]; exact Fr.new _ _ _
  clear e1
  have l1 := w.lpl
  have l2 := w.lmp
  apply tlb_Tlb_drop_113.calls
  unfold tlb_Tlb_drop_113.P
  refine drop_loop (C := fun a hh K => CallsH Try.prog 113 [.pointer a, .pointer (some ⟨sz h, 0, none⟩)] hh K) (R := fun r1 h2 => ∃ drop2 : Int, r1 = .int .i64 drop2 ∧ R (.int .i64 drop2) h2) (w.fr0 f1) (fun s => s.vm == v) (fun b s h2 K hb f2 hK => ?_) (fun h' w' f' => ⟨_, rfl, hR _ _ ⟨rfl, w', (f1.mono (by simp)).trans f'⟩⟩)
  apply tlb_Tlb_DropAll_1.calls
  exact ⟨_, (cellAt_of hb 0).trans rfl, _, (cellAt_of (f2.at b1 (by simp; omega)) 0).trans rfl, hK⟩

end Go.Proofs.Ytmldiibfmhkgjaa
