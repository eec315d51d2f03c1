import Derived.Test.YtmldiibfmhkgjaaSe
namespace Go.Proofs.Ytmldiibfmhkgjaa
open Go Go.Wd
set_option linter.unusedVariables false
set_option linter.unusedSimpArgs false
set_option linter.unnecessarySimpa false

/-! ## how many tables -/
def nTA (A : Ab) : Nat → Nat
  | 0 => 0
  | k + 1 => nTA A k + (if (A k).isT then 1 else 0)
def nT (A : Ab) : Nat := nTA A 64
theorem nTA_fset (A : Ab) (i : Nat) (a : Fst) : ∀ k, (k ≤ i → nTA (fset A i a) k = nTA A k) ∧ (i < k → nTA (fset A i a) k + (if (A i).isT then 1 else 0) = nTA A k + (if a.isT then 1 else 0))
  | 0 => ⟨fun _ => rfl, fun h => by omega⟩
  | k + 1 => by
    obtain ⟨h1, h2⟩ := nTA_fset A i a k
    refine ⟨fun h => ?_, fun h => ?_⟩
    · simp only [nTA]
      rw [h1 (by omega), fset_ne (by omega)]
    · simp only [nTA]
      by_cases e : k = i
      · subst e
        rw [h1 (Nat.le_refl _), fset_same]
        omega
      · rw [fset_ne e]
        have := h2 (by omega)
        omega
theorem nT_fset (A : Ab) {i : Nat} (hi : i < 64) (a : Fst) : nT (fset A i a) + (if (A i).isT then 1 else 0) = nT A + (if a.isT then 1 else 0) := (nTA_fset A i a 64).2 hi
theorem nTA_le (A : Ab) : ∀ k, nTA A k ≤ k
  | 0 => Nat.le_refl _
  | k + 1 => by
    have := nTA_le A k
    simp only [nTA]
    split <;> omega
theorem fset_id {α : Type} (f : Nat → α) (i : Nat) : fset f i (f i) = f := by
  funext j
  unfold fset
  split
  · rename_i h; rw [h]
  · rfl
theorem fset_twice {α : Type} (f : Nat → α) (i : Nat) (a b : α) : fset (fset f i a) i b = fset f i b := by
  funext j
  unfold fset
  split <;> rfl
theorem count_take {L : List Int} {t : Nat} (ht : L[t]? = some 0) : (L.set t 1).count 1 = L.count 1 + 1 ∧ (L.set t 1).count 0 + 1 = L.count 0 := by
  have h1 := count_set ht 1 1
  have h0 := count_set ht 1 0
  simp at h1 h0
  omega
theorem count_give {L : List Int} {t : Nat} (ht : L[t]? = some 1) : (L.set t 0).count 1 + 1 = L.count 1 ∧ (L.set t 0).count 0 = L.count 0 + 1 := by
  have h1 := count_set ht 0 1
  have h0 := count_set ht 0 0
  simp at h1 h0
  omega

theorem change_lg (s : Sp) (a : Nat) (e : Ent) : (s.change a e).lg.length ≤ s.lg.length + 3 := by
  have h1 := brk_len s a
  unfold Sp.change
  split
  · omega
  · unfold Sp.mk'
    split
    · show ((s.brk a).lg ++ [_]).length ≤ _
      rw [List.length_append]; simp; omega
    · omega

/-! ## what a call comes to -/
def tabOf : Fst → Nat → Option Pg
  | .no => fun _ => none
  | .bl f w x => fun k => some ⟨f + k, w, x⟩
  | .tb g => g
structure Done (s0 : Sp) (A : Ab) (T : Nat → Nat) (s' : Sp) (A' : Ab) : Prop where
  inv : ∃ T', Inv s' A' T' ∧ ∀ i, i < 64 → (A' i).isT = true → Mine s0 A T (T' i)
  ne : NE A'
  tr : ∃ tk s1, Tr s0 A T tk s1 ∧ (s' = s1 ∨ (tk = none ∧ ∃ i, i < 64 ∧ (A i).isT = true ∧ s' = { s1 with L := s1.L.set (T i) 0 }))
  c1 : s'.L.count 1 + nT A = s0.L.count 1 + nT A'
  c0 : s'.L.count 0 + nT A' = s0.L.count 0 + nT A
  lgl : s'.lg.length ≤ 5000
theorem Done.same {s0 : Sp} {A : Ab} {T : Nat → Nat} (h : s0.lg = []) (w : Inv s0 A T) (ne : NE A) : Done s0 A T s0 A := ⟨⟨T, w, fun i hi hT => .inr (.inl ⟨i, hi, hT, rfl⟩)⟩, ne, ⟨none, s0, Tr.start h, .inl rfl⟩, rfl, rfl, by rw [h]; decide⟩
/-- The table of a first index stands. -/
structure Mid (s0 : Sp) (A : Ab) (T : Nat → Nat) (i : Nat) (s1 : Sp) (T1 : Nat → Nat) : Prop where
  tr : (Tr s0 A T none s1 ∧ (A i).isT = true ∧ T1 i = T i ∧ s1 = s0) ∨ ∃ t, Tr s0 A T (some t) s1 ∧ (A i).isT = false
  inv : Inv s1 (fset A i (.tb (tabOf (A i)))) T1
  mine : Mine s0 A T (T1 i)
  oth : ∀ j, j ≠ i → T1 j = T j
  lg : s1.lg.length ≤ 1000
section
variable {s0 s1 : Sp} {A : Ab} {T T1 : Nat → Nat} {i : Nat}
theorem Inv.zv (w : Inv s1 A T) {i : Nat} (hi : i < 64) : wA s1.B s1.root i = 0 ∨ (dec (wA s1.B s1.root i)).v = true := by rw [w.fw i hi]; exact encW_v _
theorem Inv.zs (w : Inv s1 A T) {i : Nat} (hi : i < 64) {g : Nat → Option Pg} (hg : A i = .tb g) {k : Nat} (hk : k < 64) : wA s1.B (T i) k = 0 ∨ (dec (wA s1.B (T i) k)).v = true := by rw [w.sw i hi g hg k hk]; exact encW_v _
/-- A page's entry is changed, in a table. -/
theorem Inv.page (w : Inv s1 A T) (hi : i < 64) {g : Nat → Option Pg} (hg : A i = .tb g) {k : Nat} (hk : k < 64) (o : Option Pg) (ho : ∀ p, o = some p → p.f < s1.n) :
    Inv (s1.change (T i * 256 + 4 * k) (pgE o)) (fset A i (.tb (fset g k o))) T := by
  have hT : (A i).isT = true := by rw [hg]; rfl
  obtain ⟨t1, t2⟩ := w.to i hi hT
  have htn := w.tlt hi hT
  obtain ⟨f1, f2, f3, f4⟩ := change_fields s1 (T i * 256 + 4 * k) (pgE o)
  have hw := fun {u j : Nat} (hj : j < 64) => change_wA w.bl htn hk (pgE o) (w.zs hi hg hk) (u := u) hj
  have := w.first hi (.tb (fset g k o)) (T i) (s' := s1.change (T i * 256 + 4 * k) (pgE o)) f1 f3 f4 (by rw [f2])
    (fun j hj => by
      rw [hw hj, if_neg (fun h => t2 h.1.symm)]
      by_cases e : j = i
      · rw [if_pos e, e, w.fw i hi, hg]; rfl
      · rw [if_neg e])
    (fun j hj hji hjT l hl => by rw [hw hl, if_neg (fun h => w.tt j hj i hi hji hjT hT h.1)])
    (fun g' hg' l hl => by
      cases hg'
      rw [hw hl]
      by_cases e : l = k
      · rw [if_pos ⟨rfl, e⟩, e, fset_same]
      · rw [if_neg (fun h => e h.2), fset_ne e]; exact w.sw i hi g hg l hl)
    (fun f x y h => by cases h)
    (fun g' hg' l hl p hp => by
      cases hg'
      by_cases e : l = k
      · rw [e, fset_same] at hp; exact ho p hp
      · rw [fset_ne e] at hp; exact w.pb i hi g hg l hl p hp)
    (by rw [f2]; exact w.ro) (fun j hj _ hjT => by rw [f2]; exact (w.to j hj hjT).1)
    (fun _ => ⟨by rw [f2]; exact t1, t2, fun j hj hji hjT => w.tt j hj i hi hji hjT hT⟩)
  rwa [fset_id T i] at this
theorem Mid.frames (m : Mid s0 A T i s1 T1) (hi : i < 64) {a : Fst} : ∀ j, j < 64 → (fset A i a j).isT = true → Mine s0 A T (T1 j) := by
  intro j hj hT
  by_cases e : j = i
  · rw [e]; exact m.mine
  · rw [fset_ne e] at hT
    rw [m.oth j e]
    exact .inr (.inl ⟨j, hj, hT, rfl⟩)
/-- A page's entry is changed, in the table that stands. -/
theorem Mid.page (m : Mid s0 A T i s1 T1) (w0 : Inv s0 A T) (hi : i < 64) {k : Nat} (hk : k < 64) (o : Option Pg) (ho : ∀ p, o = some p → p.f < s0.n) :
    Inv (s1.change (T1 i * 256 + 4 * k) (pgE o)) (fset A i (.tb (fset (tabOf (A i)) k o))) T1 ∧
    ((Tr s0 A T none (s1.change (T1 i * 256 + 4 * k) (pgE o)) ∧ (A i).isT = true ∧ T1 i = T i) ∨ ∃ t, Tr s0 A T (some t) (s1.change (T1 i * 256 + 4 * k) (pgE o)) ∧ (A i).isT = false) := by
  have hn : s1.n = s0.n := by rcases m.tr with ⟨h, _⟩ | ⟨t, h, _⟩ <;> exact h.n
  have hT1 : ((fset A i (.tb (tabOf (A i)))) i).isT = true := by rw [fset_same]; rfl
  have htn : T1 i < s0.n := by rw [← hn]; exact m.inv.tlt hi hT1
  have hz := m.inv.zs hi (fset_same _ _ _) hk
  refine ⟨?_, ?_⟩
  · have := m.inv.page hi (fset_same _ _ _) hk o (by rw [hn]; exact ho)
    rwa [fset_twice] at this
  · rcases m.tr with ⟨h, a, b, _⟩ | ⟨t, h, a⟩
    · exact .inl ⟨h.change w0.bl htn hk m.mine _ hz, a, b⟩
    · exact .inr ⟨t, h.change w0.bl htn hk m.mine _ hz, a⟩
/-- A call that changed a page, and left the table. -/
theorem Mid.done (m : Mid s0 A T i s1 T1) (w0 : Inv s0 A T) (ne : NE A) (hi : i < 64) {k : Nat} (hk : k < 64) (o : Option Pg) (ho : ∀ p, o = some p → p.f < s0.n)
    (hne : ∃ l, l < 64 ∧ fset (tabOf (A i)) k o l ≠ none) : Done s0 A T (s1.change (T1 i * 256 + 4 * k) (pgE o)) (fset A i (.tb (fset (tabOf (A i)) k o))) := by
  obtain ⟨h1, h2⟩ := m.page w0 hi hk o ho
  have hc := nT_fset A hi (.tb (fset (tabOf (A i)) k o))
  have hb : (Fst.tb (fset (tabOf (A i)) k o)).isT = true := rfl
  rw [hb, if_pos rfl] at hc
  refine ⟨⟨T1, h1, m.frames hi⟩, fun j hj g hg => ?_, ?_, ?_, ?_, by have := change_lg s1 (T1 i * 256 + 4 * k) (pgE o); have := m.lg; omega⟩
  · by_cases e : j = i
    · rw [e, fset_same] at hg; cases hg; exact hne
    · rw [fset_ne e] at hg; exact ne j hj g hg
  · rcases h2 with ⟨h, _⟩ | ⟨t, h, _⟩
    · exact ⟨_, _, h, .inl rfl⟩
    · exact ⟨_, _, h, .inl rfl⟩
  · rcases h2 with ⟨h, a, _⟩ | ⟨t, h, a⟩
    · rw [a, if_pos rfl] at hc
      rw [h.L]; show s0.L.count 1 + _ = _; omega
    · rw [a] at hc
      have := count_take (h.t0 t rfl)
      rw [h.L]; show (s0.L.set t 1).count 1 + _ = _
      simp at hc
      omega
  · rcases h2 with ⟨h, a, _⟩ | ⟨t, h, a⟩
    · rw [a, if_pos rfl] at hc
      rw [h.L]; show s0.L.count 0 + _ = _; omega
    · rw [a] at hc
      have := count_take (h.t0 t rfl)
      rw [h.L]; show (s0.L.set t 1).count 0 + _ = _
      simp at hc
      omega
end

/-! ## small functions -/
theorem page_spec {h : Hp} (p : Int) : CallsH Try.prog 51 [.int .i64 p] h fun v h' => v = .bool (isIn 4096 p) ∧ h' = h := by
  apply stage_page.calls
  unfold stage_page.P
  refine ⟨fun c => ⟨?_, rfl⟩, fun c => ⟨?_, rfl⟩⟩
  · have c : 0 ≤ p := by simpa using c
    simp [isIn, c]
  · have c : ¬ 0 ≤ p := by simpa using c
    simp [isIn, c]
theorem index_spec {h : Hp} (p : Int) : CallsH Try.prog 73 [.int .i64 p] h fun v h' => v = .bool (isIn 64 p) ∧ h' = h := by
  apply stage_index.calls
  unfold stage_index.P
  refine ⟨fun c => ⟨?_, rfl⟩, fun c => ⟨?_, rfl⟩⟩
  · have c : 0 ≤ p := by simpa using c
    simp [isIn, c]
  · have c : ¬ 0 ≤ p := by simpa using c
    simp [isIn, c]
theorem frame_spec {h : Hp} {y : Lay} {s : Sp} (w : SP h y s) (p : Int) : CallsH Try.prog 52 [.pointer (some ⟨y.q, 0, none⟩), .int .i64 p] h fun v h' => v = .bool (isIn s.n p) ∧ h' = h := by
  apply stage_Space_frame.calls
  unfold stage_Space_frame.P
  refine ⟨fun c => ?_, fun c => ⟨?_, rfl⟩⟩
  · refine ⟨_, w.mem, ?_⟩
    refine (Frames_spec w.g.m).mono ?_
    rintro v h1 ⟨rfl, hh⟩
    refine ⟨_, rfl, ?_, hh⟩
    have c : 0 ≤ p := by simpa using c
    simp [isIn, c]
  · have c : ¬ 0 ≤ p := by simpa using c
    simp [isIn, c]
/-- A value that is put into a variable of its own. -/
theorem put_ent {h : Hp} (e : Ent) {K : Hp → Prop} (hK : ∀ h5, bk h5 (sz h) = some (blk 54 e.cells) → Fr [] h h5 → sz h5 = sz h + 1 → K h5) :
    ∀ h4 : Hp, h4 = new h (blk 54 [.bool false, .bool false, .bool false, .bool false, .int .i64 0]) → truly true ∧ ∃ T1 : TypeId, ∃ l : List Value, bk h4 (sz h) = some (blk T1 l) ∧ 0 + 5 ≤ l.length ∧ ∀ h5 : Hp, h5 = upd h4 (sz h) T1 (writeAt l 0 [.bool e.v, .bool e.w, .bool e.x, .bool e.b, .int .i64 e.f]) → K h5 :=
  put_local rfl (by decide) hK
end Go.Proofs.Ytmldiibfmhkgjaa
