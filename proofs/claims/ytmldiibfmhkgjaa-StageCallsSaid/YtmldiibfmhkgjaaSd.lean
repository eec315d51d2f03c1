import Derived.Test.YtmldiibfmhkgjaaSc
namespace Go.Proofs.Ytmldiibfmhkgjaa
open Go Go.Wd
set_option linter.unusedVariables false
set_option linter.unusedSimpArgs false
set_option linter.unnecessarySimpa false

/-! ## a space in plain terms -/
structure Pg where
  f : Nat
  w : Bool
  x : Bool
  deriving DecidableEq
inductive Fst where
  | no
  | bl (f : Nat) (w x : Bool)
  | tb (g : Nat → Option Pg)
abbrev Ab := Nat → Fst
def fset {α : Type} (f : Nat → α) (i : Nat) (a : α) : Nat → α := fun j => if j = i then a else f j
theorem fset_same {α : Type} (f : Nat → α) (i : Nat) (a : α) : fset f i a i = a := if_pos rfl
theorem fset_ne {α : Type} {f : Nat → α} {i j : Nat} {a : α} (h : j ≠ i) : fset f i a j = f j := if_neg h
def Fst.isT : Fst → Bool
  | .tb _ => true
  | _ => false
theorem isT_tb {a : Fst} (h : a.isT = true) : ∃ g, a = .tb g := by
  cases a with
  | tb g => exact ⟨g, rfl⟩
  | no => cases h
  | bl f w x => cases h
def pgE : Option Pg → Ent
  | none => noEnt
  | some p => ⟨true, p.w, p.x, false, (p.f : Int)⟩
def fsE : Fst → Nat → Ent
  | .no, _ => noEnt
  | .bl f w x, _ => ⟨true, w, x, true, (f : Int)⟩
  | .tb _, t => ⟨true, false, false, false, (t : Int)⟩
/-- What a space is, in memory. -/
structure Inv (s : Sp) (A : Ab) (T : Nat → Nat) : Prop where
  hn : 1 ≤ s.n ∧ s.n ≤ 1024
  bl : s.B.length = s.n * 256
  ll : s.L.length = s.n
  fw : ∀ i, i < 64 → wA s.B s.root i = encW (fsE (A i) (T i))
  sw : ∀ i, i < 64 → ∀ g, A i = .tb g → ∀ k, k < 64 → wA s.B (T i) k = encW (pgE (g k))
  bb : ∀ i, i < 64 → ∀ f w x, A i = .bl f w x → f % 64 = 0 ∧ f + 64 ≤ s.n
  pb : ∀ i, i < 64 → ∀ g, A i = .tb g → ∀ k, k < 64 → ∀ p, g k = some p → p.f < s.n
  ro : s.L[s.root]? = some 1
  to : ∀ i, i < 64 → (A i).isT = true → s.L[T i]? = some 1 ∧ T i ≠ s.root
  tt : ∀ i, i < 64 → ∀ j, j < 64 → i ≠ j → (A i).isT = true → (A j).isT = true → T i ≠ T j
def NE (A : Ab) : Prop := ∀ i, i < 64 → ∀ g, A i = .tb g → ∃ k, k < 64 ∧ g k ≠ none
theorem own_lt {L : List Int} {t : Nat} {n : Nat} {x : Int} (h : L[t]? = some x) (hl : L.length = n) : t < n := by rw [← hl]; exact (List.getElem?_eq_some_iff.1 h).1
/-- Words of entries. -/
theorem bitN (a b c d : Bool) (f : Nat) (hf : f < 65536) : let w := bit a 1 + bit b 2 + bit c 4 + bit d 8 + 256 * f
    w % 2 = (if a then 1 else 0) ∧ w / 2 % 2 = (if b then 1 else 0) ∧ w / 4 % 2 = (if c then 1 else 0) ∧ w / 8 % 2 = (if d then 1 else 0) ∧ w / 256 % 65536 = f := by
  unfold bit
  cases a <;> cases b <;> cases c <;> cases d <;> simp <;> omega
theorem dec_enc {e : Ent} (h : encOk e = true) : dec (encN e) = e := by
  simp only [encOk, Bool.and_eq_true, decide_eq_true_eq, Bool.or_eq_true] at h
  obtain ⟨⟨h0, h1⟩, h2⟩ := h
  obtain ⟨f, hf⟩ : ∃ f : Nat, e.f = f := ⟨e.f.toNat, by omega⟩
  obtain ⟨a, b, c, d, F⟩ := e
  simp only at hf h0 h1 h2
  subst hf
  rcases h2 with rfl | h2
  · have := bitN true b c d f (by omega)
    unfold dec encN
    simp only [Int.toNat_natCast]
    obtain ⟨e1, e2, e3, e4, e5⟩ := this
    rw [e1, e2, e3, e4, e5]
    cases b <;> cases c <;> cases d <;> rfl
  · rw [h2]; rfl
theorem encW_dec {e : Ent} (h : encOk e = true) : dec (encW e) = e := by unfold encW; rw [if_pos h]; exact dec_enc h
theorem encW_v (e : Ent) : encW e = 0 ∨ (dec (encW e)).v = true := by
  unfold encW
  by_cases h : encOk e = true
  · rw [if_pos h]
    have hd := dec_enc h
    simp only [encOk, Bool.and_eq_true, decide_eq_true_eq, Bool.or_eq_true] at h
    rcases h.2 with hv | hv
    · right; rw [hd]; exact hv
    · left; rw [hv]; rfl
  · rw [if_neg h]; exact .inl rfl
theorem ok_of {w x b : Bool} {f : Nat} (hf : f < 65536) : encOk ⟨true, w, x, b, (f : Int)⟩ = true := by simp [encOk]; omega
theorem pg_ok {o : Option Pg} {n : Nat} (hn : n ≤ 1024) (h : ∀ p, o = some p → p.f < n) : encOk (pgE o) = true := by
  cases o with
  | none => rfl
  | some p =>
    have := h p rfl
    exact ok_of (by omega)
theorem fs_ok {a : Fst} {t n : Nat} (hn : n ≤ 1024) (h : ∀ f w x, a = .bl f w x → f + 64 ≤ n) (ht : a.isT = true → t < n) : encOk (fsE a t) = true := by
  cases a with
  | no => rfl
  | bl f w x =>
    have := h f w x rfl
    exact ok_of (by omega)
  | tb g =>
    have := ht rfl
    exact ok_of (by omega)
section
variable {s : Sp} {A : Ab} {T : Nat → Nat}
theorem Inv.rlt (w : Inv s A T) : s.root < s.n := own_lt w.ro w.ll
theorem Inv.tlt (w : Inv s A T) {i : Nat} (hi : i < 64) (ht : (A i).isT = true) : T i < s.n := own_lt (w.to i hi ht).1 w.ll
theorem Inv.first_e (w : Inv s A T) {i : Nat} (hi : i < 64) : entAt s.B s.root i = fsE (A i) (T i) := by
  rw [entAt_wA, w.fw i hi, encW_dec]
  exact fs_ok w.hn.2 (fun f x y h => (w.bb i hi f x y h).2) (fun h => w.tlt hi h)
theorem Inv.sec_e (w : Inv s A T) {i : Nat} (hi : i < 64) {g : Nat → Option Pg} (hg : A i = .tb g) {k : Nat} (hk : k < 64) : entAt s.B (T i) k = pgE (g k) := by
  rw [entAt_wA, w.sw i hi g hg k hk, encW_dec]
  exact pg_ok w.hn.2 (fun p hp => w.pb i hi g hg k hk p hp)
theorem word_at {s : Sp} {t k : Nat} (ht : t < s.n) (hk : k < 64) : s.word (t * 256 + 4 * k) = wA s.B t k := if_pos (in_len ht hk)
theorem Inv.word1 (w : Inv s A T) {i : Nat} (hi : i < 64) : dec (s.word (s.root * 256 + 4 * i)) = fsE (A i) (T i) := by
  rw [word_at w.rlt hi]; exact w.first_e hi
/-- A first entry is changed. -/
theorem Inv.first (w : Inv s A T) {i : Nat} (hi : i < 64) (a : Fst) (t : Nat) {s' : Sp} (hn : s'.n = s.n) (hr : s'.root = s.root) (hb : s'.B.length = s.B.length) (hl : s'.L.length = s.L.length)
    (h1 : ∀ j, j < 64 → wA s'.B s.root j = if j = i then encW (fsE a t) else wA s.B s.root j)
    (h2 : ∀ j, j < 64 → j ≠ i → (A j).isT = true → ∀ k, k < 64 → wA s'.B (T j) k = wA s.B (T j) k)
    (h3 : ∀ g, a = .tb g → ∀ k, k < 64 → wA s'.B t k = encW (pgE (g k)))
    (h4 : ∀ f x y, a = .bl f x y → f % 64 = 0 ∧ f + 64 ≤ s.n) (h4' : ∀ g, a = .tb g → ∀ k, k < 64 → ∀ p, g k = some p → p.f < s.n)
    (h5 : s'.L[s.root]? = some 1) (h5' : ∀ j, j < 64 → j ≠ i → (A j).isT = true → s'.L[T j]? = some 1)
    (h6 : a.isT = true → s'.L[t]? = some 1 ∧ t ≠ s.root ∧ ∀ j, j < 64 → j ≠ i → (A j).isT = true → T j ≠ t) : Inv s' (fset A i a) (fset T i t) := by
  refine ⟨by rw [hn]; exact w.hn, by rw [hb, hn]; exact w.bl, by rw [hl, hn]; exact w.ll, ?_, ?_, ?_, ?_, by rw [hr]; exact h5, ?_, ?_⟩
  · intro j hj
    rw [hr, h1 j hj]
    by_cases e : j = i
    · rw [if_pos e, e, fset_same, fset_same]
    · rw [if_neg e, fset_ne e, fset_ne e]; exact w.fw j hj
  · intro j hj g hg k hk
    by_cases e : j = i
    · rw [e, fset_same] at hg ⊢; exact h3 g hg k hk
    · rw [fset_ne e] at hg ⊢
      rw [h2 j hj e (by rw [hg]; rfl) k hk]; exact w.sw j hj g hg k hk
  · intro j hj f x y hg
    rw [hn]
    by_cases e : j = i
    · rw [e, fset_same] at hg; exact h4 f x y hg
    · rw [fset_ne e] at hg; exact w.bb j hj f x y hg
  · intro j hj g hg k hk p hp
    rw [hn]
    by_cases e : j = i
    · rw [e, fset_same] at hg; exact h4' g hg k hk p hp
    · rw [fset_ne e] at hg; exact w.pb j hj g hg k hk p hp
  · intro j hj ht
    rw [hr]
    by_cases e : j = i
    · rw [e, fset_same] at ht ⊢; exact ⟨(h6 ht).1, (h6 ht).2.1⟩
    · rw [fset_ne e] at ht ⊢; exact ⟨h5' j hj e ht, (w.to j hj ht).2⟩
  · intro j hj k hk hjk h1 h2
    by_cases e : j = i
    · have e2 : k ≠ i := by omega
      rw [e, fset_same] at h1 ⊢
      rw [fset_ne e2] at h2 ⊢
      exact fun hc => (h6 h1).2.2 k hk e2 h2 hc.symm
    · rw [fset_ne e] at h1 ⊢
      by_cases e2 : k = i
      · rw [e2, fset_same] at h2 ⊢
        exact (h6 h2).2.2 j hj e h1
      · rw [fset_ne e2] at h2 ⊢
        exact w.tt j hj k hk hjk h1 h2
end

/-! ## deeds, done again -/
abbrev Br := List Nat × Option Nat
def stepD (n : Nat) (st : Br) (d : Dd) : Option Br :=
  if d.kind = 2 then some (st.1, none)
  else if d.kind = 1 ∧ st.2 = none ∧ wordOk n d.addr = true ∧ d.value < 4294967296 ∧ ((dec (leN st.1 d.addr 4)).v = true → d.value = 0) then some (putW n st.1 d.addr d.value, if (dec (leN st.1 d.addr 4)).v then some d.addr else none)
  else none
def repl (n : Nat) : Br → List Dd → Option Br
  | st, [] => some st
  | st, d :: l => (stepD n st d).bind fun st' => repl n st' l
theorem repl_append (n : Nat) : ∀ (a : List Dd) (st : Br) (b : List Dd), repl n st (a ++ b) = (repl n st a).bind fun st' => repl n st' b
  | [], st, b => rfl
  | d :: a, st, b => by
    simp only [List.cons_append, repl]
    cases stepD n st d with
    | none => rfl
    | some st' => exact repl_append n a st' b
theorem repl_snoc {n : Nat} {a : List Dd} {st st' st2 : Br} {d : Dd} (h : repl n st a = some st') (hd : stepD n st' d = some st2) : repl n st (a ++ [d]) = some st2 := by
  rw [repl_append, h]
  simp [repl, hd]
def isDrop (d : Dd) : Bool := d.kind == 2
def vmS (s : Sp) (t : S) : Bool := t.vm == s.vmid
def dropIf (b : Bool) (f : S → Bool) (L : List (Option S)) : List (Option S) := if b then dropL f L else L
theorem dropL_twice (f : S → Bool) (L : List (Option S)) : dropL f (dropL f L) = dropL f L := by
  unfold dropL
  rw [List.map_map]
  congr 1
  funext o
  cases o with
  | none => rfl
  | some t =>
    simp only [Function.comp, gone]
    by_cases h : f t = true
    · rw [if_pos h]
    · rw [if_neg h]; simp [h]
def tkL (L : List Int) : Option Nat → List Int
  | none => L
  | some t => L.set t 1
def tkB (B : List Nat) : Option Nat → List Nat
  | none => B
  | some t => zeroF B t
/-- From the beginning of a call on. -/
structure Tr (s0 : Sp) (A : Ab) (T : Nat → Nat) (tk : Option Nat) (s : Sp) : Prop where
  n : s.n = s0.n
  vm : s.vmid = s0.vmid
  rt : s.root = s0.root
  de : s.dead = s0.dead
  nx : s.nx = s0.nx
  len : s.B.length = s0.B.length
  L : s.L = tkL s0.L tk
  t0 : ∀ t, tk = some t → s0.L[t]? = some 0
  rep : repl s0.n (tkB s0.B tk, none) s.lg = some (s.B, none)
  TL : s.TL = dropIf (s.lg.any isDrop) (fun t => t.vm == s0.vmid) s0.TL
  keep : ∀ f, f ≠ s0.root → (∀ i, i < 64 → (A i).isT = true → f ≠ T i) → s0.L[f]? ≠ some 0 → ∀ k, k < 64 → wA s.B f k = wA s0.B f k
/-- A frame that a call may write. -/
def Mine (s0 : Sp) (A : Ab) (T : Nat → Nat) (f : Nat) : Prop := f = s0.root ∨ (∃ i, i < 64 ∧ (A i).isT = true ∧ f = T i) ∨ s0.L[f]? = some 0
section
variable {s0 s : Sp} {A : Ab} {T : Nat → Nat} {tk : Option Nat}
theorem Tr.start (h : s0.lg = []) : Tr s0 A T none s0 := ⟨rfl, rfl, rfl, rfl, rfl, rfl, rfl, fun t h => (by cases h), (by rw [h]; rfl), (by rw [h]; rfl), fun _ _ _ _ _ _ => rfl⟩
theorem Tr.take (h : s0.lg = []) (hb : s0.B.length = s0.n * 256) (hl : s0.L.length = s0.n) {t : Nat} (ht : s0.L[t]? = some 0) : Tr s0 A T (some t) (s0.take t) := by
  have htn := own_lt ht hl
  refine ⟨rfl, rfl, rfl, rfl, rfl, zeroF_len hb htn, rfl, fun u hu => by cases hu; exact ht, ?_, ?_, ?_⟩
  · show repl _ _ s0.lg = _
    rw [h]; rfl
  · show s0.TL = dropIf (s0.lg.any isDrop) _ _
    rw [h]; rfl
  · intro f _ _ hf k hk
    show wA (zeroF s0.B t) f k = _
    rw [wA_zero hb htn hk, if_neg]
    intro e; rw [e] at hf; exact hf ht
theorem put_keep (hb : s.B.length = s.n * 256) {t k : Nat} (ht : t < s.n) (hk : k < 64) {x : Nat} (hx : x < 4294967296) (hm : Mine s0 A T t)
    (w : ∀ f, f ≠ s0.root → (∀ i, i < 64 → (A i).isT = true → f ≠ T i) → s0.L[f]? ≠ some 0 → ∀ k, k < 64 → wA s.B f k = wA s0.B f k) :
    ∀ f, f ≠ s0.root → (∀ i, i < 64 → (A i).isT = true → f ≠ T i) → s0.L[f]? ≠ some 0 → ∀ j, j < 64 → wA (putW s.n s.B (t * 256 + 4 * k) x) f j = wA s0.B f j := by
  intro f h1 h2 h3 j hj
  rw [wA_put hb hx ht hk hj, if_neg]
  · exact w f h1 h2 h3 j hj
  · rintro ⟨rfl, _⟩
    rcases hm with hm | ⟨i, hi, hi2, hm⟩ | hm
    · exact h1 hm
    · exact h2 i hi hi2 hm
    · exact h3 hm
/-- A word is put where none was. -/
theorem Tr.put (w : Tr s0 A T tk s) (hb : s0.B.length = s0.n * 256) {t k : Nat} (ht : t < s0.n) (hk : k < 64) {x : Nat} (hx : x < 4294967296) (hm : Mine s0 A T t) (h0 : (dec (wA s.B t k)).v = false) : Tr s0 A T tk (s.put (t * 256 + 4 * k) x) := by
  have hb' : s.B.length = s.n * 256 := by rw [w.len, w.n]; exact hb
  refine ⟨w.n, w.vm, w.rt, w.de, w.nx, (putW_len _ _ _ _).trans w.len, w.L, w.t0, ?_, ?_, put_keep hb' (by rw [w.n]; exact ht) hk hx hm w.keep⟩
  · refine repl_snoc w.rep ?_
    unfold stepD
    have h0' : (dec (leN s.B (t * 256 + 4 * k) 4)).v = false := h0
    rw [if_neg (show ¬ (1 : Int) = 2 by decide), if_pos ⟨rfl, rfl, in_len ht hk, hx, fun hc => by rw [h0'] at hc; cases hc⟩]
    rw [h0']
    show some (putW s0.n s.B _ _, none) = some (putW s.n s.B _ _, none)
    rw [w.n]
  · show s.TL = dropIf ((s.lg ++ [_]).any isDrop) _ _
    rw [List.any_append, w.TL]
    simp [isDrop]
/-- A valid word is broken. -/
theorem Tr.brk (w : Tr s0 A T tk s) (hb : s0.B.length = s0.n * 256) {t k : Nat} (ht : t < s0.n) (hk : k < 64) (hm : Mine s0 A T t) : Tr s0 A T tk (s.brk (t * 256 + 4 * k)) := by
  have hb' : s.B.length = s.n * 256 := by rw [w.len, w.n]; exact hb
  unfold Sp.brk
  by_cases hv : (dec (s.word (t * 256 + 4 * k))).v = true
  · rw [if_pos hv]
    have hv' : (dec (leN s.B (t * 256 + 4 * k) 4)).v = true := by rw [word_at (by rw [w.n]; exact ht) hk] at hv; exact hv
    refine ⟨w.n, w.vm, w.rt, w.de, w.nx, (putW_len _ _ _ _).trans w.len, w.L, w.t0, ?_, ?_, put_keep hb' (by rw [w.n]; exact ht) hk (by decide) hm w.keep⟩
    · refine repl_snoc (st' := (putW s.n s.B (t * 256 + 4 * k) 0, some (t * 256 + 4 * k))) (repl_snoc w.rep ?_) ?_
      · unfold stepD
        rw [if_neg (show ¬ (1 : Int) = 2 by decide), if_pos ⟨rfl, rfl, in_len ht hk, (show (0 : Nat) < 4294967296 by decide), fun _ => rfl⟩]
        rw [if_pos hv', w.n]
      · rfl
    · show dropL (fun t => t.vm == s.vmid) s.TL = dropIf ((s.lg ++ [_] ++ [_]).any isDrop) _ _
      have e : (s.lg ++ [(⟨1, t * 256 + 4 * k, 0⟩ : Dd)] ++ [(⟨2, 0, 0⟩ : Dd)]).any isDrop = true := by simp [isDrop]
      rw [e, w.TL, w.vm]
      unfold dropIf
      split
      · rw [dropL_twice]; rfl
      · rfl
  · rw [if_neg hv]; exact w
theorem brk_fields (s : Sp) (a : Nat) : (s.brk a).n = s.n ∧ (s.brk a).L = s.L ∧ (s.brk a).root = s.root ∧ (s.brk a).B.length = s.B.length := by
  unfold Sp.brk
  split
  · exact ⟨rfl, rfl, rfl, putW_len _ _ _ _⟩
  · exact ⟨rfl, rfl, rfl, rfl⟩
theorem change_fields (s : Sp) (a : Nat) (e : Ent) : (s.change a e).n = s.n ∧ (s.change a e).L = s.L ∧ (s.change a e).root = s.root ∧ (s.change a e).B.length = s.B.length := by
  obtain ⟨h1, h2, h3, h4⟩ := brk_fields s a
  unfold Sp.change
  split
  · exact ⟨rfl, rfl, rfl, rfl⟩
  · unfold Sp.mk'
    split
    · exact ⟨h1, h2, h3, (putW_len _ _ _ _).trans h4⟩
    · exact ⟨h1, h2, h3, h4⟩
theorem brk_wA (hb : s.B.length = s.n * 256) {t k : Nat} (ht : t < s.n) (hk : k < 64) {u j : Nat} (hj : j < 64) :
    wA (s.brk (t * 256 + 4 * k)).B u j = if u = t ∧ j = k ∧ (dec (wA s.B t k)).v = true then 0 else wA s.B u j := by
  unfold Sp.brk
  rw [word_at ht hk]
  by_cases hv : (dec (wA s.B t k)).v = true
  · rw [if_pos hv]
    show wA (putW s.n s.B _ _) u j = _
    rw [wA_put hb (by decide) ht hk hj]
    by_cases e : u = t ∧ j = k
    · rw [if_pos e, if_pos ⟨e.1, e.2, hv⟩]
    · rw [if_neg e, if_neg (fun h => e ⟨h.1, h.2.1⟩)]
  · rw [if_neg hv, if_neg (fun h => hv h.2.2)]
/-- Words behind a change. -/
theorem change_wA (hb : s.B.length = s.n * 256) {t k : Nat} (ht : t < s.n) (hk : k < 64) (e : Ent) (hv : wA s.B t k = 0 ∨ (dec (wA s.B t k)).v = true) {u j : Nat} (hj : j < 64) :
    wA (s.change (t * 256 + 4 * k) e).B u j = if u = t ∧ j = k then encW e else wA s.B u j := by
  obtain ⟨h1, h2, h3, h4⟩ := brk_fields s (t * 256 + 4 * k)
  unfold Sp.change
  rw [word_at ht hk]
  by_cases hw : wA s.B t k = encW e
  · rw [if_pos hw]
    by_cases c : u = t ∧ j = k
    · rw [if_pos c, c.1, c.2, hw]
    · rw [if_neg c]
  · rw [if_neg hw]
    unfold Sp.mk'
    by_cases h0 : encW e ≠ 0
    · rw [if_pos h0]
      show wA (putW _ _ _ _) u j = _
      rw [wA_put (by rw [h4, h1]; exact hb) (encW_lt e) (by rw [h1]; exact ht) hk hj]
      by_cases c : u = t ∧ j = k
      · rw [if_pos c, if_pos c]
      · rw [if_neg c, if_neg c, brk_wA hb ht hk hj, if_neg (fun h => c ⟨h.1, h.2.1⟩)]
    · rw [if_neg h0]
      have h0 : encW e = 0 := by omega
      rw [brk_wA hb ht hk hj, h0]
      rw [h0] at hw
      have hv := hv.resolve_left hw
      by_cases c : u = t ∧ j = k
      · rw [if_pos c, if_pos ⟨c.1, c.2, hv⟩]
      · rw [if_neg c, if_neg (fun h => c ⟨h.1, h.2.1⟩)]
theorem Tr.change (w : Tr s0 A T tk s) (hb : s0.B.length = s0.n * 256) {t k : Nat} (ht : t < s0.n) (hk : k < 64) (hm : Mine s0 A T t) (e : Ent) (hv : wA s.B t k = 0 ∨ (dec (wA s.B t k)).v = true) : Tr s0 A T tk (s.change (t * 256 + 4 * k) e) := by
  have hb' : s.B.length = s.n * 256 := by rw [w.len, w.n]; exact hb
  have w1 := w.brk hb ht hk hm
  unfold Sp.change
  split
  · exact w
  · unfold Sp.mk'
    split
    · refine w1.put hb ht hk (encW_lt e) hm ?_
      rw [brk_wA hb' (by rw [w.n]; exact ht) hk hk]
      by_cases c : (dec (wA s.B t k)).v = true
      · rw [if_pos ⟨rfl, rfl, c⟩]; rfl
      · rw [if_neg (fun h => c h.2.2)]
        exact Bool.eq_false_iff.2 c
    · exact w1
end
end Go.Proofs.Ytmldiibfmhkgjaa
