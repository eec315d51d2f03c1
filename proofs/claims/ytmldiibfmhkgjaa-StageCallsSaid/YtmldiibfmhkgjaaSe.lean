import Derived.Test.YtmldiibfmhkgjaaSd
namespace Go.Proofs.Ytmldiibfmhkgjaa
open Go Go.Wd
set_option linter.unusedVariables false
set_option linter.unusedSimpArgs false
set_option linter.unnecessarySimpa false

/-! ## what a page is -/
def lookN (A : Ab) (p : Nat) : Option (Pg × Bool) := match A (p / 64) with
  | .no => none
  | .bl f w x => some (⟨f + p % 64, w, x⟩, true)
  | .tb g => (g (p % 64)).map fun q => (q, false)
def lookA (A : Ab) (p : Int) : Option (Pg × Bool) := if 0 ≤ p ∧ p < 4096 then lookN A p.toNat else none
def lkE : Option (Pg × Bool) → Ent
  | none => noEnt
  | some (q, b) => ⟨true, q.w, q.x, b, (q.f : Int)⟩
section
variable {s : Sp} {A : Ab} {T : Nat → Nat}
theorem blk_lt {f p n : Nat} (h : f + 64 ≤ n) : ¬ (n : Int) ≤ (f : Int) + ((p % 64 : Nat) : Int) := by omega
theorem pg_lt {f n : Nat} (h : f < n) : ¬ (n : Int) ≤ (f : Int) := by omega
theorem p_idx {p : Nat} (hp : p < 4096) : p / 64 < 64 ∧ p % 64 < 64 := by omega
theorem p_in {p : Nat} (hp : p < 4096) : ¬ 1048576 ≤ p * 256 := by omega
theorem p_div {p : Nat} (hp : p < 4096) : p * 256 / 16384 % 64 = p / 64 := by omega
theorem p_mod (p : Nat) : p * 256 / 256 % 64 = p % 64 := by omega
theorem two_ne : (2 : Int) ≠ 0 := by decide
theorem three_ne : (3 : Int) ≠ 0 := by decide
theorem found_start (w : Inv s A T) {p : Nat} (hp : p < 4096) (e : Ent) (he : fsE (A (p / 64)) (T (p / 64)) = e) : foundOf s.n s.B s.root (p * 256) =
    if !e.v then ⟨noEnt, 1, 2⟩
    else if e.b then ⟨e.addF ((p % 64 : Nat) : Int), 1, 0⟩
    else if !isIn s.n e.f then ⟨noEnt, 1, 5⟩
    else if !(entAt s.B e.f.toNat (p % 64)).v then ⟨noEnt, 2, 3⟩
    else ⟨(entAt s.B e.f.toNat (p % 64)).noB, 2, 0⟩ := by
  subst he
  have h1 := p_div hp
  have h2 := p_mod p
  unfold foundOf
  rw [if_neg (p_in hp), if_neg (by rw [in_nat w.rlt]; simp), h1, h2, Int.toNat_natCast, w.first_e (p_idx hp).1]
theorem walk_no (w : Inv s A T) {p : Nat} (hp : p < 4096) (hA : A (p / 64) = .no) : (walkOf s.n s.B s.root (p * 256) 0).fault ≠ 0 := by
  have hs := found_start w hp noEnt (by rw [hA]; rfl)
  rw [if_pos (show (!noEnt.v) = true from rfl)] at hs
  rw [walk_bad hs two_ne]
  exact two_ne
theorem walk_bl (w : Inv s A T) {p : Nat} (hp : p < 4096) {f : Nat} {x y : Bool} (hA : A (p / 64) = .bl f x y) : walkOf s.n s.B s.root (p * 256) 0 = ⟨0, 1, ((f + p % 64 : Nat) : Int), x, y, true⟩ := by
  have hs := found_start w hp ⟨true, x, y, true, (f : Int)⟩ (by rw [hA]; rfl)
  rw [if_neg (by simp), if_pos rfl] at hs
  have hb := w.bb _ (p_idx hp).1 f x y hA
  have hn : ¬ (s.n : Int) ≤ ((Ent.mk true x y true (f : Int)).addF ((p % 64 : Nat) : Int)).f := blk_lt hb.2
  rw [walk_of hs, if_neg (by simp [allows, Ent.addF]), if_neg hn]
  simp only [Ent.addF, Int.natCast_add]
theorem walk_tb (w : Inv s A T) {p : Nat} (hp : p < 4096) {g : Nat → Option Pg} (hA : A (p / 64) = .tb g) : foundOf s.n s.B s.root (p * 256) = if !(pgE (g (p % 64))).v then ⟨noEnt, 2, 3⟩ else ⟨(pgE (g (p % 64))).noB, 2, 0⟩ := by
  obtain ⟨hi, hk⟩ := p_idx hp
  have hs := found_start w hp ⟨true, false, false, false, (T (p / 64) : Nat)⟩ (by rw [hA]; rfl)
  have hT : (A (p / 64)).isT = true := by rw [hA]; rfl
  have hT := w.tlt hi hT
  rw [if_neg (by simp), if_neg (by simp), if_neg (by rw [in_nat hT]; simp), Int.toNat_natCast, w.sec_e hi hA hk] at hs
  exact hs
theorem walk_inv (w : Inv s A T) {p : Nat} (hp : p < 4096) : (∀ q b, lookN A p = some (q, b) → ∃ r, walkOf s.n s.B s.root (p * 256) 0 = ⟨0, r, (q.f : Int), q.w, q.x, b⟩) ∧ (lookN A p = none → (walkOf s.n s.B s.root (p * 256) 0).fault ≠ 0) := by
  obtain ⟨hi, hk⟩ := p_idx hp
  unfold lookN
  cases hA : A (p / 64) with
  | no => exact ⟨fun q b h => by simp at h, fun _ => walk_no w hp hA⟩
  | bl f x y =>
    refine ⟨fun q b h => ?_, fun h => by simp at h⟩
    simp only [Option.some.injEq, Prod.mk.injEq] at h
    obtain ⟨rfl, rfl⟩ := h
    exact ⟨1, walk_bl w hp hA⟩
  | tb g =>
    have hs := walk_tb w hp hA
    cases hg : g (p % 64) with
    | none =>
      rw [hg, if_pos (show (!(pgE none).v) = true from rfl)] at hs
      refine ⟨fun q b h => by simp [hg] at h, fun _ => ?_⟩
      rw [walk_bad hs three_ne]
      exact three_ne
    | some q0 =>
      rw [hg, if_neg (show ¬ (!(pgE (some q0)).v) = true from fun h => (by cases h))] at hs
      refine ⟨fun q b h => ?_, fun h => by simp [hg] at h⟩
      simp only [hg, Option.map_some, Option.some.injEq, Prod.mk.injEq] at h
      obtain ⟨rfl, rfl⟩ := h
      have hb := w.pb _ hi g hA _ hk q0 hg
      have ha : ¬ (!allows (pgE (some q0)).noB 0) = true := by simp [allows, pgE, Ent.noB]
      have hn : ¬ (s.n : Int) ≤ (pgE (some q0)).noB.f := pg_lt hb
      rw [walk_of hs, if_neg ha, if_neg hn]
      exact ⟨2, rfl⟩
theorem look_inv (w : Inv s A T) (p : Int) : lookOk s.n s.B s.root p = (lookA A p).isSome ∧ lookE s.n s.B s.root p = lkE (lookA A p) := by
  unfold lookE
  by_cases hp : 0 ≤ p ∧ p < 4096
  · have hj : joinOk p 0 = true := by simp [joinOk]; exact hp
    have hv : (joinV p 0).toNat = p.toNat * 256 := by unfold joinV; rw [if_pos hj]; omega
    have hA : lookA A p = lookN A p.toNat := if_pos hp
    have hok : lookOk s.n s.B s.root p = decide ((walkOf s.n s.B s.root (p.toNat * 256) 0).fault = 0) := by unfold lookOk; rw [hj, hv]; rfl
    rw [hok, hv, hA]
    obtain ⟨h1, h2⟩ := walk_inv w (p := p.toNat) (by omega)
    cases hl : lookN A p.toNat with
    | none =>
      have := h2 hl
      rw [decide_eq_false this]
      exact ⟨rfl, rfl⟩
    | some qb =>
      obtain ⟨q, b⟩ := qb
      obtain ⟨r, hr⟩ := h1 q b hl
      rw [hr]
      exact ⟨rfl, rfl⟩
  · have hj : joinOk p 0 = false := by
      cases hc : joinOk p 0 with
      | false => rfl
      | true =>
        simp only [joinOk, Bool.and_eq_true, decide_eq_true_eq] at hc
        exact absurd ⟨hc.1.1.1, hc.1.1.2⟩ hp
    have hA : lookA A p = none := if_neg hp
    have hok : lookOk s.n s.B s.root p = false := by unfold lookOk; rw [hj]; rfl
    rw [hok, hA]
    exact ⟨rfl, rfl⟩
end
section
variable {h : Hp} {y : Lay} {s : Sp} {A : Ab} {T : Nat → Nat}
theorem SLook_spec (w : SP h y s) (i : Inv s A T) (hd : s.dead = false) (p : Int) :
    CallsH Try.prog 22 [.pointer (some ⟨y.q, 0, none⟩), .int .i64 p] h fun v h' => v = .tuple #[.agg ⟨(lkE (lookA A p)).cells⟩, .bool (lookA A p).isSome] ∧ Fr [] h h' := by
  refine calls_k fun R hR => ?_
  apply stage_Space_Look.calls
  unfold stage_Space_Look.P
  intro h1 e1
  have k1 : bk h1 (sz h) = some (blk 54 noEnt.cells) := by rw [e1]; exact new_at _ _
  have f1 : Fr [] h h1 := by rw [e1]; exact Fr.new _ _ _
  clear e1
  have w1 := w.fr0 f1
  refine ⟨_, w1.de, fun c => absurd (hd.symm.trans c) (by decide), fun _ => ?_⟩
  refine ⟨_, w1.mem, _, w1.rt, ?_⟩
  refine (Look_spec w1.g.m s.root p).mono ?_
  obtain ⟨l1, l2⟩ := look_inv i p
  rw [l1, l2]
  rintro v h3 ⟨rfl, f3⟩
  refine ⟨_, _, _, _, _, _, rfl, ?_⟩
  refine Ent.ret (f3.at k1 (by simp)) rfl _ _ _ _ _ ?_
  exact hR _ _ ⟨rfl, (f1.trans f3).later (Fr.upd (F := [sz h]) (by simp) _ _ _) (by simp)⟩
theorem SLook_dead (w : SP h y s) (hd : s.dead = true) (p : Int) :
    CallsH Try.prog 22 [.pointer (some ⟨y.q, 0, none⟩), .int .i64 p] h fun v h' => v = .tuple #[.agg ⟨noEnt.cells⟩, .bool false] ∧ Fr [] h h' := by
  refine calls_k fun R hR => ?_
  apply stage_Space_Look.calls
  unfold stage_Space_Look.P
  intro h1 e1
  have k1 : bk h1 (sz h) = some (blk 54 noEnt.cells) := by rw [e1]; exact new_at _ _
  have f1 : Fr [] h h1 := by rw [e1]; exact Fr.new _ _ _
  clear e1
  have w1 := w.fr0 f1
  refine ⟨_, w1.de, fun _ => ?_, fun c => absurd (hd.symm.trans c) (by decide)⟩
  refine Ent.ret k1 rfl _ _ _ _ _ ?_
  exact hR _ _ ⟨rfl, f1.later (Fr.upd (F := [sz h]) (by simp) _ _ _) (by simp)⟩

/-! ## something is done, or can't be done -/
theorem caught_spec {h : Hp} {c : Nat} {e x : Int} (hc : bk h c = some (blk 29 [.int .i64 x])) :
    CallsX Try.prog 89 [refusal e, .pointer (some ⟨c, 0, none⟩)] h (fun v h' => v = .tuple #[] ∧ bk h' c = some (blk 29 [.int .i64 e]) ∧ Fr [c] h h') (fun _ _ => False) := by
  refine stage_caught_i139.calls _ _ _ _ _ _ ?_
  unfold stage_caught_i139.P
  refine put_local rfl (by decide) ?_
  intro h2 k2 f2 s2
  refine ⟨fun hn => (by cases hn), fun _ => ?_⟩
  have c2 := f2.at hc (by simp)
  refine ⟨_, (cellAt_of k2 0).trans rfl, truly_rfl, _, _, c2, Nat.le_refl 1, ?_⟩
  intro h3 e3
  refine ⟨rfl, by rw [e3]; exact upd_same c2 _ _, ?_⟩
  exact (f2.mono (G := [c]) (by simp)).trans (by rw [e3]; exact Fr.upd (by simp) _ _ _)
theorem by1_nil {h : Hp} {a b : Nat} {D : Hp → Prop} (hD : D h) : CallsDH Try.prog 96 [.pointer (some ⟨a, 0, none⟩), .pointer (some ⟨b, 0, none⟩)] none h D := by
  apply stage_Space_by_1_nil.calls
  exact hD
theorem Sp.nil_cells (y : Lay) (s : Sp) (la : Option Addr) (l c : Nat) : writeAt (s.cells y la l c) (0 + 6) [.slice none 0 0] = ({ s with lg := [] } : Sp).cells y none 0 0 := rfl
theorem by1_bad {a b : Nat} {e x : Int} {D : Hp → Prop} (w : SP h y s) (hc : bk h a = some (blk 29 [.int .i64 x])) (hb : bk h b = some (blk 34 [.pointer (some ⟨y.q, 0, none⟩)]))
    (hD : ∀ h', bk h' a = some (blk 29 [.int .i64 e]) → SP h' y { s with lg := [] } → Fr [a, y.q] h h' → D h') :
    CallsDH Try.prog 96 [.pointer (some ⟨a, 0, none⟩), .pointer (some ⟨b, 0, none⟩)] (some (refusal e)) h D := by
  apply stage_Space_by_1_139.calls
  unfold stage_Space_by_1_139.P
  refine (caught_spec hc).mono ?_ (fun _ _ hf => hf)
  rintro v h1 ⟨rfl, c1, f1⟩
  have hab : b ∉ [a] := by simp only [List.mem_singleton]; exact ty_ne (ty_of hb) (ty_of hc) (by decide)
  have b1 := f1.at hb hab
  have hqa : y.q ≠ a := ty_ne w.ty_q (ty_of hc) (by decide)
  obtain ⟨la, lc, e0, o0, z0⟩ := w.hs
  have g1 := w.g.fr f1 (fun z hz t ht => by simp only [List.mem_singleton] at hz; rw [hz, ty_of hc] at ht; cases ht; decide)
  have q1 := f1.at e0 (by simpa using hqa)
  refine ⟨rfl, _, (cellAt_of b1 0).trans rfl, _, _, rfl, truly_rfl, _, _, q1, by simp [Sp.cells], ?_⟩
  intro h3 e3
  rw [Sp.nil_cells] at e3
  have w3 := g1.self q1 (s' := { s with lg := [] }) (la := none) (lc := 0) ⟨rfl, rfl, rfl, rfl, rfl⟩ (Go.Wd.Own.nil _ _ _) (z0.fr f1).nil
  have f3 : Fr [y.q] h1 h3 := by rw [e3]; exact Fr.upd (by simp) _ _ _
  refine hD h3 (f3.at c1 (by simpa using fun hh => hqa hh.symm)) (by rw [e3]; exact w3) ((f1.mono (G := [a, y.q]) (by simp)).trans (f3.mono (by simp)))
/-- What 'by' is, for some closure. -/
def byP (C : Hp → (Value → Hp → Prop) → (Value → Hp → Prop) → Prop) (p0sb p0so : Nat) (h : Hp) (R : Value → Hp → Prop) : Prop :=
  ∀ h1 : Hp, h1 = new h (blk 34 [.pointer (some ⟨p0sb, p0so, none⟩)]) → ∀ h2 : Hp, h2 = new h1 (blk 29 [.int .i64 0]) → ∃ x1 : Option Addr, cellAt h2 (sz h) 0 = some (.pointer x1) ∧ ∃ b2 : Nat, ∃ o3 : Nat, x1 = some ⟨b2, o3, none⟩ ∧
  truly true ∧ ∃ T4 : TypeId, ∃ l5 : List Value, bk h2 b2 = some (blk T4 l5) ∧ (o3 + 6) + 1 ≤ l5.length ∧ ∀ h3 : Hp, h3 = upd h2 b2 T4 (writeAt l5 (o3 + 6) [.slice none 0 0]) → ∃ x6 : Option Addr, cellAt h3 (sz h) 0 = some (.pointer x6) ∧
  ∃ b7 : Nat, ∃ o8 : Nat, x6 = some ⟨b7, o8, none⟩ ∧ ∃ dead9 : Bool, cellAt h3 b7 (o8 + 5) = some (.bool dead9) ∧ CallsX Try.prog 50 [.bool (!dead9), .int .i64 20] h3 (fun r10 h4 => r10 = .tuple #[] ∧
  C h4 (fun r12 h6 => r12 = .tuple #[] ∧ truly true ∧ ∃ T14 : TypeId, ∃ l15 : List Value, bk h6 (sz h1) = some (blk T14 l15) ∧
  0 + 1 ≤ l15.length ∧ ∀ h8 : Hp, h8 = upd h6 (sz h1) T14 (writeAt l15 0 [.int .i64 0]) → CallsDH Try.prog 96 [.pointer (some ⟨(sz h1), 0, none⟩), .pointer (some ⟨(sz h), 0, none⟩)] none h8 fun h9 => ∃ res16 : Int, cellAt h9 (sz h1) 0 = some (.int .i64 res16) ∧
  R (.int .i64 res16) h9) (fun px13 h7 => CallsDH Try.prog 96 [.pointer (some ⟨(sz h1), 0, none⟩), .pointer (some ⟨(sz h), 0, none⟩)] (some px13) h7 fun h10 => ∃ res17 : Int, cellAt h10 (sz h1) 0 = some (.int .i64 res17) ∧
  R (.int .i64 res17) h10)) (fun px11 h5 => CallsDH Try.prog 96 [.pointer (some ⟨(sz h1), 0, none⟩), .pointer (some ⟨(sz h), 0, none⟩)] (some px11) h5 fun h11 => ∃ res18 : Int, cellAt h11 (sz h1) 0 = some (.int .i64 res18) ∧
  R (.int .i64 res18) h11)
theorem by_spec {C : Hp → (Value → Hp → Prop) → (Value → Hp → Prop) → Prop} {R : Value → Hp → Prop} (w : SP h y s) (Out : Int → Sp → Prop)
    (hm : ∀ h R R' X X', C h R X → (∀ v h', R v h' → R' v h') → (∀ v h', X v h' → X' v h') → C h R' X')
    (hR : ∀ e s' h', SP h' y s' → Fr y.F h h' → Out e s' → R (.int .i64 e) h')
    (hdead : s.dead = true → Out 20 { s with lg := [] })
    (hC : ∀ h4, SP h4 (y.at (sz h)) { s with lg := [] } → Fr [y.q] h h4 → s.dead = false → C h4 (fun v h' => v = .tuple #[] ∧ ∃ s', SP h' (y.at (sz h)) s' ∧ FrL (y.at (sz h)) h4 h' ∧ Out 0 s') (fun x h' => ∃ e, x = refusal e ∧ SP h' (y.at (sz h)) { s with lg := [] } ∧ FrL (y.at (sz h)) h4 h' ∧ Out e { s with lg := [] })) :
    byP C y.q 0 h R := by
  unfold byP
  intro h1 e1
  have k1 : bk h1 (sz h) = some (blk 34 [.pointer (some ⟨y.q, 0, none⟩)]) := by rw [e1]; exact new_at _ _
  have f1 : Fr [] h h1 := by rw [e1]; exact Fr.new _ _ _
  have s1 : sz h1 = sz h + 1 := by rw [e1]; exact sz_new _ _
  clear e1
  intro h2 e2
  have k2 : bk h2 (sz h1) = some (blk 29 [.int .i64 0]) := by rw [e2]; exact new_at _ _
  have f2 : Fr [] h1 h2 := by rw [e2]; exact Fr.new _ _ _
  clear e2
  have c2 := f2.at k1 (by simp)
  have w2 := w.fr0 (f1.trans f2)
  have lF := w.ltF
  have lq := w.lq
  obtain ⟨la, lc, e0, o0, z0⟩ := w2.hs
  have hyz : y.z ≤ sz h := by obtain ⟨_, _, _, _, zz⟩ := w.hs; exact zz.1
  refine ⟨_, (cellAt_of c2 0).trans rfl, _, _, rfl, truly_rfl, _, _, e0, by simp [Sp.cells], ?_⟩
  intro h3 e3
  rw [Sp.nil_cells] at e3
  have w3 := (w2.g.at (sz h)).self e0 (s' := { s with lg := [] }) (la := none) (lc := 0) ⟨rfl, rfl, rfl, rfl, rfl⟩ (Go.Wd.Own.nil _ _ _) ⟨(f1.trans f2).size, by simp [foot]⟩
  have f3 : Fr [y.q] h2 h3 := by rw [e3]; exact Fr.upd (by simp) _ _ _
  have w3 : SP h3 (y.at (sz h)) { s with lg := [] } := by rw [e3]; exact w3
  clear e3
  have hq1 : ∀ x, sz h ≤ x → x ∉ y.F := fun x hx hm => by have := lF x hm; omega
  have hq2 : y.q ∈ y.F := by simp [Lay.F]
  have c3 := f3.at c2 (by simp; omega)
  have k3 := f3.at k2 (by simp; omega)
  have fx : Fr [y.q] h h3 := ((f1.trans f2).mono (by simp)).trans f3
  have fl : FrL (y.at (sz h)) h h3 := FrL.of fx (fun x hx => .inl (by simp only [List.mem_singleton] at hx; rw [hx]; exact hq2))
  have hlate : ∀ x ∈ [sz h1, y.q], x ∈ (y.at (sz h)).F ∨ sz h ≤ x := fun x hx => by
    simp only [List.mem_cons, List.not_mem_nil, or_false] at hx
    rcases hx with rfl | rfl
    · exact .inr (by omega)
    · exact .inl hq2
  refine ⟨_, (cellAt_of c3 0).trans rfl, _, _, rfl, _, w3.de, ?_⟩
  refine (need_spec _ _).mono ?_ ?_
  · rintro v h4 ⟨hok, rfl, hh⟩
    rw [hh]; clear hh h4
    have hd : s.dead = false := by simpa using hok
    refine ⟨rfl, hm _ _ _ _ _ (hC h3 w3 fx hd) ?_ ?_⟩
    · rintro v h6 ⟨rfl, s', w6, f6, o6⟩
      have k6 := f6.at k3 (hq1 _ (by omega)) (by decide)
      have c6 := f6.at c3 (hq1 _ (by omega)) (by decide)
      refine ⟨rfl, truly_rfl, _, _, k6, by decide, ?_⟩
      intro h8 e8
      have f8 : Fr [sz h1] h6 h8 := by rw [e8]; exact Fr.upd (by simp) _ _ _
      have k8 : bk h8 (sz h1) = some (blk 29 [.int .i64 0]) := by rw [e8]; exact upd_same k6 _ _
      have w8 : SP h8 (y.at (sz h)) s' := by
        obtain ⟨la, lc, a, o, z⟩ := w6.hs
        have hne : ∀ {b t : Nat}, ty h6 b = some t → t ≠ 29 → b ∉ [sz h1] := fun hb ht => by simp only [List.mem_singleton]; exact ty_ne hb (ty_of k6) ht
        refine ⟨⟨la, lc, f8.at a (hne (ty_of a) (by decide)), o.fr f8 (fun x hx => hne (own_ty o x hx) (by decide)), z.fr f8⟩, w6.g.fr f8 (fun z hz t ht => by simp only [List.mem_singleton] at hz; rw [hz, ty_of k6] at ht; cases ht; decide)⟩
      refine by1_nil ?_
      refine ⟨_, (cellAt_of k8 0).trans rfl, ?_⟩
      exact hR 0 s' h8 (w8.unat hyz) ((fl.trans f6).later f8 (by simp; omega)).strict o6
    · rintro x h6 ⟨e, rfl, w6, f6, o6⟩
      have k6 := f6.at k3 (hq1 _ (by omega)) (by decide)
      have c6 := f6.at c3 (hq1 _ (by omega)) (by decide)
      refine by1_bad w6 k6 c6 ?_
      intro h8 k8 w8 f8
      refine ⟨_, (cellAt_of k8 0).trans rfl, ?_⟩
      exact hR e _ h8 (w8.unat hyz) ((fl.trans f6).later f8 hlate).strict o6
  · rintro x h4 ⟨hok, rfl, hh⟩
    rw [hh]; clear hh h4
    have hd : s.dead = true := by simpa using hok
    refine by1_bad w3 k3 c3 ?_
    intro h8 k8 w8 f8
    refine ⟨_, (cellAt_of k8 0).trans rfl, ?_⟩
    exact hR 20 _ h8 (w8.unat hyz) (fl.later f8 hlate).strict (hdead hd)
end
end Go.Proofs.Ytmldiibfmhkgjaa
