import Derived.Test.YtmldiibfmhkgjaaSl
namespace Go.Proofs.Ytmldiibfmhkgjaa
open Go Go.Wd
set_option linter.unusedVariables false
set_option linter.unusedSimpArgs false
set_option linter.unnecessarySimpa false

def tbA (A : Ab) (T : Nat → Nat) : Nat → List Int
  | 0 => []
  | k + 1 => tbA A T k ++ (if (A k).isT then [((T k : Nat) : Int)] else [])
theorem tbA_len (A : Ab) (T : Nat → Nat) : ∀ k, (tbA A T k).length = nTA A k
  | 0 => rfl
  | k + 1 => by
    simp only [tbA, nTA, List.length_append, tbA_len A T k]
    split <;> rfl
theorem nT_le (A : Ab) : nT A ≤ 64 := nTA_le A 64
section
variable {h : Hp} {y : Lay} {s : Sp} {A : Ab} {T : Nat → Nat}
theorem Root_spec (w : SP h y s) : CallsH Try.prog 16 [.pointer (some ⟨y.q, 0, none⟩)] h fun v h' => v = .int .i64 (s.root : Int) ∧ h' = h := by
  apply stage_Space_Root.calls
  exact ⟨_, w.rt, rfl, rfl⟩
theorem Vmid_spec (w : SP h y s) : CallsH Try.prog 41 [.pointer (some ⟨y.q, 0, none⟩)] h fun v h' => v = .int .i64 s.vmid ∧ h' = h := by
  apply stage_Space_Vmid.calls
  exact ⟨_, w.vm, rfl, rfl⟩
def pgP (A : Ab) (p : Nat) : Bool := (lookN A p).isSome
theorem pages_cong {P Q : Nat → Bool} : ∀ k, (∀ p, p < k → P p = Q p) → pagesL P k = pagesL Q k
  | 0, _ => rfl
  | k + 1, h => by rw [pages_next, pages_next, pages_cong k (fun p hp => h p (by omega)), h k (by omega)]
theorem SPages_spec (w : SP h y s) (v : Inv s A T) (hd : s.dead = false) :
    CallsH Try.prog 21 [.pointer (some ⟨y.q, 0, none⟩)] h fun r h' => ∃ a c, r = .slice a (pagesL (pgP A) 4096).length c ∧ rowAtK h' a (encL iN (pagesL (pgP A) 4096)) ∧ (∀ x ∈ foot a, sz h ≤ x ∧ x < sz h') ∧ Fr [] h h' := by
  refine calls_k fun R hR => ?_
  generalize hP : pagesL (pgP A) 4096 = PP at hR
  obtain ⟨N, hN⟩ : ∃ N : Nat, N = 4096 := ⟨_, rfl⟩
  have hPP : pagesL (pageP s.n s.B s.root) 4096 = PP := by
    rw [← hP]
    refine pages_cong _ (fun p hp => ?_)
    unfold pageP pgP
    rw [(look_inv v (p : Int)).1, lookA_nat hp]
  apply stage_Space_Pages.calls
  unfold stage_Space_Pages.P
  refine ⟨_, w.de, fun c => absurd (hd.symm.trans c) (by decide), fun _ => ⟨_, w.mem, _, w.rt, ?_⟩⟩
  refine (Pages_spec w.g.m s.root).mono ?_
  rw [hPP]
  rintro r h' ⟨a, c, rfl, h1, h2, h3⟩
  exact ⟨_, _, _, rfl, hR _ _ ⟨a, c, rfl, h1, h2, h3⟩⟩
theorem SPages_dead (w : SP h y s) (hd : s.dead = true) : CallsH Try.prog 21 [.pointer (some ⟨y.q, 0, none⟩)] h fun r h' => r = .slice none 0 0 ∧ h' = h := by
  apply stage_Space_Pages.calls
  unfold stage_Space_Pages.P
  exact ⟨_, w.de, fun _ => ⟨rfl, rfl⟩, fun c => absurd (hd.symm.trans c) (by decide)⟩
theorem tables_spec (w : SP h y s) (v : Inv s A T) : CallsH Try.prog 47 [.pointer (some ⟨y.q, 0, none⟩)] h fun r h' => ∃ a c, r = .slice a (nT A) c ∧ Go.Wd.Own h' 3 1 a (nT A) c (encL iN (tbA A T 64)) ∧ (∀ x ∈ foot a, sz h ≤ x) ∧ Fr [] h h' := by
  refine calls_k fun R hR => ?_
  have hlen : ∀ k, nTA A k = (tbA A T k).length := fun k => (tbA_len A T k).symm
  rw [show nT A = (tbA A T 64).length from hlen 64] at hR
  obtain ⟨N, hN⟩ : ∃ N : Nat, N = 64 := ⟨_, rfl⟩
  rw [← hN] at hR
  have hrn := v.rlt
  have hn := v.hn
  have hroot : s.root < 65536 := by omega
  apply stage_Space_tables.calls
  unfold stage_Space_tables.P
  refine ⟨fun oa ol oc i h1 => ∃ k : Nat, i = k ∧ k ≤ 64 ∧ ol = (tbA A T k).length ∧ Go.Wd.Own h1 3 1 oa ol oc (encL iN (tbA A T k)) ∧ (∀ y ∈ foot oa, sz h ≤ y) ∧ Fr [] h h1, fun _ _ _ i _ => 64 - i.toNat,
    ⟨0, rfl, by decide, rfl, Go.Wd.Own.nil _ _ _, by simp [foot], Fr.refl _ _⟩, ?_⟩
  rintro oa ol oc i h1 ⟨k, rfl, hk, rfl, o1, fo, f1⟩
  have w1 := w.fr0 f1
  refine ⟨fun c => ?_, fun c => ?_⟩
  · have hk4 : k < 64 := lt_cast (n := 64) c
    refine (first_spec' w1 hroot hk4).mono ?_
    rintro r h2 ⟨rfl, f2⟩
    rw [v.word1 hk4]
    refine ⟨_, _, _, _, _, _, rfl, ?_⟩
    refine put_ent (fsE (A k) (T k)) ?_
    intro h4 k4 f4 s4
    have f24 := f2.trans f4
    have fr4 := f1.trans f24
    have o4 := o1.fr f24 (by simp)
    rw [wrap_next hk4]
    have hl := tbA_len A T k
    have hl2 := nTA_le A k
    have skip : (A k).isT = false → (∃ k' : Nat, ((k + 1 : Nat) : Int) = k' ∧ k' ≤ 64 ∧ (tbA A T k).length = (tbA A T k').length ∧ Go.Wd.Own h4 3 1 oa (tbA A T k).length oc (encL iN (tbA A T k')) ∧ (∀ y ∈ foot oa, sz h ≤ y) ∧ Fr [] h h4) := fun hA => by
      have e : tbA A T (k + 1) = tbA A T k := by simp only [tbA]; rw [hA]; simp
      exact ⟨k + 1, rfl, hk4, by rw [e], by rw [e]; exact o4, fo, fr4⟩
    refine ⟨_, (cellAt_of k4 0).trans rfl, fun cv => ⟨_, (cellAt_of k4 3).trans rfl, fun cb => ?_, fun cb => ?_⟩, fun cv => ?_⟩
    · have hA : (A k).isT = true := by
        cases hA : A k with
        | no => rw [hA] at cv; cases cv
        | bl f x z => rw [hA] at cb; cases cb
        | tb g => rfl
      have e : tbA A T (k + 1) = tbA A T k ++ [((T k : Nat) : Int)] := by simp only [tbA]; rw [hA]; simp
      have hf : (fsE (A k) (T k)).f = ((T k : Nat) : Int) := by obtain ⟨g, hg⟩ := isT_tb hA; rw [hg]; rfl
      refine ⟨_, (cellAt_of k4 4).trans rfl, ?_⟩
      rw [hf]
      intro h5 h5e
      refine append_new (h0 := h) (F := []) o4 rfl fr4 (fun y hy => .inr (fo y hy)) rfl rfl h5e (by omega) (by omega) ?_
      intro a' c' h6 o6 f6 g6 l6 t6
      have hge : ∀ y ∈ foot a', sz h ≤ y := by
        intro y hy
        rcases t6 with rfl | t6
        · exact fo y hy
        · have := t6 y hy; have := fr4.size; omega
      refine ⟨⟨k + 1, rfl, hk4, by rw [e]; simp, ?_, hge, f6⟩, dec64 hk4⟩
      rw [e, encL_append]
      exact o6
    · have hA : (A k).isT = false := by
        cases hA : A k with
        | no => rfl
        | bl f x z => rfl
        | tb g => rw [hA] at cb; cases cb
      exact ⟨skip hA, dec64 hk4⟩
    · have hA : (A k).isT = false := by
        cases hA : A k with
        | no => rfl
        | bl f x z => rfl
        | tb g => rw [hA] at cv; cases cv
      exact ⟨skip hA, dec64 hk4⟩
  · have hj : k = 64 := Nat.le_antisymm hk (ge_cast (n := 64) c)
    subst hj
    rw [hN] at hR
    exact hR _ _ ⟨oa, oc, rfl, o1, fo, f1⟩
theorem Tables_spec (w : SP h y s) (v : Inv s A T) (hd : s.dead = false) : CallsH Try.prog 13 [.pointer (some ⟨y.q, 0, none⟩)] h fun r h' => r = .int .i64 ((nT A + 1 : Nat) : Int) ∧ Fr [] h h' := by
  refine calls_k fun R hR => ?_
  apply stage_Space_Tables.calls
  unfold stage_Space_Tables.P
  refine ⟨_, w.de, fun c => absurd (hd.symm.trans c) (by decide), fun _ => ?_⟩
  refine (tables_spec w v).mono ?_
  rintro r h' ⟨a, c, rfl, _, _, f⟩
  have hl := nT_le A
  refine ⟨_, _, _, rfl, hR _ _ ⟨?_, f⟩⟩
  rw [wrap_i64 (by omega) (by omega)]
  rfl
theorem Tables_dead (w : SP h y s) (hd : s.dead = true) : CallsH Try.prog 13 [.pointer (some ⟨y.q, 0, none⟩)] h fun r h' => r = .int .i64 0 ∧ h' = h := by
  apply stage_Space_Tables.calls
  unfold stage_Space_Tables.P
  exact ⟨_, w.de, fun _ => ⟨rfl, rfl⟩, fun c => absurd (hd.symm.trans c) (by decide)⟩
theorem one_D (L : List Dd) : oneCells (encL Dd.cells L) = true := by
  induction L with
  | nil => rfl
  | cons x L ih =>
    rw [encL_cons]
    unfold oneCells at *
    rw [List.all_append, ih]; rfl
theorem Log_spec (w : SP h y s) (hl : s.lg.length ≤ 2000000) : CallsH Try.prog 30 [.pointer (some ⟨y.q, 0, none⟩)] h fun r h' => ∃ a c, r = .slice a s.lg.length c ∧ rowAtK h' a (encL Dd.cells s.lg) ∧ (∀ x ∈ foot a, sz h ≤ x ∧ x < sz h') ∧ Fr [] h h' := by
  refine calls_k fun R hR => ?_
  apply stage_Space_Log.calls
  unfold stage_Space_Log.P
  obtain ⟨la, lc, e, o, z⟩ := w.hs
  refine ⟨la, _, lc, (cellAt_of e 6).trans rfl, ?_⟩
  apply slices_Clone_f82.calls
  unfold slices_Clone_f82.P
  refine ⟨fun hc => ?_, fun hc => ?_⟩
  · have h0 : la = none := by cases la with
      | none => rfl
      | some a => simp [notIf] at hc
    subst h0
    have hlg : s.lg = [] := by
      rcases o.2 with ⟨_, h0, _⟩ | ⟨b, rest, hh, _⟩
      · exact List.length_eq_zero_iff.1 h0
      · cases hh
    rw [hlg] at hR
    exact ⟨_, _, _, rfl, hR _ _ ⟨none, 0, rfl, .inl rfl, by simp [foot], Fr.refl _ _⟩⟩
  · rintro h1 rfl
    have f1 : Fr [] h (new h (blk 71 [])) := Fr.new _ _ _
    have o1 : Go.Wd.Own (new h (blk 71 [])) 71 3 (some ⟨sz h, 0, none⟩) 0 0 [] := ⟨rfl, .inr ⟨_, [], rfl, new_at _ _, rfl, by omega⟩⟩
    have hn : (encL Dd.cells s.lg).length = s.lg.length * 3 := encL_length Dd.len s.lg
    refine append_own (m := s.lg.length) o1 rfl hn (one_D s.lg) (o.row.fr f1 (by simp)) (by omega) (by omega) ?_
    intro a' c' h2 o2 f2 ha
    rw [Nat.zero_add] at o2 ⊢
    have fx : Fr [] h h2 := f1.later f2 (by simp [foot])
    have o2 : Go.Wd.Own h2 71 3 a' s.lg.length c' (encL Dd.cells s.lg) := by simpa using o2
    refine ⟨_, _, _, rfl, hR _ _ ⟨a', c', rfl, o2.row, fun x hx => ⟨?_, o2.foot_lt x hx⟩, fx⟩⟩
    rcases ha with rfl | ⟨rfl, _⟩
    · simp [foot] at hx; omega
    · simp [foot, sz_new] at hx; omega
end
end Go.Proofs.Ytmldiibfmhkgjaa
