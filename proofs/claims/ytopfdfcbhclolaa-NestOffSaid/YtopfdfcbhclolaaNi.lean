import Derived.Test.YtopfdfcbhclolaaWh
namespace Go.Proofs.Ytopfdfcbhclolaa
open Go Go.Wd
set_option linter.unusedVariables false
set_option linter.unusedSimpArgs false

/-! ## what a translation tells -/
variable {n : Nat} {B : List Nat} {tab : Int} {va root : Nat} {acc : Int}
theorem told_split (n : Nat) (B : List Nat) (tab : Int) (va root : Nat) (acc : Int) : (∃ st kd ad tb r, toldR n B tab va root acc 0 = .bad st kd ad tb r ∧ (st = 1 ∨ st = 2) ∧ kd ≠ 0 ∧ 0 ≤ r ∧ r ≤ 6) ∨
    ∃ t r, toldR n B tab va root acc 0 = .ok t r := by
  have thru_bad : ∀ {ipa : Nat} {a : Int} {tb0 : Bool} {r0 st kd : Int} {ad : Nat} {tb : Bool} {r : Int}, thruR n B tab ipa a tb0 r0 = .bad st kd ad tb r → st = 2 ∧ kd ≠ 0 ∧ r0 ≤ r ∧ r ≤ r0 + 2 := by
    intro ipa a tb0 r0 st kd ad tb r h
    unfold thruR at h
    have hr := walk_reads n B tab ipa a
    split at h
    · cases h
    · rename_i hf
      cases h
      exact ⟨rfl, hf, by omega, by omega⟩
  have ent_bad : ∀ {page : Int} {i : Nat} {r0 st kd : Int} {ad : Nat} {tb : Bool} {r : Int}, entR n B tab va page i r0 = .bad st kd ad tb r → (st = 1 ∨ st = 2) ∧ kd ≠ 0 ∧ r0 ≤ r ∧ r ≤ r0 + 2 := by
    intro page i r0 st kd ad tb r h
    unfold entR at h
    split at h
    · cases hm : thruR n B tab (page.toNat * 256 + 4 * i) 0 true r0 with
      | ok H r1 => rw [hm] at h; cases h
      | bad st1 kd1 ad1 tb1 r1 =>
        rw [hm] at h; cases h
        have := thru_bad hm
        exact ⟨.inr this.1, this.2.1, this.2.2.1, this.2.2.2⟩
    · cases h
      exact ⟨.inl rfl, by decide, by omega, by omega⟩
  have own_bad : ∀ {st kd : Int} {ad : Nat} {tb : Bool} {r : Int}, ownR n B tab va root 0 = .bad st kd ad tb r → (st = 1 ∨ st = 2) ∧ kd ≠ 0 ∧ 0 ≤ r ∧ r ≤ 4 := by
    intro st kd ad tb r h
    unfold ownR at h
    cases hm : entR n B tab va ((root / 256 : Nat) : Int) (va / 16384 % 64) 0 with
    | bad st1 kd1 ad1 tb1 r1 =>
      rw [hm] at h; cases h
      have := ent_bad hm
      exact ⟨this.1, this.2.1, by omega, by omega⟩
    | ok e r1 =>
      rw [hm] at h
      have h1 := ent_le hm
      simp only [Rs.bind] at h
      split at h
      · cases h; exact ⟨.inl rfl, by decide, by omega, by omega⟩
      · split at h
        · cases h
        · cases hm2 : entR n B tab va e.f (va / 256 % 64) r1 with
          | bad st1 kd1 ad1 tb1 r2 =>
            rw [hm2] at h; cases h
            have := ent_bad hm2
            exact ⟨this.1, this.2.1, by omega, by omega⟩
          | ok g r2 =>
            rw [hm2] at h
            have h2 := ent_le hm2
            simp only at h
            split at h
            · cases h; exact ⟨.inl rfl, by decide, by omega, by omega⟩
            · cases h
  have last_bad : ∀ {ww xx : Bool} {page r0 : Int}, 0 ≤ r0 → r0 ≤ 4 → (∃ st kd ad tb r, lastR n B tab va ww xx page acc r0 = .bad st kd ad tb r ∧ (st = 1 ∨ st = 2) ∧ kd ≠ 0 ∧ 0 ≤ r ∧ r ≤ 6) ∨ ∃ t r, lastR n B tab va ww xx page acc r0 = .ok t r := by
    intro ww xx page r0 h0 h4
    unfold lastR
    cases hm : thruR n B tab (page.toNat * 256 + va % 256) acc false r0 with
    | bad st1 kd1 ad1 tb1 r1 =>
      have := thru_bad hm
      exact .inl ⟨_, _, _, _, _, rfl, .inr this.1, this.2.1, by omega, by omega⟩
    | ok H r1 => exact .inr ⟨_, _, rfl⟩
  unfold toldR
  split
  · exact .inl ⟨_, _, _, _, _, rfl, .inl rfl, by decide, by omega, by omega⟩
  split
  · exact last_bad (by omega) (by omega)
  cases hm : ownR n B tab va root 0 with
  | bad st1 kd1 ad1 tb1 r1 =>
    have := own_bad hm
    exact .inl ⟨_, _, _, _, _, rfl, this.1, this.2.1, this.2.2.1, by omega⟩
  | ok x r1 =>
    have hx := own_le hm
    simp only [Rs.bind]
    split
    · exact .inl ⟨_, _, _, _, _, rfl, .inl rfl, by decide, by omega, by omega⟩
    split
    · exact .inl ⟨_, _, _, _, _, rfl, .inl rfl, by decide, by omega, by omega⟩
    · exact last_bad (by omega) (by omega)
/-- A translation that comes to an end: its last stage. -/
theorem told_ok {t : Tl} {r' : Int} (h : toldR n B tab va root acc 0 = .ok t r') : ∃ (ww xx : Bool) (page r : Int), 0 ≤ r ∧ r ≤ 4 ∧ 0 ≤ page ∧ page < 4096 ∧ lastR n B tab va ww xx page acc r = .ok t r' ∧ (acc = 1 → ww = true) ∧ (acc = 2 → xx = true) := by
  unfold toldR at h
  split at h
  · cases h
  rename_i hv
  split at h
  · exact ⟨true, true, _, 0, by omega, by omega, by omega, by omega, h, fun _ => rfl, fun _ => rfl⟩
  cases hm : ownR n B tab va root 0 with
  | bad st1 kd1 ad1 tb1 r1 => rw [hm] at h; cases h
  | ok x r1 =>
    rw [hm] at h
    have hx := own_le hm
    simp only [Rs.bind] at h
    split at h
    · cases h
    rename_i ha
    split at h
    · cases h
    rename_i hp
    refine ⟨x.1.w, x.1.x, x.2, r1, by omega, by omega, by omega, by omega, h, fun e => ?_, fun e => ?_⟩
    · subst e
      rw [allows_1] at ha
      simp only [Bool.not_eq_false, Bool.and_eq_true] at ha
      exact ha.2
    · subst e
      rw [allows_2] at ha
      simp only [Bool.not_eq_false, Bool.and_eq_true] at ha
      exact ha.2
theorem last_ok {ww xx : Bool} {page r r' : Int} {t : Tl} (h : lastR n B tab va ww xx page acc r = .ok t r') : (walkOf n B tab (page.toNat * 256 + va % 256) acc).fault = 0 ∧ r' = r + (walkOf n B tab (page.toNat * 256 + va % 256) acc).reads ∧
    t = ⟨0, 0, 0, false, r', page, adr (walkOf n B tab (page.toNat * 256 + va % 256) acc).frame (page.toNat * 256 + va % 256), ww && (walkOf n B tab (page.toNat * 256 + va % 256) acc).write, xx && (walkOf n B tab (page.toNat * 256 + va % 256) acc).exec⟩ := by
  unfold lastR thruR at h
  by_cases c : (walkOf n B tab (page.toNat * 256 + va % 256) acc).fault = 0
  · rw [if_pos c] at h
    cases h
    exact ⟨c, rfl, rfl⟩
  · rw [if_neg c] at h; cases h
theorem tr_split (n : Nat) (B : List Nat) (tab : Int) (va root : Nat) (acc : Int) : (∃ st kd ad tb r, trOf n B tab va root acc = ⟨st, kd, ad, tb, r, 0, 0, false, false⟩ ∧ (st = 1 ∨ st = 2) ∧ kd ≠ 0 ∧ 0 ≤ r ∧ r ≤ 6) ∨
    ∃ (ww xx : Bool) (page r : Int), 0 ≤ r ∧ r ≤ 4 ∧ 0 ≤ page ∧ page < 4096 ∧ (acc = 1 → ww = true) ∧ (acc = 2 → xx = true) ∧ (walkOf n B tab (page.toNat * 256 + va % 256) acc).fault = 0 ∧
      trOf n B tab va root acc = ⟨0, 0, 0, false, r + (walkOf n B tab (page.toNat * 256 + va % 256) acc).reads, page, adr (walkOf n B tab (page.toNat * 256 + va % 256) acc).frame (page.toNat * 256 + va % 256), ww && (walkOf n B tab (page.toNat * 256 + va % 256) acc).write, xx && (walkOf n B tab (page.toNat * 256 + va % 256) acc).exec⟩ := by
  rcases told_split n B tab va root acc with ⟨st, kd, ad, tb, r, h, h1, h2, h3, h4⟩ | ⟨t, r', h⟩
  · exact .inl ⟨st, kd, ad, tb, r, by unfold trOf; rw [h], h1, h2, h3, h4⟩
  · obtain ⟨ww, xx, page, r, g1, g2, g3, g4, g5, g6, g7⟩ := told_ok h
    obtain ⟨l1, l2, l3⟩ := last_ok g5
    exact .inr ⟨ww, xx, page, r, g1, g2, g3, g4, g6, g7, l1, by unfold trOf; rw [h]; simp only; rw [l3, l2]⟩
theorem tr_ad (hn : n ≤ 1024) (B : List Nat) (tab : Int) (va root : Nat) (acc : Int) : (trOf n B tab va root acc).ad < 4294967296 := by
  rcases tr_split n B tab va root acc with ⟨st, kd, ad, tb, r, h, _⟩ | ⟨ww, xx, page, r, _, _, _, _, _, _, hf, h⟩
  · rw [h]; exact (by decide : (0 : Nat) < 4294967296)
  · rw [h]
    have := walk_frame hf
    have h2 := adr_lt (k := page.toNat * 256 + va % 256) this.1 this.2 hn
    simp only
    omega
/-- A walk that ends for an access allows it, and ends for reading in the same. -/
theorem walkF_acc {F : Fd} (h : (walkF n F acc).fault = 0) : allows F.e acc = true ∧ F.f = 0 ∧ F.e.f < n ∧ walkF n F acc = ⟨0, F.r, F.e.f, F.e.w, F.e.x, F.e.b⟩ ∧ walkF n F 0 = ⟨0, F.r, F.e.f, F.e.w, F.e.x, F.e.b⟩ := by
  unfold walkF at h
  split at h
  · rename_i h1; exact absurd h h1
  rename_i h1
  split at h
  · simp at h
  rename_i h2
  split at h
  · simp at h
  rename_i h3
  have h2' : allows F.e acc = true := by simpa using h2
  have hv : F.e.v = true := by
    unfold allows at h2'
    simp only [Bool.and_eq_true] at h2'
    exact h2'.1
  have h4 : ¬ (!allows F.e 0) = true := by rw [allows_0, hv]; decide
  refine ⟨h2', by simpa using h1, by omega, ?_, ?_⟩
  · unfold walkF; rw [if_neg h1, if_neg h2, if_neg h3]
  · unfold walkF; rw [if_neg h1, if_neg h4, if_neg h3]
end Go.Proofs.Ytopfdfcbhclolaa
