import Derived.Test.YtadghpkdkdphdaaGg
namespace Go.Proofs.Ytadghpkdkdphdaa
open Go Go.Wd
set_option linter.unusedVariables false
set_option linter.unusedSimpArgs false

/-! ## what holds of all grants at all times -/
def Well (x : G) : Prop := x = noG ∨ ((x.state = 1 ∧ x.page = 0 ∨ x.state = 2) ∧ x.owner ≠ x.to ∧ 2 ≤ x.owner ∧ x.owner ≤ 9 ∧ 2 ≤ x.to ∧ x.to ≤ 9)
structure Inv (L : List G) : Prop where
  well : ∀ (j : Nat) (x : G), L[j]? = some x → Well x
  page : ∀ (j k : Nat) (x y : G), L[j]? = some x → L[k]? = some y → x.state = 2 → y.state = 2 → x.to = y.to → x.page = y.page → j = k
  like : ∀ (j k : Nat) (x y : G), L[j]? = some x → L[k]? = some y → x.state ≠ 0 → y.state ≠ 0 → x.owner = y.owner → x.frame = y.frame → x.to = y.to → j = k

theorem set_cases {α : Type} {L : List α} {k j : Nat} {y z : α} (h : (L.set k y)[j]? = some z) : (j = k ∧ z = y) ∨ (j ≠ k ∧ L[j]? = some z) := by
  rw [List.getElem?_set] at h
  split at h
  · rename_i e
    split at h
    · cases h; exact .inl ⟨e.symm, rfl⟩
    · cases h
  · rename_i e
    exact .inr ⟨fun h => e h.symm, h⟩

theorem Inv.set {L : List G} (g : Inv L) {k : Nat} {y : G} (hw : Well y) (hp : y.state = 2 → ∀ (j : Nat) (x : G), j ≠ k → L[j]? = some x → x.state = 2 → x.to = y.to → x.page = y.page → False)
    (hl : y.state ≠ 0 → ∀ (j : Nat) (x : G), j ≠ k → L[j]? = some x → x.state ≠ 0 → x.owner = y.owner → x.frame = y.frame → x.to = y.to → False) : Inv (L.set k y) := by
  refine ⟨fun j x hx => ?_, fun j i x z hx hz h1 h2 h3 h4 => ?_, fun j i x z hx hz h1 h2 h3 h4 h5 => ?_⟩
  · rcases set_cases hx with ⟨_, rfl⟩ | ⟨_, h⟩
    · exact hw
    · exact g.well j x h
  · rcases set_cases hx with ⟨rfl, rfl⟩ | ⟨n1, a1⟩
    · rcases set_cases hz with ⟨rfl, rfl⟩ | ⟨n2, a2⟩
      · rfl
      · exact (hp h1 i z n2 a2 h2 h3.symm h4.symm).elim
    · rcases set_cases hz with ⟨rfl, rfl⟩ | ⟨n2, a2⟩
      · exact (hp h2 j x n1 a1 h1 h3 h4).elim
      · exact g.page j i x z a1 a2 h1 h2 h3 h4
  · rcases set_cases hx with ⟨rfl, rfl⟩ | ⟨n1, a1⟩
    · rcases set_cases hz with ⟨rfl, rfl⟩ | ⟨n2, a2⟩
      · rfl
      · exact (hl h1 i z n2 a2 h2 h3.symm h4.symm h5.symm).elim
    · rcases set_cases hz with ⟨rfl, rfl⟩ | ⟨n2, a2⟩
      · exact (hl h2 j x n1 a1 h1 h3 h4 h5).elim
      · exact g.like j i x z a1 a2 h1 h2 h3 h4 h5

theorem Inv.zero : Inv (List.replicate 32 noG) := by
  have h : ∀ (j : Nat) (x : G), (List.replicate 32 noG)[j]? = some x → x = noG := by
    intro j x hx
    rw [List.getElem?_replicate] at hx
    split at hx
    · cases hx; rfl
    · cases hx
  refine ⟨fun j x hx => .inl (h j x hx), fun j k x y hx hy h1 => ?_, fun j k x y hx hy h1 => ?_⟩
  · rw [h j x hx] at h1; cases h1
  · rw [h j x hx] at h1; exact absurd rfl h1

theorem Inv.offer {L : List G} (g : Inv L) (o f t : Int) (w : Bool) : Inv (offerL L o f t w) := by
  unfold offerL
  split
  · rename_i he
    unfold offerE at he
    split at he
    · cases he
    rename_i hb
    split at he
    · cases he
    rename_i hl
    have hb' : offerBad o f t = false := by simpa using hb
    simp only [offerBad, Bool.or_eq_false_iff, Bool.not_eq_false', decide_eq_false_iff_not, isGuest, Bool.and_eq_true, decide_eq_true_eq] at hb'
    obtain ⟨⟨b1, b2⟩, ⟨b3, b4⟩, b5, b6⟩ := hb'
    refine g.set (.inr ⟨.inl ⟨rfl, rfl⟩, b5, b1, b2, b3, b4⟩) (fun h => by cases h) (fun _ j x _ hx h1 h2 h3 h4 => ?_)
    rcases idx_cases (likeP o f t) L with ⟨_, hn⟩ | ⟨m, z, hm, _⟩
    · have := hn x (List.mem_of_getElem? hx)
      simp only [likeP, h2, h3, h4, beq_self_eq_true, Bool.and_true] at this
      simp at this; exact h1 this
    · omega
  · exact g
theorem Inv.accept {L : List G} (g : Inv L) (hlen : L.length = 32) (i t p : Int) : Inv (acceptL L i t p) := by
  unfold acceptL
  split
  · rename_i he
    unfold acceptE at he
    split at he
    · cases he
    split at he
    · rename_i h; exact absurd he h
    rename_i hm
    split at he
    · cases he
    rename_i h2
    split at he
    · cases he
    rename_i ha
    obtain ⟨ht, hg, hst, hto⟩ := madeE_zero (by simpa using hm)
    obtain ⟨k, rfl, hk⟩ := isThere_nat ht
    obtain ⟨x, hx⟩ : ∃ x, L[k]? = some x := ⟨_, List.getElem?_eq_getElem (by omega)⟩
    rw [getG_nat hk hx] at hst hto h2 ⊢
    rw [Int.toNat_natCast]
    refine g.set ?_ (fun _ j z hj hz h3 h4 h5 => ?_) (fun _ j z hj hz h3 h4 h5 h6 => hj (g.like j k z x hz hx h3 hst h4 h5 h6))
    · rcases g.well k x hx with rfl | ⟨_, h⟩
      · exact absurd rfl hst
      · exact .inr ⟨.inr rfl, h⟩
    · rcases idx_cases (atP t p) L with ⟨_, hn⟩ | ⟨m, z, hm, _⟩
      · have := hn z (List.mem_of_getElem? hz)
        simp only at h4 h5
        simp [atP, h3, h4, h5, hto] at this
      · omega
  · exact g
theorem Inv.leave {L : List G} (g : Inv L) (hlen : L.length = 32) (i t : Int) : Inv (leaveL L i t) := by
  unfold leaveL
  split
  · rename_i he
    unfold leaveE at he
    split at he
    · rename_i h; exact absurd he h
    rename_i hm
    obtain ⟨ht, hg, hst, hto⟩ := madeE_zero (by simpa using hm)
    obtain ⟨k, rfl, hk⟩ := isThere_nat ht
    obtain ⟨x, hx⟩ : ∃ x, L[k]? = some x := ⟨_, List.getElem?_eq_getElem (by omega)⟩
    rw [getG_nat hk hx] at hst hto ⊢
    rw [Int.toNat_natCast]
    refine g.set ?_ (fun h => by cases h) (fun _ j z hj hz h3 h4 h5 h6 => hj (g.like j k z x hz hx h3 hst h4 h5 h6))
    rcases g.well k x hx with rfl | ⟨_, h⟩
    · exact absurd rfl hst
    · exact .inr ⟨.inl ⟨rfl, rfl⟩, h⟩
  · exact g
theorem Inv.revoke {L : List G} (g : Inv L) (i o : Int) : Inv (revokeL L i o) := by
  unfold revokeL
  split
  · exact g.set (.inl rfl) (fun h => by cases h) (fun h => absurd rfl h)
  · exact g
theorem gone_at {L : List G} {w : Int} {j : Nat} {x : G} (h : (goneL w L)[j]? = some x) : (∃ y, L[j]? = some y ∧ goneP w y = true ∧ x = noG) ∨ (L[j]? = some x ∧ goneP w x = false) := by
  simp only [goneL, List.getElem?_map, Option.map_eq_some_iff] at h
  obtain ⟨y, hy, rfl⟩ := h
  cases hg : goneP w y
  · exact .inr ⟨by simpa using hy, by simpa using hg⟩
  · exact .inl ⟨y, hy, hg, by simp⟩
theorem Inv.gone {L : List G} (g : Inv L) (w : Int) : Inv (goneL w L) := by
  refine ⟨fun j x hx => ?_, fun j i x z hx hz h1 h2 h3 h4 => ?_, fun j i x z hx hz h1 h2 h3 h4 h5 => ?_⟩
  · rcases gone_at hx with ⟨_, _, _, rfl⟩ | ⟨h, _⟩
    · exact .inl rfl
    · exact g.well j x h
  · rcases gone_at hx with ⟨_, _, _, rfl⟩ | ⟨a, _⟩
    · cases h1
    rcases gone_at hz with ⟨_, _, _, rfl⟩ | ⟨b, _⟩
    · cases h2
    exact g.page j i x z a b h1 h2 h3 h4
  · rcases gone_at hx with ⟨_, _, _, rfl⟩ | ⟨a, _⟩
    · exact absurd rfl h1
    rcases gone_at hz with ⟨_, _, _, rfl⟩ | ⟨b, _⟩
    · exact absurd rfl h2
    exact g.like j i x z a b h1 h2 h3 h4 h5
/-- A grant that is taken may be used, and is found at its page. -/
theorem Inv.may {L : List G} (g : Inv L) {k : Nat} {x : G} (hx : L[k]? = some x) (h2 : x.state = 2) : decide (0 ≤ idx (mayP x.to x.frame x.write) L) = true ∧ idx (atP x.to x.page) L = k := by
  constructor
  · rcases idx_cases (mayP x.to x.frame x.write) L with ⟨_, hn⟩ | ⟨m, z, hm, _⟩
    · have := hn x (List.mem_of_getElem? hx)
      simp [mayP, h2] at this
    · rw [hm]; simp
  · refine idx_at hx (by simp [atP, h2]) (fun j y hj hy => ?_)
    cases hp : atP x.to x.page y
    · rfl
    · simp only [atP, Bool.and_eq_true, beq_iff_eq] at hp
      have := g.page j k y x hy hx hp.1 h2 hp.2.1 hp.2.2
      omega
end Go.Proofs.Ytadghpkdkdphdaa
