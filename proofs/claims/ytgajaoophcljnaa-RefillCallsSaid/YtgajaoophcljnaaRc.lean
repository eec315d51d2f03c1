import Derived.Test.YtgajaoophcljnaaRb
namespace Go.Proofs.Ytgajaoophcljnaa
open Go Go.Wd
set_option linter.unusedVariables false
set_option linter.unusedSimpArgs false

theorem encR_append : ∀ a b, encR (a ++ b) = encR a ++ encR b
  | [], b => rfl
  | p :: a, b => by simp [encR, encR_append a b]

theorem clip_spec {h : Hp} (a : Option Addr) (l c : Nat) (hl : l ≤ c) :
    CallsH Try.prog 21 [.slice a l c] h fun v h' => v = .slice a l l ∧ h' = h := by
  apply slices_Clip.calls
  unfold slices_Clip.P
  have : sliceBase a 0 l 2 = a := by
    unfold sliceBase
    split
    · rfl
    · cases a <;> simp [Addr.add]
  simp [this, hl]

theorem list_spec {h : Hp} {q r n : Nat} {L : List (Int × Int)} {total : Int} (w : Row h q r n L total) :
    CallsH Try.prog 10 [.pointer (some ⟨q, 0, none⟩)] h fun v h' => ∃ a, v = .slice a L.length L.length ∧ Fresh h h' a (encR L) ∧ Fr [] h h' := by
  have hlt := w.lt
  obtain ⟨ring, first, w⟩ := w
  apply refill_Row_List.calls
  unfold refill_Row_List.P
  rw [cellAt_of w.raw.hq]
  refine ⟨_, rfl, fun a l c x h1 => ∃ k : Nat, k ≤ L.length ∧ x = k ∧ l = k ∧ Own h1 36 2 a l c (encR (L.take k)) ∧ Fr [] h h1 ∧ (∀ y ∈ foot a, sz h ≤ y),
    fun a l c x h1 => L.length - x.toNat, ⟨0, by omega, rfl, rfl, Own.nil _ _ _, Fr.refl _ _, by simp [foot]⟩, ?_⟩
  rintro a l c x h1 ⟨k, hk, rfl, rfl, o, f, ha⟩
  have w1 := w.fr f (by simp) (by simp)
  by_cases hkl : l < L.length
  · obtain ⟨p, hp⟩ : ∃ p, L[l]? = some p := ⟨_, List.getElem?_eq_getElem hkl⟩
    have hg := ring_get w1 hp
    have hw : IntKind.wrap .i64 ((l : Int) + 1) = ((l + 1 : Nat) : Int) := by rw [wrap_i64 (by omega) (by omega)]; omega
    refine ⟨fun _ => ?_, fun e => by simp at e; omega⟩
    refine (at_spec w1.raw l (by omega)).mono ?_
    rintro v h2 ⟨rfl, rfl⟩
    refine ⟨_, rfl, _, _, rfl, _, hg.1, _, hg.2, fun h3 e3 => ?_⟩
    refine append_new (h0 := h) (F := []) o rfl f (fun y hy => .inr (ha y hy)) rfl rfl e3 (by omega) (by omega) ?_
    intro a' c' h4 o4 f4 g4 _ _
    rw [hw]
    refine ⟨⟨l + 1, by omega, rfl, rfl, ?_, f4, fun y hy => by simpa using g4 y hy⟩, by simp; omega⟩
    have : L.take (l + 1) = L.take l ++ [p] := by
      rw [List.take_add_one, hp]; rfl
    rw [this, encR_append]
    exact o4
  · have hl : l = L.length := by omega
    subst hl
    refine ⟨fun e => by simp at e, fun _ => ?_⟩
    refine (clip_spec a L.length c o.le).mono ?_
    rintro v h5 ⟨rfl, rfl⟩
    refine ⟨_, _, _, rfl, a, rfl, ⟨?_, ha, o.foot_lt⟩, f⟩
    have := o.row
    rwa [List.take_length] at this
end Go.Proofs.Ytgajaoophcljnaa
