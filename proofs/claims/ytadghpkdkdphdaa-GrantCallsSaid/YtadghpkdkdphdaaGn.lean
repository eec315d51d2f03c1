import Derived.Test.YtadghpkdkdphdaaGm
namespace Go.Proofs.Ytadghpkdkdphdaa
open Go Go.Wd
set_option linter.unusedVariables false
set_option linter.unusedSimpArgs false

theorem idx_any {α : Type} (p : α → Bool) (L : List α) : decide (0 ≤ idx p L) = L.any p := by
  rcases idx_cases p L with ⟨h1, h2⟩ | ⟨j, x, h1, h2, h3, _⟩
  · rw [h1, List.any_eq_false.2 (fun x hx => by rw [h2 x hx]; simp)]; rfl
  · rw [h1, List.any_eq_true.2 ⟨x, List.mem_of_getElem? h2, h3⟩]; simp
theorem any_next {α : Type} (p : α → Bool) {L : List α} {n : Nat} {x : α} (hx : L[n]? = some x) : (L.take (n + 1)).any p = ((L.take n).any p || p x) := by
  rw [take_one hx, List.any_append]; simp

set_option maxHeartbeats 4000000 in
theorem calls_law {h : Hp} {a : Option Addr} {c : Nat} {l : List C} (g1 : rowAtK h a (encL C.cells l)) (id who frame : Int) :
    CallsH Try.prog 4 [.slice a l.length c, .int .i64 id, .int .i64 who, .int .i64 frame] h fun v h' => v = .bool true ∧ Fr [] h h' := by
  refine calls_k fun R hR => ?_
  apply warderlaw12_GrantCalls.calls
  unfold warderlaw12_GrantCalls.P
  refine (alive_spec h).mono ?_
  rintro v h1 ⟨rfl, f1⟩
  have yes := fun h' (f : Fr [] h h') => hR (.bool true) h' ⟨rfl, f⟩
  refine ⟨_, rfl, by simp, fun _ => ⟨fun _ => yes _ f1, fun d1 => ?_⟩⟩
  have hn : l.length ≤ 80 := by simp only [decide_eq_false_iff_not] at d1; omega
  refine new_spec.mono ?_
  rintro v h2 ⟨rfl, w2, f2, s2⟩
  refine ⟨_, rfl, ?_⟩
  refine rnew_spec.mono ?_
  rintro v h3 ⟨rfl, r3, f3, s3⟩
  refine ⟨_, rfl, ?_⟩
  have z1 := f1.size
  have w3 := w2.fr f3 (by simp)
  have ne1 : sz h1 ≠ sz h2 := by omega
  have ne2 : sz h1 ≠ sz h2 + 1 := by omega
  have gq : sz h ≤ sz h1 := z1
  have glb : sz h ≤ sz h2 := by omega
  generalize sz h2 + 1 = q2 at *
  generalize sz h2 = lb at *
  generalize sz h1 = q at *
  refine ⟨fun i h4 => ∃ (k : Nat) (L : List G), i = k ∧ k ≤ l.length ∧ GS h4 q L ∧ RS h4 q2 lb L ∧ Inv L ∧ Fr [] h h4, fun i _ => l.length - i.toNat, ⟨0, _, rfl, by omega, w3, r3, Inv.zero, (f1.trans f2).trans f3⟩, ?_⟩
  rintro i h4 ⟨k, L, rfl, hk, w4, r4, v4, f4⟩
  by_cases hkl : k < l.length
  · refine ⟨fun _ => ?_, fun hf => absurd hf (by simp; omega)⟩
    obtain ⟨c, hc⟩ : ∃ c, l[k]? = some c := ⟨_, List.getElem?_eq_getElem hkl⟩
    obtain ⟨b1, o1, rfl, e1⟩ := encL_one (f := C.cells) (m := 6) C.len (g1.fr f4 (by simp)) hc (by omega)
    refine ⟨by omega, by omega, _, _, rfl, ?_⟩
    refine C.rd c (by simpa using e1) ?_
    refine (told_spec w4 r4 v4 ne1 ne2 c).mono ?_
    rintro v h5 ⟨rfl, w5, r5, f5⟩
    have v5 := v4.step w4.len c
    have f5' := f4.later f5 (by simp; omega)
    clear w4 r4 v4 f4 e1 f5
    generalize stepL L c = M at *
    refine ⟨_, rfl, fun hf => absurd hf (by simp), fun _ => ?_⟩
    refine put_local rfl (by simp) ?_
    intro h7 k7 f7 s7
    have w7 := w5.fr f7 (by simp)
    have r7 := r5.fr f7 (by simp) (by simp)
    have f7' := f5'.trans f7
    have lw := w5.lt
    have lr := r5.lt
    have ll := r5.ltl
    have z5 := f5'.size
    generalize hwb : sz h5 = wb at *
    refine ⟨fun h10 => GS h10 q M ∧ RS h10 q2 lb M ∧ bk h10 wb = some (blk 41 (getG M id).cells) ∧ Fr [] h h10, ?_, ?_⟩
    · refine ⟨fun x h8 => x = isThere id ∧ h8 = h7, ⟨fun c1 => ⟨by simp at c1; simp [isThere, c1], rfl⟩, fun c1 => ⟨by simp at c1; simp [isThere]; omega, rfl⟩⟩, ?_⟩
      rintro x h8 ⟨rfl, rfl⟩
      refine ⟨fun ht => ⟨_, _, rfl, _, _, _, r7.list, ?_⟩, fun ht => ⟨w7, r7, by rw [show getG M id = noG by simp [getG, ht]]; exact k7, f7'⟩⟩
      obtain ⟨n, rfl, hn⟩ := isThere_nat ht
      obtain ⟨x, hx⟩ := w7.ex hn
      refine ⟨by omega, by omega, _, _, rfl, G.rd x (fun j hj => r7.cell hx j hj) ?_⟩
      refine ⟨truly_rfl, _, _, k7, by simp, ?_⟩
      rintro h9 rfl
      rw [getG_nat hn hx]
      refine ⟨w7.fr (Fr.upd (F := [wb]) (by simp) h8 _ _) (by simp; omega), r7.on (by omega) (by omega) _ _, upd_same k7 _ _, Fr.on f7' (.inr (by omega)) _ _⟩
    rintro h10 ⟨w10, r10, k10, f10⟩
    refine ⟨fun m wr i h11 => ∃ n : Nat, i = n ∧ n ≤ 32 ∧ m = (M.take n).any (mayP who frame false) ∧ wr = (M.take n).any (mayP who frame true) ∧ GS h11 q M ∧ RS h11 q2 lb M ∧ bk h11 wb = some (blk 41 (getG M id).cells) ∧ Fr [] h h11, fun _ _ i _ => 32 - i.toNat, ⟨0, rfl, by omega, rfl, rfl, w10, r10, k10, f10⟩, ?_⟩
    rintro m wr i h11 ⟨n, rfl, hn, rfl, rfl, w11, r11, k11, f11⟩
    by_cases hn32 : n < 32
    · obtain ⟨x, hx⟩ := w11.ex hn32
      refine ⟨fun _ => ⟨_, _, rfl, _, _, _, r11.list, by omega, by omega, _, _, rfl, ?_⟩, fun hf => absurd hf (by simp; omega)⟩
      refine G.rd x (fun j hj => r11.cell hx j hj) ?_
      refine put_local rfl (by simp) ?_
      intro h13 k13 f13 s13
      have w13 := w11.fr f13 (by simp)
      have r13 := r11.fr f13 (by simp) (by simp)
      have kw13 := f13.at k11 (by simp)
      have f13' := f11.trans f13
      have nxt : ∀ m wr, m = ((M.take n).any (mayP who frame false) || mayP who frame false x) → wr = ((M.take n).any (mayP who frame true) || mayP who frame true x) → (∃ n' : Nat, IntKind.wrap .i64 ((n : Int) + 1) = n' ∧ n' ≤ 32 ∧ m = (M.take n').any (mayP who frame false) ∧ wr = (M.take n').any (mayP who frame true) ∧ GS h13 q M ∧ RS h13 q2 lb M ∧ bk h13 wb = some (blk 41 (getG M id).cells) ∧ Fr [] h h13) ∧ 32 - (IntKind.wrap .i64 ((n : Int) + 1)).toNat < 32 - (n : Int).toNat := by
        intro m wr hm hw
        rw [wrapN hn32 (by omega)]
        exact ⟨⟨n + 1, rfl, by omega, by rw [any_next _ hx, hm], by rw [any_next _ hx, hw], w13, r13, kw13, f13'⟩, by omega⟩
      refine ⟨_, (cellAt_of k13 0).trans rfl, fun c0 => ⟨_, (cellAt_of k13 3).trans rfl, fun c3 => ⟨_, (cellAt_of k13 2).trans rfl, fun c2 => ⟨fun cw => nxt _ _ ?_ ?_, fun cw => ⟨_, (cellAt_of k13 5).trans rfl, nxt _ _ ?_ ?_⟩⟩, fun c2 => nxt _ _ ?_ ?_⟩, fun c3 => nxt _ _ ?_ ?_⟩, fun c0 => nxt _ _ ?_ ?_⟩
      · simp [mayP, c0, c3, c2]
      · simp [cw]
      · simp [mayP, c0, c3, c2]
      · simp [mayP, c0, c3, c2, cw]
      · simp [mayP, c0, c3, c2]
      · simp [mayP, c0, c3, c2]
      · simp [mayP, c0, c3]
      · simp [mayP, c0, c3]
      · simp [mayP, c0]
      · simp [mayP, c0]
    · have : n = 32 := by omega
      subst this
      have et : M.take 32 = M := List.take_of_length_le (by rw [w11.len]; exact Nat.le_refl _)
      rw [et]
      refine ⟨fun hf => absurd hf (by simp), fun _ => ?_⟩
      have rd : ∀ h', Fr [] h11 h' → ∀ j, j < 6 → cellAt h' wb (0 + j) = (getG M id).cells[j]? := fun h' f j hj => by rw [Nat.zero_add]; exact cellAt_of (f.at k11 (by simp)) j
      refine G.rd (o := 0) (getG M id) (rd _ (Fr.refl _ _)) ?_
      refine (get_spec w11 id).mono ?_
      rintro v h14 ⟨rfl, f14⟩
      have ec := rd _ f14
      refine ⟨_, _, _, _, _, _, rfl, (ec 0 (by omega)).trans rfl, (ec 1 (by omega)).trans rfl, (ec 2 (by omega)).trans rfl, (ec 3 (by omega)).trans rfl, (ec 4 (by omega)).trans rfl, (ec 5 (by omega)).trans rfl, ?_⟩
      refine (of_spec (getG M id)).mono ?_
      rintro v h15 ⟨rfl, f15⟩
      have ec := rd _ (f14.trans f15)
      refine ⟨_, _, _, _, _, _, rfl, (ec 0 (by omega)).trans rfl, (ec 1 (by omega)).trans rfl, (ec 2 (by omega)).trans rfl, (ec 3 (by omega)).trans rfl, (ec 4 (by omega)).trans rfl, (ec 5 (by omega)).trans rfl, fun hc => absurd hc (by simp [notIf]), fun _ => ?_⟩
      have fx := f14.trans f15
      refine (May_spec (w11.fr fx (by simp)) who frame false).mono ?_
      rintro v h16 ⟨rfl, f16⟩
      refine ⟨_, rfl, fun hc => absurd hc (by rw [idx_any]; simp [notIf]), fun _ => ?_⟩
      have fx := fx.trans f16
      refine (May_spec (w11.fr fx (by simp)) who frame true).mono ?_
      rintro v h17 ⟨rfl, f17⟩
      refine ⟨_, rfl, fun hc => absurd hc (by rw [idx_any]; simp [notIf]), fun _ => ?_⟩
      have fx := fx.trans f17
      refine (At_spec (w11.fr fx (by simp)) who frame).mono ?_
      rintro v h18 ⟨rfl, f18⟩
      refine ⟨_, rfl, ?_⟩
      have fx := fx.trans f18
      refine (rAt_spec (r11.fr fx (by simp) (by simp)) who frame).mono ?_
      rintro v h19 ⟨rfl, rfl⟩
      refine ⟨_, rfl, fun hc => absurd hc (by simp), fun _ => ?_⟩
      rw [wrapN hkl (by omega)]
      exact ⟨⟨k + 1, M, rfl, by omega, w11.fr fx (by simp), r11.fr fx (by simp) (by simp), v5, f11.trans fx⟩, by show l.length - ((k + 1 : Nat) : Int).toNat < l.length - (k : Int).toNat; omega⟩
  · exact ⟨fun hf => absurd hf (by simp; omega), fun _ => yes _ f4⟩
end Go.Proofs.Ytadghpkdkdphdaa
