import Derived.Test.YtadghpkdkdphdaaGj
namespace Go.Proofs.Ytadghpkdkdphdaa
open Go Go.Wd
set_option linter.unusedVariables false
set_option linter.unusedSimpArgs false

/-! ## the document's grants -/
structure RS (h : Hp) (q lb : Nat) (L : List G) : Prop where
  hq : bk h q = some (blk 44 [.slice (some ⟨lb, 0, none⟩) 32 32])
  arr : Arr G.cells 41 h lb L []
  len : L.length = 32
  ne : lb ≠ q
section
variable {h h' : Hp} {q lb : Nat} {L : List G}
theorem RS.fr (w : RS h q lb L) {F : List Nat} (k : Fr F h h') (h1 : q ∉ F) (h2 : lb ∉ F) : RS h' q lb L := ⟨k.at w.hq h1, w.arr.fr k h2, w.len, w.ne⟩
theorem RS.lt (w : RS h q lb L) : q < sz h := lt_of_bk w.hq
theorem RS.ltl (w : RS h q lb L) : lb < sz h := w.arr.lt
theorem RS.ex (w : RS h q lb L) {k : Nat} (hk : k < 32) : ∃ x, L[k]? = some x := ⟨_, List.getElem?_eq_getElem (by rw [w.len]; exact hk)⟩
theorem RS.list (w : RS h q lb L) : cellAt h q 0 = some (.slice (some ⟨lb, 0, none⟩) 32 32) := (cellAt_of w.hq 0).trans rfl
theorem RS.cell (w : RS h q lb L) {k : Nat} {x : G} (hx : L[k]? = some x) (j : Nat) (hj : j < 6) : cellAt h lb (0 + (k : Int).toNat * 6 + j) = x.cells[j]? := by
  rw [Nat.zero_add, Int.toNat_natCast]; exact w.arr.get G.len hx j hj
theorem RS.cell0 (w : RS h q lb L) {k : Nat} {x : G} (hx : L[k]? = some x) : cellAt h lb (0 + (k : Int).toNat * 6) = some (.int .i64 x.state) := w.cell hx 0 (by omega)
theorem RS.room (w : RS h q lb L) {k j n : Nat} (hk : k < 32) (hj : j + n ≤ 6) : 0 + (k : Int).toNat * 6 + j + n ≤ (encL G.cells L ++ []).length := by
  rw [Nat.zero_add, Int.toNat_natCast]; exact w.arr.room G.len (by rw [w.len]; exact hk) hj
theorem RS.room0 (w : RS h q lb L) {k n : Nat} (hk : k < 32) (hj : n ≤ 6) : 0 + (k : Int).toNat * 6 + n ≤ (encL G.cells L ++ []).length := by
  have := w.room (k := k) (j := 0) (n := n) hk (by omega); omega
theorem RS.put (w : RS h q lb L) {k j : Nat} {x y : G} {vs : List Value} (hx : L[k]? = some x) (hj : j + vs.length ≤ 6) (hy : writeAt x.cells j vs = y.cells) :
    RS (upd h lb 41 (writeAt (encL G.cells L ++ []) (0 + (k : Int).toNat * 6 + j) vs)) q lb (L.set k y) := by
  have f : Fr [lb] h (upd h lb 41 (writeAt (encL G.cells L ++ []) (0 + (k : Int).toNat * 6 + j) vs)) := Fr.upd (F := [lb]) (by simp) _ _ _
  refine ⟨f.at w.hq (by simpa using fun e => w.ne e.symm), ?_, by simp [w.len], w.ne⟩
  rw [Nat.zero_add, Int.toNat_natCast]
  exact w.arr.put G.len hx hj hy
theorem RS.put0 (w : RS h q lb L) {k : Nat} {x y : G} {vs : List Value} (hx : L[k]? = some x) (hj : vs.length ≤ 6) (hy : writeAt x.cells 0 vs = y.cells) :
    RS (upd h lb 41 (writeAt (encL G.cells L ++ []) (0 + (k : Int).toNat * 6) vs)) q lb (L.set k y) := w.put (j := 0) hx (by omega) hy
end
theorem rnew_spec {h : Hp} : CallsH Try.prog 13 [] h fun v h' => v = .pointer (some ⟨sz h + 1, 0, none⟩) ∧ RS h' (sz h + 1) (sz h) (List.replicate 32 noG) ∧ Fr [] h h' ∧ sz h' = sz h + 2 := by
  apply warderref12_New.calls
  unfold warderref12_New.P
  refine ⟨by omega, by omega, by omega, by omega, rfl, ?_⟩
  rintro h1 rfl h2 rfl
  have k1 := new_at h (blk 41 (encL G.cells (List.replicate 32 noG) ++ []))
  have f1 : Fr [] h (new h (blk 41 (encL G.cells (List.replicate 32 noG) ++ []))) := Fr.new _ _ _
  have e : new h (blk 41 (zeros [.int .i64 0, .int .i64 0, .int .i64 0, .int .i64 0, .int .i64 0, .bool false] (32 : Int).toNat)) = new h (blk 41 (encL G.cells (List.replicate 32 noG) ++ [])) := rfl
  rw [e]
  have z1 : sz (new h (blk 41 (encL G.cells (List.replicate 32 noG) ++ []))) = sz h + 1 := sz_new _ _
  generalize new h (blk 41 (encL G.cells (List.replicate 32 noG) ++ [])) = h1 at *
  have f2 : Fr [] h1 (new h1 (blk 44 [.slice (some ⟨sz h, 0, none⟩) ((32 : Int).toNat) ((32 : Int).toNat)])) := Fr.new _ _ _
  have k2 := new_at h1 (blk 44 [.slice (some ⟨sz h, 0, none⟩) ((32 : Int).toNat) ((32 : Int).toNat)])
  refine ⟨by rw [z1], ⟨?_, ⟨f2.at k1 (by simp)⟩, by simp, by omega⟩, f1.trans f2, by rw [sz_new, z1]⟩
  rw [← z1]; exact k2

theorem idx_scan {α : Type} {p : α → Bool} {L : List α} {n : Nat} (hn : L.length ≤ n) (h : ∀ (j : Nat) (y : α), j < n → L[j]? = some y → p y = false) : idx p L = -1 := idx_none (fun x hx => by
  obtain ⟨j, hj⟩ := List.mem_iff_getElem?.1 hx
  exact h j x (by have := (List.getElem?_eq_some_iff.1 hj).1; omega) hj)
theorem scan_next {α : Type} {p : α → Bool} {L : List α} {k : Nat} {x : α} (hx : L[k]? = some x) (hno : ∀ (j : Nat) (y : α), j < k → L[j]? = some y → p y = false) (hp : p x = false) :
    ∀ (j : Nat) (y : α), j < k + 1 → L[j]? = some y → p y = false := by
  intro j y hj hy
  rcases Nat.lt_or_ge j k with h | h
  · exact hno j y h hy
  · have : j = k := by omega
    subst this
    rw [hx] at hy; cases hy; exact hp

theorem rAt_spec {h : Hp} {q lb : Nat} {L : List G} (w : RS h q lb L) (g p : Int) :
    CallsH Try.prog 19 [.pointer (some ⟨q, 0, none⟩), .int .i64 g, .int .i64 p] h fun v h' => v = .int .i64 (idx (atP g p) L) ∧ h' = h := by
  refine calls_k fun R hR => ?_
  apply warderref12_Grants_At.calls
  unfold warderref12_Grants_At.P
  refine ⟨fun i h1 => ∃ k : Nat, i = k ∧ k ≤ 32 ∧ h1 = h ∧ ∀ (j : Nat) (y : G), j < k → L[j]? = some y → atP g p y = false, fun i _ => 32 - i.toNat, ⟨0, rfl, by omega, rfl, fun j y hj => by omega⟩, ?_⟩
  rintro i h1 ⟨k, rfl, hk, rfl, hno⟩
  by_cases hk32 : k < 32
  · obtain ⟨x, hx⟩ := w.ex hk32
    have nxt : atP g p x = false → (∃ k' : Nat, IntKind.wrap .i64 ((k : Int) + 1) = k' ∧ k' ≤ 32 ∧ h1 = h1 ∧ ∀ (j : Nat) (y : G), j < k' → L[j]? = some y → atP g p y = false) ∧ 32 - (IntKind.wrap .i64 ((k : Int) + 1)).toNat < 32 - (k : Int).toNat := by
      intro hp
      rw [wrapN hk32 (by omega)]
      exact ⟨⟨k + 1, rfl, by omega, rfl, scan_next hx hno hp⟩, by omega⟩
    refine ⟨fun _ => ⟨_, _, _, w.list, by omega, by omega, _, _, rfl, _, w.cell0 hx, fun c1 => ⟨_, _, _, w.list, by omega, by omega, _, _, rfl, _, (w.cell hx 3 (by omega)).trans rfl, fun c2 => ⟨_, _, _, w.list, by omega, by omega, _, _, rfl, _, (w.cell hx 4 (by omega)).trans rfl, fun c3 => ?_, fun c3 => nxt ?_⟩, fun c2 => nxt ?_⟩, fun c1 => nxt ?_⟩, fun hf => absurd hf (by simp; omega)⟩
    · exact hR _ _ ⟨by rw [idx_at hx (by simp only [atP, c1, c2, c3]; rfl) hno], rfl⟩
    · simp only [atP, c3, Bool.and_false]
    · simp only [atP, c2, Bool.and_false, Bool.false_and]
    · simp only [atP, c1, Bool.false_and]
  · have : k = 32 := by omega
    subst this
    exact ⟨fun hf => absurd hf (by simp), fun _ => hR _ _ ⟨by rw [idx_scan (by rw [w.len]; exact Nat.le_refl _) hno], rfl⟩⟩

theorem Inv.ge {L : List G} (g : Inv L) {j : Nat} {x : G} (hx : L[j]? = some x) : 0 ≤ x.state := by
  rcases g.well j x hx with rfl | ⟨⟨h, _⟩ | h, _⟩
  · exact Int.le_refl _
  · rw [h]; decide
  · rw [h]; decide

set_option maxHeartbeats 2000000 in
theorem rOffer_spec {h : Hp} {q lb : Nat} {L : List G} (w : RS h q lb L) (g : Inv L) (o f t : Int) (wr : Bool) :
    CallsH Try.prog 27 [.pointer (some ⟨q, 0, none⟩), .int .i64 o, .int .i64 f, .int .i64 t, .bool wr] h fun v h' => v = .tuple #[.int .i64 (offerI L o f t), .int .i64 (offerE L o f t)] ∧ RS h' q lb (offerL L o f t wr) ∧ Fr [lb] h h' := by
  refine calls_k fun R hR => ?_
  apply warderref12_Grants_Offer.calls
  unfold warderref12_Grants_Offer.P
  have bad : offerBad o f t = true → R (.tuple #[.int .i64 (-1), .int .i64 11]) h := by
    intro hb
    have e : offerE L o f t = 11 := by simp [offerE, hb]
    have e1 : offerI L o f t = -1 := by simp [offerI, e]
    have e2 : offerL L o f t wr = L := by simp [offerL, e]
    rw [e, e1, e2] at hR
    exact hR _ _ ⟨rfl, w, Fr.refl _ _⟩
  refine ⟨fun h3 => h3 = h ∧ offerBad o f t = false, ?_, ?_⟩
  · refine (rguest_spec o).mono ?_
    rintro v h1 ⟨rfl, rfl⟩
    refine ⟨_, rfl, fun c => bad (by simp only [offerBad, c, Bool.true_or]), fun c1 => ?_⟩
    refine (rguest_spec t).mono ?_
    rintro v h2 ⟨rfl, rfl⟩
    exact ⟨_, rfl, fun c => bad (by simp only [offerBad, c, Bool.true_or, Bool.or_true]), fun c2 => ⟨fun c => bad (by simp only [beq_iff_eq] at c; simp [offerBad, c]), fun c3 => ⟨fun c => bad (by simp only [offerBad, c, Bool.or_true]), fun c4 => ⟨rfl, by simp only [beq_eq_false_iff_ne] at c3; simp only [offerBad, c1, c2, c4, Bool.or_false, Bool.false_or, decide_eq_false_iff_not]; exact c3⟩⟩⟩⟩
  rintro h3 ⟨rfl, hb⟩
  refine ⟨fun i h1 => ∃ k : Nat, i = k ∧ k ≤ 32 ∧ RS h1 q lb L ∧ Fr [] h3 h1 ∧ ∀ (j : Nat) (y : G), j < k → L[j]? = some y → likeP o f t y = false, fun i _ => 32 - i.toNat, ⟨0, rfl, by omega, w, Fr.refl _ _, fun j y hj => by omega⟩, ?_⟩
  rintro i h1 ⟨k, rfl, hk, w1, f1, hno⟩
  by_cases hk32 : k < 32
  · obtain ⟨x, hx⟩ := w.ex hk32
    refine ⟨fun _ => ⟨_, _, _, w1.list, by omega, by omega, _, _, rfl, ?_⟩, fun hf => absurd hf (by simp; omega)⟩
    refine G.rd x (fun j hj => w1.cell hx j hj) ?_
    refine put_local rfl (by simp) ?_
    intro h2 k2 f2 s2
    have w2 := w1.fr f2 (by simp) (by simp)
    have f12 := f1.trans f2
    have nxt : likeP o f t x = false → (∃ k' : Nat, IntKind.wrap .i64 ((k : Int) + 1) = k' ∧ k' ≤ 32 ∧ RS h2 q lb L ∧ Fr [] h3 h2 ∧ ∀ (j : Nat) (y : G), j < k' → L[j]? = some y → likeP o f t y = false) ∧ 32 - (IntKind.wrap .i64 ((k : Int) + 1)).toNat < 32 - (k : Int).toNat := by
      intro hp
      rw [wrapN hk32 (by omega)]
      exact ⟨⟨k + 1, rfl, by omega, w2, f12, scan_next hx hno hp⟩, by omega⟩
    have hge := g.ge hx
    refine ⟨_, (cellAt_of k2 0).trans rfl, fun c0 => ⟨_, (cellAt_of k2 1).trans rfl, fun c1 => ⟨_, (cellAt_of k2 2).trans rfl, fun c2 => ⟨_, (cellAt_of k2 3).trans rfl, fun c3 => ?_, fun c3 => nxt ?_⟩, fun c2 => nxt ?_⟩, fun c1 => nxt ?_⟩, fun c0 => nxt ?_⟩
    · have hp : likeP o f t x = true := by
        have n0 : (x.state != 0) = true := by simp only [decide_eq_true_eq] at c0; simp; omega
        simp only [likeP, c1, c2, c3, n0]; rfl
      have e : offerE L o f t = 13 := by simp only [offerE, hb, idx_at hx hp hno, Bool.false_eq_true, if_false]; rw [if_pos (by omega)]
      have e1 : offerI L o f t = -1 := by simp [offerI, e]
      have e2 : offerL L o f t wr = L := by simp [offerL, e]
      rw [e, e1, e2] at hR
      exact hR _ _ ⟨rfl, w2, f12.mono (by simp)⟩
    · simp only [likeP, c3, Bool.and_false]
    · simp only [likeP, c2, Bool.and_false, Bool.false_and]
    · simp only [likeP, c1, Bool.and_false, Bool.false_and]
    · have n0 : x.state = 0 := by simp only [decide_eq_false_iff_not] at c0; omega
      simp [likeP, n0]
  · have : k = 32 := by omega
    subst this
    refine ⟨fun hf => absurd hf (by simp), fun _ => ?_⟩
    have hl := idx_scan (by rw [w.len]; exact Nat.le_refl _) hno
    refine ⟨fun i h2 => ∃ k : Nat, i = k ∧ k ≤ 32 ∧ h2 = h1 ∧ ∀ (j : Nat) (y : G), j < k → L[j]? = some y → freeP y = false, fun i _ => 32 - i.toNat, ⟨0, rfl, by omega, rfl, fun j y hj => by omega⟩, ?_⟩
    rintro i h2 ⟨k, rfl, hk, rfl, hno2⟩
    by_cases hk32 : k < 32
    · obtain ⟨x, hx⟩ := w.ex hk32
      refine ⟨fun _ => ⟨_, _, _, w1.list, by omega, by omega, _, _, rfl, _, w1.cell0 hx, fun c => ⟨_, _, _, w1.list, by omega, by omega, _, _, rfl, truly_rfl, _, _, w1.arr.hq, w1.room0 hk32 (by omega), ?_⟩, fun c => ?_⟩, fun hf => absurd hf (by simp; omega)⟩
      · rintro h4 rfl
        have hi := idx_at hx (p := freeP) (by exact c) hno2
        have e : offerE L o f t = 0 := by simp only [offerE, hb, hl, hi, Bool.false_eq_true, if_false]; rw [if_neg (by omega), if_neg (by omega)]
        have e1 : offerI L o f t = k := by simp [offerI, e, hi]
        have e2 : offerL L o f t wr = L.set k ⟨1, o, f, t, 0, wr⟩ := by simp [offerL, e, hi]
        rw [e, e1, e2] at hR
        exact hR _ _ ⟨rfl, w1.put0 (y := ⟨1, o, f, t, 0, wr⟩) hx (by simp) rfl, (f1.mono (by simp)).trans (Fr.upd (F := [lb]) (by simp) _ _ _)⟩
      · rw [wrapN hk32 (by omega)]
        exact ⟨⟨k + 1, rfl, by omega, rfl, scan_next hx hno2 c⟩, by show 32 - ((k + 1 : Nat) : Int).toNat < 32 - (k : Int).toNat; omega⟩
    · have : k = 32 := by omega
      subst this
      refine ⟨fun hf => absurd hf (by simp), fun _ => ?_⟩
      have hi := idx_scan (by rw [w.len]; exact Nat.le_refl _) hno2
      have e : offerE L o f t = 15 := by simp only [offerE, hb, hl, hi, Bool.false_eq_true, if_false]; rfl
      have e1 : offerI L o f t = -1 := by simp [offerI, e]
      have e2 : offerL L o f t wr = L := by simp [offerL, e]
      rw [e, e1, e2] at hR
      exact hR _ _ ⟨rfl, w1, f1.mono (by simp)⟩
end Go.Proofs.Ytadghpkdkdphdaa
