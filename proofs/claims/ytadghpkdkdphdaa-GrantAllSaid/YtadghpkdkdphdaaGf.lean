import Derived.Test.YtadghpkdkdphdaaGe
namespace Go.Proofs.Ytadghpkdkdphdaa
open Go Go.Wd
set_option linter.unusedVariables false
set_option linter.unusedSimpArgs false

theorem set_mid {α : Type} (A B : List α) (x y : α) : (A ++ x :: B).set A.length y = A ++ y :: B := by simp
theorem drop_one {α : Type} {L : List α} {k : Nat} {x : α} (hx : L[k]? = some x) : L.drop k = x :: L.drop (k + 1) := by
  have hkl := (List.getElem?_eq_some_iff.1 hx).1
  rw [List.drop_eq_getElem_cons hkl]
  rw [List.getElem?_eq_getElem hkl] at hx
  cases hx; rfl
theorem take_one {α : Type} {L : List α} {k : Nat} {x : α} (hx : L[k]? = some x) : L.take (k + 1) = L.take k ++ [x] := by rw [List.take_add_one, hx]; rfl

theorem gone_spec {h : Hp} {q : Nat} {L : List G} (w : GS h q L) (g : Int) :
    CallsH Try.prog 12 [.pointer (some ⟨q, 0, none⟩), .int .i64 g] h fun v h' => ∃ a c, v = .slice a (L.filter (goneP g)).length c ∧ rowAtK h' a (encL G.cells (L.filter (goneP g))) ∧ (∀ y ∈ foot a, sz h ≤ y ∧ y < sz h') ∧ GS h' q (goneL g L) ∧ Fr [q] h h' := by
  refine calls_k fun R hR => ?_
  apply grant_Grants_Gone.calls
  unfold grant_Grants_Gone.P
  have hlen := w.len
  have hlt := w.lt
  have hel := encL_length G.len L
  rw [hlen] at hel
  refine ⟨encL G.cells L, hel, w.arr.whole G.len, ?_⟩
  refine ⟨fun oa ol oc i h1 => ∃ k : Nat, i = k ∧ k ≤ 32 ∧ ol = ((L.take k).filter (goneP g)).length ∧ Own h1 29 6 oa ol oc (encL G.cells ((L.take k).filter (goneP g))) ∧ (∀ y ∈ foot oa, sz h ≤ y) ∧ Arr G.cells 54 h1 q (goneL g (L.take k) ++ L.drop k) [] ∧ Fr [q] h h1,
    fun _ _ _ i _ => 32 - i.toNat, ⟨0, rfl, by omega, rfl, Own.nil _ _ _, by simp [foot], by simpa [goneL] using w.arr, Fr.refl _ _⟩, ?_⟩
  rintro oa ol oc i h1 ⟨k, rfl, hk, rfl, o1, fo, w1, f1⟩
  have hw : IntKind.wrap .i64 ((k : Int) + 1) = ((k + 1 : Nat) : Int) := by rw [wrap_i64 (by omega) (by omega)]; omega
  have hfl : ((L.take k).filter (goneP g)).length ≤ k := by
    have := List.length_filter_le (goneP g) (L.take k)
    simp at this; omega
  by_cases hk32 : k < 32
  · obtain ⟨x, hx⟩ := w.ex hk32
    have htake := take_one hx
    have hdrop := drop_one hx
    have hcl : (goneL g (L.take k)).length = k := by simp [goneL]; omega
    have dec : 32 - ((k + 1 : Nat) : Int).toNat < 32 - (k : Int).toNat := by omega
    refine ⟨fun _ => ⟨by omega, by omega, _, _, _, _, _, _, by rw [Int.toNat_natCast]; exact encL_row G.len hx, ?_⟩, fun c => absurd c (by simp; omega)⟩
    refine put_local rfl (by simp) ?_
    intro h2 k2 f2 s2
    have w2 := w1.fr f2 (by simp)
    have f02 := f1.trans (f2.mono (by simp))
    have r2 : ∀ j, cellAt h2 (sz h1) j = x.cells[j]? := fun j => cellAt_of k2 j
    refine ⟨fun b h3 => b = goneP g x ∧ h3 = h2, ⟨_, r2 0, fun c => ⟨_, r2 1, fun c2 => ⟨by simp [goneP, c, c2], rfl⟩, fun c2 => ⟨_, r2 3, by simp [goneP, c, c2], rfl⟩⟩, fun c => ⟨by simp [goneP, c], rfl⟩⟩, ?_⟩
    rintro b h3 ⟨rfl, rfl⟩
    rw [hw]
    refine ⟨fun c => ?_, fun c => ⟨⟨k + 1, rfl, by omega, by rw [htake]; simp [c], ?_, fo, ?_, f02⟩, dec⟩⟩
    · refine G.rd x (fun j hj => by rw [Nat.zero_add]; exact r2 j) ?_
      intro h5 h5e
      refine append_new (h0 := h) (F := [q]) (o1.fr f2 (by simp)) rfl f02 (fun y hy => .inr (fo y hy)) rfl rfl h5e (by omega) (by omega) ?_
      intro a' c' h6 o6 f6 g6 l6 t6
      have hge : ∀ y ∈ foot a', sz h ≤ y := by
        intro y hy
        rcases t6 with rfl | t6
        · exact fo y hy
        · have := t6 y hy; have := f02.size; omega
      have w6 := w2.fr l6 (fun hq => by have := fo _ hq; omega)
      rw [hdrop] at w6
      have hx6 : (goneL g (L.take k) ++ x :: L.drop (k + 1))[k]? = some x := by rw [List.getElem?_append_right (by omega), hcl]; simp
      rw [show 0 + (k : Int).toNat * 6 = k * 6 by simp]
      refine ⟨by omega, by omega, truly_rfl, _, _, w6.hq, w6.room (k := k) (j := 0) (n := 6) G.len (by simp [goneL]; omega) (by omega), ?_⟩
      rintro h7 rfl
      have w7 := w6.put G.len (j := 0) (y := noG) (vs := noG.cells) hx6 (by simp [noG, G.cells]) rfl
      have hset := set_mid (goneL g (L.take k)) (L.drop (k + 1)) x noG
      rw [hcl] at hset
      rw [hset] at w7
      have f7 : Fr [q] h6 (upd h6 q 54 (writeAt (encL G.cells (goneL g (L.take k) ++ x :: L.drop (k + 1)) ++ []) (k * 6 + 0) noG.cells)) := Fr.upd (by simp) _ _ _
      have hq6 : ∀ y ∈ foot a', y ∉ [q] := fun y hy => by have := hge y hy; simp; omega
      refine ⟨⟨k + 1, rfl, by omega, by rw [htake]; simp [c], ?_, hge, ?_, f6.trans f7⟩, dec⟩
      · have := o6.fr f7 hq6
        have e : (L.take (k + 1)).filter (goneP g) = (L.take k).filter (goneP g) ++ [x] := by rw [htake, List.filter_append]; simp [c]
        have e2 : encL G.cells ((L.take k).filter (goneP g) ++ [x]) = encL G.cells ((L.take k).filter (goneP g)) ++ x.cells := by rw [encL_append]; simp [encL]
        rw [e, e2]
        exact this
      · have e : goneL g (L.take (k + 1)) = goneL g (L.take k) ++ [noG] := by rw [htake]; simp [goneL, c]
        rw [e, List.append_assoc]
        exact w7
    · rw [htake, List.filter_append]; simpa [c] using o1.fr f2 (by simp)
    · have e : goneL g (L.take (k + 1)) = goneL g (L.take k) ++ [x] := by rw [htake]; simp [goneL, c]
      rw [e, List.append_assoc, List.singleton_append, ← hdrop]
      exact w2
  · have : k = 32 := by omega
    subst this
    refine ⟨fun c => absurd c (by simp), fun _ => ?_⟩
    have e1 : L.take 32 = L := List.take_of_length_le (by omega)
    have e2 : L.drop 32 = [] := List.drop_eq_nil_of_le (by omega)
    rw [e1] at o1 ⊢
    rw [e1, e2, List.append_nil] at w1
    exact hR _ _ ⟨oa, oc, rfl, o1.row, fun y hy => ⟨fo y hy, o1.foot_lt y hy⟩, ⟨w1, by simp [goneL, hlen]⟩, f1⟩

theorem of_spec {h : Hp} (x : G) : CallsH Try.prog 15 [.agg ⟨x.cells⟩] h fun v h' => v = .agg ⟨x.cells⟩ ∧ Fr [] h h' := by
  refine calls_k fun R hR => ?_
  apply warderlaw12_of.calls
  unfold warderlaw12_of.P
  rintro h1 e1 h2 rfl
  have f1 : Fr [] h h1 := by subst e1; exact Fr.new _ _ _
  have k1 : bk h1 (sz h) = some (blk 29 x.cells) := by subst e1; exact new_at _ _
  clear e1
  have f2 : Fr [] h1 (new h1 (blk 41 noG.cells)) := Fr.new _ _ _
  have k2 := new_at h1 (blk 41 noG.cells)
  have k12 := f2.at k1 (by simp)
  have z := f1.size
  rw [show ([.int .i64 0, .int .i64 0, .int .i64 0, .int .i64 0, .int .i64 0, .bool false] : List Value) = noG.cells from rfl]
  generalize new h1 (blk 41 noG.cells) = h2 at *
  have r2 : ∀ j, cellAt h2 (sz h) j = x.cells[j]? := fun j => cellAt_of k12 j
  refine ⟨_, r2 0, _, r2 1, _, r2 2, _, r2 3, _, r2 4, _, r2 5, ?_⟩
  exact G.ret k2 rfl x.state x.owner x.frame x.to x.page x.write (K := fun a1 a2 a3 a4 a5 a6 h => R (.agg #[.int .i64 a1, .int .i64 a2, .int .i64 a3, .int .i64 a4, .int .i64 a5, .bool a6]) h) (hR _ _ ⟨rfl, (f1.trans f2).later (Fr.upd (F := [sz h1]) (by simp) _ _ _) (by simp; omega)⟩)
end Go.Proofs.Ytadghpkdkdphdaa
