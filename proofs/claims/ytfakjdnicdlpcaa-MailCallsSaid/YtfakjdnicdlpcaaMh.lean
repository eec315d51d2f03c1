import Derived.Test.YtfakjdnicdlpcaaMg
namespace Go.Proofs.Ytfakjdnicdlpcaa
open Go Go.Wd
set_option linter.unusedVariables false
set_option linter.unusedSimpArgs false
set_option linter.unnecessarySimpa false

/-! ## the document's boxes -/
structure Bx where
  op : Bool
  a : Option Addr
  l : Nat
  c : Nat
def Bx.cells (x : Bx) : List Value := [.bool x.op, .slice x.a x.l x.c]
theorem Bx.len (x : Bx) : x.cells.length = 2 := rfl
structure RB (h0 h : Hp) (q b : Nat) (D : List Bx) (B : List (Option (List Lt))) : Prop where
  hq : bk h q = some (blk 38 [.slice (some ⟨b, 0, none⟩) 10 10])
  hb : bk h b = some (blk 35 (encL Bx.cells D))
  ld : D.length = 10
  lb : B.length = 8
  has : ∀ (k : Nat) (d : Bx) (x : Option (List Lt)), D[k + 2]? = some d → B[k]? = some x → d.op = x.isSome ∧ d.l = (x.getD []).length ∧ Own h 46 2 d.a d.l d.c (encL Lt.cells (x.getD []))
  ge : ∀ (i : Nat) (d : Bx), D[i]? = some d → ∀ x ∈ foot d.a, sz h0 ≤ x ∧ ∃ l, bk h x = some (blk 46 l)
  ds : ∀ (i j : Nat) (d e : Bx), i ≠ j → D[i]? = some d → D[j]? = some e → ∀ x ∈ foot d.a, x ∉ foot e.a
  g : sz h0 ≤ q ∧ sz h0 ≤ b
/-- What the document's calls change. -/
def FrR (h0 h h' : Hp) : Prop := ∃ F, Fr F h h' ∧ ∀ x ∈ F, sz h0 ≤ x ∧ ∃ T l, bk h x = some (blk T l) ∧ (T = 35 ∨ T = 46)
theorem FrR.of {h0 h h' : Hp} (k : Fr [] h h') : FrR h0 h h' := ⟨[], k, by simp⟩
theorem FrR.at {h0 h h' : Hp} (k : FrR h0 h h') {b : Nat} {T : TypeId} {l : List Value} (hb : bk h b = some (blk T l)) (h1 : T ≠ 35) (h2 : T ≠ 46) : bk h' b = some (blk T l) := by
  obtain ⟨F, fr, hF⟩ := k
  refine fr.at hb fun hm => ?_
  obtain ⟨_, U, m, hu, hU⟩ := hF b hm
  rw [hb] at hu
  cases hu
  rcases hU with e | e
  · exact h1 e
  · exact h2 e
theorem MA.frR {h0 h h' : Hp} {q : Nat} {A : List (Option Nat)} {B : List (Option (List Lt))} (w : MA h0 h q A B) (k : FrR h0 h h') : MA h0 h' q A B := by
  obtain ⟨F, fr, hF⟩ := k
  refine w.fr fr fun x hx => ?_
  obtain ⟨h1, T, l, h2, h3⟩ := hF x hx
  exact ⟨h1, T, l, h2, by rcases h3 with rfl | rfl <;> decide⟩
section
variable {h0 h h' : Hp} {q b : Nat} {D : List Bx} {B : List (Option (List Lt))}
theorem RB.frM (w : RB h0 h q b D B) (m : FrM h h') : RB h0 h' q b D B :=
  ⟨m.2 _ _ _ w.hq (by decide), m.2 _ _ _ w.hb (by decide), w.ld, w.lb, fun k d x h1 h2 => by
    obtain ⟨e1, e2, e3⟩ := w.has k d x h1 h2
    exact ⟨e1, e2, own_frM e3 m (by decide)⟩, fun i d hd x hx => by
    obtain ⟨e1, l, e2⟩ := w.ge i d hd x hx
    exact ⟨e1, l, m.2 _ _ _ e2 (by decide)⟩, w.ds, w.g⟩
theorem RB.fr0 (w : RB h0 h q b D B) (k : Fr [] h h') : RB h0 h' q b D B := w.frM (FrM.of k)
theorem RB.ne (w : RB h0 h q b D B) : q ≠ b := fun e => by
  have h1 := w.hq
  rw [e, w.hb] at h1
  simp [blk] at h1
theorem RB.row (w : RB h0 h q b D B) : cellAt h q 0 = some (.slice (some ⟨b, 0, none⟩) 10 10) := (cellAt_of w.hq 0).trans rfl
theorem RB.cell (w : RB h0 h q b D B) {k : Nat} {d : Bx} (hd : D[k + 2]? = some d) : cellAt h b (0 + ((k : Int) + 2).toNat * 2) = some (.bool d.op) ∧ cellAt h b (0 + ((k : Int) + 2).toNat * 2 + 1) = some (.slice d.a d.l d.c) := by
  rw [show ((k : Int) + 2).toNat = k + 2 by omega, Nat.zero_add, cellAt_of w.hb, cellAt_of w.hb]
  exact ⟨encL_get Bx.len D (k + 2) 0 d hd (by decide), encL_get Bx.len D (k + 2) 1 d hd (by decide)⟩
theorem RB.put (w : RB h0 h q b D B) {k : Nat} {d d' : Bx} {x' : Option (List Lt)} (hd : D[k + 2]? = some d) {F : List Nat} (fr : Fr F h h') (hF : ∀ x ∈ F, x = b ∨ x ∈ foot d.a)
    (hb' : bk h' b = some (blk 35 (encL Bx.cells (D.set (k + 2) d')))) (h1 : d'.op = x'.isSome) (h2 : d'.l = (x'.getD []).length) (h3 : Own h' 46 2 d'.a d'.l d'.c (encL Lt.cells (x'.getD [])))
    (h4 : ∀ x ∈ foot d'.a, x ∈ foot d.a ∨ sz h ≤ x) (h5 : sz h0 ≤ sz h) : RB h0 h' q b (D.set (k + 2) d') (B.set k x') ∧ FrR h0 h h' := by
  have hk := (List.getElem?_eq_some_iff.1 hd).1
  have nb : ∀ (i : Nat) (e : Bx), D[i]? = some e → ∀ x ∈ foot e.a, x ≠ b := fun i e he x hx hxb => by
    obtain ⟨_, l, hl⟩ := w.ge i e he x hx
    rw [hxb, w.hb] at hl; cases hl
  have keep : ∀ (i : Nat) (e : Bx), i ≠ k + 2 → D[i]? = some e → ∀ x ∈ foot e.a, x ∉ F := fun i e hi he x hx hm => by
    rcases hF x hm with e1 | e1
    · exact nb i e he x hx e1
    · exact w.ds i (k + 2) e d hi he hd x hx e1
  refine ⟨⟨fr.at w.hq fun hm => ?_, hb', by rw [List.length_set]; exact w.ld, by rw [List.length_set]; exact w.lb, fun j e x he hx => ?_, fun i e he x hx => ?_, fun i j e f hij he hf x hx hx2 => ?_, w.g⟩, F, fr, fun x hx => ?_⟩
  · rcases hF q hm with e1 | e1
    · exact w.ne e1
    · obtain ⟨_, l, hl⟩ := w.ge _ d hd q e1
      rw [w.hq] at hl; cases hl
  · rw [List.getElem?_set] at he hx
    by_cases c : k = j
    · subst c
      rw [if_pos rfl, if_pos hk] at he
      rw [if_pos rfl] at hx
      cases he
      split at hx
      · cases hx; exact ⟨h1, h2, h3⟩
      · cases hx
    · rw [if_neg (by omega)] at he
      rw [if_neg c] at hx
      obtain ⟨e1, e2, e3⟩ := w.has j e x he hx
      exact ⟨e1, e2, e3.fr fr (keep (j + 2) e (by omega) he)⟩
  · rw [List.getElem?_set] at he
    by_cases c : k + 2 = i
    · subst c
      rw [if_pos rfl, if_pos hk] at he
      cases he
      refine ⟨?_, own_blk h3 x hx⟩
      rcases h4 x hx with e1 | e1
      · exact (w.ge _ d hd x e1).1
      · omega
    · rw [if_neg c] at he
      obtain ⟨e1, l, e2⟩ := w.ge i e he x hx
      exact ⟨e1, l, fr.at e2 (keep i e (fun hh => c hh.symm) he x hx)⟩
  · rw [List.getElem?_set] at he hf
    have old : ∀ (i : Nat) (e : Bx), D[i]? = some e → ∀ x ∈ foot e.a, x < sz h := fun i e he x hx => by
      obtain ⟨_, l, hl⟩ := w.ge i e he x hx
      exact lt_of_bk hl
    by_cases c : k + 2 = i
    · rw [if_pos c, if_pos hk] at he
      rw [if_neg (by omega)] at hf
      cases he
      rcases h4 x hx with e1 | e1
      · exact w.ds (k + 2) j d f (by omega) hd hf x e1 hx2
      · have := old j f hf x hx2
        omega
    · rw [if_neg c] at he
      by_cases c2 : k + 2 = j
      · rw [if_pos c2, if_pos hk] at hf
        cases hf
        rcases h4 x hx2 with e1 | e1
        · exact w.ds i (k + 2) e d (fun hh => c hh.symm) he hd x hx e1
        · have := old i e he x hx
          omega
      · rw [if_neg c2] at hf
        exact w.ds i j e f hij he hf x hx hx2
  · rcases hF x hx with e1 | e1
    · rw [e1]; exact ⟨w.g.2, 35, _, w.hb, .inl rfl⟩
    · obtain ⟨e2, l, e3⟩ := w.ge _ d hd x e1
      exact ⟨e2, 46, l, e3, .inr rfl⟩
end
theorem setD1 : ∀ (D : List Bx) (i : Nat) (d : Bx), D[i]? = some d → ∀ (a : Option Addr) (l c : Nat), (encL Bx.cells D).set (i * 2 + 1) (.slice a l c) = encL Bx.cells (D.set i ⟨d.op, a, l, c⟩)
  | [], i, d, h, a, l, c => by simp at h
  | e :: D, 0, d, h, a, l, c => by
    obtain rfl : e = d := by simpa using h
    rfl
  | e :: D, i + 1, d, h, a, l, c => by
    have ih := setD1 D i d (by simpa using h) a l c
    rw [List.set_cons_succ, encL_cons, encL_cons, ← ih]
    show (Value.bool e.op :: Value.slice e.a e.l e.c :: encL Bx.cells D).set ((i + 1) * 2 + 1) _ = _
    rw [show (i + 1) * 2 + 1 = (i * 2 + 1) + 1 + 1 by omega, List.set_cons_succ, List.set_cons_succ]
    rfl
theorem bx_k {B : List (Option (List Lt))} {k : Nat} {x : Option (List Lt)} (hk : k < 8) (h : B[k]? = some x) : bxB B ((k : Int) + 2) = x := by
  unfold bxB
  rw [if_pos (by unfold isG; omega), show ((k : Int) + 2 - 2).toNat = k by omega, List.getD_eq_getElem?_getD, h]; rfl
theorem rb_cases {h0 h : Hp} {q b : Nat} {D : List Bx} {B : List (Option (List Lt))} (w : RB h0 h q b D B) {n : Int} (hn : isG n) : ∃ (k : Nat) (d : Bx) (x : Option (List Lt)), k < 8 ∧ n = (k : Int) + 2 ∧ D[k + 2]? = some d ∧ B[k]? = some x ∧ bxB B n = x ∧
    d.op = x.isSome ∧ d.l = (x.getD []).length ∧ Own h 46 2 d.a d.l d.c (encL Lt.cells (x.getD [])) := by
  unfold isG at hn
  obtain ⟨k, rfl⟩ : ∃ k : Nat, n = (k : Int) + 2 := ⟨(n - 2).toNat, by omega⟩
  have hk : k < 8 := by omega
  have h1 : k + 2 < D.length := by rw [w.ld]; omega
  have h2 : k < B.length := by rw [w.lb]; omega
  have e1 : D[k + 2]? = some D[k + 2] := List.getElem?_eq_getElem h1
  have e2 : B[k]? = some B[k] := List.getElem?_eq_getElem h2
  exact ⟨k, _, _, hk, rfl, e1, e2, bx_k hk e2, w.has k _ _ e1 e2⟩
theorem rNew_spec {h0 h : Hp} (g : sz h0 ≤ sz h) : CallsH Try.prog 9 [] h fun v h' => ∃ q b D, v = .pointer (some ⟨q, 0, none⟩) ∧ RB h0 h' q b D (List.replicate 8 none) ∧ Fr [] h h' := by
  refine calls_k fun R hR => ?_
  apply warderref22_New.calls
  unfold warderref22_New.P
  refine ⟨by omega, by omega, by omega, by omega, rfl, ?_⟩
  intro h1 e1 h2 e2
  have s1 : sz h1 = sz h + 1 := by rw [e1]; exact sz_new _ _
  have hz : zeros [.bool false, .slice none 0 0] (10 : Int).toNat = encL Bx.cells (List.replicate 10 ⟨false, none, 0, 0⟩) := by rfl
  have k1 : bk h2 (sz h) = some (blk 35 (encL Bx.cells (List.replicate 10 ⟨false, none, 0, 0⟩))) := by
    rw [e2, bk_new, if_neg (by omega), e1, new_at, hz]
  have k2 : bk h2 (sz h1) = some (blk 38 [.slice (some ⟨sz h, 0, none⟩) 10 10]) := by rw [e2, new_at]; rfl
  have f2 : Fr [] h h2 := by rw [e2, e1]; exact (Fr.new [] h _).trans (Fr.new [] _ _)
  have rep : ∀ (i : Nat) (d : Bx), (List.replicate 10 (⟨false, none, 0, 0⟩ : Bx))[i]? = some d → d = ⟨false, none, 0, 0⟩ := fun i d hd => List.eq_of_mem_replicate (List.mem_of_getElem? hd)
  refine hR _ _ ⟨_, _, _, rfl, ⟨k2, k1, by simp, by simp, fun k d x hd hx => ?_, fun i d hd x hx => ?_, fun i j d e _ hd he x hx => ?_, by omega, by omega⟩, f2⟩
  · obtain rfl := rep _ _ hd
    obtain rfl : x = none := List.eq_of_mem_replicate (List.mem_of_getElem? hx)
    exact ⟨rfl, rfl, Own.nil _ _ _⟩
  · obtain rfl := rep _ _ hd
    simp [foot] at hx
  · obtain rfl := rep _ _ hd
    simp [foot] at hx
end Go.Proofs.Ytfakjdnicdlpcaa
