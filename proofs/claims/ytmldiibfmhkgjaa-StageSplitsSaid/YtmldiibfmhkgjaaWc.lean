import Derived.Test.YtmldiibfmhkgjaaWb
namespace Go.Proofs.Ytmldiibfmhkgjaa
open Go Go.Wd
set_option linter.unusedVariables false
set_option linter.unusedSimpArgs false

theorem put_facts {h h4 h5 : Hp} {T : TypeId} {z v : List Value} (e4 : h4 = new h (blk T z)) (e5 : h5 = upd h4 (sz h) T (writeAt z 0 v)) (hl : z.length = v.length) : bk h5 (sz h) = some (blk T v) ∧ Fr [] h h5 ∧ sz h5 = sz h + 1 := by
  subst e4
  have hw : writeAt z 0 v = v := by
    rw [writeAt_eq _ _ _ (by omega), Nat.zero_add, ← hl, List.drop_length]; simp
  rw [hw] at e5
  subst e5
  exact ⟨upd_same (new_at _ _) _ _, (Fr.new [] h _).later (Fr.upd (F := [sz h]) (by simp) _ _ _) (by simp), by rw [sz_upd, sz_new]⟩

theorem walk_of {n : Nat} {B : List Nat} {root : Int} {a : Nat} {acc r : Int} {e : Ent} (he : foundOf n B root a = ⟨e, r, 0⟩) :
    walkOf n B root a acc = if !allows e acc then ⟨4, r, 0, false, false, false⟩ else if (n : Int) ≤ e.f then ⟨5, r, 0, false, false, false⟩ else ⟨0, r, e.f, e.w, e.x, e.b⟩ := by
  unfold walkOf
  rw [he]
  exact if_neg (by simp)
theorem walk_bad {n : Nat} {B : List Nat} {root : Int} {a : Nat} {acc r f : Int} (he : foundOf n B root a = ⟨noEnt, r, f⟩) (hf : f ≠ 0) : walkOf n B root a acc = ⟨f, r, 0, false, false, false⟩ := by
  unfold walkOf
  rw [he]
  exact if_pos hf
theorem Ent.addF_b (e : Ent) (x : Int) : (e.addF x).b = e.b := by unfold Ent.addF; rfl
theorem Ent.noB_b (e : Ent) : e.noB.b = false := by unfold Ent.noB; rfl
theorem Ent.noB_w (e : Ent) : e.noB.w = e.w := by unfold Ent.noB; rfl
theorem Ent.noB_x (e : Ent) : e.noB.x = e.x := by unfold Ent.noB; rfl
theorem Ent.noB_f (e : Ent) : e.noB.f = e.f := by unfold Ent.noB; rfl
theorem Ent.noB_allows (e : Ent) (a : Int) : allows e.noB a = allows e a := by unfold Ent.noB allows; rfl
theorem allows_b (v w x b c : Bool) (f : Int) (acc : Int) : allows ⟨v, w, x, b, f⟩ acc = allows ⟨v, w, x, c, f⟩ acc := rfl
theorem allows_f (v w x b : Bool) (f g : Int) (acc : Int) : allows ⟨v, w, x, b, f⟩ acc = allows ⟨v, w, x, b, g⟩ acc := rfl

theorem hit_last {R : Value → Hp → Prop} {W : Hit} {h : Hp} {b : Nat} {k : Hp}
    (fin : ∀ (x : Hit) (h2 : Hp) (T : TypeId), W = x → Fr [] h h2 → R (.agg #[.int .i64 x.fault, .int .i64 x.reads, .int .i64 x.frame, .bool x.write, .bool x.exec, .bool x.block]) (upd h2 b T (Hit.mk x.fault x.reads x.frame x.write x.exec x.block).cells))
    (v1 v2 v3 : Int) (v4 v5 v6 : Bool) (T : TypeId) (hW : W = ⟨v1, v2, v3, v4, v5, v6⟩) (f : Fr [] h k) : R (.agg #[.int .i64 v1, .int .i64 v2, .int .i64 v3, .bool v4, .bool v5, .bool v6]) (upd k b T (Hit.mk v1 v2 v3 v4 v5 v6).cells) :=
  fin ⟨v1, v2, v3, v4, v5, v6⟩ k T hW f
end Go.Proofs.Ytmldiibfmhkgjaa
