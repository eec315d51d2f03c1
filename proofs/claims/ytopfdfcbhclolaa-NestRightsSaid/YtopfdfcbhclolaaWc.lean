import Derived.Test.YtopfdfcbhclolaaWb
namespace Go.Proofs.Ytopfdfcbhclolaa
open Go Go.Wd
set_option linter.unusedVariables false
set_option linter.unusedSimpArgs false

theorem put_facts {h h4 h5 : Hp} {T : TypeId} {z v : List Value} (e4 : h4 = new h (blk T z)) (e5 : h5 = upd h4 (sz h) T (writeAt z 0 v)) (hl : z.length = v.length) : bk h5 (sz h) = some (blk T v) ∧ Fr [] h h5 ∧ sz h5 = sz h + 1 := by
  subst e4
  have hw : writeAt z 0 v = v := by
    rw [writeAt_eq _ _ _ (by omega), Nat.zero_add, ← hl, List.drop_length]; simp
  rw [hw] at e5
  subst e5
  exact ⟨upd_same (new_at _ _) _ _, (Fr.new [] h _).later (Fr.upd (F := [sz h]) (by simp) _ _ _) (by simp), by rw [sz_upd, sz_new]⟩

theorem walk_of {n : Nat} {B : List Nat} {root : Int} {a : Nat} {acc r : Int} {e : Ent} (he : foundOf n B root a = ⟨e, r, 0⟩) :
    walkOf n B root a acc = if !allows e acc then ⟨4, r, 0, false, false, false⟩ else if (n : Int) ≤ e.f then ⟨5, r, 0, false, false, false⟩ else ⟨0, r, e.f, e.w, e.x, e.b⟩ := by
  unfold walkOf
  rw [he]
  exact if_neg (by simp)
theorem walk_bad {n : Nat} {B : List Nat} {root : Int} {a : Nat} {acc r f : Int} (he : foundOf n B root a = ⟨noEnt, r, f⟩) (hf : f ≠ 0) : walkOf n B root a acc = ⟨f, r, 0, false, false, false⟩ := by
  unfold walkOf
  rw [he]
  exact if_pos hf
theorem Ent.addF_b (e : Ent) (x : Int) : (e.addF x).b = e.b := by unfold Ent.addF; rfl
theorem Ent.noB_b (e : Ent) : e.noB.b = false := by unfold Ent.noB; rfl
theorem Ent.noB_w (e : Ent) : e.noB.w = e.w := by unfold Ent.noB; rfl
theorem Ent.noB_x (e : Ent) : e.noB.x = e.x := by unfold Ent.noB; rfl
theorem Ent.noB_f (e : Ent) : e.noB.f = e.f := by unfold Ent.noB; rfl
theorem Ent.noB_allows (e : Ent) (a : Int) : allows e.noB a = allows e a := by unfold Ent.noB allows; rfl
theorem allows_b (v w x b c : Bool) (f : Int) (acc : Int) : allows ⟨v, w, x, b, f⟩ acc = allows ⟨v, w, x, c, f⟩ acc := rfl
theorem allows_f (v w x b : Bool) (f g : Int) (acc : Int) : allows ⟨v, w, x, b, f⟩ acc = allows ⟨v, w, x, b, g⟩ acc := rfl

theorem hit_last {R : Value → Hp → Prop} {W : Hit} {h : Hp} {b : Nat} {k : Hp}
    (fin : ∀ (x : Hit) (h2 : Hp) (T : TypeId), W = x → Fr [] h h2 → R (.agg #[.int .i64 x.fault, .int .i64 x.reads, .int .i64 x.frame, .bool x.write, .bool x.exec, .bool x.block]) (upd h2 b T (Hit.mk x.fault x.reads x.frame x.write x.exec x.block).cells))
    (v1 v2 v3 : Int) (v4 v5 v6 : Bool) (T : TypeId) (hW : W = ⟨v1, v2, v3, v4, v5, v6⟩) (f : Fr [] h k) : R (.agg #[.int .i64 v1, .int .i64 v2, .int .i64 v3, .bool v4, .bool v5, .bool v6]) (upd k b T (Hit.mk v1 v2 v3 v4 v5 v6).cells) :=
  fin ⟨v1, v2, v3, v4, v5, v6⟩ k T hW f
set_option maxHeartbeats 2000000 in
theorem rWalk_spec {h : Hp} {q rb n : Nat} {B : List Nat} (w : RS h q rb B) (hl : B.length = n * 256) (root : Int) {a : Nat} (ha : a < 4294967296) (acc : Int) :
    CallsH Try.prog 60 [.pointer (some ⟨q, 0, none⟩), .int .i64 root, .int .u32 a, .int .i64 acc] h fun v h' => v = .agg ⟨(walkOf n B root a acc).cells⟩ ∧ Fr [] h h' := by
  refine calls_k fun R hR => ?_
  apply warderref07_Walk.calls
  unfold warderref07_Walk.P
  rintro h1 rfl
  rw [Hit.zero]
  have f1 : Fr [] h (new h (blk 116 noHit.cells)) := Fr.new _ _ _
  have k1 := new_at h (blk 116 noHit.cells)
  have w1 := w.fr f1 (by simp) (by simp)
  have z1 : sz (new h (blk 116 noHit.cells)) = sz h + 1 := sz_new _ _
  generalize new h (blk 116 noHit.cells) = h1 at *
  generalize hrb : sz h = b at *
  have lq := w.lt
  have lr := w.ltr
  have hlen := w.len
  have fin : ∀ (x : Hit) (h2 : Hp) (T : TypeId), walkOf n B root a acc = x → Fr [] h h2 → R (.agg #[.int .i64 x.fault, .int .i64 x.reads, .int .i64 x.frame, .bool x.write, .bool x.exec, .bool x.block]) (upd h2 b T (Hit.mk x.fault x.reads x.frame x.write x.exec x.block).cells) := by
    intro x h2 T he f2
    rw [he] at hR
    exact hR _ _ ⟨rfl, Fr.on f2 (.inr (by omega)) _ _⟩
  have hF : foundOf n B root a = if 1048576 ≤ a then ⟨noEnt, 0, 1⟩ else if !isIn n root then ⟨noEnt, 0, 5⟩
    else if !(entAt B root.toNat (a / 16384 % 64)).v then ⟨noEnt, 1, 2⟩
    else if (entAt B root.toNat (a / 16384 % 64)).b then ⟨(entAt B root.toNat (a / 16384 % 64)).addF ((a / 256 % 64 : Nat) : Int), 1, 0⟩
    else if !isIn n (entAt B root.toNat (a / 16384 % 64)).f then ⟨noEnt, 1, 5⟩
    else if !(entAt B (entAt B root.toNat (a / 16384 % 64)).f.toNat (a / 256 % 64)).v then ⟨noEnt, 2, 3⟩
    else ⟨(entAt B (entAt B root.toNat (a / 16384 % 64)).f.toNat (a / 256 % 64)).noB, 2, 0⟩ := rfl
  refine ⟨fun c => ?_, fun c => ?_⟩
  · have c : 1048576 ≤ a := by simp only [decide_eq_true_eq] at c; omega
    refine Hit.ret k1 rfl _ _ _ _ _ _ ?_
    exact fin ⟨1, 0, 0, false, false, false⟩ _ _ (walk_bad (hF.trans (if_pos c)) (by decide)) f1
  have hin : ¬ 1048576 ≤ a := by simp only [decide_eq_false_iff_not] at c; omega
  have hF := hF.trans (if_neg hin)
  refine (rin_spec w1 hl root).mono ?_
  rintro v h3 ⟨rfl, rfl⟩
  refine ⟨_, rfl, fun c1 => ?_, fun c1 => ?_⟩
  · refine Hit.ret k1 rfl _ _ _ _ _ _ ?_
    exact fin ⟨5, 0, 0, false, false, false⟩ _ _ (walk_bad (hF.trans (if_pos c1)) (by decide)) f1
  have hF := hF.trans (if_neg (by rw [c1]; simp))
  have c1 : isIn n root = true := by simpa using c1
  obtain ⟨t, rfl, ht⟩ := isIn_nat c1
  rw [Int.toNat_natCast] at hF
  have e1 : IntKind.wrap .i64 (IntKind.wrap .u32 (Int.tdiv (a : Int) 16384)) = ((a / 16384 % 64 : Nat) : Int) := by
    have : Int.tdiv (a : Int) 16384 = ((a / 16384 : Nat) : Int) := rfl
    rw [this, wrapn_u32 _ (by omega), wrapn_i64 _ (by omega)]; congr 1; omega
  have e2 : IntKind.wrap .i64 (Int.tmod (IntKind.wrap .u32 (Int.tdiv (a : Int) 256)) 64) = ((a / 256 % 64 : Nat) : Int) := by
    have : Int.tdiv (a : Int) 256 = ((a / 256 : Nat) : Int) := rfl
    rw [this, wrapn_u32 _ (by omega)]
    have : Int.tmod ((a / 256 : Nat) : Int) 64 = ((a / 256 % 64 : Nat) : Int) := rfl
    rw [this, wrapn_i64 _ (by omega)]
  refine ⟨by decide, by decide, by decide, ?_⟩
  rw [e1, e2]
  refine (rread_spec w1 hl ht (i := a / 16384 % 64) (by omega)).mono ?_
  have hf := dec_f (leN B (t * 256 + 4 * (a / 16384 % 64)) 4)
  rw [show dec (leN B (t * 256 + 4 * (a / 16384 % 64)) 4) = entAt B t (a / 16384 % 64) from rfl] at hf
  generalize entAt B t (a / 16384 % 64) = e at *
  rintro v h5 ⟨rfl, f5⟩
  refine ⟨_, _, _, _, _, rfl, ?_⟩
  intro h6 e6
  refine ⟨truly_rfl, _, _, by rw [e6]; exact new_at _ _, by simp, ?_⟩
  intro h7 e7
  obtain ⟨k7, f7, s7⟩ := put_facts e6 e7 (by simp)
  clear e6 e7
  have f57 := f5.trans f7
  have fr7 := f1.trans f57
  have kr7 := f57.at k1 (by simp)
  have w7 := w1.fr f57 (by simp) (by simp)
  have z5 := f5.size
  generalize hxb : sz h5 = xb at *
  refine ⟨_, (cellAt_of k7 0).trans rfl, fun c2 => ?_, fun c2 => ?_⟩
  · refine Hit.ret kr7 rfl _ _ _ _ _ _ ?_
    exact fin ⟨2, 1, 0, false, false, false⟩ _ _ (walk_bad (hF.trans (if_pos c2)) (by decide)) fr7
  have hF := hF.trans (if_neg (by rw [c2]; simp))
  refine ⟨_, (cellAt_of k7 3).trans rfl, ?_⟩
  refine ⟨fun reads h15 => ∃ g : Ent, bk h15 xb = some (blk 97 g.cells) ∧ RS h15 q rb B ∧ bk h15 b = some (blk 116 noHit.cells) ∧ Fr [] h h15 ∧
    (0 ≤ g.f ∧ walkOf n B t a acc = if !allows g acc then ⟨4, reads, 0, false, false, false⟩ else if (n : Int) ≤ g.f then ⟨5, reads, 0, false, false, false⟩ else ⟨0, reads, g.f, g.w, g.x, e.b⟩), ⟨fun cb => ?_, fun cb => ?_⟩, ?_⟩
  · have hF := hF.trans (if_pos cb)
    have hX : 0 ≤ ((a / 256 % 64 : Nat) : Int) ∧ ((a / 256 % 64 : Nat) : Int) < 64 := by omega
    clear e2
    generalize ((a / 256 % 64 : Nat) : Int) = X at *
    have ew : IntKind.wrap .i64 (e.f + X) = e.f + X := wrapS (by omega) (by omega)
    refine ⟨_, (cellAt_of k7 4).trans rfl, truly_rfl, _, _, k7, by simp, ?_⟩
    rintro h9 rfl
    rw [ew, Ent.put4]
    have hx := walk_of (acc := acc) hF
    refine ⟨e.addF X, upd_same k7 _ _, w7.fr (Fr.upd (F := [xb]) (by simp) h7 _ _) (by simp; omega) (by simp; omega), by rw [upd_other (by omega)]; exact kr7, Fr.on fr7 (.inr (by omega)) _ _, ?_⟩
    rw [Ent.addF_b] at hx
    exact ⟨by show 0 ≤ e.f + X; omega, hx⟩
  · have hF := hF.trans (if_neg (by rw [cb]; simp))
    refine ⟨_, (cellAt_of k7 4).trans rfl, ?_⟩
    refine (rin_spec w7 hl e.f).mono ?_
    rintro v h10 ⟨rfl, rfl⟩
    refine ⟨_, rfl, fun c3 => ?_, fun c3 => ?_⟩
    · refine Hit.ret kr7 rfl _ _ _ _ _ _ ?_
      exact fin ⟨5, 1, 0, false, false, false⟩ _ _ (walk_bad (hF.trans (if_pos c3)) (by decide)) fr7
    have hF := hF.trans (if_neg (by rw [c3]; simp))
    have c3 : isIn n e.f = true := by simpa using c3
    obtain ⟨t2, ht2, htn⟩ := isIn_nat c3
    refine ⟨_, (cellAt_of k7 4).trans rfl, ?_⟩
    rw [ht2] at hF ⊢
    rw [Int.toNat_natCast] at hF
    refine (rread_spec w7 hl htn (i := a / 256 % 64) (by omega)).mono ?_
    have hgf := dec_f (leN B (t2 * 256 + 4 * (a / 256 % 64)) 4)
    rw [show dec (leN B (t2 * 256 + 4 * (a / 256 % 64)) 4) = entAt B t2 (a / 256 % 64) from rfl] at hgf
    generalize entAt B t2 (a / 256 % 64) = g at *
    rintro v h12 ⟨rfl, f12⟩
    have k12 := f12.at k7 (by simp)
    have kr12 := f12.at kr7 (by simp)
    have fr12 := fr7.trans f12
    have w12 := w7.fr f12 (by simp) (by simp)
    refine ⟨_, _, _, _, _, rfl, truly_rfl, _, _, k12, by simp, ?_⟩
    rintro h13 rfl
    have k13 : bk (upd h12 xb 97 g.cells) xb = some (blk 97 g.cells) := upd_same k12 _ _
    have kr13 : bk (upd h12 xb 97 g.cells) b = some (blk 116 noHit.cells) := by rw [upd_other (by omega)]; exact kr12
    have fr13 : Fr [] h (upd h12 xb 97 g.cells) := Fr.on fr12 (.inr (by omega)) _ _
    have w13 : RS (upd h12 xb 97 g.cells) q rb B := w12.fr (Fr.upd (F := [xb]) (by simp) h12 _ _) (by simp; omega) (by simp; omega)
    have hc : writeAt [Value.bool e.v, .bool e.w, .bool e.x, .bool e.b, .int .i64 e.f] 0 [.bool g.v, .bool g.w, .bool g.x, .bool g.b, .int .i64 g.f] = g.cells := by simp only [writeAt, List.set_cons_zero, List.set_cons_succ, Ent.cells]
    rw [hc]
    generalize upd h12 xb 97 g.cells = h13 at *
    refine ⟨_, (cellAt_of k13 0).trans rfl, fun c4 => ?_, fun c4 => ?_⟩
    · refine Hit.ret kr13 rfl _ _ _ _ _ _ ?_
      exact fin ⟨3, 2, 0, false, false, false⟩ _ _ (walk_bad (hF.trans (if_pos c4)) (by decide)) fr13
    · have hF := hF.trans (if_neg (by rw [c4]; simp))
      refine ⟨g, k13, w13, kr13, fr13, hgf.1, ?_⟩
      have hx := walk_of (acc := acc) hF
      rw [Ent.noB_b, Ent.noB_w, Ent.noB_x, Ent.noB_f, Ent.noB_allows] at hx
      rw [cb]
      exact hx
  rintro reads h15 ⟨g, k15, w15, kr15, fr15, hg0, hW⟩
  refine Ent.rd (o := 0) g (fun j hj => by rw [Nat.zero_add]; exact cellAt_of k15 j) ?_
  refine (refAllows_spec g acc).mono ?_
  rintro v h16 ⟨rfl, f16⟩
  have fr16 := fr15.trans f16
  have kr16 := f16.at kr15 (by simp)
  have k16 := f16.at k15 (by simp)
  have w16 := w15.fr f16 (by simp) (by simp)
  refine ⟨_, rfl, fun c5 => ?_, fun c5 => ?_⟩
  · refine Hit.ret kr16 rfl _ _ _ _ _ _ ?_
    exact fin ⟨4, reads, 0, false, false, false⟩ _ _ (hW.trans (if_pos c5)) fr16
  have hW := hW.trans (if_neg (by rw [c5]; simp))
  refine ⟨_, (cellAt_of k16 4).trans rfl, ?_⟩
  refine (rin_spec w16 hl g.f).mono ?_
  rintro v h18 ⟨rfl, rfl⟩
  refine ⟨_, rfl, fun c6 => ?_, fun c6 => ?_⟩
  · have c6 : isIn n g.f = false := by simpa using c6
    have : (n : Int) ≤ g.f := by simp [isIn] at c6; omega
    refine Hit.ret kr16 rfl _ _ _ _ _ _ ?_
    exact fin ⟨5, reads, 0, false, false, false⟩ _ _ (hW.trans (if_pos this)) fr16
  · have c6 : isIn n g.f = true := by simpa using c6
    have : ¬ (n : Int) ≤ g.f := by simp [isIn] at c6; omega
    refine ⟨_, (cellAt_of k16 4).trans rfl, _, (cellAt_of k16 1).trans rfl, _, (cellAt_of k16 2).trans rfl, ?_⟩
    refine Hit.ret kr16 rfl 0 reads g.f g.w g.x e.b ?_
    exact hit_last fin 0 reads g.f g.w g.x e.b 116 (hW.trans (if_neg this)) fr16
end Go.Proofs.Ytopfdfcbhclolaa
