import Derived.Test.YtmldiibfmhkgjaaWa
namespace Go.Proofs.Ytmldiibfmhkgjaa
open Go Go.Wd
set_option linter.unusedVariables false
set_option linter.unusedSimpArgs false

theorem Hit.zero : [Value.int .i64 0, .int .i64 0, .int .i64 0, .bool false, .bool false, .bool false] = noHit.cells := rfl
set_option maxHeartbeats 1000000 in
theorem Walk_spec {h : Hp} {q fb n : Nat} {B : List Nat} (w : MS h q fb n B) (root : Int) {a : Nat} (ha : a < 4294967296) (acc : Int) :
    CallsH Try.prog 15 [.pointer (some ⟨q, 0, none⟩), .int .i64 root, .int .u32 a, .int .i64 acc] h fun v h' => v = .agg ⟨(walkOf n B root a acc).cells⟩ ∧ Fr [] h h' := by
  refine calls_k fun R hR => ?_
  apply walk_Walk.calls
  unfold walk_Walk.P
  rintro h1 rfl
  rw [Hit.zero]
  have f1 : Fr [] h (new h (blk 40 noHit.cells)) := Fr.new _ _ _
  have k1 := new_at h (blk 40 noHit.cells)
  have w1 := w.fr f1 (by simp) (by simp)
  have z1 : sz (new h (blk 40 noHit.cells)) = sz h + 1 := sz_new _ _
  generalize new h (blk 40 noHit.cells) = h1 at *
  generalize hrb : sz h = rb at *
  have fin : ∀ (x : Hit) (h2 : Hp) (T : TypeId), walkOf n B root a acc = x → Fr [] h h2 → R (.agg #[.int .i64 x.fault, .int .i64 x.reads, .int .i64 x.frame, .bool x.write, .bool x.exec, .bool x.block]) (upd h2 rb T (Hit.mk x.fault x.reads x.frame x.write x.exec x.block).cells) := by
    intro x h2 T he f2
    rw [he] at hR
    exact hR _ _ ⟨rfl, Fr.on f2 (.inr (by omega)) _ _⟩
  refine (found_spec w1 root ha).mono ?_
  rintro v h2 ⟨rfl, f2⟩
  refine ⟨_, _, _, _, _, _, _, rfl, ?_⟩
  refine put_local rfl (by simp) ?_
  intro h4 k4 f4 s4
  have f24 := f2.trans f4
  have fr4 := f1.trans f24
  have kr4 := f24.at k1 (by simp)
  have w4 := w1.fr f24 (by simp) (by simp)
  have hW : walkOf n B root a acc = if (foundOf n B root a).f ≠ 0 then ⟨(foundOf n B root a).f, (foundOf n B root a).r, 0, false, false, false⟩
    else if !allows (foundOf n B root a).e acc then ⟨4, (foundOf n B root a).r, 0, false, false, false⟩
    else if (n : Int) ≤ (foundOf n B root a).e.f then ⟨5, (foundOf n B root a).r, 0, false, false, false⟩
    else ⟨0, (foundOf n B root a).r, (foundOf n B root a).e.f, (foundOf n B root a).e.w, (foundOf n B root a).e.x, (foundOf n B root a).e.b⟩ := rfl
  generalize foundOf n B root a = F at *
  generalize sz h2 = eb at *
  refine ⟨fun c1 => ?_, fun c1 => ?_⟩
  · refine Hit.ret kr4 rfl _ _ _ _ _ _ ?_
    exact fin ⟨F.f, F.r, 0, false, false, false⟩ _ _ (hW.trans (if_pos (by simpa using c1))) fr4
  have c1' : ¬ F.f ≠ 0 := by simpa using c1
  refine Ent.rd (o := 0) F.e (fun j hj => by rw [Nat.zero_add]; exact cellAt_of k4 j) ?_
  refine (allows_spec F.e acc).mono ?_
  rintro v h6 ⟨rfl, f6⟩
  have fr6 := fr4.trans f6
  have kr6 := f6.at kr4 (by simp)
  have k6 := f6.at k4 (by simp)
  have w6 := w4.fr f6 (by simp) (by simp)
  refine ⟨_, rfl, fun c2 => ?_, fun c2 => ?_⟩
  · refine Hit.ret kr6 rfl _ _ _ _ _ _ ?_
    exact fin ⟨4, F.r, 0, false, false, false⟩ _ _ (hW.trans ((if_neg c1').trans (if_pos c2))) fr6
  have c2' : ¬ (!allows F.e acc) = true := by rw [c2]; simp
  refine ⟨_, (cellAt_of k6 4).trans rfl, ?_⟩
  refine (Frames_spec w6).mono ?_
  rintro v h8 ⟨rfl, rfl⟩
  refine ⟨_, rfl, (cellAt_of k6 4).trans rfl, fun c3 => ?_, fun c3 => ?_⟩
  · refine Hit.ret kr6 rfl _ _ _ _ _ _ ?_
    exact fin ⟨5, F.r, 0, false, false, false⟩ _ _ (hW.trans ((if_neg c1').trans ((if_neg c2').trans (if_pos (by simpa using c3))))) fr6
  · refine ⟨_, (cellAt_of k6 4).trans rfl, _, (cellAt_of k6 1).trans rfl, _, (cellAt_of k6 2).trans rfl, _, (cellAt_of k6 3).trans rfl, ?_⟩
    refine Hit.ret kr6 rfl _ _ _ _ _ _ ?_
    exact fin ⟨0, F.r, F.e.f, F.e.w, F.e.x, F.e.b⟩ _ _ (hW.trans ((if_neg c1').trans ((if_neg c2').trans (if_neg (by simpa using c3))))) fr6

def lookOk (n : Nat) (B : List Nat) (root p : Int) : Bool := joinOk p 0 && decide ((walkOf n B root (joinV p 0).toNat 0).fault = 0)
def lookE (n : Nat) (B : List Nat) (root p : Int) : Ent :=
  if lookOk n B root p then ⟨true, (walkOf n B root (joinV p 0).toNat 0).write, (walkOf n B root (joinV p 0).toNat 0).exec, (walkOf n B root (joinV p 0).toNat 0).block, (walkOf n B root (joinV p 0).toNat 0).frame⟩ else noEnt
theorem joinV_nat (p : Int) : ∃ k : Nat, joinV p 0 = k ∧ k < 1048576 ∧ (joinOk p 0 = true → k = (p.toNat) * 256 ∧ 0 ≤ p ∧ p < 4096) := by
  unfold joinV
  split
  · rename_i hj
    simp only [joinOk, Bool.and_eq_true, decide_eq_true_eq] at hj
    exact ⟨p.toNat * 256, by omega, by omega, fun _ => ⟨rfl, by omega, by omega⟩⟩
  · rename_i hj
    exact ⟨0, rfl, by omega, fun h => absurd h hj⟩
set_option maxHeartbeats 1000000 in
theorem Look_spec {h : Hp} {q fb n : Nat} {B : List Nat} (w : MS h q fb n B) (root p : Int) :
    CallsH Try.prog 71 [.pointer (some ⟨q, 0, none⟩), .int .i64 root, .int .i64 p] h fun v h' => v = .tuple #[.agg ⟨(lookE n B root p).cells⟩, .bool (lookOk n B root p)] ∧ Fr [] h h' := by
  refine calls_k fun R hR => ?_
  apply walk_Look.calls
  unfold walk_Look.P
  rintro h1 rfl
  have f1 : Fr [] h (new h (blk 54 noEnt.cells)) := Fr.new _ _ _
  have k1 := new_at h (blk 54 noEnt.cells)
  have w1 := w.fr f1 (by simp) (by simp)
  have z1 : sz (new h (blk 54 noEnt.cells)) = sz h + 1 := sz_new _ _
  simp only [noEnt, Ent.cells] at f1 k1 w1 z1
  generalize new h (blk 54 [.bool false, .bool false, .bool false, .bool false, .int .i64 0]) = h1 at *
  generalize hrb : sz h = rb at *
  have fin : ∀ (e : Ent) (b : Bool) (h2 : Hp) (T : TypeId), lookE n B root p = e → lookOk n B root p = b → Fr [] h h2 → R (.tuple #[.agg #[.bool e.v, .bool e.w, .bool e.x, .bool e.b, .int .i64 e.f], .bool b]) (upd h2 rb T (Ent.mk e.v e.w e.x e.b e.f).cells) := by
    intro e b h2 T he hb f2
    rw [he, hb] at hR
    exact hR _ _ ⟨rfl, Fr.on f2 (.inr (by omega)) _ _⟩
  have bad : lookOk n B root p = false → lookE n B root p = noEnt := fun e => by simp [lookE, e]
  have good : lookOk n B root p = true → lookE n B root p = ⟨true, (walkOf n B root (joinV p 0).toNat 0).write, (walkOf n B root (joinV p 0).toNat 0).exec, (walkOf n B root (joinV p 0).toNat 0).block, (walkOf n B root (joinV p 0).toNat 0).frame⟩ := fun e => by simp [lookE, e]
  have hok : lookOk n B root p = (joinOk p 0 && decide ((walkOf n B root (joinV p 0).toNat 0).fault = 0)) := rfl
  obtain ⟨k, hk, hk2, _⟩ := joinV_nat p
  refine (join_spec p 0).mono ?_
  rintro v h2 ⟨rfl, rfl⟩
  rw [hk] at good hok ⊢
  rw [Int.toNat_natCast] at good hok
  refine ⟨_, _, rfl, ?_⟩
  refine (Walk_spec w1 root (a := k) (by omega) 0).mono ?_
  generalize walkOf n B root k 0 = W at *
  rintro v h3 ⟨rfl, f3⟩
  refine ⟨_, _, _, _, _, _, rfl, ?_⟩
  refine put_local rfl (by simp) ?_
  intro h5 k5 f5 s5
  have f35 := f3.trans f5
  have fr5 := f1.trans f35
  have kr5 := f35.at k1 (by simp)
  generalize sz h3 = xb at *
  refine ⟨fun h8 => h8 = h5 ∧ lookOk n B root p = true, ⟨fun c => ?_, fun c => ⟨_, (cellAt_of k5 0).trans rfl, fun c2 => ?_, fun c2 => ⟨rfl, ?_⟩⟩⟩, ?_⟩
  · have c : joinOk p 0 = false := by simpa using c
    have hb : lookOk n B root p = false := by rw [hok, c]; rfl
    refine Ent.ret kr5 rfl _ _ _ _ _ ?_
    exact fin noEnt false _ _ (bad hb) hb fr5
  · have c2 : ¬ W.fault = 0 := by simpa using c2
    have hb : lookOk n B root p = false := by rw [hok, decide_eq_false c2, Bool.and_false]
    refine Ent.ret kr5 rfl _ _ _ _ _ ?_
    exact fin noEnt false _ _ (bad hb) hb fr5
  · have c : joinOk p 0 = true := by simpa using c
    have c2 : W.fault = 0 := by simpa using c2
    rw [hok, c, decide_eq_true c2]; rfl
  rintro h8 ⟨rfl, hb⟩
  refine ⟨_, (cellAt_of k5 3).trans rfl, _, (cellAt_of k5 4).trans rfl, _, (cellAt_of k5 5).trans rfl, _, (cellAt_of k5 2).trans rfl, ?_⟩
  refine Ent.ret kr5 rfl _ _ _ _ _ ?_
  exact fin ⟨true, W.write, W.exec, W.block, W.frame⟩ true _ _ (good hb) hb fr5

def pageP (n : Nat) (B : List Nat) (root : Int) (p : Nat) : Bool := lookOk n B root p
def pagesL (P : Nat → Bool) (k : Nat) : List Int := ((List.range k).filter P).map Int.ofNat
theorem pages_next (P : Nat → Bool) (k : Nat) : pagesL P (k + 1) = pagesL P k ++ (if P k then [(k : Int)] else []) := by
  unfold pagesL
  rw [List.range_succ, List.filter_append, List.map_append]
  congr 1
  cases h : P k <;> simp [h]
theorem pages_len (P : Nat → Bool) (k : Nat) : (pagesL P k).length ≤ k := by
  unfold pagesL
  rw [List.length_map]
  exact Nat.le_trans (List.length_filter_le _ _) (by simp)
theorem Pages_spec {h : Hp} {q fb n : Nat} {B : List Nat} (w : MS h q fb n B) (root : Int) :
    CallsH Try.prog 70 [.pointer (some ⟨q, 0, none⟩), .int .i64 root] h fun v h' => ∃ a c, v = .slice a (pagesL (pageP n B root) 4096).length c ∧ rowAtK h' a (encL iN (pagesL (pageP n B root) 4096)) ∧ (∀ y ∈ foot a, sz h ≤ y ∧ y < sz h') ∧ Fr [] h h' := by
  refine calls_k fun R hR => ?_
  generalize hP : pagesL (pageP n B root) 4096 = PP at hR
  apply walk_Pages.calls
  unfold walk_Pages.P
  obtain ⟨N, hN⟩ : ∃ N : Nat, N = 4096 := ⟨_, rfl⟩
  rw [← hN] at hP
  refine ⟨fun oa ol oc i h1 => ∃ k : Nat, i = k ∧ k ≤ N ∧ ol = (pagesL (pageP n B root) k).length ∧ Own h1 3 1 oa ol oc (encL iN (pagesL (pageP n B root) k)) ∧ (∀ y ∈ foot oa, sz h ≤ y) ∧ MS h1 q fb n B ∧ Fr [] h h1, fun _ _ _ i _ => N - i.toNat,
    ⟨0, rfl, by omega, rfl, Own.nil _ _ _, by simp [foot], w, Fr.refl _ _⟩, ?_⟩
  rintro oa ol oc i h1 ⟨k, rfl, hk, rfl, o1, fo, w1, f1⟩
  have lq := w.lt
  have lf := w.ltf
  by_cases hk4 : k < N
  · refine ⟨fun _ => ?_, fun hf => absurd hf (by simp; omega)⟩
    refine (Look_spec w1 root k).mono ?_
    generalize lookE n B root (k : Int) = E
    rintro v h2 ⟨rfl, f2⟩
    refine ⟨_, _, _, _, _, _, rfl, ?_⟩
    rintro h3 rfl
    refine ⟨truly_rfl, _, _, new_at _ _, by simp, ?_⟩
    rintro h4 rfl
    have f4 := Fr.on (Fr.new [] h2 (blk 54 [.bool false, .bool false, .bool false, .bool false, .int .i64 0])) (.inr (Nat.le_refl _)) 54 (writeAt [.bool false, .bool false, .bool false, .bool false, .int .i64 0] 0 [.bool E.v, .bool E.w, .bool E.x, .bool E.b, .int .i64 E.f])
    generalize upd (new h2 (blk 54 [.bool false, .bool false, .bool false, .bool false, .int .i64 0])) (sz h2) 54 (writeAt [.bool false, .bool false, .bool false, .bool false, .int .i64 0] 0 [.bool E.v, .bool E.w, .bool E.x, .bool E.b, .int .i64 E.f]) = h4 at *
    have f24 := f2.trans f4
    have fr4 := f1.trans f24
    have o4 := o1.fr f24 (by simp)
    have w4 := w1.fr f24 (by simp) (by simp)
    have hn := pages_next (pageP n B root) k
    have hl := pages_len (pageP n B root) k
    rw [wrapN hk4 (by omega)]
    refine ⟨fun c => ?_, fun c => ?_⟩
    · have c : pageP n B root k = true := c
      rw [if_pos c] at hn
      intro h5 h5e
      refine append_new (h0 := h) (F := []) o4 rfl fr4 (fun y hy => .inr (fo y hy)) rfl rfl h5e (by omega) (by omega) ?_
      intro a' c' h6 o6 f6 g6 l6 t6
      have hge : ∀ y ∈ foot a', sz h ≤ y := by
        intro y hy
        rcases t6 with rfl | t6
        · exact fo y hy
        · have := t6 y hy; have := fr4.size; omega
      refine ⟨⟨k + 1, rfl, by omega, by rw [hn]; simp, ?_, hge, w4.fr l6 (fun hq => by have := fo _ hq; omega) (fun hq => by have := fo _ hq; omega), f6⟩, decM hk4⟩
      rw [hn, encL_append]
      exact o6
    · have c : pageP n B root k = false := c
      rw [c, if_neg (by simp), List.append_nil] at hn
      exact ⟨⟨k + 1, rfl, by omega, by rw [hn], by rw [hn]; exact o4, fo, w4, fr4⟩, decM hk4⟩
  · have : k = N := by omega
    subst this
    rw [hP] at o1 ⊢
    exact ⟨fun hf => absurd hf (by simp; omega), fun _ => hR _ _ ⟨oa, oc, rfl, o1.row, fun y hy => ⟨fo y hy, o1.foot_lt y hy⟩, f1⟩⟩

/-! ## the document's walk -/
end Go.Proofs.Ytmldiibfmhkgjaa
