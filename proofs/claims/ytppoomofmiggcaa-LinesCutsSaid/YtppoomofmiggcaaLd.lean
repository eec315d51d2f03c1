import Derived.Test.YtppoomofmiggcaaLc
namespace Go.Proofs.Ytppoomofmiggcaa
open Go Go.Wd
set_option linter.unusedVariables false
set_option linter.unusedSimpArgs false

def isOf (g : Int) (x : Ln) : Bool := x.routed && (x.guest == g)
def cutX (g : Int) (x : Ln) : Ln := if isOf g x then noLn else x
def cutL (g : Int) (L : List Ln) : List Ln := L.map (cutX g)
def cutN (g : Int) (L : List Ln) : Nat := L.countP (isOf g)

theorem set_take_drop {α : Type} (A B : List α) (x y : α) : (A ++ x :: B).set A.length y = A ++ y :: B := by simp

theorem cut_spec {h : Hp} {q : Nat} {L : List Ln} {now : Int} (w : LS h q L now) (g : Int) :
    CallsH Try.prog 14 [.pointer (some ⟨q, 0, none⟩), .int .i64 g] h fun v h' => v = .int .i64 (cutN g L) ∧ LS h' q (cutL g L) now ∧ Fr [q] h h' := by
  refine calls_k fun R hR => ?_
  apply lines_Lines_Cut.calls
  unfold lines_Lines_Cut.P
  have hlen := w.len
  have hlt := w.lt
  have hel := encL_length Ln.len L
  rw [hlen] at hel
  refine ⟨encL Ln.cells L, hel, readAt_of w.hq 0 _ (by simp [hel]), ?_⟩
  refine ⟨fun n i h1 => ∃ k : Nat, i = k ∧ k ≤ 16 ∧ n = ((cutN g (L.take k) : Nat) : Int) ∧ LS h1 q (cutL g (L.take k) ++ L.drop k) now ∧ Fr [q] h h1, fun _ i _ => 16 - i.toNat, ⟨0, rfl, by omega, rfl, by simpa [cutL] using w, Fr.refl _ _⟩, ?_⟩
  rintro n i h1 ⟨k, rfl, hk, rfl, w1, f1⟩
  have hw : IntKind.wrap .i64 ((k : Int) + 1) = ((k + 1 : Nat) : Int) := by rw [wrap_i64 (by omega) (by omega)]; omega
  have hcn : cutN g (L.take k) ≤ k := by
    have := List.countP_le_length (p := isOf g) (l := L.take k)
    simp at this; unfold cutN; omega
  have hw2 : IntKind.wrap .i64 ((cutN g (L.take k) : Int) + 1) = ((cutN g (L.take k) + 1 : Nat) : Int) := by rw [wrap_i64 (by omega) (by omega)]; omega
  rw [hw]
  by_cases hk16 : k < 16
  · obtain ⟨x, hx⟩ := w.ex hk16
    have htake : L.take (k + 1) = L.take k ++ [x] := by rw [List.take_add_one, hx]; rfl
    have hdrop : L.drop k = x :: L.drop (k + 1) := by
      have hkl : k < L.length := by omega
      rw [List.drop_eq_getElem_cons hkl]
      rw [List.getElem?_eq_getElem hkl] at hx
      cases hx; rfl
    have hcl : (cutL g (L.take k)).length = k := by simp [cutL]; omega
    have dec : 16 - ((k + 1 : Nat) : Int).toNat < 16 - (k : Int).toNat := by omega
    refine ⟨fun _ => ⟨by omega, by omega, _, _, _, _, _, _, _, by rw [Int.toNat_natCast]; exact encL_row Ln.len hx, ?_⟩, fun c => absurd c (by simp; omega)⟩
    refine put_local rfl (by simp) ?_
    intro h2 k2 f2 s2
    have w2 := w1.fr f2 (by simp)
    have f02 := f1.trans (f2.mono (by simp))
    refine ⟨fun b h3 => b = isOf g x ∧ h3 = h2, ⟨x.routed, by rw [cellAt_of k2]; rfl, fun c => ⟨x.guest, by rw [cellAt_of k2]; rfl, by simp [isOf, c], rfl⟩, fun c => ⟨by simp [isOf, c], rfl⟩⟩, ?_⟩
    rintro b h3 ⟨rfl, rfl⟩
    refine ⟨fun c => ⟨by omega, by omega, rfl, _, _, w2.hq, by rw [w2.length]; omega, ?_⟩, fun c => ⟨⟨k + 1, rfl, by omega, ?_, ?_, f02⟩, dec⟩⟩
    · rintro h4 rfl
      rw [hdrop] at w2
      have hx2 : (cutL g (L.take k) ++ x :: L.drop (k + 1))[k]? = some x := by rw [List.getElem?_append_right (by omega), hcl]; simp
      have w4 := w2.put (j := 0) (y := noLn) (vs := [.int .i64 0, .int .i64 0, .int .u64 0, .int .u64 0, .bool false, .bool false, .bool false]) hx2 (by simp) rfl
      have hset := set_take_drop (cutL g (L.take k)) (L.drop (k + 1)) x noLn
      rw [hcl] at hset
      rw [hset] at w4
      refine ⟨⟨k + 1, rfl, by omega, ?_, ?_, f02.trans ?_⟩, dec⟩
      · rw [hw2, htake]; simp [cutN, c]
      · have e : cutL g (L.take (k + 1)) = cutL g (L.take k) ++ [noLn] := by rw [htake]; simp [cutL, cutX, c]
        rw [e, List.append_assoc, hdrop]
        simpa using w4
      · exact Fr.upd (by simp) _ _ _
    · rw [htake]; simp [cutN, c]
    · have e : cutL g (L.take (k + 1)) = cutL g (L.take k) ++ [x] := by rw [htake]; simp [cutL, cutX, c]
      rw [e, List.append_assoc, List.singleton_append, ← hdrop]
      exact w2
  · have : k = 16 := by omega
    subst this
    refine ⟨fun c => absurd c (by simp), fun _ => ?_⟩
    have e1 : L.take 16 = L := List.take_of_length_le (by omega)
    have e2 : L.drop 16 = [] := List.drop_eq_nil_of_le (by omega)
    rw [e1]
    rw [e1, e2, List.append_nil] at w1
    exact hR _ _ ⟨rfl, w1, f1⟩

/-! ## the delivering, to be run -/
def dueF : Nat → List Ln → Int → List Hit × List Ln
  | 0, L, _ => ([], L)
  | f + 1, L, n => if nextL L < 0 then ([], L) else match L[(nextL L).toNat]? with
    | none => ([], L)
    | some x => if n < due x then ([], L) else ((hitOf (nextL L) x (due x) :: (dueF f (L.set (nextL L).toNat (fire x (due x))) n).1), (dueF f (L.set (nextL L).toNat (fire x (due x))) n).2)

theorem dueF_of {n : Int} {L : List Ln} {H : List Hit} {L' : List Ln} (r : DueRel n L H L') : L.length = 16 → ∀ f, latches L ≤ f → dueF f L n = (H, L') := by
  induction r with
  | none h0 =>
    intro _ f _
    cases f with
    | zero => rfl
    | succ f => simp [dueF, h0]
  | later h1 h2 h3 =>
    intro _ f _
    cases f with
    | zero => rfl
    | succ f => simp [dueF, h1, h2, h3]
  | @one L k x H L' h1 h2 h3 h4 ih =>
    intro hl f hf
    have hx : x.latched = true := by
      rcases nextL_spec hl with ⟨e, _⟩ | ⟨m, y, e, _, hy, hyl, _⟩
      · rw [h1] at e; omega
      · rw [h1] at e
        have : k = m := by omega
        subst this
        rw [h2] at hy; cases hy; exact hyl
    have hs := latches_set (y := fire x (due x)) h2 hx rfl
    cases f with
    | zero => omega
    | succ f =>
      have hf' := ih (by simpa using hl) f (by omega)
      have n1 : ¬ ((k : Int) < 0) := by omega
      have n2 : ¬ (n < due x) := by omega
      simp [dueF, h1, h2, n1, n2, hf']

theorem due_spec' {h : Hp} {q : Nat} {L : List Ln} {now : Int} (w : LS h q L now) (t : Int) :
    CallsH Try.prog 10 [.pointer (some ⟨q, 0, none⟩), .int .u64 t] h fun v h' => ∃ a c, v = .slice a (dueF 16 L (maxI now t)).1.length c ∧ rowAtK h' a (encL Hit.cells (dueF 16 L (maxI now t)).1) ∧ (∀ x ∈ foot a, sz h ≤ x ∧ x < sz h') ∧ LS h' q (dueF 16 L (maxI now t)).2 (maxI now t) ∧ Fr [q] h h' := by
  refine (due_loop w t).mono ?_
  rintro v h' ⟨a, c, H, L', rfl, hr, hf, r, w', f⟩
  have hle : latches L ≤ 16 := by
    have := List.countP_le_length (p := fun x : Ln => x.latched) (l := L)
    rw [w.len] at this; exact this
  rw [dueF_of r w.len 16 hle]
  exact ⟨a, c, rfl, hr, hf, w', f⟩

theorem nextq_spec {h : Hp} {q : Nat} {L : List Ln} {now : Int} (w : LS h q L now) {k : Nat} {x : Ln} (hn : nextL L = k) (hk : k < 16) (hx : L[k]? = some x) :
    CallsH Try.prog 15 [.pointer (some ⟨q, 0, none⟩)] h fun v h' => v = .tuple #[.int .u64 (due x), .bool true] ∧ h' = h := by
  apply lines_Lines_Next.calls
  unfold lines_Lines_Next.P
  refine (next_spec w).mono ?_
  rintro v h1 ⟨rfl, rfl⟩
  rw [hn]
  refine ⟨_, rfl, fun c => absurd c (by simp), fun _ => ⟨by omega, by omega, ?_⟩⟩
  refine (show CallsH Try.prog 18 [.pointer (some ⟨q, 0 + (k : Int).toNat * 7, none⟩)] h1 _ by simpa using due_spec w hx).mono ?_
  rintro v h2 ⟨rfl, rfl⟩
  exact ⟨_, rfl, rfl, rfl⟩

/-! ## the lines work at all -/
def b0 : List Ln := List.replicate 16 noLn
def b1 : List Ln := routeL b0 3 2 5 100
def b2 : List Ln := arriveL b1 3 7
def b3 : List Ln := arriveL b2 3 10
def b5 : List Ln := (dueF 16 b3 200).2
def b6 : List Ln := arriveL b5 3 206

theorem alive_spec (h : Hp) : CallsH Try.prog 7 [] h fun v h' => v = .bool true ∧ Fr [] h h' := by
  refine calls_k fun R hR => ?_
  apply warderlaw21_alive.calls
  unfold warderlaw21_alive.P
  refine new_spec.mono ?_
  rintro v h1 ⟨rfl, w1, f1, s1⟩
  refine ⟨_, rfl, by simp [notIf], fun _ => ?_⟩
  have hlt := w1.lt
  refine (route_spec w1 3 2 5 100).mono ?_
  rintro v h2 ⟨rfl, w2, f2, s2⟩
  have e2 : routeE (List.replicate 16 noLn) 3 2 5 100 = 0 := by decide +kernel
  rw [e2]
  refine ⟨_, rfl, ?_⟩
  refine (arrive_spec w2 3 7).mono ?_
  rintro v h3 ⟨rfl, w3, f3⟩
  have m1 : maxI 0 7 = 7 := rfl
  have e3 : arriveO (routeL (List.replicate 16 noLn) 3 2 5 100) 3 7 = ⟨1, ⟨3, 2, 5, 7⟩⟩ := by decide +kernel
  rw [m1, e3]
  rw [m1] at w3
  refine ⟨_, _, _, _, _, rfl, ?_⟩
  refine put_local rfl (by simp) ?_
  intro h4 k4 f4 s4
  have w4 := w3.fr f4 (by simp)
  refine (arrive_spec w4 3 10).mono ?_
  rintro v h5 ⟨rfl, w5, f5⟩
  have m2 : maxI 7 10 = 10 := rfl
  have e5 : arriveO (arriveL (routeL (List.replicate 16 noLn) 3 2 5 100) 3 7) 3 10 = ⟨2, noHit⟩ := by decide +kernel
  rw [m2, e5]
  rw [m2] at w5
  refine ⟨_, _, _, _, _, rfl, ?_⟩
  have z := f2.size
  have z3 := f3.size
  have z5 := f5.size
  have k5 := f5.at k4 (by simp; omega)
  refine put_local rfl (by simp) ?_
  intro h6 k6 f6 s6
  have k56 := f6.at k5 (by simp)
  have w6 := w5.fr f6 (by simp)
  refine (arrive_spec w6 3 20).mono ?_
  rintro v h7 ⟨rfl, w7, f7⟩
  have m3 : maxI 10 20 = 20 := rfl
  have e7 : arriveO (arriveL (arriveL (routeL (List.replicate 16 noLn) 3 2 5 100) 3 7) 3 10) 3 20 = ⟨3, noHit⟩ := by decide +kernel
  have q7 : arriveL (arriveL (arriveL (routeL (List.replicate 16 noLn) 3 2 5 100) 3 7) 3 10) 3 20 = b3 := by decide +kernel
  rw [m3, e7]
  rw [m3, q7] at w7
  refine ⟨_, _, _, _, _, rfl, ?_⟩
  have z7 := f7.size
  have k57 := f7.at k56 (by simp; omega)
  have k67 := f7.at k6 (by simp; omega)
  refine put_local rfl (by simp) ?_
  intro h8 k8 f8 s8
  have k58 := f8.at k57 (by simp)
  have k68 := f8.at k67 (by simp)
  have w8 := w7.fr f8 (by simp)
  have n8 : nextL b3 = (3 : Nat) := by decide +kernel
  have x8 : b3[3]? = some ⟨2, 5, 100, 7, true, true, true⟩ := by decide +kernel
  have d8 : due ⟨2, 5, 100, 7, true, true, true⟩ = 107 := by decide +kernel
  refine (nextq_spec w8 n8 (by omega) x8).mono ?_
  rintro v h9 ⟨rfl, rfl⟩
  rw [d8]
  refine ⟨_, _, rfl, ?_⟩
  refine (due_spec' w8 106).mono ?_
  have m4 : maxI 20 106 = 106 := rfl
  have e10 : dueF 16 b3 106 = ([], b3) := by decide +kernel
  rw [m4, e10]
  rintro v h10 ⟨a10, c10, rfl, _, _, w10, f10⟩
  refine ⟨_, _, _, rfl, ?_⟩
  refine (due_spec' w10 200).mono ?_
  have m5 : maxI 106 200 = 200 := rfl
  have e11 : dueF 16 b3 200 = ([⟨3, 2, 5, 107⟩], b5) := by decide +kernel
  rw [m5, e11]
  rintro v h11 ⟨a11, c11, rfl, r11, ft11, w11, f11⟩
  refine ⟨_, _, _, rfl, ?_⟩
  refine (arrive_spec w11 3 206).mono ?_
  have m6 : maxI 200 206 = 206 := rfl
  have e12 : arriveO b5 3 206 = ⟨2, noHit⟩ := by decide +kernel
  rw [m6, e12]
  rintro v h12 ⟨rfl, w12, f12⟩
  refine ⟨_, _, _, _, _, rfl, ?_⟩
  refine put_local rfl (by simp) ?_
  intro h13 k13 f13 s13
  have w13 := w12.fr f13 (by simp)
  have z10 := f10.size
  have z11 := f11.size
  have z12 := f12.size
  have fa := ((f10.trans f11).trans f12).trans (f13.mono (by simp))
  have c1 := fa.at k58 (by simp; omega)
  have c2 := fa.at k68 (by simp; omega)
  have c3 := fa.at k8 (by simp; omega)
  obtain ⟨b, o, rfl, hr⟩ : ∃ b o, a11 = some ⟨b, o, none⟩ ∧ readAt h11 b o (encL Hit.cells [⟨3, 2, 5, 107⟩]) := by
    rcases r11 with h | h
    · simp [encL, Hit.cells] at h
    · exact h
  have hb := ft11 b (by simp [foot])
  have c4 := (f12.trans (f13.mono (by simp))).cell (hr 3 (by simp [encL, Hit.cells])) (by simp; omega)
  simp only [Hit.cells, noHit] at c1 c2 c3 k13
  simp [-Bool.exists_bool, and_assoc, notIf, cellAt_of c1, cellAt_of c2, cellAt_of c3, cellAt_of k13, c4]
  have z1 := f1.size
  refine (get_spec w13 3).mono ?_
  have e14 : getL b6 3 = ⟨2, 5, 100, 107, true, true, true⟩ := by decide +kernel
  have e14' : getL (arriveL b5 3 206) 3 = ⟨2, 5, 100, 107, true, true, true⟩ := e14
  rw [e14']
  rintro v h14 ⟨rfl, f14⟩
  refine ⟨_, _, _, _, _, _, _, rfl, ?_⟩
  have w14 := w13.fr f14 (by simp)
  refine ⟨fun _ => ?_, fun c => absurd c (by simp)⟩
  refine (arrive_spec w14 4 300).mono ?_
  have m7 : maxI 206 300 = 300 := rfl
  have e15 : arriveO (arriveL b5 3 206) 4 300 = ⟨0, noHit⟩ := by decide +kernel
  rw [m7, e15]
  rintro v h15 ⟨rfl, w15, f15⟩
  simp [Out.cells, Hit.cells, noHit]
  refine (cut_spec w15 2).mono ?_
  have e16 : cutN 2 (arriveL (arriveL b5 3 206) 4 300) = 1 := by decide +kernel
  rw [e16]
  rintro v h16 ⟨rfl, w16, f16⟩
  refine ⟨_, rfl, ?_⟩
  refine hR _ _ ⟨rfl, ?_⟩
  have g : Fr [sz h] h1 h16 := ((((((((f2.trans f3).trans (f4.mono (by simp))).trans f5).trans (f6.mono (by simp))).trans f7).trans (f8.mono (by simp))).trans fa).trans (f14.mono (by simp))).trans (f15.trans f16)
  exact f1.later g (by simp)
end Go.Proofs.Ytppoomofmiggcaa
