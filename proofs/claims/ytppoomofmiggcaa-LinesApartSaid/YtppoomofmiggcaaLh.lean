import Derived.Test.YtppoomofmiggcaaLe
import Derived.Test.YtppoomofmiggcaaLr
namespace Go.Proofs.Ytppoomofmiggcaa
open Go Go.Wd
set_option linter.unusedVariables false
set_option linter.unusedSimpArgs false

/-- What is delivered of one line. -/
theorem DueRel.line {n : Int} {L : List Ln} {H : List Hit} {L' : List Ln} (r : DueRel n L H L') : L.length = 16 → ∀ (k : Nat) (x : Ln), L[k]? = some x →
    H.filter (fun y => y.line == (k : Int)) = (if x.latched && decide (due x ≤ n) then [hitOf k x (due x)] else []) ∧ L'[k]? = some (if x.latched && decide (due x ≤ n) then fire x (due x) else x) := by
  induction r with
  | @none L h0 =>
    intro hl k x hx
    rcases nextL_spec hl with ⟨_, h2⟩ | ⟨m, y, e, _⟩
    · simp [h2 k x hx, hx]
    · omega
  | @later L m y h1 h2 h3 =>
    intro hl k x hx
    have hno : (x.latched && decide (due x ≤ n)) = false := by
      rcases nextL_spec hl with ⟨e, _⟩ | ⟨m', y', e, _, hy', hyl, hmin, _⟩
      · omega
      · have : m' = m := by omega
        subst this
        rw [h2] at hy'; cases hy'
        cases hxl : x.latched
        · rfl
        · have := hmin k x hx hxl
          simp; omega
    simp [hno, hx]
  | @one L m y H L' h1 h2 h3 h4 ih =>
    intro hl k x hx
    have hyl : y.latched = true := by
      rcases nextL_spec hl with ⟨e, _⟩ | ⟨m', y', e, _, hy', hyl, _⟩
      · omega
      · have : m' = m := by omega
        subst this
        rw [h2] at hy'; cases hy'; exact hyl
    have hml := (List.getElem?_eq_some_iff.1 h2).1
    by_cases hk : k = m
    · subst hk
      rw [h2] at hx; cases hx
      obtain ⟨i1, i2⟩ := ih (by simpa using hl) k (fire y (due y)) (by simp [hml])
      simp only [fire, Bool.false_and, Bool.false_eq_true, if_false] at i1 i2
      rw [hyl, decide_eq_true h3]
      simp only [Bool.and_self, if_true]
      refine ⟨?_, i2⟩
      rw [List.filter_cons]
      simp only [hitOf, beq_self_eq_true, if_true]
      rw [i1]
    · obtain ⟨i1, i2⟩ := ih (by simpa using hl) k x (by rw [List.getElem?_set, if_neg (fun e => hk e.symm)]; exact hx)
      refine ⟨?_, i2⟩
      rw [List.filter_cons]
      have : ((hitOf m y (due y)).line == (k : Int)) = false := by simp [hitOf]; omega
      rw [this]
      simpa using i1

theorem DueRel.all {n : Int} {L : List Ln} {H : List Hit} {L' : List Ln} (r : DueRel n L H L') : L.length = 16 → ∀ y ∈ H, ∃ (k : Nat) (x : Ln), L[k]? = some x ∧ x.latched = true ∧ y = hitOf k x (due x) := by
  induction r with
  | none _ => intro _ y hy; simp at hy
  | later _ _ _ => intro _ y hy; simp at hy
  | @one L m x H L' h1 h2 h3 h4 ih =>
    intro hl y hy
    have hxl : x.latched = true := by
      rcases nextL_spec hl with ⟨e, _⟩ | ⟨m', y', e, _, hy', hyl, _⟩
      · omega
      · have : m' = m := by omega
        subst this
        rw [h2] at hy'; cases hy'; exact hyl
    rcases List.mem_cons.1 hy with rfl | hy
    · exact ⟨m, x, h2, hxl, rfl⟩
    · obtain ⟨k, z, hz, hzl, he⟩ := ih (by simpa using hl) y hy
      rw [List.getElem?_set] at hz
      split at hz
      · rename_i e
        split at hz
        · cases hz; cases hzl
        · cases hz
      · exact ⟨k, z, hz, hzl, he⟩

/-- A list's part that fits: which one it is. -/
theorem filter_at {α : Type} (p : α → Bool) : ∀ (l : List α) (j : Nat) (y : α), l[j]? = some y → p y = true → (l.filter p)[((l.take j).filter p).length]? = some y
  | [], j, y, h, _ => by simp at h
  | z :: l, 0, y, h, hp => by simp at h; subst h; simp [List.filter_cons, hp]
  | z :: l, j + 1, y, h, hp => by
    have ih := filter_at p l j y (by simpa using h) hp
    rw [List.take_succ_cons, List.filter_cons, List.filter_cons]
    split
    · simpa using ih
    · exact ih

theorem arriveO_of {L M : List Ln} {k : Nat} (hk : k < 16) {x : Ln} (h1 : L[k]? = some x) (h2 : M[k]? = some x) (n : Int) : arriveO L k n = arriveO M k n := by
  simp only [arriveO, getL_nat hk h1, getL_nat hk h2]
def arriveX (x : Ln) (n : Int) : Ln := if x.routed then (if x.latched then x else if opened x n then fire x n else { x with latched := true }) else x
theorem arriveL_at {L : List Ln} {k : Nat} (hk : k < 16) {x : Ln} (h1 : L[k]? = some x) (n : Int) : (arriveL L k n)[k]? = some (arriveX x n) ∧ ∀ j, j ≠ k → (arriveL L k n)[j]? = L[j]? := by
  have ht : isThere (k : Int) = true := by simp [isThere]; omega
  have hl := (List.getElem?_eq_some_iff.1 h1).1
  simp only [arriveL, arriveX, getL_nat hk h1, ht, Bool.true_and, Int.toNat_natCast]
  cases x.routed
  · simp [h1]
  cases x.latched
  · cases opened x n
    · simp only [Bool.false_eq_true, if_false, if_true]
      exact ⟨by simp [hl], fun j hj => by rw [List.getElem?_set, if_neg hj.symm]⟩
    · simp only [Bool.false_eq_true, if_false, if_true]
      exact ⟨by simp [hl], fun j hj => by rw [List.getElem?_set, if_neg hj.symm]⟩
  · simp [h1]
theorem single_arrive (x : Ln) (n : Int) : arriveL (single 1 x) 1 n = single 1 (arriveX x n) := by
  have ht : isThere (1 : Int) = true := by decide
  have hg := single_get (k := 1) (by omega) x
  rw [show (((1 : Nat) : Int)) = 1 from rfl] at hg
  simp only [arriveL, arriveX, hg, ht, Bool.true_and]
  cases x.routed
  · simp
  cases x.latched
  · cases opened x n <;> simp [single]
  · simp

structure ApartA (h : Hp) (qa qb n : Nat) (now i : Int) (h9 : Hp) (k : Nat) (x : Ln) (Lb : List Ln) (na nb : Int) : Prop where
  c1 : i = k
  c2 : k ≤ n
  c3 : LS h9 qa (single 1 x) na
  c4 : LS h9 qb Lb nb
  c5 : Lb[1]? = some x
  c6 : Fr [] h h9
  c7 : na ≤ now ∧ nb ≤ now
  c8 : 0 ≤ now ∧ now ≤ k * 1125899906842624

set_option maxHeartbeats 8000000 in
theorem apart_spec {h : Hp} {a : Option Addr} {c : Nat} {after : List Int} {a2 : Option Addr} {c2 : Nat} {which : List Int} (gap other : Int)
    (g1 : rowAtK h a (encL encU after)) (o1 : ∀ x ∈ after, U64 x) (g2 : rowAtK h a2 (encL (fun n => [Value.int .i64 n]) which)) :
    CallsH Try.prog 5 [.int .u64 gap, .int .u64 other, .slice a after.length c, .slice a2 which.length c2] h fun v h' => v = .bool true ∧ Fr [] h h' := by
  refine calls_k fun R hR => ?_
  apply warderlaw21_LinesApart.calls
  unfold warderlaw21_LinesApart.P
  refine (alive_spec h).mono ?_
  rintro v h1 ⟨rfl, f1⟩
  have yes := fun h' (f : Fr [] h h') => hR (.bool true) h' ⟨rfl, f⟩
  refine ⟨_, rfl, by simp, fun _ => ?_⟩
  refine ⟨fun h2 => h2 = h1 ∧ gap ≤ 1099511627776 ∧ other ≤ 1099511627776 ∧ after.length ≤ 60 ∧ after.length ≤ which.length ∧ which.length ≤ 1000, ?_, ?_⟩
  · refine ⟨fun _ => yes _ f1, fun d1 => ⟨fun _ => yes _ f1, fun d2 => ⟨fun _ => yes _ f1, fun d3 => ⟨fun _ => yes _ f1, fun d4 => ⟨fun _ => yes _ f1, fun d5 => ?_⟩⟩⟩⟩⟩
    simp only [decide_eq_false_iff_not] at d1 d2 d3 d4 d5
    refine ⟨rfl, by omega, by omega, by omega, by omega, by omega⟩
  rintro h2 ⟨rfl, p1, p2, p3, p4, p5⟩
  refine new_spec.mono ?_
  rintro v h3 ⟨rfl, w3, f3, s3⟩
  refine ⟨_, rfl, ?_⟩
  refine new_spec.mono ?_
  rintro v h4 ⟨rfl, v4, f4, s4⟩
  refine ⟨_, rfl, ?_⟩
  have w4 := w3.fr f4 (by simp)
  have z1 := f1.size
  have f14 : Fr [] h h4 := (f1.trans f3).trans f4
  generalize hqa : sz h2 = qa at *
  generalize hqb : sz h3 = qb at *
  have hqab : qa < qb := by omega
  have hqh : sz h ≤ qa := by omega
  refine ⟨fun h8 => ∃ Lb, LS h8 qa (single 1 ⟨2, 3, gap, 0, true, false, false⟩) 0 ∧ LS h8 qb Lb 0 ∧ Lb[1]? = some ⟨2, 3, gap, 0, true, false, false⟩ ∧ Fr [] h h8, ?_, ?_⟩
  · obtain ⟨re, rl⟩ := single_route (k := 1) (g := 2) (t := 3) (gap := gap) (by omega) (by omega) (by omega) (by omega) (by omega) p1
    rw [show (((1 : Nat) : Int)) = 1 from rfl] at re rl
    refine (route_spec w4 1 2 3 gap).mono ?_
    rintro v h5 ⟨rfl, w5, f5, s5⟩
    rw [re]
    rw [rl] at w5
    refine ⟨_, rfl, by simp, fun _ => ?_⟩
    have v5 := v4.fr f5 (by simp; omega)
    refine (route_spec v5 1 2 3 gap).mono ?_
    rintro v h6 ⟨rfl, v6, f6, s6⟩
    rw [re]
    rw [rl] at v6
    refine ⟨_, rfl, by simp, fun _ => ?_⟩
    have w6 := w5.fr f6 (by simp; omega)
    refine (route_spec v6 2 4 5 other).mono ?_
    have re2 : routeE (single 1 ⟨2, 3, gap, 0, true, false, false⟩) 2 4 5 other = 0 := by
      simp only [routeE]
      rw [if_neg (by omega)]
      rfl
    rintro v h7 ⟨rfl, v7, f7, s7⟩
    rw [re2]
    refine ⟨_, rfl, by simp, fun _ => ⟨_, w6.fr f7 (by simp; omega), v7, ?_, ?_⟩⟩
    · simp only [routeL, re2, if_true]
      rw [List.getElem?_set, if_neg (by decide)]
      exact single_at (by omega) _
    · exact ((f14.later f5 (by simp; omega)).later f6 (by simp; omega)).later f7 (by simp; omega)
  rintro h8 ⟨Lb, w8, v8, hb8, f8⟩
  refine ⟨fun now i h9 => ∃ k x Lb na nb, ApartA h qa qb after.length now i h9 k x Lb na nb, fun _ i _ => after.length - i.toNat, ⟨0, _, Lb, 0, 0, rfl, by omega, w8, v8, hb8, f8, by omega, by omega⟩, ?_⟩
  rintro now i h9 ⟨k, x, Lb, na, nb, I⟩
  obtain ⟨rfl, hk, w9, v9, hb, f9, ⟨hna, hnb⟩, hn0, hn1⟩ := I
  by_cases hkl : k < after.length
  · refine ⟨fun _ => ?_, fun hf => absurd hf (by simp; omega)⟩
    obtain ⟨d, hd⟩ : ∃ d, after[k]? = some d := ⟨_, List.getElem?_eq_getElem hkl⟩
    obtain ⟨hd0, hd1⟩ := o1 d (List.mem_of_getElem? hd)
    obtain ⟨b1, o1', rfl, e1⟩ := encL_one (f := encU) (m := 1) (fun _ => rfl) (g1.fr f9 (by simp)) hd (by omega)
    have r1 : cellAt h9 b1 (o1' + (k : Int).toNat * 1) = some (.int .u64 d) := by have := e1 0 (by omega); simpa [encU] using this
    obtain ⟨wh, hwh⟩ : ∃ wh, which[k]? = some wh := ⟨_, List.getElem?_eq_getElem (by omega)⟩
    obtain ⟨b2, o2', rfl, e2⟩ := encL_one (f := fun n => [Value.int .i64 n]) (m := 1) (fun _ => rfl) (g2.fr f9 (by simp)) hwh (by omega)
    have r2 : cellAt h9 b2 (o2' + (k : Int).toNat * 1) = some (.int .i64 wh) := by have := e2 0 (by omega); simpa using this
    refine ⟨by omega, by omega, _, _, rfl, _, r1, fun _ => yes _ f9, fun hdl => ⟨by omega, by omega, _, _, rfl, _, r1, by omega, by omega, _, _, rfl, _, r2, ?_⟩⟩
    have hdl' : d ≤ 1125899906842624 := by simpa using hdl
    have hwn : IntKind.wrap .u64 (now + d) = now + d := wrap_u64 (by omega) (by omega)
    have hma : maxI na (now + d) = now + d := by unfold maxI; split <;> omega
    have hmb : maxI nb (now + d) = now + d := by unfold maxI; split <;> omega
    have hwi : IntKind.wrap .i64 ((k : Int) + 1) = ((k + 1 : Nat) : Int) := by rw [wrap_i64 (by omega) (by omega)]; omega
    have dec : after.length - ((k + 1 : Nat) : Int).toNat < after.length - (k : Int).toNat := by omega
    rw [hwn, hwi]
    have hla := w9.lt
    have hlb := v9.lt
    -- the end of a round
    have gets : ∀ (h11 : Hp) (x' : Ln) (Lb' : List Ln) (ma mb : Int), LS h11 qa (single 1 x') ma → LS h11 qb Lb' mb → Lb'[1]? = some x' → Fr [] h h11 → ma ≤ now + d → mb ≤ now + d →
        CallsH Try.prog 12 [.pointer (some ⟨qa, 0, none⟩), .int .i64 1] h11 fun r40 h12 => ∃ Get41 : Int, ∃ Get42 : Int, ∃ Get43 : Int, ∃ Get44 : Int, ∃ Get45 : Bool, ∃ Get46 : Bool, ∃ Get47 : Bool, r40 = .agg #[.int .i64 Get41, .int .i64 Get42, .int .u64 Get43, .int .u64 Get44, .bool Get45, .bool Get46, .bool Get47] ∧
        CallsH Try.prog 12 [.pointer (some ⟨qb, 0, none⟩), .int .i64 1] h12 fun r48 h13 => ∃ Get49 : Int, ∃ Get50 : Int, ∃ Get51 : Int, ∃ Get52 : Int, ∃ Get53 : Bool, ∃ Get54 : Bool, ∃ Get55 : Bool, r48 = .agg #[.int .i64 Get49, .int .i64 Get50, .int .u64 Get51, .int .u64 Get52, .bool Get53, .bool Get54, .bool Get55] ∧
        ((notIf false ((Get41 == Get49) && ((Get42 == Get50) && ((Get43 == Get51) && ((Get44 == Get52) && (((Get45 : Bool) == Get53) && (((Get46 : Bool) == Get54) && (((Get47 : Bool) == Get55) && true)))))))) = true →
        (R (.bool false) h13)) ∧ ((notIf false ((Get41 == Get49) && ((Get42 == Get50) && ((Get43 == Get51) && ((Get44 == Get52) && (((Get45 : Bool) == Get53) && (((Get46 : Bool) == Get54) && (((Get47 : Bool) == Get55) && true)))))))) = false →
        ((∃ k' x Lb na nb, ApartA h qa qb after.length (now + d) ((k + 1 : Nat) : Int) h13 k' x Lb na nb) ∧ after.length - ((k + 1 : Nat) : Int).toNat < after.length - (k : Int).toNat)) := by
      intro h11 x' Lb' ma mb wa wb hx' f11 hm1 hm2
      refine (get_spec wa 1).mono ?_
      have hg1 := single_get (k := 1) (by omega) x'
      have hg2 := getL_nat (k := 1) (by omega) hx'
      rw [show (((1 : Nat) : Int)) = 1 from rfl] at hg1 hg2
      rw [hg1]
      rintro v h12 ⟨rfl, f12⟩
      refine ⟨_, _, _, _, _, _, _, rfl, ?_⟩
      refine (get_spec (wb.fr f12 (by simp)) 1).mono ?_
      rw [hg2]
      rintro v h13 ⟨rfl, f13⟩
      refine ⟨_, _, _, _, _, _, _, rfl, by simp [notIf], fun _ => ⟨⟨k + 1, x', Lb', ma, mb, rfl, by omega, (wa.fr f12 (by simp)).fr f13 (by simp), (wb.fr f12 (by simp)).fr f13 (by simp), hx', (f11.trans f12).trans f13, ⟨hm1, hm2⟩, by omega, by omega⟩, dec⟩⟩
    refine ⟨fun c0 => ?_, fun c0 => ⟨fun c1 => ?_, fun c1 => ⟨fun c2' => ?_, fun c2' => ?_⟩⟩⟩
    · -- an arrival on both
      refine (arrive_spec w9 1 (now + d)).mono ?_
      rw [hma, single_arrive]
      rintro v h10 ⟨rfl, w10, f10⟩
      refine ⟨_, _, _, _, _, rfl, ?_⟩
      have v10 := v9.fr f10 (by simp; omega)
      refine (arrive_spec v10 1 (now + d)).mono ?_
      have hO := arriveO_of (k := 1) (by omega) hb (single_at (k := 1) (by omega) x) (now + d)
      have hL := arriveL_at (k := 1) (by omega) hb (now + d)
      rw [show (((1 : Nat) : Int)) = 1 from rfl] at hO hL
      rw [hmb, hO]
      rintro v h11 ⟨rfl, v11, f11⟩
      refine ⟨_, _, _, _, _, rfl, by simp [notIf], fun _ => ?_⟩
      exact gets h11 _ _ _ _ (w10.fr f11 (by simp; omega)) v11 hL.1 ((f9.later f10 (by simp; omega)).later f11 (by simp; omega)) (by omega) (by omega)
    · -- an arrival on the other one
      refine (arrive_spec v9 2 (now + d)).mono ?_
      obtain ⟨y, hy⟩ := v9.ex (k := 2) (by omega)
      have hL := arriveL_at (k := 2) (by omega) hy (now + d)
      rw [show (((2 : Nat) : Int)) = 2 from rfl] at hL
      rw [hmb]
      rintro v h10 ⟨rfl, v10, f10⟩
      refine ⟨_, _, _, _, _, rfl, ?_⟩
      exact gets h10 _ _ _ _ (w9.fr f10 (by simp; omega)) v10 (by rw [hL.2 1 (by omega)]; exact hb) (f9.later f10 (by simp; omega)) (by omega) (by omega)
    · -- what is due of both
      refine (due_loop w9 (now + d)).mono ?_
      rw [hma]
      rintro v h10 ⟨aa, ac, HA, LA, rfl, ra, fta, da, w10, f10⟩
      refine ⟨_, _, _, rfl, ?_⟩
      have v10 := v9.fr f10 (by simp; omega)
      refine (due_loop v10 (now + d)).mono ?_
      rw [hmb]
      rintro v h11 ⟨ba, bc, HB, LB, rfl, rb, ftb, db, v11, f11⟩
      refine ⟨_, _, _, rfl, ?_⟩
      have za := f10.size
      have w11 := w10.fr f11 (by simp; omega)
      have ra11 := ra.fr f11 (fun z hz => by have := fta z hz; simp; omega)
      -- both deliver the same of line 1
      have hda := dueF_of da (single_len 1 x) 16 (by have := List.countP_le_length (p := fun x : Ln => x.latched) (l := single 1 x); rw [single_len] at this; exact this)
      rw [single_due (by omega)] at hda
      obtain ⟨hf1, hf2⟩ := db.line v10.len 1 x hb
      obtain ⟨x', hLA, hLB, hHA⟩ : ∃ x', LA = single 1 x' ∧ LB[1]? = some x' ∧ HB.filter (fun y => y.line == ((1 : Nat) : Int)) = HA := by
        split at hda
        · rename_i hc
          rw [if_pos hc] at hf1 hf2
          cases hda
          exact ⟨_, rfl, hf2, hf1⟩
        · rename_i hc
          rw [if_neg hc] at hf1 hf2
          cases hda
          exact ⟨_, rfl, hf2, hf1⟩
      rw [show (((1 : Nat) : Int)) = 1 from rfl] at hHA
      rw [hLA] at w11
      have hlenB : HB.length ≤ 16 := by
        have h1 := dueF_of db v10.len 16 (by have := List.countP_le_length (p := fun x : Ln => x.latched) (l := Lb); rw [v10.len] at this; exact this)
        have h2 : ∀ f (L : List Ln), (dueF f L (now + d)).1.length ≤ f := by
          intro f
          induction f with
          | zero => intro L; simp [dueF]
          | succ f ih =>
            intro L
            simp only [dueF]
            split
            · simp
            · split
              · simp
              · split
                · simp
                · have := ih (L.set (nextL L).toNat (fire ‹Ln› (due ‹Ln›))); simp; omega
        have := h2 16 Lb
        rw [h1] at this; exact this
      have f11' : Fr [] h h11 := (f9.later f10 (by simp; omega)).later f11 (by simp; omega)
      have hpre : ∀ j, ((HB.take j).filter (fun y => y.line == 1)).length ≤ HA.length := by
        intro j
        rw [← hHA]
        have := (List.take_sublist j HB).filter (fun y => y.line == 1)
        exact this.length_le
      refine ⟨fun kk j h19 => ∃ m : Nat, j = m ∧ m ≤ HB.length ∧ kk = ((((HB.take m).filter (fun y => y.line == 1)).length : Nat) : Int) ∧ h19 = h11, fun _ j _ => HB.length - j.toNat, ⟨0, rfl, by omega, rfl, rfl⟩, ?_⟩
      rintro kk j h19 ⟨m, rfl, hm, rfl, rfl⟩
      have hwm : IntKind.wrap .i64 ((m : Int) + 1) = ((m + 1 : Nat) : Int) := by rw [wrap_i64 (by omega) (by omega)]; omega
      have hp := hpre m
      have hpl : HA.length ≤ HB.length := by rw [← hHA]; exact List.length_filter_le _ _
      by_cases hml : m < HB.length
      · refine ⟨fun _ => ?_, fun hf => absurd hf (by simp; omega)⟩
        obtain ⟨y, hy⟩ : ∃ y, HB[m]? = some y := ⟨_, List.getElem?_eq_getElem hml⟩
        obtain ⟨bb, oo, rfl, e3⟩ := encL_one Hit.len rb hy (by omega)
        have q0 := e3 0 (by omega)
        have q1 := e3 1 (by omega)
        have q2 := e3 2 (by omega)
        have q3 := e3 3 (by omega)
        simp only [Hit.cells, List.getElem?_cons_zero, List.getElem?_cons_succ] at q0 q1 q2 q3
        have htake : HB.take (m + 1) = HB.take m ++ [y] := by rw [List.take_add_one, hy]; rfl
        have dec2 : HB.length - ((m + 1 : Nat) : Int).toNat < HB.length - (m : Int).toNat := by omega
        rw [Int.toNat_natCast, hwm]
        refine ⟨by omega, by omega, _, _, rfl, _, by simpa using q0, fun hne => ?_, fun heq => ?_⟩
        · have hne' : ¬ y.line = 1 := by simpa using hne
          refine ⟨⟨m + 1, rfl, by omega, ?_, rfl⟩, dec2⟩
          rw [htake, List.filter_append]; simp [hne']
        · have heq' : y.line = 1 := by simpa using heq
          have hat := filter_at (fun y : Hit => y.line == 1) HB m y hy (by simp [heq'])
          rw [hHA] at hat
          have hlt := (List.getElem?_eq_some_iff.1 hat).1
          generalize hg : ((HB.take m).filter (fun y : Hit => y.line == 1)).length = g at *
          obtain ⟨ab, ao, rfl, e4⟩ := encL_one Hit.len ra11 hat (by omega)
          have p0 := e4 0 (by omega)
          have p1' := e4 1 (by omega)
          have p2' := e4 2 (by omega)
          have p3' := e4 3 (by omega)
          simp only [Hit.cells, List.getElem?_cons_zero, List.getElem?_cons_succ] at p0 p1' p2' p3'
          have hwg : IntKind.wrap .i64 ((g : Int) + 1) = ((g + 1 : Nat) : Int) := by rw [wrap_i64 (by omega) (by omega)]; omega
          rw [Int.toNat_natCast, hwg]
          refine ⟨fun hc => absurd hc (by simp; omega), fun _ => ⟨by omega, by omega, _, _, rfl, _, p0, _, p1', _, p2', _, p3', by omega, by omega, _, _, rfl, _, q0, _, q1, _, q2, _, q3, by simp [notIf], fun _ => ⟨⟨m + 1, rfl, by omega, ?_, rfl⟩, dec2⟩⟩⟩
          rw [htake, List.filter_append, List.length_append, hg]
          simp [heq']
      · have : m = HB.length := by omega
        subst this
        rw [List.take_length, hHA]
        refine ⟨fun hf => absurd hf (by simp), fun _ => ⟨by simp, fun _ => ?_⟩⟩
        exact gets h19 x' LB _ _ w11 v11 hLB f11' (by omega) (by omega)
    · exact gets h9 x Lb na nb w9 v9 hb f9 (by omega) (by omega)
  · refine ⟨fun hf => absurd hf (by simp; omega), fun _ => yes _ f9⟩
end Go.Proofs.Ytppoomofmiggcaa
