import Derived.Test.YtppoomofmiggcaaLe
import Derived.Test.YtppoomofmiggcaaLr
namespace Go.Proofs.Ytppoomofmiggcaa
open Go Go.Wd
set_option linter.unusedVariables false
set_option linter.unusedSimpArgs false

def latchX (gap : Int) (l : Bool) : Ln := ⟨2, 0, gap, 5, true, true, l⟩

set_option maxHeartbeats 4000000 in
theorem latch_spec {h : Hp} {a : Option Addr} {c : Nat} {after : List Int} (gap : Int)
    (g1 : rowAtK h a (encL encU after)) (o1 : ∀ x ∈ after, U64 x) :
    CallsH Try.prog 4 [.int .u64 gap, .slice a after.length c] h fun v h' => v = .bool true ∧ Fr [] h h' := by
  refine calls_k fun R hR => ?_
  apply warderlaw21_LinesLatch.calls
  unfold warderlaw21_LinesLatch.P
  refine (alive_spec h).mono ?_
  rintro v h1 ⟨rfl, f1⟩
  have yes := fun h' (f : Fr [] h h') => hR (.bool true) h' ⟨rfl, f⟩
  refine ⟨_, rfl, by simp, fun _ => ?_⟩
  refine ⟨fun h2 => h2 = h1 ∧ 2 ≤ gap ∧ gap ≤ 1099511627776 ∧ after.length ≤ 60 ∧ 0 < after.length, ?_, ?_⟩
  · refine ⟨fun _ => yes _ f1, fun d1 => ⟨fun _ => yes _ f1, fun d2 => ⟨fun _ => yes _ f1, fun d3 => ⟨fun _ => yes _ f1, fun d4 => ?_⟩⟩⟩⟩
    simp only [decide_eq_false_iff_not] at d1 d2 d3
    have d4' : ¬ ((after.length : Int) = 0) := by simpa using d4
    refine ⟨rfl, by omega, by omega, by omega, by omega⟩
  rintro h2 ⟨rfl, p1, p2, p3, p4⟩
  refine new_spec.mono ?_
  rintro v h3 ⟨rfl, w3, f3, s3⟩
  refine ⟨_, rfl, ?_⟩
  have z1 := f1.size
  have f13 : Fr [] h h3 := f1.trans f3
  have hq1 : sz h ≤ sz h2 := z1
  refine ⟨fun h6 => LS h6 (sz h2) (single 0 (latchX gap false)) 5 ∧ Fr [] h h6, ?_, ?_⟩
  · obtain ⟨re, rl⟩ := single_route (k := 0) (g := 2) (t := 0) (gap := gap) (by omega) (by omega) (by omega) (by omega) (by omega) p2
    rw [show (((0 : Nat) : Int)) = 0 from rfl] at re rl
    refine (route_spec w3 0 2 0 gap).mono ?_
    rintro v h4 ⟨rfl, w4, f4, s4⟩
    rw [re]
    rw [rl] at w4
    refine ⟨_, rfl, by simp, fun _ => ?_⟩
    refine (arrive_spec w4 0 5).mono ?_
    have ao := single_arriveO (k := 0) (x := ⟨2, 0, gap, 0, true, false, false⟩) (by omega) rfl 5
    have al := single_arriveL (k := 0) (x := ⟨2, 0, gap, 0, true, false, false⟩) (by omega) rfl 5
    rw [show (((0 : Nat) : Int)) = 0 from rfl] at ao al
    rw [show maxI 0 5 = 5 from rfl, ao, al]
    simp only [opened, Bool.not_false, Bool.true_or, if_true, Bool.false_eq_true, if_false, fire, hitOf]
    rintro v h5 ⟨rfl, w5, f5⟩
    exact ⟨_, _, _, _, _, rfl, by simp, fun _ => ⟨w5, (f13.later f4 (by simp; omega)).later f5 (by simp; omega)⟩⟩
  rintro h6 ⟨w6, f6⟩
  have dueX : ∀ l, due (latchX gap l) = 5 + gap := fun l => by unfold due latchX; exact wrap_u64 (by simp only; omega) (by simp only; omega)
  refine ⟨fun h11 => ∃ now l, LS h11 (sz h2) (single 0 (latchX gap l)) now ∧ Fr [] h h11 ∧ 5 ≤ now ∧ now < 5 + gap, ?_, ?_⟩
  · -- the arrivals
    refine ⟨fun now i h7 => ∃ k : Nat, i = k ∧ k ≤ after.length ∧ LS h7 (sz h2) (single 0 (latchX gap (decide (0 < k)))) now ∧ Fr [] h h7 ∧ 5 ≤ now ∧ now < 5 + gap, fun _ i _ => after.length - i.toNat, ⟨0, rfl, by omega, w6, f6, by omega, by omega⟩, ?_⟩
    rintro now i h7 ⟨k, rfl, hk, w7, f7, n1, n2⟩
    by_cases hkl : k < after.length
    · refine ⟨fun _ => ?_, fun hf => absurd hf (by simp; omega)⟩
      obtain ⟨d, hd⟩ : ∃ d, after[k]? = some d := ⟨_, List.getElem?_eq_getElem hkl⟩
      obtain ⟨hd0, hd1⟩ := o1 d (List.mem_of_getElem? hd)
      obtain ⟨b1, o1', rfl, e1⟩ := encL_one (f := encU) (m := 1) (fun _ => rfl) (g1.fr f7 (by simp)) hd (by omega)
      have r1 : cellAt h7 b1 (o1' + (k : Int).toNat * 1) = some (.int .u64 d) := by have := e1 0 (by omega); simpa [encU] using this
      have stop : ∃ now l, LS h7 (sz h2) (single 0 (latchX gap l)) now ∧ Fr [] h h7 ∧ 5 ≤ now ∧ now < 5 + gap := ⟨now, _, w7, f7, n1, n2⟩
      have hg5 : IntKind.wrap .u64 (5 + gap) = 5 + gap := wrap_u64 (by omega) (by omega)
      refine ⟨fun h8 => h8 = h7 ∧ d < gap ∧ now + d < 5 + gap, ⟨by omega, by omega, _, _, rfl, _, r1, fun _ => stop, fun c1 => ⟨by omega, by omega, _, _, rfl, _, r1, fun _ => stop, fun c2 => ?_⟩⟩, ?_⟩
      · simp only [decide_eq_false_iff_not] at c1 c2
        have hwn : IntKind.wrap .u64 (now + d) = now + d := wrap_u64 (by omega) (by omega)
        rw [hwn, hg5] at c2
        exact ⟨rfl, by omega, by omega⟩
      rintro h8 ⟨rfl, hdg, hnd⟩
      have hwn : IntKind.wrap .u64 (now + d) = now + d := wrap_u64 (by omega) (by omega)
      have hmx : maxI now (now + d) = now + d := by unfold maxI; split <;> omega
      have hwi : IntKind.wrap .i64 ((k : Int) + 1) = ((k + 1 : Nat) : Int) := by rw [wrap_i64 (by omega) (by omega)]; omega
      have ao := single_arriveO (k := 0) (x := latchX gap (decide (0 < k))) (by omega) rfl (now + d)
      have al := single_arriveL (k := 0) (x := latchX gap (decide (0 < k))) (by omega) rfl (now + d)
      rw [show (((0 : Nat) : Int)) = 0 from rfl] at ao al
      have hop : opened (latchX gap (decide (0 < k))) (now + d) = false := by
        have e : IntKind.wrap .u64 (now + d - 5) = now + d - 5 := wrap_u64 (by omega) (by omega)
        simp only [opened, latchX, Bool.not_true, Bool.false_or, e]
        exact decide_eq_false (by omega)
      have har := arrive_spec w7 0 (now + d)
      rw [hmx, ao, al, hop] at har
      have dec : after.length - ((k + 1 : Nat) : Int).toNat < after.length - (k : Int).toNat := by omega
      have hk1 : decide (0 < k + 1) = true := by simp
      refine ⟨by omega, by omega, _, _, rfl, _, r1, fun hk0 => ?_, fun hk0 => ?_⟩
      · have : k = 0 := by simpa using hk0
        subst this
        rw [hwn, hwi]
        refine har.mono ?_
        rintro v h9 ⟨rfl, w9, f9⟩
        refine ⟨_, _, _, _, _, rfl, by simp [latchX], fun _ => ⟨⟨1, rfl, by omega, ?_, f7.later f9 (by simp; omega), by omega, by omega⟩, dec⟩⟩
        simpa [latchX] using w9
      · have hk0' : ¬ (k = 0) := by simpa using hk0
        have hkd : decide (0 < k) = true := by simp; omega
        rw [hkd] at har
        rw [hwn, hwi]
        refine har.mono ?_
        rintro v h9 ⟨rfl, w9, f9⟩
        refine ⟨_, _, _, _, _, rfl, by simp [latchX], fun _ => ⟨⟨k + 1, rfl, by omega, ?_, f7.later f9 (by simp; omega), by omega, by omega⟩, dec⟩⟩
        rw [hk1]
        simpa [latchX] using w9
    · refine ⟨fun hf => absurd hf (by simp; omega), fun _ => ⟨now, _, w7, f7, n1, n2⟩⟩
  rintro h11 ⟨now, l, w11, f11, n1, n2⟩
  refine (get_spec w11 0).mono ?_
  have hg := single_get (k := 0) (by omega) (latchX gap l)
  rw [show (((0 : Nat) : Int)) = 0 from rfl] at hg
  rw [hg]
  rintro v h12 ⟨rfl, f12⟩
  have w12 := w11.fr f12 (by simp)
  refine ⟨_, _, _, _, _, _, _, rfl, ?_⟩
  have e1 : IntKind.wrap .u64 (5 + gap) = 5 + gap := wrap_u64 (by omega) (by omega)
  have e2 : IntKind.wrap .u64 (5 + gap - 1) = gap + 4 := by rw [wrap_u64 (by omega) (by omega)]; omega
  have e3 : IntKind.wrap .u64 (5 + gap + 7) = gap + 12 := by rw [wrap_u64 (by omega) (by omega)]; omega
  have e4 : IntKind.wrap .u64 (5 + IntKind.wrap .u64 (9 * gap)) = 5 + 9 * gap := by rw [wrap_u64 (n := 9 * gap) (by omega) (by omega), wrap_u64 (by omega) (by omega)]
  rw [e1, e2, e3, e4]
  have m1 : maxI now (gap + 4) = gap + 4 := by unfold maxI; split <;> omega
  have m2 : maxI (gap + 4) (gap + 12) = gap + 12 := by unfold maxI; split <;> omega
  have m3 : maxI (gap + 12) (5 + 9 * gap) = 5 + 9 * gap := by unfold maxI; split <;> omega
  refine (due_spec' w12 (gap + 4)).mono ?_
  rw [m1, single_due (by omega), dueX, if_neg (by simp; omega)]
  dsimp only
  rintro v h13 ⟨a1, c1, rfl, _, _, w13, f13'⟩
  refine ⟨_, _, _, rfl, ?_⟩
  refine (due_spec' w13 (gap + 12)).mono ?_
  rw [m2, single_due (by omega), dueX]
  have hq := w12.lt
  have fall : Fr [] h h13 := (f11.trans f12).later f13' (by simp; omega)
  cases l
  · rw [if_neg (by simp [latchX])]
    dsimp only
    rintro v h14 ⟨a2, c2, rfl, _, _, w14, f14⟩
    refine ⟨_, _, _, rfl, ?_⟩
    refine (due_spec' w14 (5 + 9 * gap)).mono ?_
    rw [m3, single_due (by omega), if_neg (by simp [latchX])]
    dsimp only
    rintro v h15 ⟨a3, c3, rfl, _, _, w15, f15⟩
    refine ⟨_, _, _, rfl, ?_⟩
    refine ⟨fun h16 => h16 = h15, ⟨by simp, fun _ => ⟨by simp, fun _ => rfl⟩⟩, ?_⟩
    rintro h16 rfl
    simp [latchX]
    exact yes _ ((fall.later f14 (by simp; omega)).later f15 (by simp; omega))
  · rw [if_pos (by simp [latchX]; omega)]
    dsimp only
    rintro v h14 ⟨a2, c2, rfl, r14, ft14, w14, f14⟩
    refine ⟨_, _, _, rfl, ?_⟩
    refine (due_spec' w14 (5 + 9 * gap)).mono ?_
    rw [m3, single_due (by omega), if_neg (by simp [fire])]
    dsimp only
    rintro v h15 ⟨a3, c3, rfl, _, _, w15, f15⟩
    refine ⟨_, _, _, rfl, ?_⟩
    refine ⟨fun h16 => h16 = h15, ⟨by simp, fun _ => ⟨by simp, fun _ => rfl⟩⟩, ?_⟩
    rintro h16 rfl
    have r15 := r14.fr f15 (fun x hx => by have := ft14 x hx; have := f13'.size; have := fall.size; simp; omega)
    obtain ⟨b, o, rfl, e5⟩ := encL_one Hit.len r15 (i := 0) rfl (by omega)
    have c3' := e5 3 (by omega)
    simp only [Hit.cells, hitOf, List.getElem?_cons_zero, List.getElem?_cons_succ, Nat.zero_mul, Nat.add_zero] at c3'
    simp [-Bool.exists_bool, and_assoc, latchX, c3']
    exact yes _ ((fall.later f14 (by simp; omega)).later f15 (by simp; omega))
end Go.Proofs.Ytppoomofmiggcaa
