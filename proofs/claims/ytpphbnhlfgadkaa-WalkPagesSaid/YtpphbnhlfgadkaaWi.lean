import Derived.Test.YtpphbnhlfgadkaaWh
namespace Go.Proofs.Ytpphbnhlfgadkaa
open Go Go.Wd
set_option linter.unusedVariables false
set_option linter.unusedSimpArgs false

set_option maxHeartbeats 1000000 in
theorem pages_law {h : Hp} (n root : Int) {a : Option Addr} {c : Nat} {L : List Pt} (g : rowAtK h a (encL Pt.cells L)) (hok : ∀ x ∈ L, x.ok) :
    CallsH Try.prog 3 [.int .i64 n, .slice a L.length c, .int .i64 root] h fun v h' => v = .bool true ∧ Fr [] h h' := by
  refine calls_k fun R hR => ?_
  apply warderlaw07_WalkPages.calls
  unfold warderlaw07_WalkPages.P
  refine (alive_spec h).mono ?_
  rintro v h1 ⟨rfl, f1⟩
  have yes := fun h' (f : Fr [] h h') => hR (.bool true) h' ⟨rfl, f⟩
  refine ⟨_, rfl, fun hc => absurd hc (by simp), fun _ => ?_⟩
  refine (great_spec n a L.length c).mono ?_
  rintro v h2 ⟨rfl, rfl⟩
  refine ⟨_, rfl, fun _ => yes _ f1, fun hg => ?_⟩
  obtain ⟨m, rfl, hm1, hm2, hL⟩ := great_no hg
  refine (Both_spec hm1 (by omega) (g.fr f1 (by simp)) hok (by omega)).mono ?_
  rintro v h3 ⟨q, fb, q2, rb, rfl, w3, -, -, f3⟩
  refine ⟨_, _, rfl, fun hc => absurd hc (by simp [notIf]), fun _ => ?_⟩
  generalize putsB m L = B at w3
  have fr3 := f1.trans f3
  rintro h4 rfl
  have f4 : Fr [] h3 (new h3 (blk 3 [])) := Fr.new _ _ _
  have k4 := new_at h3 (blk 3 [])
  have w4 := w3.fr f4 (by simp) (by simp)
  have fr4 := fr3.trans f4
  have hs3 := fr3.size
  generalize new h3 (blk 3 []) = h4 at *
  obtain ⟨N, hN⟩ : ∃ N : Nat, N = 4096 := ⟨_, rfl⟩
  generalize hP : pageP m B root = P
  refine ⟨fun oa ol oc i h5 => ∃ k : Nat, i = k ∧ k ≤ N ∧ ol = (pagesL P k).length ∧ Own h5 3 1 oa ol oc (encL iN (pagesL P k)) ∧ (∀ y ∈ foot oa, sz h3 ≤ y) ∧ MS h5 q fb m B ∧ Fr [] h h5 ∧ sz h3 ≤ sz h5, fun _ _ _ i _ => N - i.toNat,
    ⟨0, rfl, by omega, rfl, ⟨rfl, .inr ⟨_, [], rfl, k4, rfl, by omega⟩⟩, by simp [foot], w4, fr4, f4.size⟩, ?_⟩
  rintro oa ol oc i h5 ⟨k, rfl, hk, rfl, o5, fo, w5, f5, hs5⟩
  have lq := w3.lt
  have lf := w3.ltf
  by_cases hk4 : k < N
  · have hk4' : k < 4096 := by omega
    refine ⟨fun _ => ⟨by decide, ?_⟩, fun hf => absurd hf (by simp; omega)⟩
    have ea : shlV .u32 (IntKind.wrap .u32 (k : Int)) 8 = ((k * 256 : Nat) : Int) := by
      rw [wrapn_u32 k (by omega), show (8 : Int) = ((8 : Nat) : Int) from rfl, shl32 (by decide)]
      rw [Nat.mod_eq_of_lt (by omega)]
    rw [ea]
    refine (Walk_spec w5 root (a := k * 256) (by omega) 0).mono ?_
    have hpw := page_walk (n := m) (B := B) (root := root) hk4'
    rw [hP] at hpw
    generalize walkOf m B root (k * 256) 0 = W at *
    rintro v h6 ⟨rfl, f6⟩
    refine ⟨_, _, _, _, _, _, rfl, ?_⟩
    have fr6 := f5.trans f6
    have o6 := o5.fr f6 (by simp)
    have w6 := w5.fr f6 (by simp) (by simp)
    have hn := pages_next P k
    have hl := pages_len P k
    rw [wrapN hk4 (by omega)]
    refine ⟨fun c => ?_, fun c => ?_⟩
    · have c : P k = true := by rw [hpw]; simpa using c
      rw [if_pos c] at hn
      intro h7 h7e
      have fo' : ∀ y ∈ foot oa, y ∈ ([] : List Nat) ∨ sz h ≤ y := fun y hy => .inr (by have := fo y hy; omega)
      refine append_new (h0 := h) (F := []) o6 rfl fr6 fo' rfl rfl h7e (by omega) (by omega) ?_
      intro a' c' h8 o8 f8 g8 l8 t8
      have hge : ∀ y ∈ foot a', sz h3 ≤ y := by
        intro y hy
        rcases t8 with rfl | t8
        · exact fo y hy
        · have := t8 y hy; have := f6.size; omega
      refine ⟨⟨k + 1, rfl, by omega, by rw [hn]; simp, ?_, hge, w6.fr l8 (fun hq => by have := fo _ hq; omega) (fun hq => by have := fo _ hq; omega), f8, by have := l8.size; have := f6.size; omega⟩, decM hk4⟩
      rw [hn, encL_append]
      exact o8
    · have c : P k = false := by rw [hpw]; simpa using c
      rw [c, if_neg (by simp), List.append_nil] at hn
      exact ⟨⟨k + 1, rfl, by omega, by rw [hn], by rw [hn]; exact o6, fo, w6, fr6, by have := f6.size; omega⟩, decM hk4⟩
  · have : k = N := by omega
    subst this
    refine ⟨fun hf => absurd hf (by simp; omega), fun _ => ?_⟩
    refine (Pages_spec w5 root).mono ?_
    rw [hP, ← hN]
    rintro v h9 ⟨a9, c9, rfl, r9, -, f9⟩
    refine ⟨_, _, _, rfl, ?_⟩
    have hl := pages_len P k
    refine (SameN_spec r9 (o5.fr f9 (by simp)).row (by omega)).mono ?_
    rintro v h10 ⟨rfl, rfl⟩
    exact ⟨_, rfl, by rw [decide_eq_true rfl]; exact yes _ (f5.trans f9)⟩

theorem keep_addr {a o : Nat} (ha : a < 4294967296) (ho : o < 256) : borV .u32 (bnotV .u32 (a : Int) 255) (IntKind.wrap .u32 (o : Int)) = ((a / 256 * 256 + o : Nat) : Int) := by
  rw [show (255 : Int) = ((255 : Nat) : Int) from rfl, bnot32 ha (by decide), wrapn_u32 o (by omega)]
  have h1 : a &&& (2 ^ 32 - 1 - 255) = a / 256 * 256 := by
    rw [show 2 ^ 32 - 1 - 255 = 2 ^ 8 * (2 ^ 24 - 1) + 0 from rfl, and_split (by decide), and_ones, Nat.and_zero]
    omega
  rw [h1, bor32 (by omega) (by omega), show (256 : Nat) = 2 ^ 8 from rfl, or_apart ho]

set_option maxHeartbeats 1000000 in
theorem rights_law {h : Hp} (n root : Int) {a : Option Addr} {c : Nat} {L : List Pt} (g : rowAtK h a (encL Pt.cells L)) (hok : ∀ x ∈ L, x.ok) {addr off : Nat} (ha : addr < 4294967296) (ho : off < 256) :
    CallsH Try.prog 4 [.int .i64 n, .slice a L.length c, .int .i64 root, .int .u32 addr, .int .u8 off] h fun v h' => v = .bool true ∧ Fr [] h h' := by
  refine calls_k fun R hR => ?_
  apply warderlaw07_WalkRights.calls
  unfold warderlaw07_WalkRights.P
  refine (alive_spec h).mono ?_
  rintro v h1 ⟨rfl, f1⟩
  have yes := fun h' (f : Fr [] h h') => hR (.bool true) h' ⟨rfl, f⟩
  refine ⟨_, rfl, fun hc => absurd hc (by simp), fun _ => ?_⟩
  refine (great_spec n a L.length c).mono ?_
  rintro v h2 ⟨rfl, rfl⟩
  refine ⟨_, rfl, fun _ => yes _ f1, fun hg => ?_⟩
  obtain ⟨m, rfl, hm1, hm2, hL⟩ := great_no hg
  refine (Both_spec hm1 (by omega) (g.fr f1 (by simp)) hok (by omega)).mono ?_
  rintro v h3 ⟨q, fb, q2, rb, rfl, w3, -, -, f3⟩
  refine ⟨_, _, rfl, fun hc => absurd hc (by simp [notIf]), fun _ => ?_⟩
  generalize putsB m L = B at w3
  have fr3 := f1.trans f3
  rw [keep_addr ha ho]
  have hS := walk_same m B root (a := addr / 256 * 256 + off) (b := addr) (by omega) 0
  have hA := walk_F m B root addr 0
  have hW := walk_F m B root addr 1
  have hX := walk_F m B root addr 2
  have q1 := walkF_reads m (foundOf m B root addr) 0
  have q2 := walkF_reads m (foundOf m B root addr) 1
  have q3 := walkF_reads m (foundOf m B root addr) 2
  have q4 := @walkF_bad m (foundOf m B root addr) 0
  have q5 := @walkF_faults m (foundOf m B root addr)
  have q6 := @walkF_good m (foundOf m B root addr)
  rw [← hA] at q1 q4 q5 q6
  rw [← hW] at q2 q5 q6
  rw [← hX] at q3 q6
  clear hA hW hX
  generalize foundOf m B root addr = F at *
  refine (Walk_spec w3 root (a := addr) ha 0).mono ?_
  rintro v h4 ⟨rfl, f4⟩
  refine ⟨_, _, _, _, _, _, rfl, ?_⟩
  intro h5 e5
  refine ⟨truly_rfl, _, _, by rw [e5]; exact new_at _ _, by simp, ?_⟩
  intro h6 e6
  obtain ⟨k6, f6, s6⟩ := hit_keep (x := walkOf m B root addr 0) e5 e6 rfl
  clear e5 e6
  have w6 := (w3.fr f4 (by simp) (by simp)).fr f6 (by simp) (by simp)
  refine (Walk_spec w6 root (a := addr) ha 1).mono ?_
  rintro v h7 ⟨rfl, f7⟩
  refine ⟨_, _, _, _, _, _, rfl, ?_⟩
  intro h8 e8
  refine ⟨truly_rfl, _, _, by rw [e8]; exact new_at _ _, by simp, ?_⟩
  intro h9 e9
  obtain ⟨k9, f9, s9⟩ := hit_keep (x := walkOf m B root addr 1) e8 e9 rfl
  clear e8 e9
  have w9 := (w6.fr f7 (by simp) (by simp)).fr f9 (by simp) (by simp)
  refine (Walk_spec w9 root (a := addr) ha 2).mono ?_
  rintro v h10 ⟨rfl, f10⟩
  refine ⟨_, _, _, _, _, _, rfl, ?_⟩
  intro h11 e11
  refine ⟨truly_rfl, _, _, by rw [e11]; exact new_at _ _, by simp, ?_⟩
  intro h12 e12
  obtain ⟨k12, f12, s12⟩ := hit_keep (x := walkOf m B root addr 2) e11 e12 rfl
  clear e11 e12
  have w12 := (w9.fr f10 (by simp) (by simp)).fr f12 (by simp) (by simp)
  refine (Walk_spec w12 root (a := addr / 256 * 256 + off) (by omega) 0).mono ?_
  rw [hS]
  generalize walkOf m B root addr 0 = A at *
  generalize walkOf m B root addr 1 = W at *
  generalize walkOf m B root addr 2 = X at *
  rintro v h13 ⟨rfl, f13⟩
  refine ⟨_, _, _, _, _, _, rfl, ?_⟩
  intro h14 e14
  refine ⟨truly_rfl, _, _, by rw [e14]; exact new_at _ _, by simp, ?_⟩
  intro h15 e15
  obtain ⟨k15, f15, s15⟩ := hit_keep (x := A) e14 e15 rfl
  clear e14 e15
  have t1 := f13.trans f15
  have t2 := (f10.trans f12).trans t1
  have t3 := (f7.trans f9).trans t2
  have kA := t3.at k6 (by simp)
  have kW := t2.at k9 (by simp)
  have kX := t1.at k12 (by simp)
  have fr15 := ((fr3.trans f4).trans f6).trans t3
  refine ⟨fun h16 => h16 = h15, ?_, ?_⟩
  · refine Hit.rd (o := 0) A (fun j hj => by rw [Nat.zero_add]; exact cellAt_of kA j) ?_
    refine Hit.rd (o := 0) A (fun j hj => by rw [Nat.zero_add]; exact cellAt_of k15 j) ?_
    refine ⟨fun hc => absurd hc (by simp [notIf]), fun _ => ?_⟩
    refine ⟨W.reads, (cellAt_of kW 1).trans rfl, A.reads, (cellAt_of kA 1).trans rfl, fun hc => absurd hc (by simp [q1, q2]), fun _ => ?_⟩
    exact ⟨X.reads, (cellAt_of kX 1).trans rfl, A.reads, (cellAt_of kA 1).trans rfl, fun hc => absurd hc (by simp [q1, q3]), fun _ => rfl⟩
  rintro h16 rfl
  have y := yes h16 fr15
  refine ⟨A.fault, (cellAt_of kA 0).trans rfl, fun c1 => ?_, fun c1 => ?_⟩
  · have c1 : A.fault ≠ 0 := by simpa using c1
    obtain ⟨p1, p2, p3, p4⟩ := q4 c1
    refine ⟨A.frame, (cellAt_of kA 2).trans rfl, fun _ => ?_, fun hc => absurd hc (by simp [p1])⟩
    refine ⟨A.write, (cellAt_of kA 3).trans rfl, fun _ => ?_, fun hc => absurd hc (by simp [p2])⟩
    refine ⟨A.exec, (cellAt_of kA 4).trans rfl, fun _ => ?_, fun hc => absurd hc (by simp [p3])⟩
    refine ⟨A.block, (cellAt_of kA 5).trans rfl, fun _ => ?_, fun hc => absurd hc (by simp [p4])⟩
    refine ⟨W.fault, (cellAt_of kW 0).trans rfl, A.fault, (cellAt_of kA 0).trans rfl, fun _ => y, fun c2 => ?_⟩
    have c2 : W.fault ≠ A.fault := by simpa using c2
    obtain ⟨z1, z2⟩ := (q5 c1).resolve_left c2
    refine ⟨W.fault, (cellAt_of kW 0).trans rfl, fun _ => ⟨A.fault, (cellAt_of kA 0).trans rfl, by rw [z2]; exact y⟩, fun hc => absurd hc (by simp [z1])⟩
  · have c1 : A.fault = 0 := by simpa using c1
    obtain ⟨p1, p2, p3⟩ := q6 c1
    refine ⟨W.fault, (cellAt_of kW 0).trans rfl, A.write, (cellAt_of kA 3).trans rfl, fun _ => ?_, fun hc => absurd hc (by rw [p1]; cases A.write <;> decide)⟩
    refine ⟨X.fault, (cellAt_of kX 0).trans rfl, A.exec, (cellAt_of kA 4).trans rfl, fun _ => ?_, fun hc => absurd hc (by rw [p2]; cases A.exec <;> decide)⟩
    have yy : R (.bool (decide (A.frame < (m : Int)))) h16 := by rw [decide_eq_true p3]; exact y
    refine ⟨W.fault, (cellAt_of kW 0).trans rfl, fun _ => ⟨A.frame, (cellAt_of kA 2).trans rfl, yy⟩, fun c3 => ?_⟩
    have c3 : ¬ W.fault = 0 := by simpa using c3
    refine ⟨W.fault, (cellAt_of kW 0).trans rfl, fun _ => ⟨A.frame, (cellAt_of kA 2).trans rfl, yy⟩, fun hc => absurd hc ?_⟩
    have : W.fault = 4 := by
      rw [p1] at c3 ⊢
      cases h : A.write
      · rfl
      · rw [h] at c3; exact absurd rfl c3
    simp [this]
end Go.Proofs.Ytpphbnhlfgadkaa
