import Derived.Test.YtgajaoophcljnaaRg
namespace Go.Proofs.Ytgajaoophcljnaa
open Go Go.Wd
set_option linter.unusedVariables false
set_option linter.unusedSimpArgs false

structure LaterA (h : Hp) (q1 r1 q2 r2 n : Nat) (cs : List CallD) (i : Int) (h3 : Hp) (k : Nat) (L M : List (Int × Int)) : Prop where
  c1 : i = k
  c2 : k ≤ cs.length
  c3 : RowS h3 q1 r1 n L
  c4 : RowS h3 q2 r2 16 M
  c5 : Fr [] h h3
  c6 : Twin L M
  c7 : M.length ≤ k

structure LaterB (h : Hp) (q1 r1 q2 r2 n : Nat) (L M : List (Int × Int)) (al : Option Addr) (a b i : Int) (h3 : Hp) (k : Nat) (s : Int) : Prop where
  c1 : i = k
  c2 : k ≤ M.length
  c3 : k = 0 → s = -1
  c4 : 0 < k → M[k - 1]?.map (·.1) = some s
  c5 : RowS h3 q1 r1 n (restU s L)
  c6 : RowS h3 q2 r2 16 (restU s M)
  c7 : a = D s L
  c8 : b = D s M
  c9 : Fr [] h h3
  c10 : rowAtK h3 al (encR M)

theorem encR_eq : ∀ l, encR l = encL (fun p : Int × Int => [.int .u64 p.1, .int .u64 p.2]) l
  | [] => rfl
  | p :: l => by rw [encL_cons, ← encR_eq l]; rfl

theorem bool_goal {h : Hp} {h' : Hp} {b : Bool} (hb : b = true) (f : Fr [] h h') : Value.bool b = Value.bool true ∧ Fr [] h h' := ⟨by rw [hb], f⟩

theorem later_spec {h : Hp} {a : Option Addr} {c : Nat} {cs : List CallD} (room : Int) (g : Arg h a cs) :
    CallsH Try.prog 3 [.int .i64 room, .slice a cs.length c] h fun v h' => v = .bool true ∧ Fr [] h h' := by
  apply warderlaw16_RefillLater.calls
  unfold warderlaw16_RefillLater.P
  refine (alive_spec h).mono ?_
  rintro v h1 ⟨rfl, f1⟩
  rcases Nat.lt_or_ge 16 cs.length with hlen | hlen
  · have h2 : 16 < (cs.length : Int) := by omega
    have h3 : ¬ ((cs.length : Int) ≤ 16) := by omega
    simp [h2, h3, f1]
  have h2 : ¬ (16 < (cs.length : Int)) := by omega
  have h2' : (cs.length : Int) ≤ 16 := by omega
  by_cases r1 : room < 1
  · have r1' : ¬ (1 ≤ room) := by omega
    simp [h2, h2', r1, r1', f1]
  by_cases r2 : 16 < room
  · have r2' : ¬ (room ≤ 16) := by omega
    simp [h2, h2', r1, r2, r2', f1]
  obtain ⟨n, rfl⟩ : ∃ n : Nat, room = n := ⟨room.toNat, by omega⟩
  have r1' : 1 ≤ (n : Int) := by omega
  have r2' : (n : Int) ≤ 16 := by omega
  simp only [Bool.not_true, Bool.false_eq_true, false_implies, true_implies, decide_eq_true_eq, decide_eq_false_iff_not, gt_iff_lt, h2, r1, r2, not_false_eq_true, true_and]
  refine ⟨true, rfl, by simp, fun _ => ?_⟩
  refine (rnew n (by omega) (by omega)).mono ?_
  rintro v h3 ⟨rfl, w3, f3, s3⟩
  refine ⟨_, _, rfl, ?_⟩
  refine (rnew 16 (by omega) (by omega)).mono ?_
  rintro v h4 ⟨rfl, v4, f4, s4⟩
  have w4 := w3.fr f4 (by simp) (by simp)
  simp [notIf, and_assoc]
  have z1 := f1.size
  refine ⟨fun i h5 => ∃ k L M, LaterA h (sz h1 + 1) (sz h1) (sz h3 + 1) (sz h3) n cs i h5 k L M, ⟨0, [], [], rfl, by omega, w4, v4, (f1.trans f3).trans f4, Twin.nil, by simp⟩, fun i _ => cs.length - i.toNat, ?_⟩
  rintro i h5 ⟨k, L, M, I⟩
  obtain ⟨rfl, hk, w5, v5, f5, tw, hM⟩ := I
  by_cases hkl : k < cs.length
  · -- one call more
    obtain ⟨x, hx⟩ : ∃ x, cs[k]? = some x := ⟨_, List.getElem?_eq_getElem hkl⟩
    have hok := g.ok x (List.mem_of_getElem? hx)
    obtain ⟨b, o, rfl, hc⟩ := encL_one encC_len (g.fr f5).row hx (by omega)
    have hb : b < sz h := g.lt (by intro e; subst e; simp at hkl) b (by simp [foot])
    have hc1 := hc 1 (by omega)
    have hc2 := hc 2 (by omega)
    simp only [encC, List.getElem?_cons_zero, List.getElem?_cons_succ] at hc1 hc2
    have n1 : ¬ ((cs.length : Int) ≤ (k : Int)) := by omega
    have n2 : ¬ (cs.length ≤ k) := by omega
    have hw : IntKind.wrap .i64 ((k : Int) + 1) = (k : Int) + 1 := wrap_i64 (by omega) (by omega)
    simp [and_assoc, hkl, n1, n2, hc1, hc2, hw]
    refine (rpush w5 hok.1 hok.2.2.1).mono ?_
    rintro v h6 ⟨rfl, w6, f6, s6⟩
    have d1 := f6.cell hc1 (by simp; omega)
    have d2 := f6.cell hc2 (by simp; omega)
    have v6 := v5.fr f6 (by simp; omega) (by simp; omega)
    simp [d1, d2]
    refine (rpush v6 hok.1 hok.2.2.1).mono ?_
    rintro v h7 ⟨rfl, v7, f7, s7⟩
    have w7 := w6.fr f7 (by simp; omega) (by simp; omega)
    obtain ⟨he, tw7⟩ := tw.push (n := n) (m' := 16) (t := x.t) (m := x.m) w5.good hok.2.2.1 (by omega)
    simp [he]
    refine ⟨⟨k + 1, pushL n L x.t x.m, pushL 16 M x.t x.m, by omega, by omega, w7, v7, (f5.later f6 (by simp; omega)).later f7 (by simp; omega), tw7, ?_⟩, by omega⟩
    have := length_pushL (n := 16) (L := M) (t := x.t) (m := x.m)
    omega
  · have n1 : (cs.length : Int) ≤ (k : Int) := by omega
    have n2 : cs.length ≤ k := by omega
    simp [hkl, n1, n2]
    refine (list_spec v5.row).mono ?_
    rintro v h6 ⟨al, rfl, fr6, f6⟩
    refine ⟨_, _, ⟨_, rfl⟩, ?_⟩
    have w6 := w5.fr f6 (by simp) (by simp)
    have v6 := v5.fr f6 (by simp) (by simp)
    have hq := w5.row.lt
    have hp := v5.row.lt
    have lowL : ∀ p ∈ L, (-1 : Int) < p.1 := fun p hp => by have := w5.good.each p hp; omega
    have lowM : ∀ p ∈ M, (-1 : Int) < p.1 := fun p hp => by have := v5.good.each p hp; omega
    refine ⟨fun a b i h7 => ∃ k s, LaterB h (sz h1 + 1) (sz h1) (sz h3 + 1) (sz h3) n L M al a b i h7 k s,
      ⟨0, -1, rfl, by omega, fun _ => rfl, fun hh => by omega, by rw [rest_low lowL]; exact w6, by rw [rest_low lowM]; exact v6, (D_none _ _ lowL).symm, (D_none _ _ lowM).symm, f5.trans f6, fr6.row⟩, fun _ _ i _ => M.length - i.toNat, ?_⟩
    rintro a' b' i h7 ⟨j, s, I⟩
    obtain ⟨rfl, hj, s0, s1, w7, v7, rfl, rfl, f7, row7⟩ := I
    have sumL : sumA L ≤ LC := w5.good.sum
    have sumM : sumA M ≤ LC := v5.good.sum
    by_cases hjl : j < M.length
    · obtain ⟨p, hp'⟩ : ∃ p, M[j]? = some p := ⟨_, List.getElem?_eq_getElem hjl⟩
      have row7' := row7
      rw [encR_eq] at row7'
      obtain ⟨b, o, rfl, hc⟩ := encL_one (f := fun p : Int × Int => [.int .u64 p.1, .int .u64 p.2]) (m := 2) (fun _ => rfl) row7' hp' (by omega)
      have hc0 := hc 0 (by omega)
      simp only [List.getElem?_cons_zero, Nat.add_zero] at hc0
      have hb : sz h5 ≤ b := fr6.ge b (by simp [foot])
      have hst : s ≤ p.1 := by
        by_cases h0 : j = 0
        · rw [s0 h0]; have := lowM p (List.mem_of_getElem? hp'); omega
        · have := s1 (by omega)
          obtain ⟨q, hq1, rfl⟩ := Option.map_eq_some_iff.1 this
          have hlt : j - 1 < j := by omega
          have h1 := (List.getElem?_eq_some_iff.1 hq1)
          have h2 := (List.getElem?_eq_some_iff.1 hp')
          obtain ⟨h1a, rfl⟩ := h1
          obtain ⟨h2a, rfl⟩ := h2
          exact List.pairwise_iff_getElem.1 v5.good.sorted _ _ _ _ hlt
      obtain ⟨e1, e2⟩ := rest_rest (s := s) (t := p.1) w5.good.sorted hst
      obtain ⟨e3, e4⟩ := rest_rest (s := s) (t := p.1) v5.good.sorted hst
      have n1 : ¬ (M.length ≤ j) := by omega
      have hDL := D_le_sum p.1 L (pos_of L w5.good)
      have hDM := D_le_sum p.1 M (pos_of M v5.good)
      have hDL0 := D_nonneg p.1 L (pos_of L w5.good)
      have hDM0 := D_nonneg p.1 M (pos_of M v5.good)
      simp only [LC] at sumL sumM
      have hw1 : IntKind.wrap .u64 (D s L + (D p.1 L - D s L)) = D p.1 L := by rw [wrap_u64 (by omega) (by omega)]; omega
      have hw2 : IntKind.wrap .u64 (D s M + (D p.1 M - D s M)) = D p.1 M := by rw [wrap_u64 (by omega) (by omega)]; omega
      have hw3 : IntKind.wrap .i64 ((j : Int) + 1) = (j : Int) + 1 := by
        have := v5.row.lt
        exact wrap_i64 (by omega) (by omega)
      simp [and_assoc, hjl, n1, hc0]
      refine (rtake w7 p.1).mono ?_
      rintro v h8 ⟨rfl, w8, f8, s8⟩
      have d0 := f8.cell hc0 (by simp; omega)
      have v8 := v7.fr f8 (by simp; omega) (by simp; omega)
      rw [e1] at w8
      simp [and_assoc, e2, hw1, d0, hjl]
      refine (rtake v8 p.1).mono ?_
      rintro v h9 ⟨rfl, v9, f9, s9⟩
      have w9 := w8.fr f9 (by simp; omega) (by simp; omega)
      rw [e3] at v9
      have hle := tw.le p.1
      have n3 : ¬ (D p.1 M < D p.1 L) := by omega
      simp [and_assoc, e4, hw2, hw3, n3, hle]
      refine ⟨⟨j + 1, p.1, by omega, by omega, fun hh => by omega, fun _ => by simp [hp'], w9, v9, rfl, rfl, (f7.later f8 (by simp; omega)).later f9 (by simp; omega), ?_⟩, by omega⟩
      refine (row7.fr f8 ?_).fr f9 ?_
      · simp [foot]; omega
      · simp [foot]; omega
    · have hj' : j = M.length := by omega
      subst hj'
      -- all has come back
      have hend : D s L = D s M ∧ restU s L = [] := by
        rcases nil_or_snoc M with rfl | ⟨M', p, rfl⟩
        · have hl := tw.last
          have : L = [] := by
            rcases nil_or_snoc L with rfl | ⟨L', q, rfl⟩
            · rfl
            · simp at hl
          subst this
          exact ⟨rfl, rfl⟩
        · have hs := s1 (by simp)
          simp at hs
          subst hs
          have hl : L.getLast?.map (·.1) = some p.1 := tw.last.trans (by simp)
          have h1 := last_le w5.good.sorted hl
          have h2 := last_le v5.good.sorted (s := p.1) (by simp)
          exact ⟨by rw [D_all _ _ h1, D_all _ _ h2, tw.sum], (rest_high h1).1⟩
      obtain ⟨e1, e2⟩ := hend
      rw [e2] at w7
      simp [e1]
      refine (list_spec w7.row).mono ?_
      rintro v h8 ⟨al2, rfl, _, f8⟩
      simp
      refine (list_spec (w7.fr f8 (by simp) (by simp)).row).mono ?_
      rintro v h9 ⟨al3, rfl, _, f9⟩
      simp [and_assoc]
      exact (f7.trans f8).trans f9
end Go.Proofs.Ytgajaoophcljnaa
