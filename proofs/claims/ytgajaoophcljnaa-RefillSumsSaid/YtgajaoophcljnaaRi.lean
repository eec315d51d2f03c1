import Derived.Test.YtgajaoophcljnaaRh
namespace Go.Proofs.Ytgajaoophcljnaa
open Go Go.Wd
set_option linter.unusedVariables false
set_option linter.unusedSimpArgs false

def u64s (l : List Int) : List Value := l.map (Value.int .u64)
theorem u64s_one (l : List Int) : u64s l = encL (fun n => [Value.int .u64 n]) l := by
  induction l with
  | nil => rfl
  | cons a l ih => rw [encL_cons, ← ih]; rfl
theorem u64s_len (l : List Int) : (u64s l).length = l.length * 1 := by simp [u64s]

/-- An argument: numbers that lie in h. -/
structure ArgU (h : Hp) (a : Option Addr) (l : List Int) : Prop where
  row : rowAtK h a (u64s l)
  ok : ∀ x ∈ l, 0 ≤ x ∧ x < 18446744073709551616
theorem ArgU.fr {h h' : Hp} {a : Option Addr} {l : List Int} (g : ArgU h a l) (f : Fr [] h h') : ArgU h' a l := ⟨g.row.fr f (by simp), g.ok⟩

structure SumsA (h : Hp) (B q r n : Nat) (cs : List CallD) (ta : Option Addr) (tl tc : Nat) (aa : Option Addr) (al ac : Nat) (sum i : Int) (h5 : Hp) (k : Nat) (L ps : List (Int × Int)) : Prop where
  c1 : i = k
  c2 : k ≤ cs.length
  c3 : RowS h5 q r n L
  c4 : Fr [] h h5
  c5 : Own h5 29 1 ta tl tc (u64s (ps.map (·.1)))
  c6 : Own h5 29 1 aa al ac (u64s (ps.map (·.2)))
  c7 : ∀ x ∈ foot ta, B ≤ x
  c8 : ∀ x ∈ foot aa, B ≤ x
  c9 : ∀ x ∈ foot ta, ∀ y ∈ foot aa, x ≠ y
  c10 : tl = ps.length
  c11 : al = ps.length
  c12 : ps.length ≤ k
  c13 : sum = sumA L
  c14 : sumA ps = sumA L
  c15 : ∀ p ∈ ps, 0 ≤ p.2
  c16 : ∀ s, D s L ≤ D s ps
  c17 : B ≤ sz h5

structure SumsB (h : Hp) (q r n : Nat) (L : List (Int × Int)) (ks : List Int) (h5 : Hp) (F : List Nat) (taken latest i : Int) (h6 : Hp) (k : Nat) (A B : List (Int × Int)) : Prop where
  c1 : i = k
  c2 : k ≤ ks.length
  c3 : L = A ++ B
  c4 : RowS h6 q r n B
  c5 : taken = sumA A
  c6 : ∀ p ∈ A, p.1 ≤ latest
  c7 : Fr F h5 h6
  c8 : 0 ≤ latest

structure SumsC (ps : List (Int × Int)) (s due i : Int) (h6 h7 : Hp) (k : Nat) : Prop where
  c1 : i = k
  c2 : k ≤ ps.length
  c3 : due = D s (ps.take k)
  c4 : h7 = h6

set_option maxHeartbeats 8000000 in
theorem sums_spec {h : Hp} {a : Option Addr} {c : Nat} {cs : List CallD} {a2 : Option Addr} {c2 : Nat} {ks : List Int} (room : Int) (g : Arg h a cs) (g2 : ArgU h a2 ks) :
    CallsH Try.prog 4 [.int .i64 room, .slice a cs.length c, .slice a2 ks.length c2] h fun v h' => v = .bool true ∧ Fr [] h h' := by
  apply warderlaw16_RefillSums.calls
  unfold warderlaw16_RefillSums.P
  refine (alive_spec h).mono ?_
  rintro v h1 ⟨rfl, f1⟩
  rcases Nat.lt_or_ge 60 cs.length with hlen | hlen
  · have h2 : 60 < (cs.length : Int) := by omega
    have h3 : ¬ ((cs.length : Int) ≤ 60) := by omega
    simp [h2, h3, f1]
  have h2 : ¬ (60 < (cs.length : Int)) := by omega
  have h2' : (cs.length : Int) ≤ 60 := by omega
  rcases Nat.lt_or_ge 60 ks.length with klen | klen
  · have h3 : 60 < (ks.length : Int) := by omega
    have h4 : ¬ ((ks.length : Int) ≤ 60) := by omega
    simp [h2, h2', h3, h4, f1]
  have h3 : ¬ (60 < (ks.length : Int)) := by omega
  have h3' : (ks.length : Int) ≤ 60 := by omega
  by_cases r1 : room < 1
  · have r1' : ¬ (1 ≤ room) := by omega
    simp [h2, h2', h3, h3', r1, r1', f1]
  by_cases r2 : 16 < room
  · have r2' : ¬ (room ≤ 16) := by omega
    simp [h2, h2', h3, h3', r1, r2, r2', f1]
  obtain ⟨n, rfl⟩ : ∃ n : Nat, room = n := ⟨room.toNat, by omega⟩
  simp only [Bool.not_true, Bool.false_eq_true, false_implies, true_implies, decide_eq_true_eq, decide_eq_false_iff_not, gt_iff_lt, h2, h3, r1, r2, not_false_eq_true, true_and]
  refine ⟨true, rfl, by simp, fun _ => ?_⟩
  refine (rnew n (by omega) (by omega)).mono ?_
  rintro v h3 ⟨rfl, w3, f3, s3⟩
  have z1 := f1.size
  have w4 := w3.fr (Fr.new [] h3 (blk 29 [])) (by simp) (by simp)
  have w5 := w4.fr (Fr.new [] _ (blk 29 [])) (by simp) (by simp)
  have f5 : Fr [] h (new (new h3 (blk 29 [])) (blk 29 [])) := ((f1.trans f3).trans (Fr.new [] h3 (blk 29 []))).trans (Fr.new [] _ (blk 29 []))
  simp [notIf, and_assoc]
  refine ⟨fun ta tl tc aa al ac sum i h5 => ∃ k L ps, SumsA h (sz h3) (sz h1 + 1) (sz h1) n cs ta tl tc aa al ac sum i h5 k L ps, ⟨0, [], [], ?_⟩, fun _ _ _ _ _ _ _ i _ => cs.length - i.toNat, ?_⟩
  · refine ⟨rfl, by omega, w5, f5, ⟨rfl, .inr ⟨sz h3, [], rfl, ?_, rfl, by omega⟩⟩, ⟨rfl, .inr ⟨sz (new h3 (blk 29 [])), [], rfl, ?_, rfl, by omega⟩⟩, by simp [foot], by simp [foot, sz_new], by simp [foot, sz_new], rfl, rfl, by simp, rfl, rfl, by simp, by simp [D], by simp only [sz_new]; omega⟩
    · exact new_of _ (new_at _ _)
    · exact new_at _ _
  rintro ta tl tc aa al ac sum i h5 ⟨k, L, ps, I⟩
  obtain ⟨rfl, hk, w5, f5, o1, o2, b1, b2, dj, rfl, rfl, hps, rfl, hsum, hpos, hdom, hB⟩ := I
  have hq := w5.row.lt
  have sumL : sumA L ≤ LC := w5.good.sum
  have sumL0 := w5.good.nonneg
  by_cases hkl : k < cs.length
  · obtain ⟨x, hx⟩ : ∃ x, cs[k]? = some x := ⟨_, List.getElem?_eq_getElem hkl⟩
    have hok := g.ok x (List.mem_of_getElem? hx)
    obtain ⟨b, o, rfl, hc⟩ := encL_one encC_len (g.fr f5).row hx (by omega)
    have hb : b < sz h := g.lt (by intro e; subst e; simp at hkl) b (by simp [foot])
    have hc1 := hc 1 (by omega)
    have hc2 := hc 2 (by omega)
    simp only [encC, List.getElem?_cons_zero, List.getElem?_cons_succ] at hc1 hc2
    have n1 : ¬ ((cs.length : Int) ≤ (k : Int)) := by omega
    have n2 : ¬ (cs.length ≤ k) := by omega
    have hw : IntKind.wrap .i64 ((k : Int) + 1) = (k : Int) + 1 := wrap_i64 (by omega) (by omega)
    simp [and_assoc, hkl, n1, n2, hc1, hc2, hw]
    refine (rpush w5 hok.1 hok.2.2.1).mono ?_
    rintro v h6 ⟨rfl, w6, f6, s6⟩
    have d1 := f6.cell hc1 (by simp; omega)
    have d2 := f6.cell hc2 (by simp; omega)
    have f56 := f5.later f6 (by simp; omega)
    have o16 := o1.fr f6 (fun y hy => by have := b1 y hy; simp; omega)
    have o26 := o2.fr f6 (fun y hy => by have := b2 y hy; simp; omega)
    by_cases he : pushE L x.t x.m = 0
    · obtain ⟨e1, e2, e3, e4, e5⟩ := pushE_zero hok.2.2.1 he
      have hsp := sumA_pushed n L x.t x.m
      simp [and_assoc, he, hkl, n1, n2, d1]
      refine append_new (h0 := h) (F := []) o16 rfl f56 (fun y hy => .inr (by have := b1 y hy; omega)) rfl rfl rfl (by omega) (by omega) ?_
      intro ta' tc' h8 o8 f8 g8 l8 t8
      have d3 := f8.cell (F := []) (h := h) (b := b) (o := o + k * 3 + 2) (v := .int .u64 x.m) (by
        have h0 := g.fr f8
        obtain ⟨b', o', hbo, hc'⟩ := encL_one encC_len g.row hx (by omega)
        cases hbo
        have := hc' 2 (by omega)
        simpa [encC] using this) (by simp)
      have o28 := o26.fr l8 (fun y hy hh => dj y hh y hy rfl)
      have w8 := w6.fr l8 (fun hh => by have := b1 _ hh; omega) (fun hh => by have := b1 _ hh; omega)
      have gb1 : ∀ y ∈ foot ta', sz h3 ≤ y := by
        intro y hy
        rcases t8 with rfl | t8
        · exact b1 y hy
        · have := t8 y hy; omega
      have dj8 : ∀ y ∈ foot ta', ∀ z ∈ foot aa, y ≠ z := by
        intro y hy z hz
        rcases t8 with rfl | t8
        · exact dj y hy z hz
        · have := t8 y hy
          have := o2.foot_lt z hz
          omega
      simp [and_assoc, hkl, n1, n2, d3]
      refine append_new (h0 := h) (F := []) o28 rfl f8 (fun y hy => .inr (by have := b2 y hy; omega)) rfl rfl rfl (by omega) (by omega) ?_
      intro aa' ac' h10 o10 f10 g10 l10 t10
      have d4 : cellAt h10 b (o + k * 3 + 2) = some (.int .u64 x.m) := l10.cell d3 (fun hh => by have := b2 _ hh; omega)
      have o1_10 := o8.fr l10 (fun y hy hh => dj8 y hy y hh rfl)
      have w10 := w8.fr l10 (fun hh => by have := b2 _ hh; omega) (fun hh => by have := b2 _ hh; omega)
      simp only [LC] at e5 sumL
      have hw2 : IntKind.wrap .u64 (sumA L + x.m) = sumA L + x.m := wrap_u64 (by omega) (by omega)
      simp [and_assoc, hkl, n1, n2, d4, hw2]
      refine ⟨⟨k + 1, pushL n L x.t x.m, ps ++ [(x.t, x.m)], by omega, by omega, w10, f10, ?_, ?_, gb1, ?_, ?_, by simp, by simp, by simp; omega, ?_, ?_, ?_, ?_, ?_⟩, by omega⟩
      · simpa [u64s] using o1_10
      · simpa [u64s] using o10
      · intro y hy
        rcases t10 with rfl | t10
        · exact b2 y hy
        · have := t10 y hy; have := l8.size; omega
      · intro y hy z hz
        rcases t10 with rfl | t10
        · exact dj8 y hy z hz
        · have h1 := t10 z hz
          have h2 := o8.foot_lt y hy
          omega
      · simp [pushL, he, hsp]
      · simp [pushL, he, hsp, sumA_append, hsum, sumA]
      · intro p hp
        rcases List.mem_append.1 hp with hp | hp
        · exact hpos p hp
        · simp at hp; subst hp; exact hok.2.2.1
      · intro s
        have h1 := D_pushed (n := n) w5.good hok.2.2.1 he s
        have h2 := hdom s
        simp [pushL, he, D_append, D]
        omega
      · have := l8.size; have := l10.size; omega
    · simp [he]
      refine ⟨⟨k + 1, L, ps, by omega, by omega, by simpa [pushL, he] using w6, f56, o16, o26, b1, b2, dj, rfl, rfl, by omega, rfl, hsum, hpos, hdom, by omega⟩, by omega⟩
  · have n1 : (cs.length : Int) ≤ (k : Int) := by omega
    have n2 : cs.length ≤ k := by omega
    simp [hkl, n1, n2]
    -- the looks
    refine ⟨fun taken latest i h6 => ∃ k A B, SumsB h (sz h1 + 1) (sz h1) n L ks h5 [sz h1 + 1, sz h1] taken latest i h6 k A B, ⟨0, [], L, rfl, by omega, rfl, w5, rfl, by simp, Fr.refl _ _, by omega⟩, fun _ _ i _ => ks.length - i.toNat, ?_⟩
    rintro taken latest i h6 ⟨j, A, B, I⟩
    obtain ⟨rfl, hj, hL, w6, rfl, hA, f6, hl0⟩ := I
    subst hL
    have posA : ∀ p ∈ A, 0 ≤ p.2 := fun p hp => by have := w5.good.each p (by simp [hp]); omega
    have posB : ∀ p ∈ B, 0 ≤ p.2 := fun p hp => by have := w5.good.each p (by simp [hp]); omega
    have sA0 := sumA_nonneg A posA
    have sB0 := sumA_nonneg B posB
    rw [sumA_append] at sumL sumL0 hsum
    simp only [LC] at sumL
    have f06 : Fr [] h h6 := f5.later f6 (by simp; omega)
    by_cases hjl : j < ks.length
    · obtain ⟨x, hx⟩ : ∃ x, ks[j]? = some x := ⟨_, List.getElem?_eq_getElem hjl⟩
      have hok := g2.ok x (List.mem_of_getElem? hx)
      have hrow := (g2.fr f06).row
      rw [u64s_one] at hrow
      obtain ⟨b, o, rfl, hc⟩ := encL_one (f := fun n => [Value.int .u64 n]) (m := 1) (fun _ => rfl) hrow hx (by omega)
      have hc0 := hc 0 (by omega)
      simp only [List.getElem?_cons_zero, Nat.add_zero, Nat.mul_one] at hc0
      have n3 : ¬ (ks.length ≤ j) := by omega
      simp [and_assoc, hjl, n3, hc0]
      refine (rtake w6 x).mono ?_
      rintro v h7 ⟨rfl, w7, f7, s7⟩
      have hs := split_due x B
      have hsu := restU_spec (s := x) w6.good.sorted
      have hdue : dueA x B = sumA (sumU x B) := rfl
      have sumB : sumA B = sumA (sumU x B) + sumA (restU x B) := by rw [← sumA_append, hs]
      have posU : ∀ p ∈ sumU x B, 0 ≤ p.2 := fun p hp => posB p (by rw [← hs]; simp [hp])
      have posR : ∀ p ∈ restU x B, 0 ≤ p.2 := fun p hp => posB p (by rw [← hs]; simp [hp])
      have sU0 := sumA_nonneg _ posU
      have sR0 := sumA_nonneg _ posR
      have hw1 : IntKind.wrap .u64 (sumA A + sumA (sumU x B)) = sumA A + sumA (sumU x B) := wrap_u64 (by omega) (by omega)
      simp [hdue, hw1]
      -- what is due
      refine ⟨fun due i h8 => ∃ k, SumsC ps (maxI latest x) due i h7 h8 k, ⟨0, rfl, by omega, rfl, rfl⟩, fun _ i _ => ps.length - i.toNat, ?_⟩
      rintro due i h8 ⟨m, I⟩
      obtain ⟨rfl, hm, rfl, rfl⟩ := I
      have f07 : Fr [sz h1 + 1, sz h1] h5 h8 := f6.trans f7
      have o17 := o1.fr f07 (fun y hy => by have := b1 y hy; simp; omega)
      have o27 := o2.fr f07 (fun y hy => by have := b2 y hy; simp; omega)
      by_cases hml : m < ps.length
      · obtain ⟨p, hp⟩ : ∃ p, ps[m]? = some p := ⟨_, List.getElem?_eq_getElem hml⟩
        obtain ⟨tb, e1, c1⟩ := o17.cell (i := m) (by simp [u64s]; omega)
        obtain ⟨ab, e2, c2⟩ := o27.cell (i := m) (by simp [u64s]; omega)
        subst e1 e2
        have c1' : cellAt h8 tb m = some (.int .u64 p.1) := by rw [c1]; simp [u64s, hp]
        have c2' : cellAt h8 ab m = some (.int .u64 p.2) := by rw [c2]; simp [u64s, hp]
        have n4 : ¬ (ps.length ≤ m) := by omega
        have hw4 : IntKind.wrap .i64 ((m : Int) + 1) = (m : Int) + 1 := wrap_i64 (by omega) (by omega)
        have htake : ps.take (m + 1) = ps.take m ++ [p] := by rw [List.take_add_one, hp]; rfl
        have hpp := hpos p (List.mem_of_getElem? hp)
        have hD0 := D_nonneg (maxI latest x) (ps.take m) (fun q hq => hpos q (List.mem_of_mem_take hq))
        have hD1 : D (maxI latest x) (ps.take m) + p.2 ≤ sumA ps := by
          have h1 := D_le_sum (maxI latest x) (ps.take m) (fun q hq => hpos q (List.mem_of_mem_take hq))
          have h2 : sumA ps = sumA (ps.take (m + 1)) + sumA (ps.drop (m + 1)) := by rw [← sumA_append, List.take_append_drop]
          have h3 := sumA_nonneg (ps.drop (m + 1)) (fun q hq => hpos q (List.mem_of_mem_drop hq))
          rw [htake, sumA_append] at h2
          simp [sumA] at h2
          omega
        have hw5 : IntKind.wrap .u64 (D (maxI latest x) (ps.take m) + p.2) = D (maxI latest x) (ps.take m) + p.2 := wrap_u64 (by omega) (by omega)
        simp [and_assoc, hml, n4, c1', c2', hw4, hw5]
        have hDt : D (maxI latest x) (ps.take (m + 1)) = D (maxI latest x) (ps.take m) + (if p.1 ≤ maxI latest x then p.2 else 0) := by
          rw [htake, D_append]; simp [D]
        by_cases hpx : p.1 ≤ maxI latest x
        · have n5 : ¬ (maxI latest x < p.1) := by omega
          simp [hpx, n5]
          exact ⟨⟨m + 1, by omega, by omega, by rw [hDt, if_pos hpx], rfl⟩, by omega⟩
        · have n5 : maxI latest x < p.1 := by omega
          simp [hpx, n5]
          exact ⟨⟨m + 1, by omega, by omega, by rw [hDt, if_neg hpx]; omega, rfl⟩, by omega⟩
      · have hm' : m = ps.length := by omega
        subst hm'
        have hmx1 : latest ≤ maxI latest x := by unfold maxI; split <;> omega
        have hmx2 : x ≤ maxI latest x := by unfold maxI; split <;> omega
        have hall : ∀ p ∈ A ++ sumU x B, p.1 ≤ maxI latest x := by
          intro p hp
          rcases List.mem_append.1 hp with hp | hp
          · have := hA p hp; omega
          · have := hsu.1 p hp; omega
        have hle : sumA A + sumA (sumU x B) ≤ D (maxI latest x) ps := by
          have h1 := hdom (maxI latest x)
          have h2 : A ++ B = (A ++ sumU x B) ++ restU x B := by rw [List.append_assoc, hs]
          rw [h2, D_append, D_all _ _ hall, sumA_append] at h1
          have h3 := D_nonneg (maxI latest x) (restU x B) posR
          omega
        have n5 : ¬ (D (maxI latest x) ps < sumA A + sumA (sumU x B)) := by omega
        simp [hle, n5]
        refine (total_spec w7.row).mono ?_
        rintro v h9 ⟨rfl, rfl⟩
        have hw6 : IntKind.wrap .u64 (sumA (A ++ B) - (sumA A + sumA (sumU x B))) = sumA (restU x B) := by
          rw [sumA_append, wrap_u64 (by omega) (by omega)]; omega
        have hw7 : IntKind.wrap .i64 ((j : Int) + 1) = (j : Int) + 1 := wrap_i64 (by omega) (by omega)
        simp [hw6, hw7]
        refine ⟨⟨j + 1, A ++ sumU x B, restU x B, by omega, by omega, by rw [List.append_assoc, hs], w7, by rw [sumA_append], hall, f07, by omega⟩, by omega⟩
    · have n3 : ks.length ≤ j := by omega
      simp [hjl, n3]
      refine (rtake w6 4611686018427387904).mono ?_
      rintro v h7 ⟨rfl, w7, f7, s7⟩
      have hhigh := rest_high (s := 4611686018427387904) (L := B) (fun p hp => by have := w5.good.each p (by simp [hp]); simp only [LC] at this; omega)
      rw [hhigh.1] at w7
      have hdue : dueA 4611686018427387904 B = sumA B := by unfold dueA; rw [hhigh.2]
      have hw1 : IntKind.wrap .u64 (sumA A + sumA B) = sumA A + sumA B := wrap_u64 (by omega) (by omega)
      simp [hdue, hw1, sumA_append]
      refine (total_spec w7.row).mono ?_
      rintro v h8 ⟨rfl, rfl⟩
      simp [sumA]
      refine (list_spec w7.row).mono ?_
      rintro v h9 ⟨al, rfl, _, f9⟩
      simp
      exact ⟨al, 0, ⟨rfl, rfl⟩, rfl, (f06.later f7 (by simp; omega)).trans f9⟩
end Go.Proofs.Ytgajaoophcljnaa
