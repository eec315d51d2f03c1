import Derived.Test.YtppoomofmiggcaaLe
import Derived.Test.YtppoomofmiggcaaLr
namespace Go.Proofs.Ytppoomofmiggcaa
open Go Go.Wd
set_option linter.unusedVariables false
set_option linter.unusedSimpArgs false

/-- What the law LinesGaps knows at the head of its round. -/
structure GapsA (h : Hp) (q B : Nat) (gap : Int) (n : Nat) (now : Int) (aa : Option Addr) (al ac : Nat) (came i : Int) (h6 : Hp) (k : Nat) (x : Ln) (all : List Int) (cm : Nat) : Prop where
  c1 : i = k
  c2 : k ≤ n
  c3 : LS h6 q (single 2 x) now
  c4 : Fr [] h h6
  c5 : Own h6 22 1 aa al ac (encL encU all)
  c6 : ∀ y ∈ foot aa, B ≤ y
  c7 : al = all.length
  c8 : all.length + (if x.latched then 1 else 0) ≤ cm
  c9 : came = cm
  c10 : cm ≤ k
  c11 : x.guest = 3 ∧ x.to = 4 ∧ x.gap = gap ∧ x.routed = true
  c12 : (x.fired = false ∧ all = [] ∧ x.latched = false) ∨ (x.fired = true ∧ all.getLast? = some x.last ∧ 0 ≤ x.last ∧ x.last ≤ now)
  c13 : Gapped gap all
  c14 : ∀ t ∈ all, 0 ≤ t ∧ t ≤ now
  c15 : 0 ≤ now ∧ now ≤ k * 1125899906842624
  c16 : sz h ≤ q
  c17 : q < B

set_option maxHeartbeats 4000000 in
theorem gaps_spec {h : Hp} {a : Option Addr} {c : Nat} {after : List Int} {a2 : Option Addr} {c2 : Nat} {looks : List Bool} (gap : Int)
    (g1 : rowAtK h a (encL encU after)) (o1 : ∀ x ∈ after, U64 x) (g2 : rowAtK h a2 (encL encB looks)) :
    CallsH Try.prog 3 [.int .u64 gap, .slice a after.length c, .slice a2 looks.length c2] h fun v h' => v = .bool true ∧ Fr [] h h' := by
  refine calls_k fun R hR => ?_
  apply warderlaw21_LinesGaps.calls
  unfold warderlaw21_LinesGaps.P
  refine (alive_spec h).mono ?_
  rintro v h1 ⟨rfl, f1⟩
  have yes := fun h' (f : Fr [] h h') => hR (.bool true) h' ⟨rfl, f⟩
  refine ⟨_, rfl, by simp, fun _ => ?_⟩
  refine ⟨fun h2 => h2 = h1 ∧ 1 ≤ gap ∧ gap ≤ 1099511627776 ∧ after.length ≤ 100 ∧ after.length ≤ looks.length ∧ looks.length ≤ 1000, ?_, ?_⟩
  · refine ⟨fun _ => yes _ f1, fun d1 => ⟨fun _ => yes _ f1, fun d2 => ⟨fun _ => yes _ f1, fun d3 => ⟨fun _ => yes _ f1, fun d4 => ⟨fun _ => yes _ f1, fun d5 => ?_⟩⟩⟩⟩⟩
    simp only [decide_eq_false_iff_not] at d1 d2 d3 d4 d5
    refine ⟨rfl, by omega, by omega, by omega, by omega, by omega⟩
  rintro h2 ⟨rfl, p1, p2, p3, p4, p5⟩
  refine new_spec.mono ?_
  rintro v h3 ⟨rfl, w3, f3, s3⟩
  refine ⟨_, rfl, ?_⟩
  obtain ⟨re, rl⟩ := single_route (k := 2) (g := 3) (t := 4) (gap := gap) (by omega) (by omega) (by omega) (by omega) (by omega) p2
  refine (route_spec w3 2 3 4 gap).mono ?_
  rintro v h4 ⟨rfl, w4, f4, s4⟩
  rw [show (((2 : Nat) : Int)) = 2 from rfl] at re rl
  rw [re]
  rw [rl] at w4
  refine ⟨_, rfl, by simp, fun _ => ?_⟩
  rintro h5 rfl
  have z1 := f1.size
  have f13 : Fr [] h h3 := f1.trans f3
  have f14 : Fr [] h h4 := f13.later f4 (by simp; omega)
  have w5 := w4.fr (Fr.new [] h4 (blk 22 [])) (by simp)
  have hq4 := w4.lt
  refine ⟨fun now aa al ac came i h6 => ∃ k x all cm, GapsA h (sz h2) (sz h4) gap after.length now aa al ac came i h6 k x all cm, fun _ _ _ _ _ i _ => after.length - i.toNat, ?_, ?_⟩
  · refine ⟨0, ⟨3, 4, gap, 0, true, false, false⟩, [], 0, rfl, by omega, w5, f14.trans (Fr.new _ _ _), ⟨rfl, .inr ⟨sz h4, [], rfl, new_at _ _, rfl, by omega⟩⟩, by simp [foot], rfl, by simp, rfl, by omega, ⟨rfl, rfl, rfl, rfl⟩, .inl ⟨rfl, rfl, rfl⟩, Gapped.nil _, by simp, by omega, by omega, hq4⟩
  rintro now aa al ac came i h6 ⟨k, x, all, cm, I⟩
  obtain ⟨rfl, hk, w6, f6, o6, hfa, rfl, hcnt, rfl, hcm, ⟨hxg, hxt, hxp, hxr⟩, hst, hgp, hall, ⟨hn0, hn1⟩, hq1, hq2⟩ := I
  have hwi : IntKind.wrap .i64 ((k : Int) + 1) = ((k + 1 : Nat) : Int) := by rw [wrap_i64 (by omega) (by omega)]; omega
  have hwc : IntKind.wrap .i64 ((cm : Int) + 1) = ((cm + 1 : Nat) : Int) := by rw [wrap_i64 (by omega) (by omega)]; omega
  have hlt6 := w6.lt
  by_cases hkl : k < after.length
  · refine ⟨fun _ => ?_, fun hf => absurd hf (by simp; omega)⟩
    obtain ⟨d, hd⟩ : ∃ d, after[k]? = some d := ⟨_, List.getElem?_eq_getElem hkl⟩
    obtain ⟨hd0, hd1⟩ := o1 d (List.mem_of_getElem? hd)
    obtain ⟨b1, o1', rfl, e1⟩ := encL_one (f := encU) (m := 1) (fun _ => rfl) (g1.fr f6 (by simp)) hd (by omega)
    have r1 : cellAt h6 b1 (o1' + (k : Int).toNat * 1) = some (.int .u64 d) := by have := e1 0 (by omega); simpa [encU] using this
    obtain ⟨lk, hlk⟩ : ∃ lk, looks[k]? = some lk := ⟨_, List.getElem?_eq_getElem (by omega)⟩
    obtain ⟨b2, o2', rfl, e2⟩ := encL_one (f := encB) (m := 1) (fun _ => rfl) (g2.fr f6 (by simp)) hlk (by omega)
    have r2 : cellAt h6 b2 (o2' + (k : Int).toNat * 1) = some (.bool lk) := by have := e2 0 (by omega); simpa [encB] using this
    refine ⟨by omega, by omega, _, _, rfl, _, r1, fun _ => yes _ f6, fun hdl => ⟨by omega, by omega, _, _, rfl, _, r1, by omega, by omega, _, _, rfl, _, r2, ?_, ?_⟩⟩
    all_goals
      have hdl' : d ≤ 1125899906842624 := by simpa using hdl
      have hwn : IntKind.wrap .u64 (now + d) = now + d := wrap_u64 (by omega) (by omega)
      have hmx : maxI now (now + d) = now + d := by unfold maxI; split <;> omega
      rw [hwn, hwi]
    · -- what is due is taken
      intro hl
      refine (due_spec' w6 (now + d)).mono ?_
      rw [hmx, single_due (by omega)]
      -- the hits: none, or the one that is due
      obtain ⟨H, x', hx', hH⟩ : ∃ H x', (if x.latched && decide (due x ≤ now + d) then ([hitOf (2 : Nat) x (due x)], single 2 (fire x (due x))) else ([], single 2 x)) = (H, single 2 x') ∧
          ((H = [] ∧ x' = x) ∨ (H = [⟨2, 3, 4, x.last + gap⟩] ∧ x' = fire x (x.last + gap) ∧ x.latched = true ∧ x.last + gap ≤ now + d)) := by
        cases hlx : x.latched
        · exact ⟨[], x, by simp, .inl ⟨rfl, rfl⟩⟩
        · rcases hst with ⟨_, _, hl0⟩ | ⟨_, _, hl1, hl2⟩
          · rw [hlx] at hl0; cases hl0
          · have hdue : due x = x.last + gap := by unfold due; rw [hxp, wrap_u64 (by omega) (by omega)]
            by_cases hle : due x ≤ now + d
            · refine ⟨_, _, by rw [if_pos (by simp [hle])], .inr ⟨by simp [hitOf, hxg, hxt, hdue], by rw [hdue], rfl, by omega⟩⟩
            · exact ⟨_, _, by rw [if_neg (by simp [hle])], .inl ⟨rfl, rfl⟩⟩
      rw [hx']
      dsimp only
      rintro v h7 ⟨ha, hc, rfl, hrow, hft, w7, f7⟩
      refine ⟨_, _, _, rfl, ?_⟩
      have f67 := f6.later f7 (by simp; omega)
      have hH1 : H.length ≤ 1 := by rcases hH with ⟨rfl, _⟩ | ⟨rfl, _⟩ <;> simp
      have hHt : ∀ y ∈ H, y.line = 2 ∧ y.guest = 3 ∧ y.to = 4 ∧ y.t ≤ now + d := by
        rcases hH with ⟨rfl, _⟩ | ⟨rfl, _, _, hle⟩
        · simp
        · intro y hy; simp at hy; subst hy; exact ⟨rfl, rfl, rfl, hle⟩
      -- each is kept
      refine ⟨fun ta tl tc j h8 => ∃ m : Nat, j = m ∧ m ≤ H.length ∧ LS h8 (sz h2) (single 2 x') (now + d) ∧ Fr [] h h8 ∧ Fr (foot aa) h7 h8 ∧ Own h8 22 1 ta tl tc (encL encU (all ++ (H.take m).map (·.t))) ∧ (∀ y ∈ foot ta, sz h4 ≤ y) ∧ tl = all.length + m ∧ (∀ y ∈ foot ta, y ∈ foot aa ∨ sz h7 ≤ y),
        fun _ _ _ j _ => H.length - j.toNat, ⟨0, rfl, by omega, w7, f67, Fr.refl _ _, ?_, hfa, rfl, fun y hy => .inl hy⟩, ?_⟩
      · simpa using o6.fr f7 (fun y hy => by have := hfa y hy; simp; omega)
      rintro ta tl tc j h8 ⟨m, rfl, hm, w8, f8, f78, o8, ft8, rfl, ftn⟩
      have hwm : IntKind.wrap .i64 ((m : Int) + 1) = ((m + 1 : Nat) : Int) := by rw [wrap_i64 (by omega) (by omega)]; omega
      by_cases hml : m < H.length
      · refine ⟨fun _ => ?_, fun hf => absurd hf (by simp; omega)⟩
        obtain ⟨y, hy⟩ : ∃ y, H[m]? = some y := ⟨_, List.getElem?_eq_getElem hml⟩
        obtain ⟨y1, y2, y3, y4⟩ := hHt y (List.mem_of_getElem? hy)
        have hrow8 : rowAtK h8 ha (encL Hit.cells H) := hrow.fr f78 (fun z hz hz2 => by have h1 := hft z hz; have h2 := o6.foot_lt z hz2; omega)
        obtain ⟨bb, oo, rfl, e3⟩ := encL_one Hit.len hrow8 hy (by omega)
        have q0 := e3 0 (by omega)
        have q1 := e3 1 (by omega)
        have q2 := e3 2 (by omega)
        have q3 := e3 3 (by omega)
        simp only [Hit.cells, List.getElem?_cons_zero, List.getElem?_cons_succ, Nat.add_zero] at q0 q1 q2 q3
        rw [Int.toNat_natCast, hwm]
        refine ⟨fun h9 => h9 = h8, ⟨by omega, by omega, _, _, rfl, _, q3, fun hc => absurd (of_decide_eq_true hc) (by omega), fun _ => ⟨by omega, by omega, _, _, rfl, _, q0, fun hc => absurd hc (by simp [y1]), fun _ => ⟨by omega, by omega, _, _, rfl, _, q1, fun hc => absurd hc (by simp [y2]), fun _ => ⟨by omega, by omega, _, _, rfl, _, q2, fun hc => absurd hc (by simp [y3]), fun _ => rfl⟩⟩⟩⟩, ?_⟩
        rintro h9 rfl
        refine ⟨by omega, by omega, _, _, rfl, _, q3, ?_⟩
        intro h10 h10e
        have hal : all.length ≤ 100 := by split at hcnt <;> omega
        refine append_new (h0 := h) (F := []) o8 rfl f8 (fun z hz => .inr (by have := ft8 z hz; omega)) rfl rfl h10e (by omega) (by omega) ?_
        intro a' c' h11 o11 f11 g11 l11 t11
        have htake : H.take (m + 1) = H.take m ++ [y] := by rw [List.take_add_one, hy]; rfl
        have hz9 := f78.size
        refine ⟨⟨m + 1, rfl, by omega, w8.fr l11 (fun hq => by have := ft8 _ hq; omega), f11, ?_, ?_, ?_, by omega, ?_⟩, by show H.length - ((m + 1 : Nat) : Int).toNat < H.length - (m : Int).toNat; omega⟩
        · refine f78.fresh l11 (fun z hz => ?_)
          exact ftn z hz
        · rw [htake, List.map_append, ← List.append_assoc, encL_append]
          simpa [encL, encU] using o11
        · intro z hz
          rcases t11 with rfl | t11
          · exact ft8 z hz
          · have := t11 z hz; have := f8.size; have := w8.lt; have := f7.size; have := f14.size; have := f4.size
            have hle : sz h4 ≤ sz h6 := by have := o6.foot_lt; omega
            omega
        · intro z hz
          rcases t11 with rfl | t11
          · exact ftn z hz
          · have := t11 z hz; exact .inr (by omega)
      · have : m = H.length := by omega
        subst this
        refine ⟨fun hf => absurd hf (by simp), fun _ => ?_⟩
        rw [List.take_length] at o8
        refine ⟨⟨k + 1, x', all ++ H.map (·.t), cm, rfl, by omega, w8, f8, o8, ft8, by simp, ?_, rfl, by omega, ?_, ?_, ?_, ?_, by omega, hq1, hq2⟩, by show after.length - ((k + 1 : Nat) : Int).toNat < after.length - (k : Int).toNat; omega⟩
        · rcases hH with ⟨rfl, rfl⟩ | ⟨rfl, rfl, hl, hle⟩
          · simpa using hcnt
          · rw [hl] at hcnt; simp [fire]; simpa using hcnt
        · rcases hH with ⟨rfl, rfl⟩ | ⟨rfl, rfl, hl, hle⟩
          · exact ⟨hxg, hxt, hxp, hxr⟩
          · exact ⟨hxg, hxt, hxp, hxr⟩
        · rcases hH with ⟨rfl, rfl⟩ | ⟨rfl, rfl, hl, hle⟩
          · rcases hst with h | ⟨a1, a2, a3, a4⟩
            · exact .inl (by simpa using h)
            · exact .inr ⟨a1, by simpa using a2, a3, by omega⟩
          · rcases hst with ⟨_, _, h⟩ | ⟨a1, a2, a3, a4⟩
            · rw [hl] at h; cases h
            · exact .inr ⟨rfl, by simp [fire], by simp [fire]; omega, hle⟩
        · rcases hH with ⟨rfl, rfl⟩ | ⟨rfl, rfl, hl, hle⟩
          · simpa using hgp
          · rcases hst with ⟨_, _, h⟩ | ⟨a1, a2, a3, a4⟩
            · rw [hl] at h; cases h
            · exact hgp.snoc (fun z hz => by rw [a2] at hz; cases hz; simp)
        · intro t ht
          rcases List.mem_append.1 ht with ht | ht
          · have := hall t ht; omega
          · rcases hH with ⟨rfl, rfl⟩ | ⟨rfl, rfl, hl, hle⟩
            · simp at ht
            · simp at ht; subst ht
              rcases hst with ⟨_, _, h⟩ | ⟨a1, a2, a3, a4⟩
              · rw [hl] at h; cases h
              · omega
    · -- an arrival
      intro hl
      refine (arrive_spec w6 2 (now + d)).mono ?_
      have ao := single_arriveO (k := 2) (by omega) hxr (now + d)
      have al' := single_arriveL (k := 2) (by omega) hxr (now + d)
      rw [show (((2 : Nat) : Int)) = 2 from rfl] at ao al'
      rw [hmx, ao, al']
      generalize ho : (if x.latched = true then (⟨3, noHit⟩ : Out) else if opened x (now + d) = true then ⟨1, hitOf 2 x (now + d)⟩ else ⟨2, noHit⟩) = oo
      generalize hx' : (if x.latched = true then x else if opened x (now + d) = true then fire x (now + d) else { x with latched := true }) = x'
      rintro v h12 ⟨rfl, w12, f12⟩
      refine ⟨_, _, _, _, _, rfl, ?_⟩
      refine put_local rfl (by simp) ?_
      intro h14 k14 f14' s14
      have w14 := w12.fr f14' (by simp)
      have f6_14 := (f6.later f12 (by simp; omega)).trans f14'
      have z12 := f12.size
      have kk : cellAt h14 (sz h12) 0 = some (.int .i64 oo.kind) := by rw [cellAt_of k14]; rfl
      have kt : cellAt h14 (sz h12) 4 = some (.int .u64 oo.hit.t) := by rw [cellAt_of k14]; rfl
      have dec : after.length - ((k + 1 : Nat) : Int).toNat < after.length - (k : Int).toNat := by omega
      rw [hwc]
      have hal : all.length ≤ 100 := by split at hcnt <;> omega
      have o14 : Own h14 22 1 aa all.length ac (encL encU all) := (o6.fr f12 (fun y hy => by have := hfa y hy; simp; omega)).fr f14' (by simp)
      refine ⟨_, kk, fun hk1 => ⟨_, kt, ?_⟩, fun hk1 => ⟨_, kk, ?_⟩⟩
      · -- delivered at once
        have hk1' : oo.kind = 1 := by simpa using hk1
        have hop : x.latched = false ∧ opened x (now + d) = true := by
          subst ho
          split at hk1'
          · cases hk1'
          · split at hk1'
            · exact ⟨by simpa using ‹¬ x.latched = true›, ‹_›⟩
            · cases hk1'
        have hoo : oo = ⟨1, hitOf 2 x (now + d)⟩ := by rw [← ho]; simp [hop.1, hop.2]
        have hxx : x' = fire x (now + d) := by rw [← hx']; simp [hop.1, hop.2]
        subst hoo
        subst hxx
        intro h15 h15e
        refine append_new (h0 := h) (F := []) o14 rfl f6_14 (fun z hz => .inr (by have := hfa z hz; omega)) rfl rfl h15e (by omega) (by omega) ?_
        intro a' c' h16 o16 f16 g16 l16 t16
        have kk16 : cellAt h16 (sz h12) 0 = some (.int .i64 1) := l16.cell kk (fun hq => by have := o6.foot_lt _ hq; omega)
        refine ⟨_, kk16, fun hc => absurd hc (by simp), fun _ => ⟨⟨k + 1, fire x (now + d), all ++ [now + d], cm + 1, rfl, by omega, w14.fr l16 (fun hq => by have := hfa _ hq; omega), f16, ?_, ?_, by simp, ?_, rfl, by omega, ⟨hxg, hxt, hxp, hxr⟩, .inr ⟨rfl, by simp [fire], by simp [fire]; omega, by simp [fire]⟩, ?_, ?_, by omega, hq1, hq2⟩, dec⟩⟩
        · rw [encL_append]; simpa [encL, encU, hitOf] using o16
        · intro z hz
          rcases t16 with rfl | t16
          · exact hfa z hz
          · have := t16 z hz; have := w6.lt; have := f4.size
            have := hfa
            omega
        · rw [hop.1] at hcnt; simp [fire]; simpa using hcnt
        · refine hgp.snoc (fun z hz => ?_)
          rcases hst with ⟨_, h2, _⟩ | ⟨a1, a2, a3, a4⟩
          · subst h2; simp at hz
          · rw [a2] at hz; cases hz
            have := hop.2
            simp only [opened, a1, Bool.not_true, Bool.false_or, decide_eq_true_eq, hxp] at this
            rw [wrap_u64 (by omega) (by omega)] at this
            omega
        · intro t ht
          rcases List.mem_append.1 ht with ht | ht
          · have := hall t ht; omega
          · simp at ht; subst ht; omega
      · have hk1' : ¬ oo.kind = 1 := by simpa using hk1
        have hoo : (x.latched = true ∧ oo = ⟨3, noHit⟩ ∧ x' = x) ∨ (x.latched = false ∧ opened x (now + d) = false ∧ oo = ⟨2, noHit⟩ ∧ x' = { x with latched := true }) := by
          cases hlx : x.latched
          · cases hop : opened x (now + d)
            · exact .inr ⟨rfl, rfl, by rw [← ho]; simp [hlx, hop], by rw [← hx']; simp [hlx, hop]⟩
            · exfalso; apply hk1'; rw [← ho]; simp [hlx, hop]
          · exact .inl ⟨rfl, by rw [← ho]; simp [hlx], by rw [← hx']; simp [hlx]⟩
        refine ⟨fun hc => ?_, fun _ => ⟨⟨k + 1, x', all, cm + 1, rfl, by omega, w14, f6_14, o14, hfa, rfl, ?_, rfl, by omega, ?_, ?_, hgp, fun t ht => by have := hall t ht; omega, by omega, hq1, hq2⟩, dec⟩⟩
        · rcases hoo with ⟨_, rfl, _⟩ | ⟨_, _, rfl, _⟩ <;> simp at hc
        · rcases hoo with ⟨h1, _, rfl⟩ | ⟨h1, _, _, rfl⟩
          · rw [h1] at hcnt ⊢; omega
          · rw [h1] at hcnt; simp at hcnt ⊢; omega
        · rcases hoo with ⟨_, _, rfl⟩ | ⟨_, _, _, rfl⟩
          · exact ⟨hxg, hxt, hxp, hxr⟩
          · exact ⟨hxg, hxt, hxp, hxr⟩
        · rcases hoo with ⟨h1, _, rfl⟩ | ⟨h1, h2, _, rfl⟩
          · rcases hst with ⟨_, _, h⟩ | ⟨a1, a2, a3, a4⟩
            · rw [h1] at h; cases h
            · exact .inr ⟨a1, a2, a3, by omega⟩
          · rcases hst with ⟨h3, _, _⟩ | ⟨a1, a2, a3, a4⟩
            · simp [opened, h3] at h2
            · exact .inr ⟨a1, a2, a3, by show x.last ≤ now + d; omega⟩
  · -- the look at all of them
    have : k = after.length := by omega
    subst this
    refine ⟨fun hf => absurd hf (by simp), fun _ => ?_⟩
    have hal : all.length ≤ 100 := by split at hcnt <;> omega
    have hle : decide (((all.length : Nat) : Int) ≤ (cm : Int)) = true := by simp; split at hcnt <;> omega
    have cellU : ∀ (j : Nat) (t : Int), all[j]? = some t → ∃ b, aa = some ⟨b, 0, none⟩ ∧ cellAt h6 b (0 + (j : Int).toNat * 1) = some (.int .u64 t) := by
      intro j t hj
      have hjl := (List.getElem?_eq_some_iff.1 hj).1
      have hlen := encL_length (f := encU) (m := 1) (fun _ => rfl) all
      obtain ⟨b, rfl, hc⟩ := o6.cell (i := j) (by omega)
      have hg := encL_get (f := encU) (m := 1) (fun _ => rfl) all j 0 t hj (by omega)
      refine ⟨b, rfl, ?_⟩
      simp only [Int.toNat_natCast, Nat.mul_one, Nat.zero_add, Nat.add_zero] at hg ⊢
      rw [hc, hg]; rfl
    refine ⟨fun i h7 => ∃ m : Nat, i = m ∧ m ≤ all.length ∧ h7 = h6, fun i _ => all.length - i.toNat, ⟨0, rfl, by omega, rfl⟩, ?_⟩
    rintro i h7 ⟨m, rfl, hm, rfl⟩
    have hwm : IntKind.wrap .i64 ((m : Int) + 1) = ((m + 1 : Nat) : Int) := by rw [wrap_i64 (by omega) (by omega)]; omega
    rw [hwm]
    by_cases hml : m < all.length
    · refine ⟨fun _ => ?_, fun hf => absurd hf (by simp; omega)⟩
      obtain ⟨t, ht⟩ : ∃ t, all[m]? = some t := ⟨_, List.getElem?_eq_getElem hml⟩
      obtain ⟨b, rfl, ct⟩ := cellU m t ht
      refine ⟨fun k2 h8 => ∃ r : Nat, k2 = r ∧ m < r ∧ r ≤ all.length ∧ h8 = h7, fun k2 _ => all.length - k2.toNat, ⟨m + 1, rfl, by omega, by omega, rfl⟩, ?_⟩
      rintro k2 h8 ⟨r, rfl, hr1, hr2, rfl⟩
      have hwr : IntKind.wrap .i64 ((r : Int) + 1) = ((r + 1 : Nat) : Int) := by rw [wrap_i64 (by omega) (by omega)]; omega
      rw [hwr]
      by_cases hrl : r < all.length
      · refine ⟨fun _ => ?_, fun hf => absurd hf (by simp; omega)⟩
        obtain ⟨u, hu⟩ : ∃ u, all[r]? = some u := ⟨_, List.getElem?_eq_getElem hrl⟩
        obtain ⟨b', e, cu⟩ := cellU r u hu
        cases e
        have far := hgp.far (by omega) (r - m) m t u ht (by rw [← hu]; congr 1; omega)
        have ht0 := hall t (List.mem_of_getElem? ht)
        have hu0 := hall u (List.mem_of_getElem? hu)
        have hnn : 0 ≤ ((r - m : Nat) : Int) * gap := Int.mul_nonneg (by omega) (by omega)
        refine ⟨by omega, by omega, _, _, rfl, _, cu, by omega, by omega, _, _, rfl, _, ct, fun hc => absurd (of_decide_eq_true hc) (by omega), fun _ => ⟨by omega, by omega, _, _, rfl, _, cu, by omega, by omega, _, _, rfl, _, ct, by omega, fun hc => ?_, fun _ => ⟨⟨r + 1, rfl, by omega, by omega, rfl⟩, by show all.length - ((r + 1 : Nat) : Int).toNat < all.length - (r : Int).toNat; omega⟩⟩⟩
        exfalso
        have hc' := of_decide_eq_true hc
        rw [wrap_i64 (n := (r : Int) - m) (by omega) (by omega), wrap_u64 (n := (r : Int) - m) (by omega) (by omega), wrap_u64 (n := u - t) (by omega) (by omega), tdiv_nat (by omega)] at hc'
        have hdiv : ((r - m : Nat) : Int) ≤ (u - t) / gap := (Int.le_ediv_iff_mul_le (by omega)).2 (by omega)
        have hdle : (u - t) / gap ≤ u - t := Int.ediv_le_self _ (by omega)
        rw [wrap_u64 (n := (u - t) / gap) (by omega) (by omega)] at hc'
        omega
      · refine ⟨fun hf => absurd hf (by simp; omega), fun _ => ⟨⟨m + 1, rfl, by omega, rfl⟩, by show all.length - ((m + 1 : Nat) : Int).toNat < all.length - (m : Int).toNat; omega⟩⟩
    · refine ⟨fun hf => absurd hf (by simp; omega), fun _ => ?_⟩
      rw [hle]
      exact yes _ f6
end Go.Proofs.Ytppoomofmiggcaa
