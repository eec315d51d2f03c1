import Derived.Test.YtmldiibfmhkgjaaSm
namespace Go.Proofs.Ytmldiibfmhkgjaa
open Go Go.Wd
set_option linter.unusedVariables false
set_option linter.unusedSimpArgs false
set_option linter.unnecessarySimpa false

/-! ## the end of a space -/
def gvAll (L : List Int) (fs : List Int) : List Int := fs.foldl (fun M f => moveL M f 1 0) L
theorem gv_next {L fs : List Int} {k : Nat} {f : Int} (hx : fs[k]? = some f) : gvAll L (fs.take (k + 1)) = moveL (gvAll L (fs.take k)) f 1 0 := by
  rw [Ftake_one hx]; simp [gvAll]
theorem gv_count : ∀ (fs : List Nat) (L : List Int), fs.Nodup → (∀ f ∈ fs, L[f]? = some 1) → (gvAll L (fs.map Int.ofNat)).count 1 + fs.length = L.count 1 ∧ (gvAll L (fs.map Int.ofNat)).count 0 = L.count 0 + fs.length
  | [], L, _, _ => by simp [gvAll]
  | f :: fs, L, hn, h => by
    have hf := h f (by simp)
    have e : gvAll L ((f :: fs).map Int.ofNat) = gvAll (L.set f 0) (fs.map Int.ofNat) := by
      show gvAll (moveL L ((f : Nat) : Int) 1 0) _ = _
      rw [give_set hf]
    rw [List.nodup_cons] at hn
    obtain ⟨h1, h2⟩ := gv_count fs (L.set f 0) hn.2 (fun g hg => by
      rw [List.getElem?_set, if_neg (fun e => hn.1 (by rw [e]; exact hg))]
      exact h g (by simp [hg]))
    have hc := count_give hf
    rw [e, List.length_cons]
    omega
def tbN (A : Ab) (T : Nat → Nat) : Nat → List Nat
  | 0 => []
  | k + 1 => tbN A T k ++ (if (A k).isT then [T k] else [])
theorem tbN_map (A : Ab) (T : Nat → Nat) : ∀ k, tbA A T k = (tbN A T k).map Int.ofNat
  | 0 => rfl
  | k + 1 => by
    simp only [tbA, tbN, List.map_append, tbN_map A T k]
    split <;> rfl
theorem tbN_mem (A : Ab) (T : Nat → Nat) {f : Nat} : ∀ k, f ∈ tbN A T k → ∃ j, j < k ∧ (A j).isT = true ∧ f = T j
  | 0, h => by simp [tbN] at h
  | k + 1, h => by
    simp only [tbN, List.mem_append] at h
    rcases h with h | h
    · obtain ⟨j, h1, h2, h3⟩ := tbN_mem A T k h
      exact ⟨j, by omega, h2, h3⟩
    · by_cases c : (A k).isT = true
      · rw [if_pos c] at h
        exact ⟨k, by omega, c, by simpa using h⟩
      · rw [if_neg c] at h; simp at h
theorem tbN_len (A : Ab) (T : Nat → Nat) (k : Nat) : (tbN A T k).length = nTA A k := by rw [← tbA_len A T k, tbN_map]; simp
section
variable {h : Hp} {y : Lay} {s : Sp} {A : Ab} {T : Nat → Nat}
theorem tbN_nodup (v : Inv s A T) : ∀ k, k ≤ 64 → (tbN A T k).Nodup
  | 0, _ => List.nodup_nil
  | k + 1, hk => by
    simp only [tbN]
    by_cases c : (A k).isT = true
    · rw [if_pos c, List.nodup_append]
      refine ⟨tbN_nodup v k (by omega), by simp, fun a ha b hb => ?_⟩
      simp only [List.mem_singleton] at hb
      obtain ⟨j, h1, h2, rfl⟩ := tbN_mem A T k ha
      rw [hb]
      exact v.tt j (by omega) k (by omega) (by omega) h2 c
    · rw [if_neg c, List.append_nil]; exact tbN_nodup v k (by omega)
theorem all_given (v : Inv s A T) : (gvAll s.L (tbA A T 64 ++ [(s.root : Int)])).count 1 + nT A + 1 = s.L.count 1 ∧ (gvAll s.L (tbA A T 64 ++ [(s.root : Int)])).count 0 = s.L.count 0 + nT A + 1 := by
  have e : tbA A T 64 ++ [(s.root : Int)] = (tbN A T 64 ++ [s.root]).map Int.ofNat := by rw [List.map_append, ← tbN_map]; rfl
  have := gv_count (tbN A T 64 ++ [s.root]) s.L (by
    rw [List.nodup_append]
    refine ⟨tbN_nodup v 64 (Nat.le_refl _), by simp, fun a ha b hb => ?_⟩
    simp only [List.mem_singleton] at hb
    obtain ⟨j, h1, h2, rfl⟩ := tbN_mem A T 64 ha
    rw [hb]
    exact (v.to j h1 h2).2) (fun f hf => by
    rcases List.mem_append.1 hf with hf | hf
    · obtain ⟨j, h1, h2, rfl⟩ := tbN_mem A T 64 hf
      exact (v.to j h1 h2).1
    · simp only [List.mem_singleton] at hf
      rw [hf]; exact v.ro)
  rw [e]
  have hT : nT A = nTA A 64 := rfl
  have hl : (tbN A T 64 ++ [s.root]).length = nTA A 64 + 1 := by rw [List.length_append, tbN_len]; rfl
  rw [hl] at this
  omega
/-- A space that is destroyed. -/
def Sp.gone (s : Sp) (fs : List Int) : Sp := { s with TL := dropL (fun t => t.vm == s.vmid) s.TL, L := gvAll s.L fs, dead := true, lg := [] }
theorem Destroy_dead (w : SP h y s) (hd : s.dead = true) : CallsH Try.prog 38 [.pointer (some ⟨y.q, 0, none⟩)] h fun r h' => r = .tuple #[] ∧ h' = h := by
  apply stage_Space_Destroy.calls
  unfold stage_Space_Destroy.P
  exact ⟨_, w.de, fun _ => ⟨rfl, rfl⟩, fun c => absurd (hd.symm.trans c) (by decide)⟩
theorem Destroy_spec (w : SP h y s) (v : Inv s A T) (hd : s.dead = false) :
    CallsH Try.prog 38 [.pointer (some ⟨y.q, 0, none⟩)] h fun r h' => r = .tuple #[] ∧ SP h' y (s.gone (tbA A T 64 ++ [(s.root : Int)])) ∧ FrL y h h' := by
  refine calls_k fun R hR => ?_
  obtain ⟨fs, hfs⟩ : ∃ fs, fs = tbA A T 64 ++ [(s.root : Int)] := ⟨_, rfl⟩
  rw [← hfs] at hR
  have hlen : fs.length = nT A + 1 := by rw [hfs, List.length_append, tbA_len]; rfl
  have hnT := nT_le A
  apply stage_Space_Destroy.calls
  unfold stage_Space_Destroy.P
  refine ⟨_, w.de, fun c => absurd (hd.symm.trans c) (by decide), fun _ => ⟨_, w.tlb, _, w.vm, ?_⟩⟩
  refine (TDropAll_spec w.g.t _).mono ?_
  rintro r h1 ⟨rfl, t1, f1⟩
  have w1 := w.tw (f1.mono (by simp)) t1
  have x1 : FrL y h h1 := FrL.of f1 (by simp [Lay.F])
  obtain ⟨s1, hs1⟩ : ∃ s1 : Sp, s1 = { s with TL := dropL (fun t => t.vm == s.vmid) s.TL, nx := s.nx } := ⟨_, rfl⟩
  rw [← hs1] at w1
  have v1 : Inv s1 A T := by rw [hs1]; exact ⟨v.hn, v.bl, v.ll, v.fw, v.sw, v.bb, v.pb, v.ro, v.to, v.tt⟩
  have hroot : s1.root = s.root := by rw [hs1]
  have lF := w.ltF
  have l1F := w1.ltF
  refine ⟨_, rfl, fun h' => SP h' y { s1 with L := gvAll s1.L fs } ∧ FrL y h h', ?_, ?_⟩
  · refine ⟨fun a l c x i h8 => i = 0 ∧ x = (l : Int) ∧ l = nT A + 1 ∧ Go.Wd.Own h8 3 1 a l c (encL iN fs) ∧ (∀ z ∈ foot a, sz h1 ≤ z) ∧ SP h8 y s1 ∧ FrL y h h8, ?_, ?_⟩
    · refine ⟨_, w1.rt, ?_, ?_⟩
      · refine (tables_spec w1 v1).mono ?_
        rintro r h2 ⟨a, c, rfl, o2, fo, f2⟩
        refine ⟨_, _, _, rfl, (w1.fr0 f2).rt, ?_⟩
        intro h3 e3
        refine append_new (h0 := h1) (F := []) o2 rfl f2 (fun y hy => .inr (fo y hy)) rfl rfl e3 (by omega) (by omega) ?_
        intro a' c' h4 o4 f4 g4 l4 t4
        have hge : ∀ y ∈ foot a', sz h1 ≤ y := by
          intro y hy
          rcases t4 with rfl | t4
          · exact fo y hy
          · have := t4 y hy; have := f2.size; omega
        refine ⟨rfl, rfl, rfl, ?_, hge, w1.fr0 f4, x1.trans (FrL.of0 f4)⟩
        rw [hfs, encL_append, ← hroot]
        exact o4
      · intro h5 e5
        have f5 : Fr [] h1 h5 := by rw [e5]; exact Fr.new _ _ _
        have k5 : bk h5 (sz h1) = some (blk 3 [.int .i64 (s1.root : Int)]) := by rw [e5]; exact new_at _ _
        clear e5
        have w5 := w1.fr0 f5
        refine (tables_spec w5 v1).mono ?_
        rintro r h6 ⟨a, c, rfl, o6, fo, f6⟩
        refine ⟨_, _, _, rfl, (w5.fr0 f6).rt, ?_⟩
        have k6 := f6.at k5 (by simp)
        have f16 := f5.trans f6
        refine append_own (m := 1) o6 rfl rfl rfl (.inr ⟨sz h1, 0, rfl, readAt_of k6 0 [.int .i64 (s1.root : Int)] (by simp)⟩) (by omega) (by omega) ?_
        intro a' c' h7 o7 f7 ha
        have fo' : ∀ y ∈ foot a, sz h1 ≤ y := fun y hy => by have := fo y hy; have := f5.size; omega
        have f17 := f16.later f7 fo'
        refine ⟨rfl, rfl, rfl, ?_, ?_, w1.fr0 f17, x1.trans (FrL.of0 f17)⟩
        · rw [hfs, encL_append, ← hroot]
          exact o7
        · intro y hy
          rcases ha with rfl | ⟨rfl, _⟩
          · exact fo' y hy
          · simp [foot] at hy; have := f16.size; omega
    · rintro a l c x i h8 ⟨rfl, rfl, rfl, o8, fo, w8, x8⟩
      have r8 := o8.row
      refine ⟨fun i h9 => ∃ j : Nat, i = (j : Int) ∧ j ≤ nT A + 1 ∧ SP h9 y { s1 with L := gvAll s1.L (fs.take j) } ∧ FrL y h h9 ∧ rowAtK h9 a (encL iN fs), fun i _ => (nT A + 1) - i.toNat, ⟨0, rfl, by omega, w8, x8, r8⟩, ?_⟩
      rintro i h9 ⟨j, rfl, hj, w9, x9, r9⟩
      refine ⟨fun c => ?_, fun c => ?_⟩
      · have hj1 : j < nT A + 1 := lt_cast c
        obtain ⟨f, hf⟩ : ∃ f, fs[j]? = some f := ⟨_, List.getElem?_eq_getElem (by omega)⟩
        obtain ⟨b, o, rfl, hc⟩ := rowN_cell r9 hf
        refine ⟨by omega, by omega, _, _, rfl, _, hc, _, w9.frames, ?_⟩
        refine (Give_spec w9.g.f 1 f).mono ?_
        rintro r h10 ⟨rfl, t10, f10⟩
        have w10 := w9.fw f10 t10
        refine ⟨_, rfl, ?_, ?_⟩
        · rw [wrapN hj1 (by omega)]
          refine ⟨j + 1, rfl, hj1, ?_, x9.trans (FrL.of f10 (by simp [Lay.F])), r9.fr f10 ?_⟩
          · rw [gv_next hf]; exact w10
          · intro z hz
            have h1 := fo z hz
            have h2 := l1F y.fq (by simp [Lay.F])
            have h3 := l1F y.fo (by simp [Lay.F])
            simp only [List.mem_cons, List.not_mem_nil, or_false]
            omega
        · rw [wrapN hj1 (by omega)]
          exact decM hj1
      · have hj1 : j = nT A + 1 := Nat.le_antisymm hj (ge_cast c)
        subst hj1
        rw [List.take_of_length_le (by omega)] at w9
        exact ⟨w9, x9⟩
  · rintro h11 ⟨w11, x11⟩
    obtain ⟨la, lc, e, o, z⟩ := w11.hs
    refine ⟨truly_rfl, _, _, e, by simp [Sp.cells], ?_⟩
    intro h12 e12
    have w12 := w11.g.self e (s' := { s1 with L := gvAll s1.L fs, dead := true }) ⟨rfl, rfl, rfl, rfl, rfl⟩ o z
    have w12 : SP h12 y { s1 with L := gvAll s1.L fs, dead := true } := by rw [e12]; exact w12
    have f12 : Fr [y.q] h11 h12 := by rw [e12]; exact Fr.upd (by simp) _ _ _
    clear e12
    obtain ⟨lb, ld, e2, o2, z2⟩ := w12.hs
    refine ⟨truly_rfl, _, _, e2, by simp [Sp.cells], ?_⟩
    intro h13 e13
    rw [Sp.nil_cells] at e13
    have w13 := w12.g.self e2 (s' := { s1 with L := gvAll s1.L fs, dead := true, lg := [] }) (la := none) (lc := 0) ⟨rfl, rfl, rfl, rfl, rfl⟩ (Go.Wd.Own.nil _ _ _) z2.nil
    have w13 : SP h13 y { s1 with L := gvAll s1.L fs, dead := true, lg := [] } := by rw [e13]; exact w13
    have f13 : Fr [y.q] h12 h13 := by rw [e13]; exact Fr.upd (by simp) _ _ _
    refine hR _ _ ⟨rfl, ?_, (x11.later f12 (by simp [Lay.F])).later f13 (by simp [Lay.F])⟩
    rw [hs1] at w13
    exact w13
end

/-! ## a new space -/
theorem New1_nil {h : Hp} {a b : Nat} {D : Hp → Prop} (hD : D h) : CallsDH Try.prog 88 [.pointer (some ⟨a, 0, none⟩), .pointer (some ⟨b, 0, none⟩)] none h D := by
  apply stage_New_1_nil.calls
  exact hD
theorem New_spec {h : Hp} {mq mb n : Nat} {B : List Nat} (m : MS h mq mb n B) {fq fo : Nat} {L : List Int} (f : FTS h fq fo L) {tq pl mp : Nat} {TL : List (Option S)} {nx : Nat} (t : TS h tq pl mp TL nx)
    {vm : Int} (hvm : 1 ≤ vm ∧ vm ≤ 255) (hln : L.length = n) (h0 : (0 : Int) ∈ L) {z : Nat} (hz : z ≤ sz h) :
    CallsH Try.prog 35 [.pointer (some ⟨mq, 0, none⟩), .pointer (some ⟨fq, 0, none⟩), .pointer (some ⟨tq, 0, none⟩), .int .i64 vm] h fun v h' =>
      ∃ r : Nat, v = .tuple #[.pointer (some ⟨sz h + 2, 0, none⟩), .int .i64 0] ∧ L[r]? = some 0 ∧ SP h' ⟨sz h + 2, mq, mb, fq, fo, tq, pl, mp, z⟩ ⟨n, zeroF B r, L.set r 1, TL, nx, vm, r, false, []⟩ ∧ FrL ⟨sz h + 2, mq, mb, fq, fo, tq, pl, mp, z⟩ h h' := by
  refine calls_k fun R hR => ?_
  apply stage_New.calls
  unfold stage_New.P
  intro h1 e1
  have k1 : bk h1 (sz h) = some (blk 34 [.pointer none]) := by rw [e1]; exact new_at _ _
  have f1 : Fr [] h h1 := by rw [e1]; exact Fr.new _ _ _
  have s1 : sz h1 = sz h + 1 := by rw [e1]; exact sz_new _ _
  clear e1
  intro h2 e2
  have k2 : bk h2 (sz h1) = some (blk 29 [.int .i64 0]) := by rw [e2]; exact new_at _ _
  have f2 : Fr [] h1 h2 := by rw [e2]; exact Fr.new _ _ _
  have s2 : sz h2 = sz h + 2 := by rw [e2, sz_new, s1]
  clear e2
  refine ⟨fun c => absurd c (by simp; omega), fun _ => ⟨fun c => absurd c (by simp; omega), fun _ => ?_⟩⟩
  intro h7 e7
  have q7 : bk h7 (sz h2) = some (blk 89 [.pointer (some ⟨mq, 0, none⟩), .pointer (some ⟨fq, 0, none⟩), .pointer (some ⟨tq, 0, none⟩), .int .i64 vm, .int .i64 0, .bool false, .slice none 0 0]) := by rw [e7]; exact new_at _ _
  have f7 : Fr [] h2 h7 := by rw [e7]; exact Fr.new _ _ _
  clear e7
  obtain ⟨y, hy⟩ : ∃ y : Lay, y = ⟨sz h + 2, mq, mb, fq, fo, tq, pl, mp, z⟩ := ⟨_, rfl⟩
  rw [← hy] at hR
  have hyq : y.q = sz h + 2 := by rw [hy]
  have lm := m.ltf
  have lfq := f.lt
  have lfo := f.lto
  have ltq := t.lq
  have lpl := t.lpl
  have lmp := t.lmp
  have out : ∀ x, x = sz h ∨ x = sz h1 → x ∉ y.F := by
    intro x hx hm
    rw [hy] at hm
    simp only [Lay.F, List.mem_cons, List.not_mem_nil, or_false] at hm
    omega
  have c7 := (f2.trans f7).at k1 (by simp)
  have d7 := f7.at k2 (by simp)
  refine ⟨truly_rfl, _, _, c7, by decide, ?_⟩
  intro h8 e8
  have f8 : Fr [sz h] h7 h8 := by rw [e8]; exact Fr.upd (by simp) _ _ _
  have c8 : bk h8 (sz h) = some (blk 34 [.pointer (some ⟨y.q, 0, none⟩)]) := by rw [e8, hyq, ← s2]; exact upd_same c7 _ _
  clear e8
  have f08 : Fr [] h h8 := ((f1.trans f2).trans f7).later f8 (by simp)
  have d8 := f8.at d7 (by simp; omega)
  have q8 := f8.at q7 (by simp; omega)
  rw [s2, ← hyq] at q8
  have w8 : SP h8 y ⟨n, B, L, TL, nx, vm, 0, false, []⟩ := by
    refine ⟨⟨none, 0, ?_, Go.Wd.Own.nil _ _ _, ⟨?_, by simp [foot]⟩⟩, ?_⟩
    · rw [q8, hy]; rfl
    · rw [hy]; exact Nat.le_trans hz f08.size
    · rw [hy]; exact ⟨m.fr f08 (by simp) (by simp), f.fr f08 (by simp) (by simp), t.fr0 f08⟩
  refine ⟨_, (cellAt_of c8 0).trans rfl, _, (cellAt_of c8 0).trans rfl, ?_⟩
  refine (table_spec w8 hln).mono ?_ ?_
  · rintro v h9 ⟨r, hr, rfl, w9, f9⟩
    have c9 := f9.at c8 (out _ (.inl rfl)) (by decide)
    have d9 := f9.at d8 (out _ (.inr rfl)) (by decide)
    obtain ⟨la, lc, e9, o9, z9⟩ := w9.hs
    refine ⟨_, rfl, (cellAt_of c9 0).trans rfl, _, _, rfl, truly_rfl, _, _, e9, by simp [Sp.cells], ?_⟩
    intro h11 e11
    have w11 := w9.g.self e9 (s' := ⟨n, zeroF B r, L.set r 1, TL, nx, vm, r, false, []⟩) (la := la) (lc := lc) ⟨rfl, rfl, rfl, rfl, rfl⟩ o9 z9
    have w11 : SP h11 y ⟨n, zeroF B r, L.set r 1, TL, nx, vm, r, false, []⟩ := by rw [e11]; exact w11
    have f11 : Fr [y.q] h9 h11 := by rw [e11]; exact Fr.upd (by simp) _ _ _
    clear e11
    have c11 := f11.at c9 (by simp; omega)
    have d11 := f11.at d9 (by simp; omega)
    refine ⟨_, (cellAt_of c11 0).trans rfl, truly_rfl, _, _, c11, Nat.le_refl 1, ?_⟩
    intro h12 e12
    have f12 : Fr [sz h] h11 h12 := by rw [e12]; exact Fr.upd (by simp) _ _ _
    have c12 : bk h12 (sz h) = some (blk 34 [.pointer (some ⟨y.q, 0, none⟩)]) := by rw [e12]; exact upd_same c11 _ _
    clear e12
    have d12 := f12.at d11 (by simp; omega)
    refine ⟨truly_rfl, _, _, d12, by decide, ?_⟩
    intro h13 e13
    have f13 : Fr [sz h1] h12 h13 := by rw [e13]; exact Fr.upd (by simp) _ _ _
    have d13 : bk h13 (sz h1) = some (blk 29 [.int .i64 0]) := by rw [e13]; exact upd_same d12 _ _
    clear e13
    have c13 := f13.at c12 (by simp; omega)
    refine New1_nil ?_
    refine ⟨_, (cellAt_of c13 0).trans rfl, _, (cellAt_of d13 0).trans rfl, ?_⟩
    have fl : Fr [sz h, sz h1] h11 h13 := (f12.mono (by simp)).trans (f13.mono (by simp))
    have w13 : SP h13 y ⟨n, zeroF B r, L.set r 1, TL, nx, vm, r, false, []⟩ := by
      obtain ⟨lb, ld, a, o, zz⟩ := w11.hs
      have hne : ∀ {b t : Nat}, ty h11 b = some t → t ≠ 34 → t ≠ 29 → b ∉ [sz h, sz h1] := fun hb ht ht2 => by
        simp only [List.mem_cons, List.not_mem_nil, or_false, not_or]; exact ⟨ty_ne hb (ty_of c11) ht, ty_ne hb (ty_of d11) ht2⟩
      refine ⟨⟨lb, ld, fl.at a (hne (ty_of a) (by decide) (by decide)), o.fr fl (fun x hx => hne (own_ty o x hx) (by decide) (by decide)), zz.fr fl⟩, w11.g.fr fl (fun x hx t ht => ?_)⟩
      simp only [List.mem_cons, List.not_mem_nil, or_false] at hx
      rcases hx with rfl | rfl
      · rw [ty_of c11] at ht; cases ht; decide
      · rw [ty_of d11] at ht; cases ht; decide
    have x13 : FrL y h h13 := (((FrL.of0 f08).trans f9).later f11 (by simp [Lay.F])).later fl (by simp; omega)
    rw [hyq] at *
    exact hR _ _ ⟨r, rfl, hr, w13, x13⟩
  · rintro v h9 ⟨hno, _⟩
    exact absurd h0 hno
end Go.Proofs.Ytmldiibfmhkgjaa
