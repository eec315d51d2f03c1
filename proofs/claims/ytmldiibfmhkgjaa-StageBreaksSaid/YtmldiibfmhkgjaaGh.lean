import Derived.Test.YtmldiibfmhkgjaaGg
namespace Go.Proofs.Ytmldiibfmhkgjaa
open Go Go.Wd
set_option linter.unusedVariables false
set_option linter.unusedSimpArgs false
set_option linter.unnecessarySimpa false

/-! ## what is kept in the TLB -/
def Has (L : List (Option S)) (v p : Int) : Prop := ∃ (k : Nat) (s : S), L[k]? = some (some s) ∧ s.is v p = true
theorem has_find {L : List (Option S)} {v p : Int} (h : Has L v p) : (findL L v p).isSome = true := by
  obtain ⟨k, s, h1, h2⟩ := h
  unfold findL
  cases hat : atK L v p with
  | none => exact absurd (atK_none hat k s h1) (by rw [h2]; decide)
  | some j =>
    obtain ⟨t, ht, _⟩ := atK_some hat
    simp [ht]
theorem fill_len (L : List (Option S)) (nx : Nat) (s : S) : (tfillL L nx s).1.length = L.length := by
  unfold tfillL
  split <;> simp
theorem fill_has {L : List (Option S)} {nx : Nat} (hn : nx < L.length) (s : S) : Has (tfillL L nx s).1 s.vm s.pg := by
  have hs : s.is s.vm s.pg = true := by rw [S.is_iff]; exact ⟨rfl, rfl⟩
  unfold tfillL
  cases h : atK L s.vm s.pg with
  | none => exact ⟨nx, s, by simp [hn], hs⟩
  | some k =>
    obtain ⟨t, ht, _⟩ := atK_some h
    have hk : k < L.length := (List.getElem?_eq_some_iff.1 ht).1
    exact ⟨k, s, by simp [hk], hs⟩
/-- One that is kept stays, where another one is filled in again. -/
theorem fill_stay {L : List (Option S)} {nx : Nat} {s : S} (hh : Has L s.vm s.pg) {v p : Int} (h : Has L v p) (hne : v ≠ s.vm) : Has (tfillL L nx s).1 v p ∧ (tfillL L nx s).2 = nx := by
  obtain ⟨k, t, h1, h2⟩ := h
  unfold tfillL
  cases hat : atK L s.vm s.pg with
  | none =>
    obtain ⟨k', s', h1', h2'⟩ := hh
    exact absurd (atK_none hat k' s' h1') (by rw [h2']; decide)
  | some j =>
    obtain ⟨u, hu, hi⟩ := atK_some hat
    refine ⟨⟨k, t, ?_, h2⟩, rfl⟩
    rw [List.getElem?_set, if_neg]
    · exact h1
    · intro e
      rw [e, h1] at hu
      cases hu
      rw [S.is_iff] at h2 hi
      exact hne (h2.1.symm.trans hi.1)
theorem not_has {L : List (Option S)} {v p : Int} (h : ¬ Has L v p) : atK L v p = none := by
  cases hat : atK L v p with
  | none => rfl
  | some j =>
    obtain ⟨u, hu, hi⟩ := atK_some hat
    exact absurd ⟨j, u, hu, hi⟩ h
/-- Both are kept, behind both were filled in. -/
theorem both_has {L : List (Option S)} {nx : Nat} (hn : nx < L.length) (h8 : 2 ≤ L.length) (s7 s8 : S) (hne : s7.vm ≠ s8.vm) (J : Has L s7.vm s7.pg → Has L s8.vm s8.pg) (hlt : (tfillL L nx s7).2 < (tfillL L nx s7).1.length) :
    Has (tfillL (tfillL L nx s7).1 (tfillL L nx s7).2 s8).1 s7.vm s7.pg ∧ Has (tfillL (tfillL L nx s7).1 (tfillL L nx s7).2 s8).1 s8.vm s8.pg := by
  have has7 := fill_has hn s7
  refine ⟨?_, fill_has hlt s8⟩
  by_cases h7 : Has L s7.vm s7.pg
  · obtain ⟨hk, _⟩ := fill_stay (nx := nx) h7 (J h7) hne.symm
    exact (fill_stay hk has7 hne).1
  · have hat := not_has h7
    have e1 : tfillL L nx s7 = (L.set nx (some s7), (nx + 1) % L.length) := by unfold tfillL; rw [hat]
    rw [e1] at has7 ⊢
    by_cases hc : Has (L.set nx (some s7)) s8.vm s8.pg
    · exact (fill_stay hc has7 hne).1
    · have hat2 := not_has hc
      have e2 : (tfillL (L.set nx (some s7)) ((nx + 1) % L.length) s8).1 = (L.set nx (some s7)).set ((nx + 1) % L.length) (some s8) := by unfold tfillL; rw [hat2]
      show Has (tfillL (L.set nx (some s7)) ((nx + 1) % L.length) s8).1 s7.vm s7.pg
      rw [e2]
      refine ⟨nx, s7, ?_, by rw [S.is_iff]; exact ⟨rfl, rfl⟩⟩
      have hd : (nx + 1) % L.length ≠ nx := by
        by_cases e : nx + 1 = L.length
        · rw [e, Nat.mod_self]; omega
        · rw [Nat.mod_eq_of_lt (by omega)]; omega
      rw [List.getElem?_set, if_neg hd, List.getElem?_set, if_pos rfl, if_pos hn]
theorem drop_has {L : List (Option S)} {v v' p : Int} (h : Has L v p) (hne : v ≠ v') : Has (dropL (fun t => t.vm == v') L) v p := by
  obtain ⟨k, s, h1, h2⟩ := h
  refine ⟨k, s, ?_, h2⟩
  unfold dropL
  rw [List.getElem?_map, h1]
  rw [S.is_iff] at h2
  simp only [Option.map_some, gone]
  rw [if_neg]
  rw [h2.1]
  simpa using hne
theorem dropIf_len (b : Bool) (f : S → Bool) (L : List (Option S)) : (dropIf b f L).length = L.length := by unfold dropIf dropL; split <;> simp
theorem take_any {L : List Dd} {k : Nat} {d : Dd} (h : L[k]? = some d) : (L.take (k + 1)).any isDrop = ((L.take k).any isDrop || isDrop d) := by
  rw [take_one h, List.any_append]; simp
/-- A call, for the log's sake. -/
theorem Done.log {s0 s' : Sp} {A A' : Ab} {T : Nat → Nat} (d : Done s0 A T s' A') (v : Inv s0 A T) : ∃ tk : Option Nat, repl s0.n (tkB s0.B tk, none) s'.lg = some (s'.B, none) ∧ s'.TL = dropIf (s'.lg.any isDrop) (fun t => t.vm == s0.vmid) s0.TL ∧
    tkAll (posOf 1 s0.L) s0.B (posOf 1 s'.L) = tkB s0.B tk := by
  obtain ⟨tk, s1, tr, hs⟩ := d.tr
  have e : s'.B = s1.B ∧ s'.lg = s1.lg ∧ s'.TL = s1.TL := by rcases hs with rfl | ⟨_, i, _, _, rfl⟩ <;> exact ⟨rfl, rfl, rfl⟩
  refine ⟨tk, by rw [e.1, e.2.1]; exact tr.rep, by rw [e.2.1, e.2.2]; exact tr.TL, ?_⟩
  cases tk with
  | none =>
    refine tk_none _ (fun x hx => ?_)
    obtain ⟨f, rfl, hf⟩ := pos_mem hx
    refine pos_in ?_
    rcases hs with rfl | ⟨_, i, _, _, rfl⟩
    · have hL : s'.L = s0.L := tr.L
      rw [← hL]; exact hf
    · have hL : s1.L = s0.L := tr.L
      have hf : (s1.L.set (T i) 0)[f]? = some 1 := hf
      rw [List.getElem?_set] at hf
      split at hf
      · split at hf
        · cases hf
        · cases hf
      · rw [← hL]; exact hf
  | some t =>
    have ht := tr.t0 t rfl
    have hs : s' = s1 := by rcases hs with h | ⟨h, _⟩; exact h; cases h
    have hL : s'.L = s0.L.set t 1 := by rw [hs]; exact tr.L
    have hno : (t : Int) ∉ posOf 1 s0.L := fun hc => by
      obtain ⟨f, hf1, hf⟩ := pos_mem hc
      have : f = t := by omega
      rw [this, ht] at hf; cases hf
    have hin : (t : Int) ∈ posOf 1 s'.L := pos_in (by rw [hL]; exact set_own2 ht)
    rw [tk_some (own_lt ht v.ll) hno _ _ v.bl (fun x hx => ?_), if_pos hin]
    · rfl
    · obtain ⟨f, rfl, hf⟩ := pos_mem hx
      rw [hL, List.getElem?_set] at hf
      split at hf
      · rename_i e; exact .inr (by rw [e])
      · exact .inl (pos_in hf)
theorem Wo.clone {h0 h h' : Hp} {b : Nat} {y : Lay} {s : Sp} {c : Nat} (w : Wo h0 h b y s) (f : Fr [c] h h') (hc : ty h c = some 113) (hm : c ≠ y.mb) (h0c : sz h0 ≤ c) : Wo h0 h' b y s := by
  have ne : ∀ {b t : Nat}, ty h b = some t → t ≠ 113 → b ∉ [c] := fun hb ht => by simp only [List.mem_singleton]; exact ty_ne hb hc ht
  obtain ⟨la, lc, e, o, z⟩ := w.sp.hs
  have g := w.sp.g
  refine ⟨f.at w.wb (ne (ty_of w.wb) (by decide)), ⟨⟨la, lc, f.at e (ne (ty_of e) (by decide)), o.fr f (fun x hx => ne (own_ty o x hx) (by decide)), z.fr f⟩, g.m.fr f (ne g.ty_mq (by decide)) (by simpa using hm.symm), g.f.fr f (ne g.ty_fq (by decide)) (ne g.ty_fo (by decide)), g.t.fr f (ne g.ty_tq (by decide)) (ne g.ty_pl (by decide)) (ne g.ty_mp (by decide)) ?_⟩, w.F, w.lb, w.z, w.fr.later f (by simpa using h0c)⟩
  intro x hx T l hb
  simp only [List.mem_singleton] at hx
  have := ty_of hb
  rw [hx, hc] at this
  cases this
  decide
theorem Breaks_walk {h : Hp} (n a : Int) {ra : Option Addr} {calls : List Cl} {rc : Nat} (row : rowAtK h ra (encL Cl.cells calls)) :
    CallsH Try.prog 6 [.int .i64 n, .int .i64 a, .slice ra calls.length rc] h fun v h' => v = .bool true ∧ Fr [] h h' := by
  refine calls_k fun R hR => ?_
  apply warderlaw11_StageBreaks.calls
  unfold warderlaw11_StageBreaks.P
  refine alive_spec.mono ?_
  rintro v h2 ⟨rfl, f2⟩
  refine ⟨_, rfl, fun c => (by cases c), fun _ => ?_⟩
  refine (great_spec n a _ _ _).mono ?_
  rintro v h3 ⟨rfl, hh⟩
  rw [hh]; clear hh h3
  refine ⟨_, rfl, fun _ => hR _ _ ⟨rfl, f2⟩, fun cg => ?_⟩
  obtain ⟨m, k, rfl, rfl, hm1, hm, hk, hl⟩ := great_no11 cg
  refine (Begin_spec hm1 hm hk).mono ?_
  rintro v h3 ⟨b, y, s, rfl, w3, i3⟩
  have w3 := w3.back f2
  refine ⟨_, rfl, fun c => absurd c (by simp [notIf]), fun _ => ?_⟩
  have J0 : Has s.TL 7 1 → Has s.TL 8 1 := by
    rw [i3.TL]
    rintro ⟨k, t, h1, _⟩
    rw [List.getElem?_replicate] at h1
    split at h1 <;> cases h1
  refine ⟨fun i h4 => ∃ (j : Nat) (s : Sp) (A : Ab) (T : Nat → Nat), i = (j : Int) ∧ j ≤ calls.length ∧ Wo h h4 b y s ∧ Liv s A T m (m - k - 1) ∧ s.TL.length = 8 ∧ (Has s.TL 7 1 → Has s.TL 8 1), fun i _ => calls.length - i.toNat, ⟨0, s, _, _, rfl, by omega, w3, i3.lv, by rw [i3.TL]; simp, J0⟩, ?_⟩
  rintro i h4 ⟨j, s, A, T, rfl, hj, w4, l4, hT8, J⟩
  refine ⟨fun c => ?_, fun c => hR _ _ ⟨rfl, w4.fr⟩⟩
  have hj1 : j < calls.length := lt_cast c
  obtain ⟨cl, hcl⟩ : ∃ cl, calls[j]? = some cl := ⟨_, List.getElem?_eq_getElem hj1⟩
  have lF := w4.sp.ltF
  have hn := l4.inv.hn
  refine ⟨_, _, rfl, _, w4.cmem, ?_⟩
  refine (Clone_spec w4.sp.g.m).mono ?_
  rintro v h5 ⟨cq, cb, rfl, m5, hq, hb, f5⟩
  have w5 := w4.fr0 f5
  refine ⟨_, rfl, _, _, rfl, _, w5.cfr, ?_⟩
  refine (List_spec w5.sp.g.f 1).mono ?_
  rintro v h6 ⟨oa, oc, rfl, ro6, fo6, f6⟩
  have w6 := w5.fr0 f6
  have m6 := m5.fr f6 (by simp) (by simp)
  have lcq := m5.lt
  have lcb := m5.ltf
  refine ⟨_, _, _, rfl, _, _, rfl, _, w6.ctlb, ?_⟩
  have out : ∀ {x : Nat}, sz h4 ≤ x → x ∉ y.F := fun hx hm => by have := lF _ hm; omega
  have outT : ∀ {x : Nat}, sz h4 ≤ x → x ∉ [y.tq, y.pl, y.mp] := fun hx hm => out hx (by
    simp only [List.mem_cons, List.not_mem_nil, or_false] at hm
    simp only [Lay.F, List.mem_cons, List.not_mem_nil, or_false]
    rcases hm with e | e | e
    · exact .inr (.inr (.inr (.inr (.inl e))))
    · exact .inr (.inr (.inr (.inr (.inr (.inl e)))))
    · exact .inr (.inr (.inr (.inr (.inr (.inr e))))))
  have s54 := f5.size
  refine (TFill_spec w6.sp.g.t ⟨7, 1, 0, false, false⟩).mono ?_
  rintro v h7 ⟨rfl, t7, f7⟩
  have w7 := w6.go (w6.sp.tw f7 t7) (FrL.of f7 (by simp [Lay.F]))
  refine ⟨rfl, _, _, rfl, _, w7.ctlb, ?_⟩
  refine (TFill_spec w7.sp.g.t ⟨8, 1, 0, false, false⟩).mono ?_
  rintro v h8 ⟨rfl, t8, f8⟩
  have w8 := w7.go (w7.sp.tw f8 t8) (FrL.of f8 (by simp [Lay.F]))
  have l8 := (l4.tl (tfillL s.TL s.nx ⟨7, 1, 0, false, false⟩).1 (tfillL s.TL s.nx ⟨7, 1, 0, false, false⟩).2).tl (tfillL (tfillL s.TL s.nx ⟨7, 1, 0, false, false⟩).1 (tfillL s.TL s.nx ⟨7, 1, 0, false, false⟩).2 ⟨8, 1, 0, false, false⟩).1 (tfillL (tfillL s.TL s.nx ⟨7, 1, 0, false, false⟩).1 (tfillL s.TL s.nx ⟨7, 1, 0, false, false⟩).2 ⟨8, 1, 0, false, false⟩).2
  have hboth := both_has w4.sp.g.t.lt (by omega) ⟨7, 1, 0, false, false⟩ ⟨8, 1, 0, false, false⟩ (by decide) J t7.lt
  have hlen8 : (tfillL (tfillL s.TL s.nx ⟨7, 1, 0, false, false⟩).1 (tfillL s.TL s.nx ⟨7, 1, 0, false, false⟩).2 ⟨8, 1, 0, false, false⟩).1.length = 8 := by rw [fill_len, fill_len]; exact hT8
  generalize hTL : (tfillL (tfillL s.TL s.nx ⟨7, 1, 0, false, false⟩).1 (tfillL s.TL s.nx ⟨7, 1, 0, false, false⟩).2 ⟨8, 1, 0, false, false⟩).1 = TL at *
  generalize (tfillL (tfillL s.TL s.nx ⟨7, 1, 0, false, false⟩).1 (tfillL s.TL s.nx ⟨7, 1, 0, false, false⟩).2 ⟨8, 1, 0, false, false⟩).2 = nx at *
  obtain ⟨hh7, hh8⟩ := hboth
  have w8 : Wo h h8 b y { s with TL := TL, nx := nx } := w8
  have l8 : Liv { s with TL := TL, nx := nx } A T m (m - k - 1) := l8
  obtain ⟨s8, hs8⟩ : ∃ s8 : Sp, s8 = { s with TL := TL, nx := nx } := ⟨_, rfl⟩
  rw [← hs8] at w8 l8
  have e8 : s8.n = s.n ∧ s8.B = s.B ∧ s8.L = s.L ∧ s8.TL = TL := by rw [hs8]; exact ⟨rfl, rfl, rfl, rfl⟩
  have f68 : Fr [y.tq, y.pl, y.mp] h6 h8 := f7.trans f8
  have m8 := m6.fr f68 (outT hq) (outT hb)
  have ro8 := ro6.fr f68 (fun x hx => outT (by have := (fo6 x hx).1; omega))
  refine ⟨rfl, _, _, rfl, _, w8.csp, by omega, by omega, ?_⟩
  refine row_call (row.fr w8.fr (by simp)) hcl (fun b' o' => ?_)
  refine (Do_spec w8.sp l8.hv cl).mono ?_
  rintro v h9 ⟨e, s9, rfl, p9, f9, r9⟩
  have w9 := w8.go p9 (.ofF f9)
  obtain ⟨he, dn, hbad, T9, l9⟩ := l8.step r9
  obtain ⟨tk, hrep, hTLs, htk⟩ := dn.log l8.inv.nil
  have m9 := m8.fr f9 (out hq) (out hb)
  have ro9 := ro8.fr f9 (fun x hx => out (by have := (fo6 x hx).1; omega))
  have hn9 : s9.n = s.n := (l9.n).trans l4.n.symm
  have hlg := dn.lgl
  have htk : tkAll (posOf 1 s.L) s.B (posOf 1 s9.L) = tkB s.B tk := by rw [← e8.2.1, ← e8.2.2.1]; exact htk
  have hrep : repl s.n (tkB s.B tk, none) s9.lg = some (s9.B, none) := by rw [← e8.1, ← e8.2.1]; exact hrep
  have hvm : s8.vmid = 7 := l8.vm
  have hTLs : s9.TL = dropIf (s9.lg.any isDrop) (fun t => t.vm == 7) TL := by
    have : s9.TL = dropIf (s9.lg.any isDrop) (fun t => t.vm == s8.vmid) s8.TL := hTLs
    rw [this, hvm, e8.2.2.2]
  refine ⟨_, rfl, _, _, rfl, _, w9.csp, ?_⟩
  refine (Log_spec w9.sp (by omega)).mono ?_
  rintro v h10 ⟨ga, gc, rfl, rg10, fg10, f10⟩
  have w10 := w9.fr0 f10
  have m10 := m9.fr f10 (by simp) (by simp)
  have ro10 := ro9.fr f10 (by simp)
  have sz9 := (f68.trans (Fr.refl _ _)).size
  refine ⟨_, _, _, rfl, fun h12 => Fr [] h10 h12, ⟨fun ce => ?_, fun _ => Fr.refl _ _⟩, ?_⟩
  · have he0 : e ≠ 0 := by intro h0; rw [h0] at ce; simp at ce
    have hs9 := hbad he0
    have hl0 : s9.lg = [] := by rw [hs9]
    have hB : s9.B = s.B := by rw [hs9, ← e8.2.1]
    refine ⟨fun c1 => by rw [hl0] at c1; simp at c1, fun _ => ⟨_, _, rfl, _, w10.cmem, ?_⟩⟩
    have md : MS h10 y.mq y.mb s.n s9.B := by rw [← hn9]; exact w10.sp.g.m
    refine (Differ_spec md m10).mono ?_
    rw [hB, diffs_same]
    rintro v h11 ⟨da, dc, rfl, _, _, f11⟩
    exact ⟨_, _, _, rfl, fun c1 => by simp at c1, fun _ => f11⟩
  intro h12 f12
  have w12 := w10.fr0 f12
  have m12 := m10.fr f12 (by simp) (by simp)
  have ro12 := ro10.fr f12 (by simp)
  have rg12 := rg10.fr f12 (by simp)
  refine ⟨_, _, rfl, _, w12.cfr, ?_⟩
  refine (List_spec w12.sp.g.f 1).mono ?_
  rintro v h13 ⟨na, nc, rfl, rn13, fn13, f13⟩
  have w13 := w12.fr0 f13
  have m13 := m12.fr f13 (by simp) (by simp)
  have ro13 := ro12.fr f13 (by simp)
  have rg13 := rg12.fr f13 (by simp)
  have big : sz h5 ≤ sz h12 := Nat.le_trans (Nat.le_trans (Nat.le_trans f6.size f68.size) f9.size) (f10.trans f12).size
  have big9 : sz h5 ≤ sz h9 := Nat.le_trans (Nat.le_trans f6.size f68.size) f9.size
  refine ⟨_, _, _, rfl, ?_⟩
  refine (taken_spec m13 ro13 rn13 (fun hx => by have := (fo6 _ hx).1; omega) (fun hx => by have := (fn13 _ hx).1; omega) (fun x hx => ?_) (posOf_le l4.inv.ll hn.2) (posOf_le l9.inv.ll (by rw [hn9]; exact hn.2))).mono ?_
  · obtain ⟨f, rfl, hf⟩ := pos_mem hx
    exact ⟨f, rfl, by rw [← hn9]; exact own_lt hf l9.inv.ll⟩
  rw [htk]
  rintro v h14 ⟨rfl, m14, f14⟩
  have hbm : cb ≠ y.mb := fun e => out hb (by rw [e]; simp [Lay.F])
  have tyc : ∀ {h' : Hp} {B : List Nat}, MS h' cq cb s.n B → ty h' cb = some 113 := fun m => by obtain ⟨t, e⟩ := m.arr; exact ty_of e.hq
  have h0c : sz h ≤ cb := Nat.le_trans w4.fr.size hb
  have w14 := w13.clone f14 (tyc m13) hbm h0c
  have rg14 := rg13.fr f14 (fun x hx => by have := (fg10 x hx).1; simp only [List.mem_singleton]; omega)
  refine ⟨rfl, fun h17 => Wo h h17 b y s9 ∧ rowAtK h17 ga (encL Dd.cells s9.lg), ?_, ?_⟩
  · refine (replay_spec m14 rg14 (fun hx => by have := (fg10 _ hx).1; omega) (by omega) hrep).mono ?_
    rintro v h15 ⟨rfl, m15, f15⟩
    have w15 := w14.clone f15 (tyc m14) hbm h0c
    have rg15 := rg14.fr f15 (fun x hx => by have := (fg10 x hx).1; simp only [List.mem_singleton]; omega)
    refine ⟨_, rfl, fun c1 => (by cases c1), fun _ => ⟨_, _, rfl, _, w15.cmem, ?_⟩⟩
    have md : MS h15 y.mq y.mb s.n s9.B := by rw [← hn9]; exact w15.sp.g.m
    refine (Differ_spec m15 md).mono ?_
    rw [diffs_same]
    rintro v h16 ⟨da, dc, rfl, _, _, f16⟩
    exact ⟨_, _, _, rfl, fun c1 => by simp at c1, fun _ => ⟨w15.fr0 f16, rg15.fr f16 (by simp)⟩⟩
  rintro h17 ⟨w17, rg17⟩
  refine ⟨fun d k h18 => ∃ l : Nat, k = (l : Int) ∧ l ≤ s9.lg.length ∧ d = (s9.lg.take l).any isDrop ∧ h18 = h17, fun _ k _ => s9.lg.length - k.toNat, ⟨0, rfl, by omega, by simp, rfl⟩, ?_⟩
  rintro d k h18 ⟨l, rfl, hl1, hd, hh⟩
  rw [hh]; clear hh h18
  refine ⟨fun c1 => ?_, fun c1 => ?_⟩
  · have hl2 : l < s9.lg.length := lt_cast c1
    obtain ⟨x, hx⟩ : ∃ x, s9.lg[l]? = some x := ⟨_, List.getElem?_eq_getElem hl2⟩
    have hnx := take_any hx
    rw [wrapN hl2 (by omega)]
    refine ⟨fun c2 => ⟨⟨l + 1, rfl, hl2, ?_, rfl⟩, decM hl2⟩, fun c2 => ?_⟩
    · rw [hnx, ← hd, c2]; rfl
    · obtain ⟨gb, go, rfl, eg⟩ := encL_one Dd.len rg17 hx (by decide)
      have ck : cellAt h17 gb (go + ((l : Nat) : Int).toNat * 3) = some (.int .i64 x.kind) := by rw [Int.toNat_natCast]; exact (eg 0 (by decide)).trans rfl
      refine ⟨by omega, by omega, _, _, rfl, _, ck, ⟨l + 1, rfl, hl2, ?_, rfl⟩, decM hl2⟩
      rw [hnx, ← hd, c2]; rfl
  have hl2 : l = s9.lg.length := Nat.le_antisymm hl1 (ge_cast c1)
  subst hl2
  rw [List.take_length] at hd
  refine ⟨_, _, rfl, _, w17.ctlb, ?_⟩
  have hfind7 : (findL s9.TL 7 1).isSome = !d := by
    rw [hTLs, ← hd]
    cases d with
    | true =>
      show (findL (dropL (fun t => t.vm == 7) TL) 7 1).isSome = false
      rw [find_drop]; rfl
    | false => exact has_find hh7
  have hhas8 : Has s9.TL 8 1 := by
    rw [hTLs, ← hd]
    cases d with
    | true => exact drop_has hh8 (by decide)
    | false => exact hh8
  refine (TFind_spec w17.sp.g.t 7 1).mono ?_
  rw [hfind7]
  rintro v h19 ⟨rfl, f19⟩
  have w19 := w17.fr0 f19
  refine ⟨_, _, _, _, _, _, rfl, ?_⟩
  refine put_local rfl (by decide) ?_
  intro h21 _ f21 _
  have w21 := w19.fr0 f21
  refine ⟨_, _, rfl, _, w21.ctlb, ?_⟩
  refine (TFind_spec w21.sp.g.t 8 1).mono ?_
  rw [has_find hhas8]
  rintro v h22 ⟨rfl, f22⟩
  have w22 := w21.fr0 f22
  refine ⟨_, _, _, _, _, _, rfl, ?_⟩
  refine put_local rfl (by decide) ?_
  intro h24 _ f24 _
  have w24 := w22.fr0 f24
  refine ⟨fun c2 => by cases d <;> simp [notIf] at c2, fun _ => ⟨fun c2 => (by cases c2), fun _ => ?_⟩⟩
  rw [wrapN hj1 (by omega)]
  refine ⟨⟨j + 1, s9, _, T9, rfl, hj1, w24, l9, ?_, fun _ => hhas8⟩, decM hj1⟩
  rw [hTLs, dropIf_len]; exact hlen8
end Go.Proofs.Ytmldiibfmhkgjaa
