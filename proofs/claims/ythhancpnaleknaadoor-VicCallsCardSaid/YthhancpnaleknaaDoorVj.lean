import Derived.Test.YthhancpnaleknaaDoorVi
namespace Go.Proofs.YthhancpnaleknaaDoor
open Go Go.Wd
set_option linter.unusedVariables false
set_option linter.unusedSimpArgs false

/-- The lines, of which just those of T are taken. -/
def LS (ps : List Int) (T : List Nat) (L : List Ln) : Prop := ∀ (i : Nat) (y : Ln), L[i]? = some y → y.en = true ∧ y.pe = false ∧ y.ac = decide (i ∈ T) ∧ ps[i]? = some y.pr
structure Stk (h0 h : Hp) (q : Nat) (ps : List Int) (T : List Nat) (L : List Ln) (ta : Option Addr) (tc : Nat) (least : Int) : Prop where
  sv : Sv h0 h q L 16
  own : Own h 3 1 ta T.length tc (encL iN (T.map Int.ofNat))
  fo : ∀ x ∈ foot ta, sz h0 ≤ x ∧ x ≠ q
  ls : LS ps T L
  nd : T.Nodup
  lt : ∀ t ∈ T, t < 16
  lm : least ≤ 16
  lp : ∀ t ∈ T, ∀ p, ps[t]? = some p → least ≤ p
section
variable {h0 h h' : Hp} {q : Nat} {ps : List Int} {T : List Nat} {L : List Ln} {ta : Option Addr} {tc : Nat} {least : Int}
theorem Stk.fr (w : Stk h0 h q ps T L ta tc least) (k : Fr [] h h') : Stk h0 h' q ps T L ta tc least :=
  ⟨w.sv.fr k, w.own.fr k (by simp), w.fo, w.ls, w.nd, w.lt, w.lm, w.lp⟩
theorem LS.calm (w : LS ps T L) : IsNext L 16 (-1) := .inl ⟨rfl, fun i y hy hc => by
  have := (w i y hy).2.1
  simp [cand, this] at hc⟩
theorem LS.next {t : Nat} {y : Ln} (pr : Pr L) (w : LS ps T L) (hy : L[t]? = some y) (ht : t ∉ T) (lp : ∀ t ∈ T, ∀ p, ps[t]? = some p → least ≤ p) (hl : y.pr < least) : IsNext (upL L t (Ln.sPe · true)) 16 t := by
  have hat : ∀ (i : Nat) (z : Ln), (upL L t (Ln.sPe · true))[i]? = some z → (i = t ∧ z = y.sPe true) ∨ (i ≠ t ∧ L[i]? = some z) := by
    intro i z hz
    rw [upL_at] at hz
    by_cases e : t = i
    · rw [if_pos e, ← e, hy] at hz; cases hz; exact .inl ⟨e.symm, rfl⟩
    · rw [if_neg e] at hz; exact .inr ⟨fun h => e h.symm, hz⟩
  have hw := w t y hy
  refine .inr ⟨t, y.sPe true, rfl, by rw [upL_at, if_pos rfl, hy]; rfl, ?_, ⟨?_, fun j z hz hac => ?_⟩, fun i z hz hc => ?_⟩
  · simp [cand, Ln.sPe, hw.1, hw.2.2.1, ht]
  · have := pr.at hy
    show y.pr < 16
    omega
  · rcases hat j z hz with ⟨_, rfl⟩ | ⟨_, hz⟩
    · have h1 : y.ac = true := hac
      rw [hw.2.2.1] at h1; simp [ht] at h1
    · have hj := w j z hz
      rw [hj.2.2.1] at hac
      have := lp j (by simpa using hac) _ hj.2.2.2
      show y.pr < z.pr
      omega
  · rcases hat i z hz with ⟨rfl, rfl⟩ | ⟨_, hz⟩
    · exact ⟨Int.le_refl _, fun h => by omega⟩
    · have := (w i z hz).2.1
      simp [cand, this] at hc
theorem LS.take {t : Nat} (w : LS ps T L) : LS ps (T ++ [t]) (upL (upL (upL L t (Ln.sPe · true)) t (Ln.sAc · true)) t (Ln.sPe · false)) := by
  rw [upL_upL, upL_upL]
  intro i z hz
  rw [upL_at] at hz
  by_cases e : t = i
  · rw [if_pos e] at hz
    obtain ⟨y, hy, rfl⟩ := Option.map_eq_some_iff.1 hz
    have := w i y hy
    exact ⟨this.1, rfl, by simp [Ln.sPe, Ln.sAc, e], this.2.2.2⟩
  · rw [if_neg e] at hz
    have := w i z hz
    refine ⟨this.1, this.2.1, ?_, this.2.2.2⟩
    rw [this.2.2.1]
    have e' : ¬ i = t := fun h => e h.symm
    exact decide_eq_decide.2 (by simp [e'])
theorem LS.end {t : Nat} {r : List Nat} (w : LS ps (t :: r) L) (hn : t ∉ r) : LS ps r (upL L t (Ln.sAc · false)) := by
  intro i z hz
  rw [upL_at] at hz
  by_cases e : t = i
  · rw [if_pos e] at hz
    obtain ⟨y, hy, rfl⟩ := Option.map_eq_some_iff.1 hz
    have := w i y hy
    exact ⟨this.1, this.2.1, by simp [Ln.sAc, ← e, hn], this.2.2.2⟩
  · rw [if_neg e] at hz
    have := w i z hz
    refine ⟨this.1, this.2.1, ?_, this.2.2.2⟩
    rw [this.2.2.1]
    have e' : ¬ i = t := fun h => e h.symm
    exact decide_eq_decide.2 (by simp [e'])
end
theorem Sv.frF {h0 h h' : Hp} {q : Nat} {L : List Ln} {m : Int} {F : List Nat} (w : Sv h0 h q L m) (z : 0 < sz h0) (k : Fr F h h') (hF : ∀ x ∈ F, sz h0 ≤ x ∧ x ≠ q) : Sv h0 h' q L m :=
  ⟨w.v.fr k (fun hx => (hF _ hx).2 rfl) (fun hx => by have := (hF _ hx).1; omega), w.f.fresh k fun x hx => .inr (hF x hx).1, w.g⟩
theorem foot_nil {ta : Option Addr} (h : ∀ x ∈ foot ta, False) : ta = none := by
  cases ta with
  | none => rfl
  | some p => exact (h p.block (by simp [foot])).elim

set_option maxHeartbeats 4000000 in
theorem stack_spec {h : Hp} (tab : Tab h) {a1 a2 : Option Addr} {c1 c2 : Nat} {os ps : List Int} (g1 : rowAtK h a1 (encL iN os)) (g2 : rowAtK h a2 (encL iN ps)) :
    CallsH Tryd.prog 3 [.slice a1 os.length c1, .slice a2 ps.length c2] h fun v h' => v = .bool true ∧ Fr [] h h' := by
  refine calls_k fun R hR => ?_
  apply warderlaw20_VicStack.calls
  unfold warderlaw20_VicStack.P
  refine (alive_spec tab).mono ?_
  rintro v h1 ⟨rfl, f1⟩
  have yes := hR _ _ ⟨rfl, f1⟩
  refine ⟨_, rfl, by simp, fun _ => ⟨fun h2 => h2 = h1 ∧ os.length ≤ 16 ∧ ps.length = 16, ⟨fun _ => yes, fun c1 => ⟨fun _ => yes, fun c2 => ⟨rfl, ?_, ?_⟩⟩⟩, ?_⟩⟩
  · have : (os.length : Int) ≤ 16 := by simpa using c1
    omega
  · have : (ps.length : Int) = 16 := by simpa using c2
    omega
  clear yes
  rintro h2 ⟨rfl, hos, hps⟩
  refine (New_spec (tab.fr f1 (by simp))).mono ?_
  rintro v h3 ⟨rfl, w3, f3, s3⟩
  have z0 : 0 < sz h := lt_of_cell (tab 0 (by decide))
  have z1 := f1.size
  have sv3 : Sv h h3 (sz h2) newL 16 := ⟨w3, f1.trans f3, z1⟩
  clear w3
  generalize sz h2 = q at *
  refine ⟨_, rfl, ?_⟩
  refine ⟨fun n h4 => ∃ (k : Nat) (L : List Ln), n = k ∧ k ≤ 16 ∧ Sv h h4 q L 16 ∧ (∀ (i : Nat) (y : Ln), L[i]? = some y → y.pe = false ∧ y.ac = false ∧ (i < k → y.en = true ∧ ps[i]? = some y.pr)), fun n _ => 16 - n.toNat,
    ⟨0, newL, rfl, by omega, sv3, fun i y hy => ?_⟩, ?_⟩
  · have := List.mem_of_getElem? hy
    simp [newL] at this
    subst this
    exact ⟨rfl, rfl, fun h => by omega⟩
  rintro n h4 ⟨k, L, rfl, hk, sv4, hL⟩
  refine ⟨fun hc => ?_, fun hc => ?_⟩
  · have hk : k < 16 := by simp only [decide_eq_true_eq] at hc; omega
    obtain ⟨p, hp⟩ : ∃ p, ps[k]? = some p := ⟨_, List.getElem?_eq_getElem (by omega)⟩
    obtain ⟨b, o, rfl, e⟩ := encL_one iN_len (g2.fr sv4.f (by simp)) hp (by omega)
    rw [Int.toNat_natCast, wrapN hk (by omega)]
    refine ⟨fun h5 => h5 = h4 ∧ 0 ≤ p ∧ p ≤ 15, ⟨by omega, by omega, b, o, rfl, p, e 0 (by omega), fun _ => hR _ _ ⟨rfl, sv4.f⟩, fun d1 => ⟨by omega, by omega, b, o, rfl, p, e 0 (by omega), fun _ => hR _ _ ⟨rfl, sv4.f⟩, fun d2 => ⟨rfl, ?_, ?_⟩⟩⟩, ?_⟩
    · simpa using d1
    · simpa using d2
    rintro h5 ⟨rfl, p0, p1⟩
    have ht : thereB (k : Int) = true := by simp [thereB]; omega
    refine (Enable_spec sv4.v (k : Int) true).mono ?_
    rw [ht, if_pos rfl, if_pos rfl, Int.toNat_natCast]
    rintro v h6 ⟨rfl, v6, f6⟩
    have sv6 := sv4.step v6 f6
    obtain ⟨b', o', he, e⟩ := encL_one iN_len (g2.fr sv6.f (by simp)) hp (by omega)
    cases he
    refine ⟨_, rfl, by omega, by omega, b, o, rfl, p, e 0 (by omega), ?_⟩
    refine (Prio_spec sv6.v (k : Int) p).mono ?_
    rw [ht, decide_eq_true p0, decide_eq_true p1, Int.toNat_natCast]
    rintro v h7 ⟨rfl, v7, f7⟩
    have sv7 := sv6.step v7 f7
    refine ⟨_, rfl, ⟨k + 1, _, rfl, by omega, sv7, fun i y hy => ?_⟩, decM hk⟩
    rw [if_pos (show (true && true && true) = true from rfl), upL_upL, upL_at] at hy
    by_cases ek : k = i
    · rw [if_pos ek] at hy
      obtain ⟨y', hy', rfl⟩ := Option.map_eq_some_iff.1 hy
      have := hL i y' hy'
      exact ⟨this.1, this.2.1, fun _ => ⟨rfl, by rw [← ek]; exact hp⟩⟩
    · rw [if_neg ek] at hy
      have := hL i y hy
      exact ⟨this.1, this.2.1, fun hi => this.2.2 (by omega)⟩
  have hk : k = 16 := by simp only [decide_eq_false_iff_not] at hc; omega
  subst hk
  have ls : LS ps [] L := fun i y hy => by
    have := hL i y hy
    have h3 := this.2.2 (sv4.v.pr.lt hy)
    exact ⟨h3.1, this.1, by rw [this.2.1]; rfl, h3.2⟩
  intro h8 e8
  have k8 : bk h8 (sz h4) = some (blk 3 []) := by rw [e8]; exact new_at _ _
  have f8 : Fr [] h4 h8 := by rw [e8]; exact Fr.new _ _ _
  clear e8 hL
  have lq := sv4.v.lt
  have l4 := sv4.f.size
  refine ⟨fun ta tl tc least i h9 => ∃ (k : Nat) (T : List Nat) (L : List Ln), i = k ∧ k ≤ os.length ∧ T.length ≤ k ∧ tl = T.length ∧ Stk h h9 q ps T L ta tc least, fun _ _ _ _ i _ => os.length - i.toNat,
    ⟨0, [], L, rfl, by omega, by simp, rfl, ⟨sv4.fr f8, ⟨rfl, .inr ⟨sz h4, [], rfl, k8, rfl, by simp⟩⟩, fun x hx => ?_, ls, List.nodup_nil, by simp, by omega, by simp⟩⟩, ?_⟩
  · simp [foot] at hx; omega
  clear sv4 ls k8 f8 lq l4 hc
  rintro ta tl tc least i h9 ⟨k, T, L, rfl, hk, hTk, rfl, s9⟩
  refine ⟨fun hc => ?_, fun hc => ?_⟩
  · have hk : k < os.length := by simpa using hc
    obtain ⟨x, hx⟩ : ∃ x, os[k]? = some x := ⟨_, List.getElem?_eq_getElem hk⟩
    obtain ⟨b, o, rfl, e⟩ := encL_one iN_len (g1.fr s9.sv.f (by simp)) hx (by omega)
    rw [Int.toNat_natCast, wrapN hk (by omega)]
    have next : ∀ {hh : Hp}, Stk h hh q ps T L ta tc least → (∃ (k2 : Nat) (T2 : List Nat) (L2 : List Ln), ((k + 1 : Nat) : Int) = k2 ∧ k2 ≤ os.length ∧ T2.length ≤ k2 ∧ T.length = T2.length ∧ Stk h hh q ps T2 L2 ta tc least) ∧ os.length - ((k + 1 : Nat) : Int).toNat < os.length - (k : Int).toNat :=
      fun s => ⟨⟨k + 1, T, L, rfl, by omega, by omega, rfl, s⟩, decM hk⟩
    refine ⟨by omega, by omega, b, o, rfl, x, e 0 (by omega), ?_⟩
    refine ⟨fun h11 => ∃ (t : Nat) (y : Ln), x = t ∧ t < 16 ∧ t ∉ T ∧ L[t]? = some y ∧ y.pr < least ∧ Stk h h11 q ps T L ta tc least, ⟨fun _ => next s9, fun d1 => ⟨fun _ => next s9, fun d2 => ?_⟩⟩, ?_⟩
    · have d1 : 0 ≤ x := by simpa using d1
      have d2 : x ≤ 15 := by simpa using d2
      obtain ⟨t, rfl⟩ : ∃ t : Nat, x = t := ⟨x.toNat, by omega⟩
      have ht : t < 16 := by omega
      obtain ⟨y, hy⟩ := s9.sv.v.pr.get ht
      have hl := s9.ls t y hy
      refine (Get_spec s9.sv.v (t : Int)).mono ?_
      rw [atL_nat ht hy]
      rintro v h10 ⟨rfl, f10⟩
      have s10 := s9.fr f10
      obtain ⟨b2, o2, rfl, e2⟩ := encL_one iN_len (g2.fr s10.sv.f (by simp)) hl.2.2.2 (by omega)
      refine ⟨_, _, _, _, rfl, fun _ => next s10, fun d3 => ⟨by omega, by omega, b2, o2, rfl, _, e2 0 (by omega), fun _ => next s10, fun d4 => ⟨t, y, rfl, ht, ?_, hy, ?_, s10⟩⟩⟩
      · rw [hl.2.2.1] at d3; simpa using d3
      · simpa using d4
    rintro h11 ⟨t, y, rfl, ht, htT, hy, hlt, s11⟩
    have hth : thereB (t : Int) = true := by simp [thereB]; omega
    have hly := s11.ls t y hy
    refine (Raise_spec s11.sv.v (t : Int)).mono ?_
    rw [hth, if_pos rfl, Int.toNat_natCast]
    rintro v h12 ⟨rfl, v12, f12⟩
    have sv12 := s11.sv.step v12 f12
    refine ⟨_, rfl, ?_⟩
    refine (Take_spec sv12.v).mono ?_
    rintro v h13 ⟨b', rfl, hN, v13, f13⟩
    obtain rfl := hN.uniq (s11.ls.next s11.sv.v.pr hy htT s11.lp hlt)
    rw [takeL_nat] at v13
    have sv13 := sv12.step v13 f13
    have nq : ∀ x ∈ foot ta, x ∉ [q] := fun x hx hm => (s11.fo x hx).2 (by simpa using hm)
    have o13 := (s11.own.fr f12 nq).fr f13 nq
    refine ⟨_, _, rfl, fun h14 => h14 = h13, ⟨by simp, fun _ => ⟨by simp, fun _ => rfl⟩⟩, ?_⟩
    rintro h14 rfl
    intro h15 e15
    have hlT := s11.sv.v.lt
    have hq13 := sv13.v.lt
    refine append_new (h0 := h) (F := []) o13 rfl sv13.f (fun x hx => .inr (s11.fo x hx).1) rfl rfl e15 (by omega) (by omega) ?_
    intro a' c' h16 o16 f16 hf16 fr16 ha16
    have sv16 := sv13.frF z0 fr16 s11.fo
    obtain ⟨b2, o2, rfl, e2⟩ := encL_one iN_len (g2.fr f16 (by simp)) hly.2.2.2 (by omega)
    refine ⟨by omega, by omega, b2, o2, rfl, _, e2 0 (by omega), ?_⟩
    refine (Take_spec sv16.v).mono ?_
    rintro v h17 ⟨b', rfl, hN', v17, f17⟩
    obtain rfl := hN'.uniq (s11.ls.take (t := t)).calm
    rw [takeL_no] at v17
    have sv17 := sv16.step v17 f17
    have fo' : ∀ x ∈ foot a', sz h ≤ x ∧ x ≠ q := by
      intro x hx
      rcases ha16 with rfl | hge
      · exact s11.fo x hx
      · have := hge x hx
        have := sv13.f.size
        exact ⟨by omega, by omega⟩
    refine ⟨_, _, rfl, by simp, fun _ => ⟨⟨k + 1, T ++ [t], _, rfl, by omega, by simp; omega, by simp, ⟨sv17, ?_, fo', s11.ls.take, ?_, ?_, ?_, ?_⟩⟩, decM hk⟩⟩
    · have e3 : encL iN ((T ++ [t]).map Int.ofNat) = encL iN (T.map Int.ofNat) ++ [.int .i64 (t : Int)] := by rw [List.map_append, encL_append]; rfl
      rw [e3, List.length_append]
      exact o16.fr f17 (fun x hx hm => (fo' x hx).2 (by simpa using hm))
    · rw [List.nodup_append]
      exact ⟨s11.nd, by simp, fun a ha b hb => by simp at hb; subst hb; exact fun e => htT (e ▸ ha)⟩
    · intro z hz
      rcases List.mem_append.1 hz with hz | hz
      · exact s11.lt z hz
      · simp at hz; omega
    · have := s11.lm; omega
    · intro z hz p hp
      rcases List.mem_append.1 hz with hz | hz
      · have := s11.lp z hz p hp; omega
      · simp at hz; subst hz
        rw [hly.2.2.2] at hp; cases hp
        exact Int.le_refl _
  have hTb : T.length ≤ 16 := by omega
  refine ⟨fun i h18 => ∃ (k : Nat) (L : List Ln), i = k ∧ k ≤ T.length ∧ Sv h h18 q L 16 ∧ Own h18 3 1 ta T.length tc (encL iN (T.map Int.ofNat)) ∧ LS ps (T.drop k) L, fun i _ => T.length - i.toNat, ⟨0, L, rfl, by omega, s9.sv, s9.own, s9.ls⟩, ?_⟩
  have fo := s9.fo
  have nd := s9.nd
  have lt := s9.lt
  clear s9 hc hTk hk
  rintro i h18 ⟨k, L, rfl, hk, sv, own, ls⟩
  refine ⟨fun hc => ?_, fun hc => ?_⟩
  · have hk : k < T.length := by simpa using hc
    rw [Int.toNat_natCast, wrapN hk (by omega)]
    have hd : T.drop k = T[k] :: T.drop (k + 1) := List.drop_eq_getElem_cons hk
    have hx : (T.map Int.ofNat)[k]? = some (T[k] : Int) := by rw [List.getElem?_map, List.getElem?_eq_getElem hk]; rfl
    have ht := lt _ (List.getElem_mem hk)
    have hnd : T[k] ∉ T.drop (k + 1) := by
      have := nd.sublist (List.drop_sublist k T)
      rw [hd] at this
      exact (List.nodup_cons.1 this).1
    rw [hd] at ls
    generalize T[k] = t at *
    obtain ⟨b, o, rfl, e⟩ := encL_one iN_len own.row hx (by omega)
    have hth : thereB (t : Int) = true := by simp [thereB]; omega
    obtain ⟨y, hy⟩ := sv.v.pr.get ht
    have hly := ls t y hy
    refine ⟨by omega, by omega, b, o, rfl, _, e 0 (by omega), ?_⟩
    refine (End_spec sv.v (t : Int)).mono ?_
    rw [hth, if_pos rfl, if_pos rfl, Int.toNat_natCast, atL_nat ht hy, if_pos (by rw [hly.2.2.1]; simp)]
    rintro v h19 ⟨rfl, v19, f19⟩
    exact ⟨_, rfl, by simp, fun _ => ⟨⟨k + 1, _, rfl, by omega, sv.step v19 f19, own.fr f19 (fun x hx hm => (fo x hx).2 (by simpa using hm)), ls.end hnd⟩, decM hk⟩⟩
  · have hk : k = T.length := by simp only [decide_eq_false_iff_not] at hc; omega
    rw [hk, List.drop_length] at ls
    refine (Next_spec sv.v).mono ?_
    rintro v h20 ⟨b, rfl, hN, rfl⟩
    obtain rfl := hN.uniq ls.calm
    refine ⟨_, _, rfl, fun _ => ?_, fun hh => absurd hh (by simp)⟩
    refine (Word_spec sv.v).mono ?_
    rintro v h21 ⟨x, rfl, hx, hb, rfl⟩
    obtain rfl := word_eq sv.v.pr (z := 0) hx (by decide) hb (fun i y hy => by
      have := ls i y hy
      rw [this.2.1, this.2.2.1]; simp)
    exact ⟨_, rfl, hR _ _ ⟨rfl, sv.f⟩⟩
end Go.Proofs.YthhancpnaleknaaDoor
