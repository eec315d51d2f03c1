import Derived.Test.YthhancpnaleknaaDoorVh
namespace Go.Proofs.YthhancpnaleknaaDoor
open Go Go.Wd
set_option linter.unusedVariables false
set_option linter.unusedSimpArgs false

theorem upL_upL (L : List Ln) (n : Nat) (f g : Ln → Ln) : upL (upL L n f) n g = upL L n fun x => g (f x) := by
  apply List.ext_getElem?
  intro j
  rw [upL_at, upL_at, upL_at]
  by_cases e : n = j
  · subst e
    rw [if_pos rfl, if_pos rfl, if_pos rfl, Option.map_map]; rfl
  · rw [if_neg e, if_neg e, if_neg e]
def Idle (L : List Ln) : Prop := ∀ (i : Nat) (y : Ln), L[i]? = some y → y.ac = false
theorem Idle.below {L : List Ln} (w : Pr L) (d : Idle L) {i : Nat} {y : Ln} (hy : L[i]? = some y) : Below L 16 y.pr :=
  ⟨by have := w.at hy; omega, fun j z hz hac => by rw [d j z hz] at hac; cases hac⟩
theorem count_set {L : List Ln} {j : Nat} {x y : Ln} (hx : L[j]? = some x) (hc : cand x = true) (hn : cand y = false) : (L.set j y).countP cand + 1 = L.countP cand := by
  obtain ⟨hj, rfl⟩ := List.getElem?_eq_some_iff.1 hx
  have hp : 0 < L.countP cand := List.countP_pos_iff.2 ⟨_, List.mem_of_getElem? hx, hc⟩
  rw [List.countP_set hj, if_pos hc, if_neg (by simp [hn])]
  omega
/-- The lines are idle; so many rounds, the last one so urgent. -/
def Rd (h0 : Hp) (q : Nat) (last k : Int) (h : Hp) : Prop :=
  ∃ (kk : Nat) (L : List Ln), k = kk ∧ kk ≤ 17 ∧ Sv h0 h q L 16 ∧ Idle L ∧ L.countP cand + kk ≤ 16 ∧ ∀ (i : Nat) (y : Ln), L[i]? = some y → cand y = true → last ≤ y.pr
def Quiet (h0 : Hp) (q : Nat) (h : Hp) : Prop := ∃ L : List Ln, Sv h0 h q L 16 ∧ Idle L ∧ ∀ (i : Nat) (y : Ln), L[i]? = some y → cand y = false

set_option maxHeartbeats 4000000 in
theorem nests_spec {h : Hp} (tab : Tab h) {a : Option Addr} {c : Nat} {cs : List C} (g : rowAtK h a (encL C.cells cs)) :
    CallsH Tryd.prog 5 [.slice a cs.length c] h fun v h' => v = .bool true ∧ Fr [] h h' := by
  refine calls_k fun R hR => ?_
  apply warderlaw20_VicNests.calls
  unfold warderlaw20_VicNests.P
  refine (alive_spec tab).mono ?_
  rintro v h1 ⟨rfl, f1⟩
  refine ⟨_, rfl, by simp, fun _ => ⟨fun _ => hR _ _ ⟨rfl, f1⟩, fun hn => ?_⟩⟩
  have hlen : cs.length ≤ 100 := by
    have h1 : (cs.length : Int) ≤ 100 := by simpa using hn
    omega
  refine (New_spec (tab.fr f1 (by simp))).mono ?_
  rintro v h2 ⟨rfl, w2, f2, s2⟩
  refine ⟨_, rfl, ?_⟩
  refine rNew_spec.mono ?_
  rintro v h3 ⟨rfl, r3, f3, s3⟩
  have z1 := f1.size
  have z0 : 0 < sz h := lt_of_cell (tab 0 (by decide))
  have st3 : St h h3 (sz h1) (sz h2 + 1) (sz h2) newL 16 := ⟨w2.fr f3 (by simp) (by simp), r3, by omega, by omega, by omega, by omega, (f1.trans f2).trans f3, by omega, by omega, by omega⟩
  clear w2 r3
  generalize sz h1 = q at *
  generalize sz h2 + 1 = q2 at *
  generalize sz h2 = rb at *
  refine ⟨_, rfl, ?_⟩
  refine ⟨Gone h q q2 rb cs.length, fun i _ => cs.length - i.toNat, ⟨0, _, _, rfl, by omega, st3⟩, ?_⟩
  rintro i h4 ⟨k, L, m, rfl, hk, st⟩
  refine ⟨fun hk2 => ?_, fun _ => ?_⟩
  · have hk2 : k < cs.length := by simpa using hk2
    obtain ⟨x, hx⟩ : ∃ x, cs[k]? = some x := ⟨_, List.getElem?_eq_getElem hk2⟩
    obtain ⟨b, o, rfl, e⟩ := encL_one C.len (g.fr st.f (by simp)) hx (by omega)
    rw [Int.toNat_natCast, wrapN hk2 (by omega)]
    refine ⟨fun h' => St h h' q q2 rb L m, ⟨by omega, by omega, b, o, rfl, _, e 0 (by omega), fun _ => ?_, fun _ => st⟩, ?_⟩
    · refine ⟨fun least kx h5 => ∃ kk : Nat, kx = kk ∧ kk ≤ 16 ∧ LimTo L 16 kk least ∧ St h h5 q q2 rb L m, fun _ kx _ => 16 - kx.toNat, ⟨0, rfl, by omega, fun p => ⟨fun hp => ⟨hp, fun j z hj => by omega⟩, fun hp => hp.1⟩, st⟩, ?_⟩
      rintro least kx h5 ⟨kk, rfl, hkk, hl, st5⟩
      refine ⟨fun hc => ?_, fun hc => ?_⟩
      · have hkk : kk < 16 := by simp only [decide_eq_true_eq] at hc; omega
        obtain ⟨y, hy⟩ := st5.v.pr.get hkk
        rw [wrapN hkk (by omega)]
        have hl2 := hl.step hy
        refine (Get_spec st5.v (kk : Int)).mono ?_
        rw [atL_nat hkk hy]
        rintro v h6 ⟨rfl, f6⟩
        have st6 := st5.fr f6
        refine ⟨_, _, _, _, rfl, fun hac => ?_, fun hac => ?_⟩
        · refine (Get_spec st6.v (kk : Int)).mono ?_
          rw [atL_nat hkk hy]
          rintro v h7 ⟨rfl, f7⟩
          rw [if_pos hac] at hl2
          refine ⟨_, _, _, _, rfl, ⟨kk + 1, rfl, by omega, ?_, st6.fr f7⟩, decM hkk⟩
          rw [minI_eq]; exact hl2
        · rw [if_neg (by simp [hac])] at hl2
          exact ⟨⟨kk + 1, rfl, by omega, hl2, st6⟩, decM hkk⟩
      · have hkk : kk = 16 := by simp only [decide_eq_false_iff_not] at hc; omega
        subst hkk
        refine (Next_spec st5.v).mono ?_
        rintro v h8 ⟨bn, rfl, hN, rfl⟩
        refine ⟨_, _, rfl, fun hb => ?_, fun _ => st5⟩
        rcases hN.cases' st5.v.pr with ⟨rfl, _⟩ | ⟨j, y, rfl, hj, hy, hcy, hbl⟩
        · simp at hb
        · have hlt : y.pr < least := (hl _).2 ⟨by have := st5.v.pr.at hy; omega, fun j2 z _ hz hac => hbl.2 j2 z hz hac⟩
          have hg := fun {hh : Hp} (s : St h hh q q2 rb L m) => Get_spec s.v (j : Int)
          rw [atL_nat hj hy] at hg
          simp only [cand, Bool.and_eq_true, Bool.not_eq_true'] at hcy
          refine (hg st5).mono ?_
          rintro v h9 ⟨rfl, f9⟩
          have st9 := st5.fr f9
          refine ⟨_, _, _, _, rfl, fun hx => absurd hx (by simp; omega), fun _ => ?_⟩
          refine (hg st9).mono ?_
          rintro v h10 ⟨rfl, f10⟩
          have st10 := st9.fr f10
          refine ⟨_, _, _, _, rfl, ?_⟩
          refine (Masked_spec st10.v).mono ?_
          rintro v h11 ⟨rfl, rfl⟩
          refine ⟨_, rfl, fun hx => absurd hx (by have := hbl.1; simp; omega), fun _ => ?_⟩
          refine (hg st10).mono ?_
          rintro v h12 ⟨rfl, f12⟩
          have st12 := st10.fr f12
          refine ⟨_, _, _, _, rfl, fun hx => absurd hx (by simp [hcy.1.1]), fun _ => ?_⟩
          refine (hg st12).mono ?_
          rintro v h13 ⟨rfl, f13⟩
          have st13 := st12.fr f13
          refine ⟨_, _, _, _, rfl, fun hx => absurd hx (by simp [hcy.1.2]), fun _ => ?_⟩
          refine (hg st13).mono ?_
          rintro v h14 ⟨rfl, f14⟩
          exact ⟨_, _, _, _, rfl, fun hx => absurd hx (by simp [hcy.2]), fun _ => st13.fr f14⟩
    · intro h15 st
      obtain ⟨b', o', he, e⟩ := encL_one C.len (g.fr st.f (by simp)) hx (by omega)
      cases he
      refine ⟨by omega, by omega, b, o, rfl, _, e 0 (by omega), _, e 1 (by omega), _, e 2 (by omega), _, e 3 (by omega), ?_⟩
      refine (told_spec st.v st.r st.n1 st.n2 st.z1 st.z2 x).mono ?_
      rintro v h16 ⟨L', m', rfl, v5, r5, f5⟩
      exact ⟨_, rfl, by simp, fun _ => ⟨⟨k + 1, _, _, rfl, by omega, st.step v5 r5 f5⟩, decM hk2⟩⟩
  have sv := st.sv
  clear st
  refine (Mask_spec sv.v 16).mono ?_
  rw [mask_ok, mask_ok2]
  rintro v h6 ⟨rfl, v6, f6⟩
  have sv6 := sv.step v6 f6
  refine ⟨_, rfl, ?_⟩
  refine ⟨fun kx h5 => ∃ (kk : Nat) (L : List Ln), kx = kk ∧ kk ≤ 16 ∧ (∀ (i : Nat) (y : Ln), i < kk → L[i]? = some y → y.ac = false) ∧ Sv h h5 q L 16, fun kx _ => 16 - kx.toNat, ⟨0, L, rfl, by omega, fun i y hi => by omega, sv6⟩, ?_⟩
  rintro kx h18 ⟨kk, L, rfl, hkk, hid, sv⟩
  refine ⟨fun hc => ?_, fun hc => ?_⟩
  · have hkk : kk < 16 := by simp only [decide_eq_true_eq] at hc; omega
    rw [wrapN hkk (by omega)]
    have ht : thereB (kk : Int) = true := by simp [thereB]; omega
    refine (End_spec sv.v (kk : Int)).mono ?_
    rw [ht, if_pos rfl, if_pos rfl, Int.toNat_natCast]
    rintro v h19 ⟨rfl, v19, f19⟩
    refine ⟨_, rfl, ⟨kk + 1, _, rfl, by omega, fun i y hi hy => ?_, sv.step v19 f19⟩, decM hkk⟩
    rw [upL_at] at hy
    by_cases e : kk = i
    · rw [if_pos e] at hy
      obtain ⟨z, hz, rfl⟩ := Option.map_eq_some_iff.1 hy
      rfl
    · rw [if_neg e] at hy
      exact hid i y (by omega) hy
  have hkk : kk = 16 := by simp only [decide_eq_false_iff_not] at hc; omega
  subst hkk
  have hid : Idle L := fun i y hy => hid i y (sv.v.pr.lt hy) hy
  have hcnt : L.countP cand ≤ 16 := by have := List.countP_le_length (p := cand) (l := L); rw [sv.v.pr.1] at this; exact this
  refine ⟨Quiet h q, ?_, ?_⟩
  · refine ⟨Rd h q, fun _ kx _ => 17 - kx.toNat, ⟨0, L, rfl, by omega, sv, hid, by omega, fun i y hy _ => by have := sv.v.pr.at hy; omega⟩, ?_⟩
    clear hcnt hid sv
    rintro last kx h20 ⟨kk, L, rfl, hkk, sv, hid, hcnt, hlast⟩
    refine ⟨fun hc => ?_, fun hc => ?_⟩
    · have hkk : kk < 17 := by simp only [decide_eq_true_eq] at hc; omega
      rw [wrapN hkk (by omega)]
      refine (Take_spec sv.v).mono ?_
      rintro v h21 ⟨bn, rfl, hN, v21, f21⟩
      have sv21 := sv.step v21 f21
      refine ⟨_, _, rfl, ?_⟩
      rcases hN with ⟨rfl, h2⟩ | ⟨j, x, rfl, hx, hcx, hbx, hmin⟩
      · refine ⟨fun _ => ?_, fun hh => absurd hh (by simp)⟩
        rw [takeL_no] at sv21
        refine ⟨L, sv21, hid, fun i y hy => ?_⟩
        cases hcy : cand y
        · rfl
        · exact absurd (hid.below sv.v.pr hy) (h2 i y hy hcy)
      · have hj := sv.v.pr.lt hx
        have hpos : 0 < L.countP cand := List.countP_pos_iff.2 ⟨_, List.mem_of_getElem? hx, hcx⟩
        rw [takeL_nat, upL_upL] at sv21
        have ht : thereB (j : Int) = true := by simp [thereB]; omega
        refine ⟨fun hh => absurd hh (by simp), fun _ => ⟨fun hh => absurd hh (by simp; omega), fun _ => ?_⟩⟩
        have hx21 : (upL L j fun x => (x.sAc true).sPe false)[j]? = some ((x.sAc true).sPe false) := by rw [upL_at, if_pos rfl, hx]; rfl
        refine (Get_spec sv21.v (j : Int)).mono ?_
        rw [atL_nat hj hx21]
        rintro v h22 ⟨rfl, f22⟩
        have sv22 := sv21.fr f22
        have hlx := hlast j x hx hcx
        refine ⟨_, _, _, _, rfl, fun hh => absurd hh (by rw [decide_eq_true_eq]; show ¬ x.pr < last; omega), fun _ => ?_⟩
        refine (End_spec sv22.v (j : Int)).mono ?_
        rw [ht, if_pos rfl, if_pos rfl, Int.toNat_natCast, atL_nat hj hx21, upL_upL]
        rintro v h23 ⟨rfl, v23, f23⟩
        have sv23 := sv22.step v23 f23
        have e3 : (upL L j fun x => ((x.sAc true).sPe false).sAc false) = L.set j (((x.sAc true).sPe false).sAc false) := upL_set hx _
        have hx23 : (upL L j fun x => ((x.sAc true).sPe false).sAc false)[j]? = some (((x.sAc true).sPe false).sAc false) := by rw [upL_at, if_pos rfl, hx]; rfl
        refine ⟨_, rfl, fun hh => absurd hh (by simp [Ln.sAc, Ln.sPe]), fun _ => ?_⟩
        refine (Get_spec sv23.v (j : Int)).mono ?_
        rw [atL_nat hj hx23]
        rintro v h24 ⟨rfl, f24⟩
        have sv24 := sv23.fr f24
        have hold : ∀ (i : Nat) (y : Ln), (upL L j fun x => ((x.sAc true).sPe false).sAc false)[i]? = some y → (i = j ∧ y = ((x.sAc true).sPe false).sAc false) ∨ L[i]? = some y := by
          intro i y hy
          rw [upL_at] at hy
          by_cases e : j = i
          · rw [if_pos e, ← e, hx] at hy; cases hy; exact .inl ⟨e.symm, rfl⟩
          · rw [if_neg e] at hy; exact .inr hy
        refine ⟨_, _, _, _, rfl, ⟨kk + 1, _, rfl, by omega, sv24, fun i y hy => ?_, ?_, fun i y hy hcy => ?_⟩, decM hkk⟩
        · rcases hold i y hy with ⟨_, rfl⟩ | h
          · rfl
          · exact hid i y h
        · rw [e3]
          have := count_set hx hcx (y := ((x.sAc true).sPe false).sAc false) (by simp [cand, Ln.sAc, Ln.sPe])
          omega
        · rcases hold i y hy with ⟨_, rfl⟩ | h
          · simp [cand, Ln.sAc, Ln.sPe] at hcy
          · exact (hmin i y h hcy).1
    · have hkk : kk = 17 := by simp only [decide_eq_false_iff_not] at hc; omega
      omega
  rintro h25 ⟨L, sv, hid, hno⟩
  refine ⟨fun kx h5 => ∃ kk : Nat, kx = kk ∧ kk ≤ 16 ∧ Sv h h5 q L 16, fun kx _ => 16 - kx.toNat, ⟨0, rfl, by omega, sv⟩, ?_⟩
  rintro kx h26 ⟨kk, rfl, hkk, sv⟩
  refine ⟨fun hc => ?_, fun hc => hR _ _ ⟨rfl, sv.f⟩⟩
  have hkk : kk < 16 := by simp only [decide_eq_true_eq] at hc; omega
  rw [wrapN hkk (by omega)]
  obtain ⟨y, hy⟩ := sv.v.pr.get hkk
  have hcy := hno kk y hy
  have hay := hid kk y hy
  refine (Get_spec sv.v (kk : Int)).mono ?_
  rw [atL_nat hkk hy]
  rintro v h27 ⟨rfl, f27⟩
  refine ⟨_, _, _, _, rfl, ?_⟩
  refine put_local rfl (by decide) ?_
  intro h29 k29 f29 s29
  have next : (∃ kk2 : Nat, ((kk + 1 : Nat) : Int) = kk2 ∧ kk2 ≤ 16 ∧ Sv h h29 q L 16) ∧ 16 - ((kk + 1 : Nat) : Int).toNat < 16 - (kk : Int).toNat := ⟨⟨kk + 1, rfl, by omega, (sv.fr f27).fr f29⟩, decM hkk⟩
  refine ⟨y.ac, (cellAt_of k29 2).trans rfl, fun hh => absurd hh (by simp [hay]), fun _ => ⟨y.pe, (cellAt_of k29 1).trans rfl, fun hp => ⟨y.en, (cellAt_of k29 0).trans rfl, fun he => ?_, fun _ => next⟩, fun _ => next⟩⟩
  simp [cand, hp, he, hay] at hcy
end Go.Proofs.YthhancpnaleknaaDoor
