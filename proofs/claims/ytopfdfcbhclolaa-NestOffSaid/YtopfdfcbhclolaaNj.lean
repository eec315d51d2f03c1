import Derived.Test.YtopfdfcbhclolaaNi
namespace Go.Proofs.Ytopfdfcbhclolaa
open Go Go.Wd
set_option linter.unusedVariables false
set_option linter.unusedSimpArgs false

theorem not3 {a : Nat} (ha : a < 4294967296) : bnotV .u32 (a : Int) 3 = ((a / 4 * 4 : Nat) : Int) := by
  have h := mask4 ha
  rw [show (4294967292 : Int) = ((4294967292 : Nat) : Int) from rfl, band32 (by omega) (by omega)] at h
  rw [show (3 : Int) = ((3 : Nat) : Int) from rfl, bnot32 (by omega) (by omega)]
  exact h
theorem great_no2 {n : Int} {l : Nat} (h : (decide (n < 1) || decide (n > 100) || decide ((l : Int) > 120)) = false) : ∃ m : Nat, n = m ∧ 1 ≤ m ∧ m ≤ 100 ∧ l ≤ 120 := by
  simp only [Bool.or_eq_false_iff, decide_eq_false_iff_not] at h
  exact ⟨n.toNat, by omega, by omega, by omega, by omega⟩
theorem puts_len (n : Nat) (L : List Pt) : (putsB n L).length = n * 256 := by
  unfold putsB
  have h : ∀ (L : List Pt) (B : List Nat), B.length = n * 256 → (L.foldl (fun B x => putW n B x.addr x.value) B).length = n * 256 := by
    intro L
    induction L with
    | nil => exact fun B h => h
    | cons x L ih => exact fun B h => ih _ (by rw [putW_len]; exact h)
  exact h L _ (by rw [List.length_replicate])
theorem Tl.same (x : Tl) : notIf false (((x.st == x.st) && ((x.kd == x.kd) && ((x.rd == x.rd) && ((x.pg == x.pg) && (((x.fa : Int) == x.fa) && (((x.ad : Int) == x.ad) && (((x.tb : Bool) == x.tb) && (((x.wr : Bool) == x.wr) && (((x.ex : Bool) == x.ex) && true)))))))))) = false := by simp [notIf]
set_option maxHeartbeats 4000000 in
theorem answers_law {h : Hp} (n : Int) {a a4 : Option Addr} {c c4 : Nat} {L : List Pt} {A : List Nat} (g : rowAtK h a (encL Pt.cells L)) (hok : ∀ x ∈ L, x.ok) {own : Nat} (hown : own < 4294967296) (tab : Int) (g4 : rowAtK h a4 (encL iU A)) (hok4 : ∀ x ∈ A, x < 4294967296) (acc : Int) :
    CallsH Try.prog 7 [.int .i64 n, .slice a L.length c, .int .u32 own, .int .i64 tab, .slice a4 A.length c4, .int .i64 acc] h fun v h' => v = .bool true ∧ Fr [] h h' := by
  refine calls_k fun R hR => ?_
  apply warderlaw08_NestAnswers.calls
  unfold warderlaw08_NestAnswers.P
  refine (alive_spec h).mono ?_
  rintro _ h1 ⟨rfl, f1⟩
  refine ⟨_, rfl, fun hn => (by cases hn), fun _ => ?_⟩
  refine ⟨fun h3 => h3 = h1 ∧ (∃ m : Nat, n = m ∧ 1 ≤ m ∧ m ≤ 100 ∧ L.length ≤ 120) ∧ A.length ≤ 60, ?_, ?_⟩
  · refine (great_spec n a L.length c).mono ?_
    rintro v h2 ⟨rfl, hh⟩
    rw [hh]
    refine ⟨_, rfl, fun _ => hR _ _ ⟨rfl, f1⟩, fun hg => ⟨fun _ => hR _ _ ⟨rfl, f1⟩, fun hA => ⟨rfl, great_no2 hg, ?_⟩⟩⟩
    have : ¬ (A.length : Int) > 60 := by simpa using hA
    omega
  rintro h3 ⟨hh, ⟨m, rfl, m1, m2, hL⟩, hA⟩
  rw [hh]; clear hh h3
  refine (Both_spec m1 (by omega) (c := c) (g.fr f1 (by simp)) hok (by omega)).mono ?_
  rintro v h4 ⟨q, fb, q2, rb, rfl, w4, r4, -, f4⟩
  have hlen : (putsB m L).length = m * 256 := puts_len m L
  generalize putsB m L = B at *
  refine ⟨_, _, rfl, fun h5 => h5 = h4, ⟨fun hn => absurd hn (by simp [notIf]), fun _ => ⟨fun hn => absurd hn (by simp [notIf]), fun _ => rfl⟩⟩, ?_⟩
  rintro h5 hh
  rw [hh]; clear hh h5
  refine (Clone_spec w4).mono ?_
  rintro v h6 ⟨q3, fb3, rfl, w6, _, _, f6⟩
  refine ⟨_, rfl, ?_⟩
  have fr6 := (f1.trans f4).trans f6
  refine ⟨fun i h7 => ∃ k : Nat, i = k ∧ k ≤ A.length ∧ Fr [] h6 h7, fun i _ => A.length - i.toNat, ⟨0, rfl, by omega, Fr.refl _ _⟩, ?_⟩
  have mm6 := w4.fr f6 (by simp) (by simp)
  have rr6 := r4.fr f6 (by simp) (by simp)
  rintro i h7 ⟨k, rfl, hk, f7⟩
  have hm : m ≤ 1024 := by omega
  refine ⟨fun hc => ?_, fun _ => ?_⟩
  · have hk : k < A.length := by simpa using hc
    obtain ⟨va, hva⟩ : ∃ x, A[k]? = some x := ⟨_, List.getElem?_eq_getElem hk⟩
    have hv32 := hok4 va (List.mem_of_getElem? hva)
    rw [wrapN hk (by omega)]
    have key : ∀ {h8 : Hp}, Fr [] h6 h8 → ∃ b o, a4 = some ⟨b, o, none⟩ ∧ cellAt h8 b (o + (k : Int).toNat * 1) = some (.int .u32 va) := by
      intro h8 f8
      obtain ⟨b, o, ha, e⟩ := encL_one iU_len (g4.fr (fr6.trans f8) (by simp)) hva (by decide)
      exact ⟨b, o, ha, e 0 (by decide)⟩
    obtain ⟨b, o, ha, c7⟩ := key f7
    have key : ∀ {h8 : Hp}, Fr [] h6 h8 → cellAt h8 b (o + (k : Int).toNat * 1) = some (.int .u32 va) := by
      intro h8 f8
      obtain ⟨b', o', ha', e'⟩ := key f8
      rw [ha] at ha'; cases ha'
      exact e'
    have mm : ∀ {h8 : Hp}, Fr [] h6 h8 → MS h8 q fb m B := fun f8 => mm6.fr f8 (by simp) (by simp)
    have rr : ∀ {h8 : Hp}, Fr [] h6 h8 → RS h8 q2 rb B := fun f8 => rr6.fr f8 (by simp) (by simp)
    refine ⟨fun h14 => Fr [] h6 h14, ⟨by omega, by omega, _, _, ha, _, c7, by omega, by omega, _, _, ha, _, c7, ?_⟩, ?_⟩
    · refine (Translate_spec (mm f7) hown tab hv32 acc).mono ?_
      rintro v h8 ⟨rfl, f8⟩
      refine ⟨_, _, _, _, _, _, _, _, _, rfl, key (f7.trans f8), ?_⟩
      refine (of_spec h8 (trOf m B tab va own acc)).mono ?_
      rintro v h9 ⟨rfl, f9⟩
      refine ⟨_, _, _, _, _, _, _, _, _, rfl, key ((f7.trans f8).trans f9), ?_⟩
      refine (rTranslate_spec (rr ((f7.trans f8).trans f9)) hlen hm hown tab hv32 acc).mono ?_
      rintro v h10 ⟨rfl, f10⟩
      have f610 := ((f7.trans f8).trans f9).trans f10
      refine ⟨_, _, _, _, _, _, _, _, _, rfl, fun hn => ?_, fun _ => ?_⟩
      · rw [Tl.same] at hn; cases hn
      refine ⟨by omega, by omega, _, _, ha, _, key f610, by omega, by omega, _, _, ha, _, key f610, ?_⟩
      refine (Ipa_spec (mm f610) tab hv32 acc).mono ?_
      rintro v h11 ⟨rfl, f11⟩
      refine ⟨_, _, _, _, _, _, _, _, _, rfl, key (f610.trans f11), ?_⟩
      refine (of_spec h11 (trOf m B tab va 0 acc)).mono ?_
      rintro v h12 ⟨rfl, f12⟩
      refine ⟨_, _, _, _, _, _, _, _, _, rfl, key ((f610.trans f11).trans f12), ?_⟩
      refine (rTranslate_spec (rr ((f610.trans f11).trans f12)) hlen hm (root := 0) (by decide) tab hv32 acc).mono ?_
      rintro v h13 ⟨rfl, f13⟩
      refine ⟨_, _, _, _, _, _, _, _, _, rfl, fun hn => ?_, fun _ => ((f610.trans f11).trans f12).trans f13⟩
      rw [Tl.same] at hn; cases hn
    · intro h14 f14
      refine ⟨by omega, by omega, _, _, ha, _, key f14, ?_⟩
      have had := tr_ad hm B tab va own 2
      refine (Fetch_spec (mm f14) hown tab hv32 had).mono ?_
      rintro v h15 ⟨rfl, f15⟩
      have f615 := f14.trans f15
      have hfet : fetW m B (trOf m B tab va own 2) = if (trOf m B tab va own 2).kd ≠ 0 then 0 else if wordOk m ((trOf m B tab va own 2).ad / 4 * 4) then ((leN B ((trOf m B tab va own 2).ad / 4 * 4) 4 : Nat) : Int) else 0 := rfl
      have htr : ∀ {h8 : Hp}, RS h8 q2 rb B → CallsH Try.prog 19 [.pointer (some ⟨q2, 0, none⟩), .int .u32 own, .int .i64 tab, .int .u32 va, .int .i64 2] h8 fun v h' => v = .agg ⟨(trOf m B tab va own 2).rc⟩ ∧ Fr [] h8 h' := fun r8 => rTranslate_spec r8 hlen hm hown tab hv32 2
      generalize fetW m B (trOf m B tab va own 2) = fw at *
      generalize trOf m B tab va own 2 = t at *
      refine ⟨_, _, _, _, _, _, _, _, _, _, rfl, ?_⟩
      refine put_local rfl (by decide) ?_
      intro h17 k17 f17 s17
      have f617 := f615.trans f17
      have k17 : bk h17 (sz h15) = some (blk 36 t.cells) := k17
      refine ⟨by omega, by omega, _, _, ha, _, key f617, ?_⟩
      refine (htr (rr f617)).mono ?_
      rintro v h18 ⟨rfl, f18⟩
      have f618 := f617.trans f18
      refine ⟨_, _, _, _, _, _, _, _, _, rfl, ?_⟩
      refine put_local rfl (by decide) ?_
      intro h20 k20 f20 s20
      have f620 := f618.trans f20
      have k20 : bk h20 (sz h18) = some (blk 55 t.rc) := k20
      have k17 := (f18.trans f20).at k17 (by simp)
      refine ⟨fun want h22 => want = fw ∧ h22 = h20, ⟨_, (cellAt_of k20 1).trans rfl, fun c1 => ?_, fun c1 => ⟨?_, rfl⟩⟩, ?_⟩
      · have c1 : t.kd = 0 := by simpa using c1
        refine ⟨_, (cellAt_of k20 5).trans rfl, ?_⟩
        rw [not3 had]
        refine (rWord_spec (rr f620) hlen (a := t.ad / 4 * 4) (by omega)).mono ?_
        rintro v h21 ⟨rfl, hh⟩
        exact ⟨_, _, rfl, (hfet.trans (if_neg (fun hne : t.kd ≠ 0 => hne c1))).symm, hh⟩
      · have c1 : t.kd ≠ 0 := by simpa using c1
        rw [hfet, if_pos c1]
      rintro want h22 ⟨hw, hh⟩
      rw [hw, hh]; clear hw hh want h22
      refine Tl.rd' t k17 ?_
      refine Tl.rrd t k20 ?_
      refine (of_spec h20 t).mono ?_
      rintro v h23 ⟨rfl, f23⟩
      have k23 := f23.at k20 (by simp)
      refine ⟨_, _, _, _, _, _, _, _, _, rfl, (cellAt_of k23 _).trans rfl, (cellAt_of k23 _).trans rfl, (cellAt_of k23 _).trans rfl, (cellAt_of k23 _).trans rfl, (cellAt_of k23 _).trans rfl, (cellAt_of k23 _).trans rfl, (cellAt_of k23 _).trans rfl, (cellAt_of k23 _).trans rfl, (cellAt_of k23 _).trans rfl, fun hn => ?_, fun _ => ⟨fun hn => ?_, fun _ => ⟨⟨k + 1, rfl, by omega, f620.trans f23⟩, decM hk⟩⟩⟩
      · rw [Tl.same] at hn; cases hn
      · simp at hn
  · have mm7 := mm6.fr f7 (by simp) (by simp)
    have ww7 := w6.fr f7 (by simp) (by simp)
    refine (Differ_spec mm7 ww7).mono ?_
    rintro v h24 ⟨a', c', rfl, _, _, f24⟩
    refine ⟨_, _, _, rfl, ?_⟩
    rw [diffs_same]
    exact hR _ _ ⟨rfl, (fr6.trans f7).trans f24⟩
end Go.Proofs.Ytopfdfcbhclolaa
