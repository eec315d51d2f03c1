import Derived.Test.YtopfdfcbhclolaaNd
namespace Go.Proofs.Ytopfdfcbhclolaa
open Go Go.Wd
set_option linter.unusedVariables false
set_option linter.unusedSimpArgs false

theorem Ent.put {e g : Ent} : writeAt e.cells 0 [.bool g.v, .bool g.w, .bool g.x, .bool g.b, .int .i64 g.f] = g.cells := rfl
theorem Tl.rput {x y : Tl} : writeAt x.rc 0 [.int .i64 y.st, .int .i64 y.kd, .int .i64 y.rd, .int .i64 y.pg, .int .u32 y.fa, .int .u32 y.ad, .bool y.tb, .bool y.wr, .bool y.ex] = y.rc := rfl
/-- What reading a guest's entry tells. -/
def RdT (m : Rs Ent) (e : Ent) (t : Tl) (b : Bool) : Prop := (b = true ∧ m = .ok e t.rd) ∨ (b = false ∧ e = noEnt ∧ m = .bad t.st t.kd t.fa t.tb t.rd ∧ t = ⟨t.st, t.kd, t.fa, t.tb, t.rd, 0, 0, false, false⟩)
set_option maxHeartbeats 1000000 in
theorem rrd_spec {h : Hp} {q rb n : Nat} {B : List Nat} (w : RS h q rb B) (hl : B.length = n * 256) (hn : n ≤ 1024) (tab : Int) {va : Nat} (hva : va < 4294967296) {page : Int} (hp : 0 ≤ page) (hp2 : page ≤ 20000000) {i : Nat} (hi : i < 64) {r : Int} (hr : 0 ≤ r) (hr2 : r ≤ 90) :
    CallsH Try.prog 41 [.pointer (some ⟨q, 0, none⟩), .int .i64 tab, .int .i64 page, .int .i64 i, .int .u32 va, .int .i64 r] h fun v h' => (∃ e t b, v = .tuple #[.agg ⟨Ent.cells e⟩, .agg ⟨Tl.rc t⟩, .bool b] ∧ RdT (entR n B tab va page i r) e t b) ∧ Fr [] h h' := by
  refine calls_k fun R hR => ?_
  apply warderref08_read.calls
  unfold warderref08_read.P
  intro h1 e1
  have b1 : bk h1 (sz h) = some (blk 97 noEnt.cells) := by rw [e1]; exact new_at _ _
  have f1 : Fr [] h h1 := by rw [e1]; exact Fr.new _ _ _
  have s1 : sz h1 = sz h + 1 := by rw [e1]; exact sz_new _ _
  clear e1
  intro h2 e2
  have b2 : bk h2 (sz h1) = some (blk 55 noTl.rc) := by rw [e2]; exact new_at _ _
  have f2 : Fr [] h1 h2 := by rw [e2]; exact Fr.new _ _ _
  have s2 : sz h2 = sz h1 + 1 := by rw [e2]; exact sz_new _ _
  clear e2
  have b1 := f2.at b1 (by simp)
  have f12 := f1.trans f2
  refine ⟨fun c => ?_, fun c => ?_⟩
  · have c : page > 4095 := by simpa using c
    refine (rfault_spec h2 1 1 va false r).mono ?_
    rintro v h3 ⟨rfl, f3⟩
    refine ⟨_, _, _, _, _, _, _, _, _, rfl, truly_rfl, _, _, f3.at b1 (by simp), by decide, ?_⟩
    intro h4 e4
    have k4 : bk h4 (sz h) = some (blk 97 noEnt.cells) := by rw [e4]; exact upd_same (f3.at b1 (by simp)) _ _
    have f4 : Fr [sz h] h3 h4 := by rw [e4]; exact Fr.upd (by simp) _ _ _
    clear e4
    have g4 := f4.at (f3.at b2 (by simp)) (by simp; omega)
    refine ⟨truly_rfl, _, _, g4, by decide, ?_⟩
    intro h5 e5
    have hw : writeAt noTl.rc 0 [.int .i64 1, .int .i64 1, .int .i64 r, .int .i64 0, .int .u32 (va : Int), .int .u32 ((0 : Nat) : Int), .bool false, .bool false, .bool false] = (Tl.mk 1 1 va false r 0 0 false false).rc := rfl
    have g5 : bk h5 (sz h1) = some (blk 55 (Tl.mk 1 1 va false r 0 0 false false).rc) := by rw [e5]; exact upd_same g4 _ _
    have f5 : Fr [sz h1] h4 h5 := by rw [e5]; exact Fr.upd (by simp) _ _ _
    clear e5
    have k5 := f5.at k4 (by simp; omega)
    refine Ent.rd (o := 0) noEnt (fun j hj => by rw [Nat.zero_add]; exact cellAt_of k5 j) ?_
    refine Tl.rrd _ g5 ?_
    refine hR _ _ ⟨⟨noEnt, ⟨1, 1, va, false, r, 0, 0, false, false⟩, false, rfl, .inr ⟨rfl, rfl, if_neg (by omega), rfl⟩⟩, ?_⟩
    exact (((f12.trans f3).later f4 (by simp)).later f5 (by simp; omega))
  · have c : page < 4096 := by
      have : ¬ page > 4095 := by simpa using c
      omega
    have hent : entR n B tab va page i r = (thruR n B tab (page.toNat * 256 + 4 * i) 0 true r).bind fun H r => .ok (dec (leN B (adr H.frame (page.toNat * 256 + 4 * i)) 4)) r := if_pos c
    have hip : page.toNat * 256 + 4 * i < 4294967296 := by omega
    have hipe : IntKind.wrap .u32 (IntKind.wrap .i64 ((IntKind.wrap .i64 (256 * page)) + (IntKind.wrap .i64 (4 * (i : Int))))) = ((page.toNat * 256 + 4 * i : Nat) : Int) := by
      rw [wrapS (n := 256 * page) (by omega) (by omega), wrapS (n := 4 * (i : Int)) (by omega) (by omega), wrapS (by omega) (by omega), wrap_u32 (by omega) (by omega)]; omega
    rw [hipe]
    have h4m : (page.toNat * 256 + 4 * i) % 4 = 0 := by omega
    generalize page.toNat * 256 + 4 * i = ipa at *
    have w2 := w.fr f12 (by simp) (by simp)
    refine (rlast_spec w2 hl hn tab hip 0 hr (by omega)).mono ?_
    rintro v h6 ⟨rfl, f6⟩
    have hlast : lastT n B tab ipa 0 r = match thruR n B tab ipa 0 false r with
      | .ok H r' => ⟨0, 0, 0, false, r', ((ipa / 256 : Nat) : Int), adr H.frame ipa, H.write, H.exec⟩
      | .bad st kd ad tb r' => ⟨st, kd, ad, tb, r', 0, 0, false, false⟩ := rfl
    have hnofault : (lastT n B tab ipa 0 r).kd = (walkOf n B tab ipa 0).fault := by
      rw [hlast]; unfold thruR
      by_cases c : (walkOf n B tab ipa 0).fault = 0
      · rw [if_pos c]; exact c.symm
      · rw [if_neg c]
    generalize hT : lastT n B tab ipa 0 r = t at *
    refine ⟨_, _, _, _, _, _, _, _, _, rfl, ?_⟩
    refine put_local rfl (by decide) ?_
    intro h8 k8 f8 s8
    have k8 : bk h8 (sz h6) = some (blk 55 t.rc) := k8
    have b8 := (f6.trans f8).at b1 (by simp)
    have g8 := (f6.trans f8).at b2 (by simp)
    have fr8 := (f12.trans f6).trans f8
    have z6 := f6.size
    refine ⟨_, (cellAt_of k8 1).trans rfl, fun c1 => ?_, fun c1 => ?_⟩
    · have c1 : t.kd ≠ 0 := by simpa using c1
      have hw : (walkOf n B tab ipa 0).fault ≠ 0 := by rw [← hnofault]; exact c1
      have ht : t = ⟨2, (walkOf n B tab ipa 0).fault, ipa, false, r + (walkOf n B tab ipa 0).reads, 0, 0, false, false⟩ := by
        rw [hlast]; unfold thruR; rw [if_neg hw]
      have hbad : entR n B tab va page i r = .bad 2 (walkOf n B tab ipa 0).fault ipa true (r + (walkOf n B tab ipa 0).reads) := hent.trans (Rs.bind_bad (by unfold thruR; rw [if_neg hw]) _)
      refine ⟨truly_rfl, _, _, k8, by simp [Tl.rc], ?_⟩
      intro h9 e9
      have k9 : bk h9 (sz h6) = some (blk 55 (Tl.mk 2 (walkOf n B tab ipa 0).fault ipa true (r + (walkOf n B tab ipa 0).reads) 0 0 false false).rc) := by
        rw [e9, upd_same k8 _ _, ht]; rfl
      have f9 : Fr [sz h6] h8 h9 := by rw [e9]; exact Fr.upd (by simp) _ _ _
      clear e9
      have hrd : RdT (entR n B tab va page i r) noEnt ⟨2, (walkOf n B tab ipa 0).fault, ipa, true, r + (walkOf n B tab ipa 0).reads, 0, 0, false, false⟩ false := .inr ⟨rfl, rfl, hbad, rfl⟩
      generalize Tl.mk 2 (walkOf n B tab ipa 0).fault ipa true (r + (walkOf n B tab ipa 0).reads) 0 0 false false = y at *
      refine Tl.rrd y k9 ?_
      have b9 := f9.at b8 (by simp; omega)
      have g9 := f9.at g8 (by simp; omega)
      refine ⟨truly_rfl, _, _, b9, by decide, ?_⟩
      intro h10 e10
      have b10 : bk h10 (sz h) = some (blk 97 noEnt.cells) := by rw [e10]; exact upd_same b9 _ _
      have f10 : Fr [sz h] h9 h10 := by rw [e10]; exact Fr.upd (by simp) _ _ _
      clear e10
      have k10 := f10.at k9 (by simp; omega)
      have g10 := f10.at g9 (by simp; omega)
      refine ⟨(cellAt_of k10 _).trans rfl, (cellAt_of k10 _).trans rfl, (cellAt_of k10 _).trans rfl, (cellAt_of k10 _).trans rfl, (cellAt_of k10 _).trans rfl, (cellAt_of k10 _).trans rfl, (cellAt_of k10 _).trans rfl, (cellAt_of k10 _).trans rfl, (cellAt_of k10 _).trans rfl, truly_rfl, _, _, g10, by decide, ?_⟩
      intro h11 e11
      have g11 : bk h11 (sz h1) = some (blk 55 y.rc) := by rw [e11]; exact upd_same g10 _ _
      have f11 : Fr [sz h1] h10 h11 := by rw [e11]; exact Fr.upd (by simp) _ _ _
      clear e11
      have b11 := f11.at b10 (by simp; omega)
      refine Ent.rd (o := 0) noEnt (fun j hj => by rw [Nat.zero_add]; exact cellAt_of b11 j) ?_
      refine Tl.rrd y g11 ?_
      exact hR _ _ ⟨⟨_, _, _, rfl, hrd⟩, ((fr8.later f9 (by simp; omega)).later f10 (by simp)).later f11 (by simp; omega)⟩
    · have c1 : t.kd = 0 := by simpa using c1
      have hw : (walkOf n B tab ipa 0).fault = 0 := by rw [← hnofault]; exact c1
      have hfr := walk_frame hw
      have ht : t = ⟨0, 0, 0, false, r + (walkOf n B tab ipa 0).reads, ((ipa / 256 : Nat) : Int), adr (walkOf n B tab ipa 0).frame ipa, (walkOf n B tab ipa 0).write, (walkOf n B tab ipa 0).exec⟩ := by
        rw [hlast]; unfold thruR; rw [if_pos hw]
      have hok : entR n B tab va page i r = .ok (dec (leN B (adr (walkOf n B tab ipa 0).frame ipa) 4)) (r + (walkOf n B tab ipa 0).reads) := hent.trans (Rs.bind_ok (by unfold thruR; rw [if_pos hw]) _)
      have had : t.ad = adr (walkOf n B tab ipa 0).frame ipa := by rw [ht]
      have hal := adr_lt (k := ipa) hfr.1 hfr.2 hn
      have hwo : wordOk n (adr (walkOf n B tab ipa 0).frame ipa) = true := by
        simp only [wordOk, Bool.and_eq_true, decide_eq_true_eq]
        refine ⟨hal, ?_⟩
        unfold adr; omega
      have hrd : RdT (entR n B tab va page i r) (dec (leN B (adr (walkOf n B tab ipa 0).frame ipa) 4)) t true := .inl ⟨rfl, by rw [hok, ht]⟩
      refine ⟨_, (cellAt_of k8 5).trans rfl, ?_⟩
      have w8 := w2.fr (f6.trans f8) (by simp) (by simp)
      rw [had]
      refine (rWord_spec w8 hl (a := adr (walkOf n B tab ipa 0).frame ipa) (by omega)).mono ?_
      rw [hwo, if_pos rfl]
      rintro v h12 ⟨rfl, hh⟩
      rw [hh]; clear hh h12
      refine ⟨_, _, rfl, ?_⟩
      refine Tl.rrd t k8 ?_
      refine (refDecode_spec _ (le4_lt w.byt _)).mono ?_
      rintro v h13 ⟨rfl, f13⟩
      generalize dec (leN B (adr (walkOf n B tab ipa 0).frame ipa) 4) = e at *
      refine ⟨_, _, _, _, _, rfl, ?_⟩
      have k13 := f13.at k8 (by simp)
      have b13 := f13.at b8 (by simp)
      have g13 := f13.at g8 (by simp)
      refine ⟨(cellAt_of k13 _).trans rfl, (cellAt_of k13 _).trans rfl, (cellAt_of k13 _).trans rfl, (cellAt_of k13 _).trans rfl, (cellAt_of k13 _).trans rfl, (cellAt_of k13 _).trans rfl, (cellAt_of k13 _).trans rfl, (cellAt_of k13 _).trans rfl, (cellAt_of k13 _).trans rfl, truly_rfl, _, _, b13, by decide, ?_⟩
      intro h14 e14
      have b14 : bk h14 (sz h) = some (blk 97 e.cells) := by rw [e14]; exact upd_same b13 _ _
      have f14 : Fr [sz h] h13 h14 := by rw [e14]; exact Fr.upd (by simp) _ _ _
      clear e14
      have k14 := f14.at k13 (by simp; omega)
      have g14 := f14.at g13 (by simp; omega)
      refine ⟨(cellAt_of k14 _).trans rfl, (cellAt_of k14 _).trans rfl, (cellAt_of k14 _).trans rfl, (cellAt_of k14 _).trans rfl, (cellAt_of k14 _).trans rfl, (cellAt_of k14 _).trans rfl, (cellAt_of k14 _).trans rfl, (cellAt_of k14 _).trans rfl, (cellAt_of k14 _).trans rfl, truly_rfl, _, _, g14, by decide, ?_⟩
      intro h15 e15
      have g15 : bk h15 (sz h1) = some (blk 55 t.rc) := by rw [e15]; exact upd_same g14 _ _
      have f15 : Fr [sz h1] h14 h15 := by rw [e15]; exact Fr.upd (by simp) _ _ _
      clear e15
      have b15 := f15.at b14 (by simp; omega)
      refine Ent.rd (o := 0) e (fun j hj => by rw [Nat.zero_add]; exact cellAt_of b15 j) ?_
      refine Tl.rrd t g15 ?_
      exact hR _ _ ⟨⟨_, _, _, rfl, hrd⟩, ((fr8.trans f13).later f14 (by simp)).later f15 (by simp; omega)⟩
end Go.Proofs.Ytopfdfcbhclolaa
