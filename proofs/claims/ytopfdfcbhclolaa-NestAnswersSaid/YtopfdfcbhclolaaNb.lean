import Derived.Test.YtopfdfcbhclolaaNa
namespace Go.Proofs.Ytopfdfcbhclolaa
open Go Go.Wd
set_option linter.unusedVariables false
set_option linter.unusedSimpArgs false

theorem WS.fr {h h' : Hp} {W q : Nat} {tab : Int} {va : Nat} {r : Int} (w : WS h W q tab va r) {F : List Nat} (k : Fr F h h') (hn : W ∉ F) : WS h' W q tab va r := k.at w hn
theorem WS.lt {h : Hp} {W q : Nat} {tab : Int} {va : Nat} {r : Int} (w : WS h W q tab va r) : W < sz h := lt_of_bk w
theorem adr_lt {f : Int} {n k : Nat} (h0 : 0 ≤ f) (h1 : f < n) (hn : n ≤ 1024) : adr f k < n * 256 := by unfold adr; omega
theorem entry_spec {h : Hp} {q fb n : Nat} {B : List Nat} (ms : MS h q fb n B) {W : Nat} (hq : W ≠ q) (hfb : W ≠ fb) {tab : Int} {va : Nat} {r : Int} (w : WS h W q tab va r) (hr : 0 ≤ r) (hr2 : r ≤ 90) {page : Int} (hp : 0 ≤ page) {i : Nat} (hi : i < 64) :
    CallsX Try.prog 62 [.pointer (some ⟨W, 0, none⟩), .int .i64 page, .int .i64 i] h (Good h W q tab va (entR n B tab va page i r) fun e => .agg ⟨e.cells⟩) (Bad h W q tab va (entR n B tab va page i r)) := by
  apply nest_walker_entry.calls
  unfold nest_walker_entry.P
  intro h1 e1
  have k1 : bk h1 (sz h) = some (blk 41 noEnt.cells) := by rw [e1]; exact new_at _ _
  have f1 : Fr [] h h1 := by rw [e1]; exact Fr.new _ _ _
  clear e1
  have w1 := w.fr f1 (by simp)
  have lW := w.lt
  refine (need_spec w1 (decide (page < 4096)) 1).mono ?_ ?_
  · rintro v h2 ⟨rfl, hok, rfl⟩
    have hok : page < 4096 := by simpa using hok
    refine ⟨rfl, ?_⟩
    rw [show (4 : Int) * (i : Int) = ((4 * i : Nat) : Int) by omega, wrapS (by omega) (by omega)]
    have hj : joinV page ((4 * i : Nat) : Int) = ((page.toNat * 256 + 4 * i : Nat) : Int) := by
      unfold joinV joinOk
      rw [decide_eq_true hp, decide_eq_true hok, decide_eq_true (by omega : (0 : Int) ≤ ((4 * i : Nat) : Int)), decide_eq_true (by omega : ((4 * i : Nat) : Int) < 256)]
      simp only [Bool.and_self, if_true]
      omega
    refine (join_spec page ((4 * i : Nat) : Int)).mono ?_
    rintro v h4 ⟨rfl, rfl⟩
    rw [hj]
    have hent : entR n B tab va page i r = (thruR n B tab (page.toNat * 256 + 4 * i) 0 true r).bind fun H r => .ok (dec (leN B (adr H.frame (page.toNat * 256 + 4 * i)) 4)) r := if_pos hok
    have hip : page.toNat * 256 + 4 * i < 4294967296 := by omega
    have h4m : (page.toNat * 256 + 4 * i) % 4 = 0 := by omega
    generalize page.toNat * 256 + 4 * i = ipa at *
    refine ⟨_, _, rfl, _, (cellAt_of w1 0).trans rfl, ?_⟩
    have ms1 := ms.fr f1 (by simp) (by simp)
    refine (through_spec ms1 w1 hr (by omega) hip 0 true).mono ?_ ?_
    · rintro v h5 ⟨H, r', hm, rfl, w5, f5⟩
      obtain ⟨b1, b2, b3, b4, hH⟩ := thru_le hm
      have hn := ms.hi
      have ms5 := ms1.fr f5 (by simpa using Ne.symm hq) (by simpa using Ne.symm hfb)
      refine ⟨_, _, _, _, _, _, rfl, (cellAt_of w5 0).trans rfl, ?_⟩
      refine (addr_spec H ipa b3 b4 hn).mono ?_
      rintro v h7 ⟨rfl, f7⟩
      have w7 := w5.fr f7 (by simp)
      have ms7 := ms5.fr f7 (by simp) (by simp)
      refine ⟨_, rfl, (cellAt_of w7 0).trans rfl, ?_⟩
      have hal := adr_lt (k := ipa) b3 b4 hn
      have hwo : wordOk n (adr H.frame ipa) = true := by
        simp only [wordOk, Bool.and_eq_true, decide_eq_true_eq]
        refine ⟨hal, ?_⟩
        unfold adr; omega
      refine (Word_spec ms7 (a := adr H.frame ipa) (by omega)).mono ?_
      rw [hwo, if_pos rfl]
      rintro v h8 ⟨rfl, rfl⟩
      refine ⟨_, _, rfl, ?_⟩
      refine (decode_spec _ (le4_lt ms7.byt _)).mono ?_
      rintro v h9 ⟨rfl, f9⟩
      refine ⟨_, _, _, _, _, rfl, ?_⟩
      have fr9 : Fr [W] h h9 := (f1.sub (by simp)).trans (f5.trans ((f7.trans f9).sub (by simp)))
      have k9 : bk h9 (sz h) = some (blk 41 noEnt.cells) := (f7.trans f9).at (f5.at k1 (by simp; omega)) (by simp)
      refine Ent.ret k9 rfl _ _ _ _ _ ?_
      refine ⟨_, r', hent.trans (Rs.bind_ok hm _), rfl, ?_, fr9.later (Fr.upd (F := [sz h]) (by simp) _ _ _) (by simp)⟩
      unfold WS; rw [upd_other (by omega)]; exact w7.fr f9 (by simp)
    · rintro v h5 ⟨st, kd, ad, tb, r', hm, rfl, w5, f5⟩
      exact ⟨st, kd, ad, tb, r', hent.trans (Rs.bind_bad hm _), rfl, w5, (f1.sub (by simp)).trans f5⟩
  · rintro v h2 ⟨rfl, hok, rfl⟩
    have hok : ¬ page < 4096 := by simpa using hok
    exact ⟨1, 1, va, false, r, if_neg hok, rfl, w1, f1.sub (by simp)⟩
theorem shr8 {a : Nat} (ha : a < 4294967296) : IntKind.wrap .i64 (shrV .u32 (a : Int) 8) = ((a / 256 : Nat) : Int) := by
  rw [show (8 : Int) = ((8 : Nat) : Int) from rfl, shr32 (by omega)]
  rw [wrapS (by omega) (by omega)]
theorem own_spec {h : Hp} {q fb n : Nat} {B : List Nat} (ms : MS h q fb n B) {W : Nat} (hq : W ≠ q) (hfb : W ≠ fb) {tab : Int} {va : Nat} (hva : va < 4294967296) {r : Int} (w : WS h W q tab va r) (hr : 0 ≤ r) (hr2 : r ≤ 80) {root : Nat} (hroot : root < 4294967296) :
    CallsX Try.prog 52 [.pointer (some ⟨W, 0, none⟩), .int .u32 root] h (Good h W q tab va (ownR n B tab va root r) fun x => .tuple #[.agg ⟨x.1.cells⟩, .int .i64 x.2]) (Bad h W q tab va (ownR n B tab va root r)) := by
  apply nest_walker_own.calls
  unfold nest_walker_own.P
  intro h1 e1
  have k1 : bk h1 (sz h) = some (blk 41 noEnt.cells) := by rw [e1]; exact new_at _ _
  have f1 : Fr [] h h1 := by rw [e1]; exact Fr.new _ _ _
  have s1 : sz h1 = sz h + 1 := by rw [e1]; exact sz_new _ _
  clear e1
  have w1 := w.fr f1 (by simp)
  have lW := w.lt
  refine ⟨by omega, _, (cellAt_of w1 2).trans rfl, ?_⟩
  refine (first_spec va hva).mono ?_
  rintro v h2 ⟨rfl, rfl⟩
  refine ⟨_, rfl, ?_⟩
  rw [shr8 hroot]
  have ms1 := ms.fr f1 (by simp) (by simp)
  have hbd : ∀ {st kd : Int} {ad : Nat} {tb : Bool} {r' : Int}, ownR n B tab va root r = .bad st kd ad tb r' → ∀ {h' : Hp}, WS h' W q tab va r' → Fr [W] h2 h' → Bad h W q tab va (ownR n B tab va root r) (flt st kd ad tb) h' := fun hm _ w' f' => ⟨_, _, _, _, _, hm, rfl, w', (f1.sub (by simp)).trans f'⟩
  have hgd : ∀ {x : Ent × Int} {r' : Int}, ownR n B tab va root r = .ok x r' → ∀ {h' : Hp} (l : List Value) (T : TypeId), WS h' W q tab va r' → Fr [W] h2 h' → Good h W q tab va (ownR n B tab va root r) (fun x => .tuple #[.agg ⟨x.1.cells⟩, .int .i64 x.2]) (.tuple #[.agg ⟨x.1.cells⟩, .int .i64 x.2]) (upd h' (sz h) T l) := by
    intro x r' hm h' l T w' f'
    refine ⟨_, _, hm, rfl, ?_, ((f1.sub (by simp)).trans f').later (Fr.upd (F := [sz h]) (by simp) _ _ _) (by simp)⟩
    unfold WS; rw [upd_other (by omega)]; exact w'
  refine (entry_spec ms1 hq hfb w1 hr (by omega) (page := ((root / 256 : Nat) : Int)) (by omega) (i := va / 16384 % 64) (by omega)).mono ?_ ?_
  rotate_left
  · rintro v h3 ⟨st, kd, ad, tb, r', hm, rfl, w3, f3⟩
    exact hbd (Rs.bind_bad hm _) w3 f3
  rintro v h3 ⟨e, r3, hm, rfl, w3, f3⟩
  have hown : ownR n B tab va root r = if e.v = false then .bad 1 2 va false r3 else if e.b = true then .ok (e, e.f + ((va / 256 % 64 : Nat) : Int)) r3 else
      (entR n B tab va e.f (va / 256 % 64) r3).bind fun e r => if e.v = false then .bad 1 3 va false r else .ok (e, e.f) r := Rs.bind_ok hm _
  have hle := ent_le hm
  refine ⟨_, _, _, _, _, rfl, ?_⟩
  refine put_local rfl (by decide) ?_
  intro h6 k6 f6 s6
  have w6 := w3.fr f6 (by simp)
  have f36 : Fr [W] h2 h6 := f3.trans (f6.sub (by simp))
  have z3 := f3.size
  have k6e : bk h6 (sz h3) = some (blk 41 e.cells) := k6
  refine ⟨_, (cellAt_of k6 0).trans rfl, ?_⟩
  refine (need_spec w6 e.v 2).mono ?_ ?_
  rotate_left
  · rintro v h7 ⟨rfl, hv, rfl⟩
    exact hbd (hown.trans (if_pos hv)) w6 f36
  rintro v h7 ⟨rfl, hv, rfl⟩
  have hown := hown.trans (if_neg (by rw [hv]; decide))
  have r6 := f36.at k1 (by simp; omega)
  refine ⟨rfl, _, (cellAt_of k6 3).trans rfl, fun hb => ?_, fun hb => ?_⟩
  · have hown := hown.trans (if_pos hb)
    refine Ent.rd (o := 0) e (fun j hj => by rw [Nat.zero_add]; exact cellAt_of k6 j) ?_
    refine ⟨_, (cellAt_of k6 4).trans rfl, _, (cellAt_of w6 2).trans rfl, ?_⟩
    refine (second_spec va hva).mono ?_
    rintro v h9 ⟨rfl, rfl⟩
    refine ⟨_, rfl, (cellAt_of k6 0).trans rfl, (cellAt_of k6 1).trans rfl, (cellAt_of k6 2).trans rfl, (cellAt_of k6 3).trans rfl, (cellAt_of k6 4).trans rfl, (cellAt_of k6 4).trans rfl, truly_rfl, _, _, r6, by decide, ?_⟩
    rintro h10 rfl
    rw [wrapS (by omega) (by omega)]
    have hw : writeAt noEnt.cells 0 [.bool e.v, .bool e.w, .bool e.x, .bool e.b, .int .i64 e.f] = e.cells := rfl
    rw [hw]
    refine ⟨by rw [cellAt_of (show bk _ (sz h3) = some (blk 41 e.cells) by rw [upd_other (by omega)]; exact k6)]; rfl, _, (cell_upd r6 _ _ _).trans rfl, _, (cell_upd r6 _ _ _).trans rfl, _, (cell_upd r6 _ _ _).trans rfl, _, (cell_upd r6 _ _ _).trans rfl, _, (cell_upd r6 _ _ _).trans rfl, ?_⟩
    exact hgd hown _ _ w6 f36
  · have hown := hown.trans (if_neg (by rw [hb]; decide))
    refine ⟨_, (cellAt_of k6 4).trans rfl, _, (cellAt_of w6 2).trans rfl, ?_⟩
    refine (second_spec va hva).mono ?_
    rintro v h9 ⟨rfl, rfl⟩
    refine ⟨_, rfl, (cellAt_of k6 4).trans rfl, ?_⟩
    have ms6 := ms1.fr f36 (by simpa using Ne.symm hq) (by simpa using Ne.symm hfb)
    refine (entry_spec ms6 hq hfb w6 (by omega) (by omega) (page := e.f) hle.2.2.1 (i := va / 256 % 64) (by omega)).mono ?_ ?_
    rotate_left
    · rintro v h12 ⟨st, kd, ad, tb, r', hm, rfl, w12, f12⟩
      exact hbd (hown.trans (Rs.bind_bad hm _)) w12 (f36.trans f12)
    rintro v h12 ⟨g, r12, hm2, rfl, w12, f12⟩
    have hown := hown.trans (Rs.bind_ok hm2 _)
    have k12 := f12.at k6e (by simp; omega)
    refine ⟨_, _, _, _, _, rfl, truly_rfl, _, _, k12, by simp [Ent.len], ?_⟩
    intro h14 e14
    have hw2 : writeAt e.cells 0 [.bool g.v, .bool g.w, .bool g.x, .bool g.b, .int .i64 g.f] = g.cells := rfl
    rw [hw2] at e14
    have k14 : bk h14 (sz h3) = some (blk 41 g.cells) := by rw [e14]; exact upd_same k12 _ _
    have f14 : Fr [sz h3] h12 h14 := by rw [e14]; exact Fr.upd (by simp) _ _ _
    clear e14
    have w14 := w12.fr f14 (by simp; omega)
    have fr14 : Fr [W] h2 h14 := (f36.trans f12).later f14 (by simp; omega)
    have r14 := fr14.at k1 (by simp; omega)
    refine ⟨_, (cellAt_of k14 0).trans rfl, ?_⟩
    refine (need_spec w14 g.v 3).mono ?_ ?_
    rotate_left
    · rintro v h15 ⟨rfl, hv, rfl⟩
      exact hbd (hown.trans (if_pos hv)) w14 fr14
    rintro v h15 ⟨rfl, hv, rfl⟩
    have hown := hown.trans (if_neg (by rw [hv]; decide))
    refine ⟨rfl, ?_⟩
    refine Ent.rd (o := 0) g (fun j hj => by rw [Nat.zero_add]; exact cellAt_of k14 j) ?_
    refine ⟨_, (cellAt_of k14 4).trans rfl, truly_rfl, _, _, r14, by decide, ?_⟩
    rintro h17 rfl
    have hw3 : writeAt noEnt.cells 0 [.bool g.v, .bool g.w, .bool g.x, .bool g.b, .int .i64 g.f] = g.cells := rfl
    rw [hw3]
    refine ⟨by rw [cellAt_of (show bk _ (sz h3) = some (blk 41 g.cells) by rw [upd_other (by omega)]; exact k14)]; rfl, _, (cell_upd r14 _ _ _).trans rfl, _, (cell_upd r14 _ _ _).trans rfl, _, (cell_upd r14 _ _ _).trans rfl, _, (cell_upd r14 _ _ _).trans rfl, _, (cell_upd r14 _ _ _).trans rfl, ?_⟩
    exact hgd hown _ _ w14 fr14
end Go.Proofs.Ytopfdfcbhclolaa
