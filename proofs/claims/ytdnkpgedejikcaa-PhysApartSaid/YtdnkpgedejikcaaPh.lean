import Derived.Test.YtdnkpgedejikcaaPg
namespace Go.Proofs.Ytdnkpgedejikcaa
open Go Go.Wd
set_option linter.unusedVariables false
set_option linter.unusedSimpArgs false

theorem frame_put {B F : List Nat} {n k i : Nat} (hl : B.length = n * 256) (hk : k < n) (hF : F.length = 256) : frameOf (putR B (k * 256) F) i = if i = k then F else frameOf B i := by
  apply List.ext_getElem?
  intro j
  by_cases hj : j < 256
  · rw [frameOf_at hj, putR_at (by omega)]
    by_cases e : i = k
    · subst e
      rw [if_pos rfl, if_pos (by omega), Nat.add_sub_cancel_left]
    · rw [if_neg e, frameOf_at hj, if_neg (by omega)]
  · by_cases e : i = k
    · rw [if_pos e]
      unfold frameOf
      rw [List.getElem?_take, if_neg hj, List.getElem?_eq_none (by omega)]
    · rw [if_neg e]
      unfold frameOf
      rw [List.getElem?_take, List.getElem?_take, if_neg hj, if_neg hj]

set_option maxHeartbeats 2000000 in
theorem fills_law {h : Hp} (nn : Int) {a : Option Addr} {c : Nat} {l : List Q} (g1 : rowAtK h a (encL Q.cells l)) (hq : ∀ x ∈ l, x.fit h) {a2 : Option Addr} {c2 : Nat} {b : List Nat} (g2 : rowAtK h a2 (encL iB b)) (hb : Byt b) :
    CallsH Try.prog 7 [.int .i64 nn, .slice a l.length c, .slice a2 b.length c2] h fun v h' => v = .bool true ∧ Fr [] h h' := by
  refine calls_k fun R hR => ?_
  apply warderlaw04_PhysFills.calls
  unfold warderlaw04_PhysFills.P
  refine (alive_spec h).mono ?_
  rintro v h1 ⟨rfl, f1⟩
  have yes := fun h' (f : Fr [] h h') => hR (.bool true) h' ⟨rfl, f⟩
  refine ⟨_, rfl, by simp, fun _ => ?_⟩
  refine ⟨fun h2 => h2 = h1 ∧ l.length ≤ 60 ∧ (∀ x ∈ l, x.bytes.length ≤ 3000) ∧ b.length ≤ 2000, ?_, ?_⟩
  · refine (great_spec (g1.fr f1 (by simp)) (fun x hx => (hq x hx).sz)).mono ?_
    rintro v h2 ⟨g, rfl, rfl, hg⟩
    refine ⟨_, rfl, fun _ => yes _ f1, fun c => ⟨fun _ => yes _ f1, fun d => ⟨rfl, (hg c).1, (hg c).2, by simp only [decide_eq_false_iff_not] at d; omega⟩⟩⟩
  rintro h2 ⟨rfl, hl60, h3000, hb2⟩
  refine (new_spec (n := 4) (by omega) (by omega)).mono ?_
  rintro v h3 ⟨rfl, w3, f3, s3⟩
  refine ⟨_, _, rfl, fun h5 => h5 = h3, ⟨fun hc => absurd hc (by simp), fun _ => ⟨fun hc => absurd hc (by simp [notIf]), fun _ => rfl⟩⟩, ?_⟩
  rintro h4 rfl
  refine (rnew_spec (n := 4) (by omega)).mono ?_
  rintro v h6 ⟨rfl, r6, f6, s6⟩
  refine ⟨_, rfl, ?_⟩
  have w6 := w3.fr f6 (by simp) (by simp)
  have z1 := f1.size
  have e1 : sz h2 + 1 ≠ sz h4 + 1 := by omega
  have e2 : sz h2 + 1 ≠ sz h4 := by omega
  have e3 : sz h2 ≠ sz h4 + 1 := by omega
  have e4 : sz h2 ≠ sz h4 := by omega
  have fr6 := (f1.trans f3).trans f6
  have gf : sz h ≤ sz h2 := z1
  have gr : sz h ≤ sz h4 := by omega
  have gq : sz h ≤ sz h2 + 1 := by omega
  have gq2 : sz h ≤ sz h4 + 1 := by omega
  clear s3 s6
  generalize sz h4 + 1 = q2 at *
  generalize sz h4 = rb at *
  generalize sz h2 + 1 = q at *
  generalize sz h2 = fb at *
  refine ⟨fun i h7 => ∃ (k : Nat) (B : List Nat), i = k ∧ k ≤ l.length ∧ MS h7 q fb 4 B ∧ RS h7 q2 rb B ∧ Fr [] h h7, fun i _ => l.length - i.toNat, ⟨0, _, rfl, by omega, w6, r6, fr6⟩, ?_⟩
  rintro i h7 ⟨k, B, rfl, hk, w7, r7, f7⟩
  by_cases hkl : k < l.length
  · refine ⟨fun _ => ?_, fun hf => absurd hf (by simp; omega)⟩
    obtain ⟨x, hx⟩ : ∃ x, l[k]? = some x := ⟨_, List.getElem?_eq_getElem hkl⟩
    have hxm := List.mem_of_getElem? hx
    obtain ⟨b1, o1, rfl, ec⟩ := encL_one (f := Q.cells) (m := 5) Q.len (g1.fr f7 (by simp)) hx (by omega)
    have e (j : Nat) (hj : j < 5) : cellAt h7 b1 (o1 + (k : Int).toNat * 5 + j) = x.cells[j]? := by rw [Int.toNat_natCast]; exact ec j hj
    refine ⟨by omega, by omega, _, _, rfl, _, (e 0 (by omega)).trans rfl, _, (e 1 (by omega)).trans rfl, _, (e 2 (by omega)).trans rfl, _, (e 3 (by omega)).trans rfl, _, _, _, (e 4 (by omega)).trans rfl, ?_⟩
    refine (told_step w7 r7 e1 e2 e3 e4 (hq x hxm).ok (h3000 x hxm) f7 gf gr).mono ?_
    rintro v h8 ⟨rfl, w8, r8, f8, _⟩
    rw [wrapN hkl (by omega)]
    exact ⟨_, rfl, ⟨k + 1, _, rfl, by omega, w8, r8, f8⟩, dec hkl⟩
  refine ⟨fun hf => absurd hf (by simp; omega), fun _ => ?_⟩
  refine (Clone_spec w7).mono ?_
  rintro v h9 ⟨q', fb', rfl, v9, gq', gf', f9⟩
  refine ⟨_, rfl, ?_⟩
  have w9 := w7.fr f9 (by simp) (by simp)
  have fr9 := f7.trans f9
  refine (Fill_spec (c := c2) w9 nn hb (g2.fr fr9 (by simp))).mono ?_
  rintro v h10 ⟨rfl, w10, f10⟩
  have lf7 := w7.ltf
  have v10 := v9.fr f10 (by simp; omega) (by simp; omega)
  have fr10 := fr9.later f10 (by simp; omega)
  have hlB := w7.len
  refine ⟨_, rfl, ?_⟩
  refine ⟨fun h13 => h13 = h10 ∧ fillE 4 nn b.length = 0, ?_, ?_⟩
  · refine ⟨fun x h11 => h11 = h10 ∧ x = !decide (fillE 4 nn b.length = 0), ⟨fun d => ⟨rfl, ?_⟩, fun d => ⟨fun d2 => ⟨rfl, ?_⟩, fun d2 => ⟨rfl, ?_⟩⟩⟩, ?_⟩
    · have : isIn 4 nn = false := by simp at d; simp [isIn]; omega
      simp [fillE, this]
    · have : isIn 4 nn = false := by simp at d2; simp [isIn]; omega
      simp [fillE, this]
    · have : isIn 4 nn = true := by simp at d d2; simp [isIn]; omega
      simp only [fillE, this, if_true]
      by_cases hb256 : 256 < b.length
      · rw [if_pos hb256, decide_eq_true (by omega)]; rfl
      · rw [if_neg hb256, decide_eq_false (by omega)]; rfl
    rintro x h11 ⟨rfl, rfl⟩
    refine ⟨fun hc => ⟨fun _ => ?_, fun hc2 => ?_⟩, fun hc => ⟨rfl, by simpa using hc⟩⟩
    · have he : ¬ fillE 4 nn b.length = 0 := by simpa using hc
      simp only [fillL, he, if_false] at w10
      refine (Differ_spec w10 v10).mono ?_
      rw [diffs_same]
      rintro v h12 ⟨a12, c12, rfl, _, _, f12⟩
      exact ⟨_, _, _, rfl, yes _ (fr10.trans f12)⟩
    · have he : ¬ fillE 4 nn b.length = 0 := by simpa using hc
      simp only [bne_eq_false_iff_eq] at hc2
      exact absurd hc2 he
  rintro h13 ⟨rfl, he⟩
  obtain ⟨m, rfl, hm, hbl⟩ := fill_ok he
  simp only [fillL, he, if_true, Int.toNat_natCast] at w10
  have hfl := full_len hbl
  refine (Frame_spec w10 hm).mono ?_
  rintro v h14 ⟨a14, c14, rfl, o14, _, f14⟩
  have hfr : frameOf (putR B (m * 256) (full b)) m = full b := by rw [frame_put hlB hm hfl, if_pos rfl]
  rw [hfr] at o14
  refine ⟨_, _, _, _, rfl, fun h15 => h15 = h14, ⟨fun hc => absurd hc (by rw [he]; simp), fun _ => ⟨fun hc => absurd hc (by simp), fun _ => ⟨fun hc => absurd hc (by simp), fun _ => rfl⟩⟩⟩, ?_⟩
  rintro h15 rfl
  have fr15 := fr10.trans f14
  refine ⟨fun i h16 => ∃ j : Nat, i = j ∧ j ≤ 256 ∧ h16 = h15, fun i _ => 256 - i.toNat, ⟨0, rfl, by omega, rfl⟩, ?_⟩
  rintro i h16 ⟨j, rfl, hj, rfl⟩
  by_cases hj256 : j < 256
  · obtain ⟨y, hy⟩ : ∃ y, (full b)[j]? = some y := ⟨_, List.getElem?_eq_getElem (by omega)⟩
    obtain ⟨b3, o3, ea, ec⟩ := rowB_cell o14.row hy
    rw [wrapN hj256 (by omega)]
    have ec' : cellAt h16 b3 (o3 + (j : Int).toNat * 1) = some (.int .u8 (y : Int)) := by rw [Int.toNat_natCast, Nat.mul_one]; exact ec
    have hI : (∃ j' : Nat, ((j + 1 : Nat) : Int) = j' ∧ j' ≤ 256 ∧ h16 = h16) := ⟨j + 1, rfl, by omega, rfl⟩
    refine ⟨fun _ => ⟨fun d => ?_, fun d => ⟨fun _ => ?_, fun d2 => ?_⟩⟩, fun hf => absurd hf (by simp; omega)⟩
    · have hjl : j < b.length := by simp only [decide_eq_true_eq] at d; omega
      have hyb : b[j]? = some y := (List.getElem?_append_left (l₂ := List.replicate (256 - b.length) 0) hjl).symm.trans hy
      obtain ⟨b4, o4, eb, ed⟩ := rowB_cell (g2.fr fr15 (by simp)) hyb
      refine ⟨by omega, by omega, _, _, ea, _, ec', by omega, by omega, _, _, eb, _, by rw [Int.toNat_natCast, Nat.mul_one]; exact ed, fun hc => absurd hc (by simp), fun _ => ⟨fun hc => absurd hc (by simp; omega), fun _ => ⟨hI, dec hj256⟩⟩⟩
    · have hjl : b.length ≤ j := by simp only [decide_eq_false_iff_not] at d; omega
      have hy0 : y = 0 := by
        unfold full at hy
        rw [List.getElem?_append_right hjl, List.getElem?_replicate, if_pos (by omega)] at hy
        cases hy; rfl
      subst hy0
      exact ⟨by omega, by omega, _, _, ea, _, ec', fun hc => absurd hc (by simp), fun _ => ⟨hI, dec hj256⟩⟩
    · exact ⟨hI, dec hj256⟩
  · refine ⟨fun hf => absurd hf (by simp; omega), fun _ => ?_⟩
    have w14 := w10.fr f14 (by simp) (by simp)
    have v14 := v10.fr f14 (by simp) (by simp)
    refine (Differ_spec w14 v14).mono ?_
    have hd := diffs_one (n := 4) (k := m) (B := putR B (m * 256) (full b)) (D := B) (fun i h1 h2 => by
      unfold diffP
      rw [frame_put hlB hm hfl, if_neg h1]; simp)
    rw [hd]
    rintro v h17 ⟨a17, c17, rfl, r17, _, f17⟩
    refine ⟨_, _, _, rfl, fun _ => yes _ (fr15.trans f17), fun d => ?_⟩
    by_cases hc : m < 4 ∧ diffP (putR B (m * 256) (full b)) B m = true
    · rw [if_pos hc] at r17 ⊢
      obtain ⟨b5, o5, ea, ed⟩ := rowN_cell (k := 0) r17 rfl
      refine ⟨fun _ => ⟨by omega, by simp, _, _, ea, _, ed, ?_⟩, fun hc2 => absurd hc2 (by simp)⟩
      rw [beq_self_eq_true]
      exact yes _ (fr15.trans f17)
    · rw [if_neg hc] at d
      simp at d

set_option maxHeartbeats 2000000 in
theorem apart_law {h : Hp} (frames : Int) {a : Option Addr} {c : Nat} {l : List Q} (g1 : rowAtK h a (encL Q.cells l)) (hq : ∀ x ∈ l, x.fit h) (nn : Int) :
    CallsH Try.prog 6 [.int .i64 frames, .slice a l.length c, .int .i64 nn] h fun v h' => v = .bool true ∧ Fr [] h h' := by
  refine calls_k fun R hR => ?_
  apply warderlaw04_PhysApart.calls
  unfold warderlaw04_PhysApart.P
  refine (alive_spec h).mono ?_
  rintro v h1 ⟨rfl, f1⟩
  have yes := fun h' (f : Fr [] h h') => hR (.bool true) h' ⟨rfl, f⟩
  refine ⟨_, rfl, by simp, fun _ => ?_⟩
  refine ⟨fun h2 => h2 = h1 ∧ l.length ≤ 60 ∧ (∀ x ∈ l, x.bytes.length ≤ 3000) ∧ 1 ≤ frames ∧ frames ≤ 40 ∧ 0 ≤ nn ∧ nn < frames, ?_, ?_⟩
  · refine (great_spec (g1.fr f1 (by simp)) (fun x hx => (hq x hx).sz)).mono ?_
    rintro v h2 ⟨g, rfl, rfl, hg⟩
    refine ⟨_, rfl, fun _ => yes _ f1, fun c => ⟨fun _ => yes _ f1, fun d1 => ⟨fun _ => yes _ f1, fun d2 => ⟨fun _ => yes _ f1, fun d3 => ⟨fun _ => yes _ f1, fun d4 => ?_⟩⟩⟩⟩⟩
    simp only [decide_eq_false_iff_not] at d1 d2 d3 d4
    exact ⟨rfl, (hg c).1, (hg c).2, by omega, by omega, by omega, by omega⟩
  rintro h2 ⟨rfl, hl60, h3000, hn1, hn2, hn3, hn4⟩
  obtain ⟨n, rfl⟩ : ∃ n : Nat, frames = n := ⟨frames.toNat, by omega⟩
  obtain ⟨m, rfl⟩ : ∃ m : Nat, nn = m := ⟨nn.toNat, by omega⟩
  have hm : m < n := by omega
  refine (new_spec (n := n) (by omega) (by omega)).mono ?_
  rintro v h3 ⟨rfl, w3, f3, s3⟩
  refine ⟨_, _, rfl, fun h5 => h5 = h3, ⟨fun hc => absurd hc (by simp), fun _ => ⟨fun hc => absurd hc (by simp [notIf]), fun _ => rfl⟩⟩, ?_⟩
  rintro h4 rfl
  refine (rnew_spec (n := n) (by omega)).mono ?_
  rintro v h6 ⟨rfl, r6, f6, s6⟩
  refine ⟨_, rfl, ?_⟩
  have w6 := w3.fr f6 (by simp) (by simp)
  have z1 := f1.size
  have e1 : sz h2 + 1 ≠ sz h4 + 1 := by omega
  have e2 : sz h2 + 1 ≠ sz h4 := by omega
  have e3 : sz h2 ≠ sz h4 + 1 := by omega
  have e4 : sz h2 ≠ sz h4 := by omega
  have fr6 := (f1.trans f3).trans f6
  have gf : sz h ≤ sz h2 := z1
  have gr : sz h ≤ sz h4 := by omega
  have gq : sz h ≤ sz h2 + 1 := by omega
  have gq2 : sz h ≤ sz h4 + 1 := by omega
  clear s3 s6
  generalize sz h4 + 1 = q2 at *
  generalize sz h4 = rb at *
  generalize sz h2 + 1 = q at *
  generalize sz h2 = fb at *
  refine ⟨fun i h7 => ∃ (k : Nat) (B : List Nat), i = k ∧ k ≤ l.length ∧ MS h7 q fb n B ∧ RS h7 q2 rb B ∧ Fr [] h h7, fun i _ => l.length - i.toNat, ⟨0, _, rfl, by omega, w6, r6, fr6⟩, ?_⟩
  rintro i h7 ⟨k, B, rfl, hk, w7, r7, f7⟩
  by_cases hkl : k < l.length
  · refine ⟨fun _ => ?_, fun hf => absurd hf (by simp; omega)⟩
    obtain ⟨x, hx⟩ : ∃ x, l[k]? = some x := ⟨_, List.getElem?_eq_getElem hkl⟩
    have hxm := List.mem_of_getElem? hx
    have hlB := w7.len
    have hfl := frameOf_len hlB hm
    have z7 := f7.size
    have lf7 := w7.ltf
    have lq7 := w7.lt
    have lr7 := r7.ltr
    have lq27 := r7.lt
    refine (Clone_spec w7).mono ?_
    rintro v h8 ⟨qc, fc, rfl, v8, gqc, gfc, f8⟩
    refine ⟨_, rfl, ?_⟩
    refine (Frame_spec (w7.fr f8 (by simp) (by simp)) hm).mono ?_
    rintro v h9 ⟨ab, cb, rfl, ob, fob, f9⟩
    refine ⟨_, _, _, _, rfl, ?_⟩
    have hcp := Copy_spec (c := cb) ob.row (by omega)
    rw [hfl] at hcp
    refine hcp.mono ?_
    rintro v h10 ⟨ao, co, rfl, oo, foo, f10⟩
    refine ⟨_, _, _, rfl, ?_⟩
    have v10 := (v8.fr f9 (by simp) (by simp)).fr f10 (by simp) (by simp)
    refine (Clone_spec v10).mono ?_
    rintro v h11 ⟨qd, fd, rfl, u11, gqd, gfd, f11⟩
    refine ⟨_, rfl, ?_⟩
    have fx := ((f8.trans f9).trans f10).trans f11
    have f711 := f7.trans fx
    have w11 := w7.fr fx (by simp) (by simp)
    have r11 := r7.fr fx (by simp) (by simp)
    have v11 := v10.fr f11 (by simp) (by simp)
    have ob11 := (ob.fr f10 (by simp)).fr f11 (by simp)
    have oo11 := oo.fr f11 (by simp)
    have z8 := f8.size
    have z9 := f9.size
    have z10 := f10.size
    have z11 := f11.size
    have gfob : ∀ y ∈ foot ab, sz h8 ≤ y ∧ y < sz h9 := fob
    have gfoo : ∀ y ∈ foot ao, sz h9 ≤ y := fun y hy => (foo y hy).1
    have hvc := v8.lt
    have hvf := v8.ltf
    obtain ⟨b1, o1, rfl, ec⟩ := encL_one (f := Q.cells) (m := 5) Q.len (g1.fr f711 (by simp)) hx (by omega)
    have e (j : Nat) (hj : j < 5) : cellAt h11 b1 (o1 + (k : Int).toNat * 5 + j) = x.cells[j]? := by rw [Int.toNat_natCast]; exact ec j hj
    refine ⟨by omega, by omega, _, _, rfl, _, (e 0 (by omega)).trans rfl, _, (e 1 (by omega)).trans rfl, _, (e 2 (by omega)).trans rfl, _, (e 3 (by omega)).trans rfl, _, _, _, (e 4 (by omega)).trans rfl, ?_⟩
    refine (told_step w11 r11 e1 e2 e3 e4 (hq x hxm).ok (h3000 x hxm) f711 gf gr).mono ?_
    rintro v h12 ⟨rfl, w12, r12, f12, g12⟩
    refine ⟨_, rfl, ?_⟩
    have v12 := v11.fr g12 (by simp; omega) (by simp; omega)
    have u12 := u11.fr g12 (by simp; omega) (by simp; omega)
    have ob12 := ob11.fr g12 (fun y hy => by have := gfob y hy; simp; omega)
    have oo12 := oo11.fr g12 (fun y hy => by have := gfoo y hy; simp; omega)
    have z12 := g12.size
    refine ⟨fun h15 => Fr [] h12 h15, ?_, ?_⟩
    · refine (Differ_spec v12 u12).mono ?_
      rw [diffs_same]
      rintro v h13 ⟨a13, c13, rfl, _, _, f13⟩
      refine ⟨_, _, _, rfl, fun hc => absurd hc (by simp), fun _ => ?_⟩
      have hs := SameB_spec (c := cb) (d := co) (ob12.row.fr f13 (by simp)) (oo12.row.fr f13 (by simp)) (by omega)
      rw [hfl] at hs
      refine hs.mono ?_
      rintro v h14 ⟨rfl, rfl⟩
      exact ⟨_, rfl, fun hc => absurd hc (by simp), fun _ => f13⟩
    intro h15 f15
    have ob15 := ob12.fr f15 (by simp)
    have oo15 := oo12.fr f15 (by simp)
    have v15 := v12.fr f15 (by simp) (by simp)
    have w15 := w12.fr f15 (by simp) (by simp)
    have r15 := r12.fr f15 (by simp) (by simp)
    have fr15 := f12.trans f15
    rcases ob15.2 with ⟨_, h0, _⟩ | ⟨bb, rest, rfl, hbb, _, _⟩
    · omega
    have hbb8 := gfob bb (by simp [foot])
    refine ⟨fun i h16 => ∃ (j : Nat) (M : List Nat), i = j ∧ j ≤ 256 ∧ M.length = 256 ∧ Arr iB 5 h16 bb M rest ∧ Fr [bb] h15 h16, fun i _ => 256 - i.toNat, ⟨0, _, rfl, by omega, hfl, ⟨hbb⟩, Fr.refl _ _⟩, ?_⟩
    rintro i h16 ⟨j, M, rfl, hj, hM, w16, f16⟩
    by_cases hjl : j < 256
    · obtain ⟨y, hy⟩ : ∃ y, M[j]? = some y := ⟨_, List.getElem?_eq_getElem (by omega)⟩
      have ecy := arrB_cell w16 hy
      have e9 : IntKind.wrap .u8 ((y : Int) + 1) = (((y + 1) % 256 : Nat) : Int) := modn_u8 (y + 1)
      refine ⟨fun _ => ⟨by omega, by omega, _, _, rfl, (y : Int), by rw [Int.toNat_natCast, Nat.zero_add, Nat.mul_one]; exact ecy, by omega, by omega, _, _, rfl, ?_⟩, fun hf => absurd hf (by simp; omega)⟩
      rw [e9, Int.toNat_natCast, Nat.zero_add, Nat.mul_one]
      refine ⟨truly_rfl, _, _, w16.hq, by rw [arrB_len w16]; omega, ?_⟩
      rintro h17 rfl
      rw [wrapN hjl (by omega)]
      exact ⟨⟨j + 1, _, rfl, by omega, by simpa using hM, arrB_put w16 (by omega) _, f16.trans (Fr.upd (by simp) _ _ _)⟩, dec hjl⟩
    · refine ⟨fun hf => absurd hf (by simp; omega), fun _ => ?_⟩
      have v16 := v15.fr f16 (by simp; omega) (by simp; omega)
      have w16' := w15.fr f16 (by simp; omega) (by simp; omega)
      have r16 := r15.fr f16 (by simp; omega) (by simp; omega)
      have oo16 := oo15.fr f16 (fun y hy => by have := gfoo y hy; simp; omega)
      refine (Frame_spec v16 hm).mono ?_
      rintro v h18 ⟨ax, cx, rfl, ox, _, f18⟩
      refine ⟨_, _, _, _, rfl, ?_⟩
      have hs := SameB_spec (c := cx) (d := co) ox.row (oo16.row.fr f18 (by simp)) (by omega)
      rw [hfl] at hs
      refine hs.mono ?_
      rintro v h19 ⟨rfl, rfl⟩
      refine ⟨_, rfl, fun hc => absurd hc (by simp), fun _ => ?_⟩
      rw [wrapN hkl (by omega)]
      exact ⟨⟨k + 1, _, rfl, by omega, w16'.fr f18 (by simp) (by simp), r16.fr f18 (by simp) (by simp), (fr15.later f16 (by simp; omega)).trans f18⟩, dec hkl⟩
  · exact ⟨fun hf => absurd hf (by simp; omega), fun _ => yes _ f7⟩
end Go.Proofs.Ytdnkpgedejikcaa
