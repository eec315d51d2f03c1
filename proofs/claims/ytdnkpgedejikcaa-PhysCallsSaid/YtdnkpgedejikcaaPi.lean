import Derived.Test.YtdnkpgedejikcaaPh
namespace Go.Proofs.Ytdnkpgedejikcaa
open Go Go.Wd
set_option linter.unusedVariables false
set_option linter.unusedSimpArgs false

theorem seg_base (b i len : Nat) (h : i * 256 < len) : sliceBase (some (⟨b, 0, none⟩ : Addr)) (((i * 256 : Nat) : Int)).toNat (((len : Nat) : Int)).toNat 1 = some ⟨b, i * 256, none⟩ := by
  unfold sliceBase
  rw [if_neg (by omega)]
  simp [Addr.add_lit]

set_option maxHeartbeats 2000000 in
theorem calls_law {h : Hp} (frames : Int) {a : Option Addr} {c : Nat} {l : List Q} (g1 : rowAtK h a (encL Q.cells l)) (hq : ∀ x ∈ l, x.fit h) {ad : Nat} (had : ad < 4294967296) (nn : Int) :
    CallsH Try.prog 4 [.int .i64 frames, .slice a l.length c, .int .u32 ad, .int .i64 nn] h fun v h' => v = .bool true ∧ Fr [] h h' := by
  refine calls_k fun R hR => ?_
  apply warderlaw04_PhysCalls.calls
  unfold warderlaw04_PhysCalls.P
  refine (alive_spec h).mono ?_
  rintro v h1 ⟨rfl, f1⟩
  have yes := fun h' (f : Fr [] h h') => hR (.bool true) h' ⟨rfl, f⟩
  refine ⟨_, rfl, by simp, fun _ => ?_⟩
  refine ⟨fun h2 => h2 = h1 ∧ l.length ≤ 60 ∧ (∀ x ∈ l, x.bytes.length ≤ 3000) ∧ (frames ≤ 40 ∨ 1024 < frames), ?_, ?_⟩
  · refine (great_spec (g1.fr f1 (by simp)) (fun x hx => (hq x hx).sz)).mono ?_
    rintro v h2 ⟨g, rfl, rfl, hg⟩
    refine ⟨_, rfl, fun _ => yes _ f1, fun c => ⟨fun d1 => ⟨fun _ => yes _ f1, fun d2 => ?_⟩, fun d1 => ?_⟩⟩
    · simp only [decide_eq_false_iff_not] at d2
      exact ⟨rfl, (hg c).1, (hg c).2, .inr (by omega)⟩
    · simp only [decide_eq_false_iff_not] at d1
      exact ⟨rfl, (hg c).1, (hg c).2, .inl (by omega)⟩
  rintro h2 ⟨rfl, hl60, h3000, hn⟩
  by_cases hgood : ¬ (1 ≤ frames ∧ frames ≤ 40)
  · refine (new_bad (n := frames) (by omega)).mono ?_
    rintro v h3 ⟨rfl, rfl⟩
    refine ⟨_, _, rfl, fun _ => False, ⟨fun _ => ⟨fun _ => yes _ f1, fun c => absurd c (by simp)⟩, fun d1 => ⟨fun _ => ⟨fun _ => yes _ f1, fun c => absurd c (by simp)⟩, fun d2 => ?_⟩⟩, fun _ h => h.elim⟩
    simp only [decide_eq_false_iff_not] at d1 d2; omega
  obtain ⟨n, rfl⟩ : ∃ n : Nat, frames = n := ⟨frames.toNat, by omega⟩
  refine (new_spec (n := n) (by omega) (by omega)).mono ?_
  rintro v h3 ⟨rfl, w3, f3, s3⟩
  refine ⟨_, _, rfl, fun h4 => h4 = h3, ⟨fun d => ?_, fun d1 => ⟨fun d => ?_, fun _ => rfl⟩⟩, ?_⟩
  · simp only [decide_eq_true_eq] at d; omega
  · simp only [decide_eq_true_eq] at d; omega
  rintro h4 rfl
  refine ⟨fun h5 => h5 = h4, ⟨fun hc => absurd hc (by simp), fun _ => ⟨fun hc => absurd hc (by simp [notIf]), fun _ => ?_⟩⟩, ?_⟩
  · refine (Frames_spec w3).mono ?_
    rintro v h5 ⟨rfl, rfl⟩
    exact ⟨_, rfl, fun hc => absurd hc (by simp), fun _ => rfl⟩
  rintro h5 rfl
  refine (rnew_spec (n := n) (by omega)).mono ?_
  rintro v h6 ⟨rfl, r6, f6, s6⟩
  refine ⟨_, rfl, ?_⟩
  have w6 := w3.fr f6 (by simp) (by simp)
  have z1 := f1.size
  have e1 : sz h2 + 1 ≠ sz h5 + 1 := by omega
  have e2 : sz h2 + 1 ≠ sz h5 := by omega
  have e3 : sz h2 ≠ sz h5 + 1 := by omega
  have e4 : sz h2 ≠ sz h5 := by omega
  have fr6 := (f1.trans f3).trans f6
  have gf : sz h ≤ sz h2 := z1
  have gr : sz h ≤ sz h5 := by omega
  have gq : sz h ≤ sz h2 + 1 := by omega
  have gq2 : sz h ≤ sz h5 + 1 := by omega
  clear s3 s6
  generalize sz h5 + 1 = q2 at *
  generalize sz h5 = rb at *
  generalize sz h2 + 1 = q at *
  generalize sz h2 = fb at *
  refine ⟨fun i h7 => ∃ (k : Nat) (B : List Nat), i = k ∧ k ≤ l.length ∧ MS h7 q fb n B ∧ RS h7 q2 rb B ∧ Fr [] h h7, fun i _ => l.length - i.toNat, ⟨0, _, rfl, by omega, w6, r6, fr6⟩, ?_⟩
  rintro i h7 ⟨k, B, rfl, hk, w7, r7, f7⟩
  by_cases hkl : k < l.length
  · refine ⟨fun _ => ?_, fun hf => absurd hf (by simp; omega)⟩
    obtain ⟨x, hx⟩ : ∃ x, l[k]? = some x := ⟨_, List.getElem?_eq_getElem hkl⟩
    have hxm := List.mem_of_getElem? hx
    obtain ⟨b1, o1, rfl, ec⟩ := encL_one (f := Q.cells) (m := 5) Q.len (g1.fr f7 (by simp)) hx (by omega)
    have e (j : Nat) (hj : j < 5) : cellAt h7 b1 (o1 + (k : Int).toNat * 5 + j) = x.cells[j]? := by rw [Int.toNat_natCast]; exact ec j hj
    refine ⟨by omega, by omega, _, _, rfl, _, (e 0 (by omega)).trans rfl, _, (e 1 (by omega)).trans rfl, _, (e 2 (by omega)).trans rfl, _, (e 3 (by omega)).trans rfl, _, _, _, (e 4 (by omega)).trans rfl, ?_⟩
    refine (told_step w7 r7 e1 e2 e3 e4 (hq x hxm).ok (h3000 x hxm) f7 gf gr).mono ?_
    rintro v h8 ⟨rfl, w8, r8, f8, _⟩
    refine ⟨_, rfl, fun hc => absurd hc (by simp), fun _ => ?_⟩
    have hl8 := w8.len
    refine (Byte_spec w8 had).mono ?_
    rintro v h9 ⟨rfl, rfl⟩
    refine ⟨_, _, rfl, ?_⟩
    refine (rByte_spec r8 had).mono ?_
    rintro v h9 ⟨rfl, rfl⟩
    refine ⟨_, _, rfl, ?_⟩
    refine (Word_spec w8 had).mono ?_
    rintro v h9 ⟨rfl, rfl⟩
    refine ⟨_, _, rfl, ?_⟩
    refine (rWord_spec r8 hl8 had).mono ?_
    rintro v h9 ⟨rfl, rfl⟩
    refine ⟨_, _, rfl, fun hc => absurd hc (by simp), fun _ => ⟨fun hc => absurd hc (by rw [hl8]; simp [notIf]), fun _ => ⟨fun hc => absurd hc (by simp), fun _ => ⟨fun hc => absurd hc (by simp [notIf]), fun _ => ?_⟩⟩⟩⟩
    rw [wrapN hkl (by omega)]
    exact ⟨⟨k + 1, _, rfl, by omega, w8, r8, f8⟩, dec hkl⟩
  refine ⟨fun hf => absurd hf (by simp; omega), fun _ => ?_⟩
  have hlB := w7.len
  refine ⟨fun i h15 => ∃ m : Nat, i = m ∧ m ≤ n ∧ MS h15 q fb n B ∧ RS h15 q2 rb B ∧ Fr [] h h15, fun i _ => n - i.toNat, ⟨0, rfl, by omega, w7, r7, f7⟩, ?_⟩
  rintro i h15 ⟨m, rfl, hm, w15, r15, f15⟩
  by_cases hmn : m < n
  · refine ⟨fun _ => ?_, fun hf => absurd hf (by simp; omega)⟩
    have hfl := frameOf_len hlB hmn
    refine (Frame_spec w15 hmn).mono ?_
    rintro v h16 ⟨ax, cx, rfl, ox, _, f16⟩
    have r16 := r15.fr f16 (by simp) (by simp)
    have e5 : IntKind.wrap .i64 (256 * (m : Int)) = ((m * 256 : Nat) : Int) := by rw [wrapS (by omega) (by omega)]; omega
    have e6 : IntKind.wrap .i64 (((m * 256 : Nat) : Int) + 256) = ((m * 256 + 256 : Nat) : Int) := by rw [wrapS (by omega) (by omega)]; omega
    refine ⟨_, _, _, _, rfl, fun hc => absurd hc (by simp), fun _ => ⟨_, _, rfl, _, _, _, r16.row, fun _ => rfl, ?_⟩⟩
    rw [e5, e6, seg_base _ _ _ (by omega)]
    refine ⟨by omega, by omega, by omega, by omega, ?_⟩
    have hrow := arrB_row r16.arr (m * 256) 256 (by omega)
    have hs := SameB_spec (c := cx) (d := (((B.length : Nat) : Int)).toNat - (((m * 256 : Nat) : Int)).toNat) ox.row hrow (by omega)
    rw [hfl] at hs
    have e7 : (((m * 256 + 256 : Nat) : Int)).toNat - (((m * 256 : Nat) : Int)).toNat = ((B.drop (m * 256)).take 256).length := by
      have : ((B.drop (m * 256)).take 256).length = 256 := hfl
      rw [this]; omega
    rw [e7]
    refine hs.mono ?_
    rintro v h17 ⟨rfl, rfl⟩
    refine ⟨_, rfl, fun hc => absurd hc (by simp [frameOf]), fun _ => ?_⟩
    rw [wrapN hmn (by omega)]
    exact ⟨⟨m + 1, rfl, by omega, w15.fr f16 (by simp) (by simp), r16, f15.trans f16⟩, dec hmn⟩
  · refine ⟨fun hf => absurd hf (by simp; omega), fun _ => ?_⟩
    by_cases hin : isIn n nn = true
    · obtain ⟨j, rfl, hj⟩ := isIn_nat hin
      refine (Frame_spec w15 hj).mono ?_
      rintro v h18 ⟨ax, cx, rfl, ox, _, f18⟩
      exact ⟨_, _, _, _, rfl, fun _ => ⟨fun _ => yes _ (f15.trans f18), fun hc => absurd hc (by simp; omega)⟩, fun hc => absurd hc (by simp)⟩
    · refine (Frame_bad w15 (i := nn) (by simpa using hin)).mono ?_
      rintro v h18 ⟨rfl, rfl⟩
      refine ⟨_, _, _, _, rfl, fun d1 => ⟨fun d2 => ?_, fun _ => ⟨fun _ => yes _ f15, fun hc => absurd hc (by simp)⟩⟩, fun _ => ⟨fun _ => yes _ f15, fun hc => absurd hc (by simp)⟩⟩
      exact yes _ f15

set_option maxHeartbeats 2000000 in
theorem clones_law {h : Hp} (frames : Int) {a : Option Addr} {c : Nat} {l : List Q} (g1 : rowAtK h a (encL Q.cells l)) (hq : ∀ x ∈ l, x.fit h) {a2 : Option Addr} {c2 : Nat} {l2 : List Q} (g2 : rowAtK h a2 (encL Q.cells l2)) (hq2 : ∀ x ∈ l2, x.fit h) :
    CallsH Try.prog 5 [.int .i64 frames, .slice a l.length c, .slice a2 l2.length c2] h fun v h' => v = .bool true ∧ Fr [] h h' := by
  refine calls_k fun R hR => ?_
  apply warderlaw04_PhysClones.calls
  unfold warderlaw04_PhysClones.P
  refine (alive_spec h).mono ?_
  rintro v h1 ⟨rfl, f1⟩
  have yes := fun h' (f : Fr [] h h') => hR (.bool true) h' ⟨rfl, f⟩
  refine ⟨_, rfl, by simp, fun _ => ?_⟩
  refine ⟨fun h2 => h2 = h1 ∧ (l.length ≤ 60 ∧ ∀ x ∈ l, x.bytes.length ≤ 3000) ∧ (l2.length ≤ 60 ∧ ∀ x ∈ l2, x.bytes.length ≤ 3000) ∧ 1 ≤ frames ∧ frames ≤ 40, ?_, ?_⟩
  · refine (great_spec (g1.fr f1 (by simp)) (fun x hx => (hq x hx).sz)).mono ?_
    rintro v h2 ⟨g, rfl, rfl, hg⟩
    refine ⟨_, rfl, fun _ => yes _ f1, fun c => ?_⟩
    refine (great_spec (g2.fr f1 (by simp)) (fun x hx => (hq2 x hx).sz)).mono ?_
    rintro v h2 ⟨g', rfl, rfl, hg'⟩
    refine ⟨_, rfl, fun _ => yes _ f1, fun c' => ⟨fun _ => yes _ f1, fun d1 => ⟨fun _ => yes _ f1, fun d2 => ?_⟩⟩⟩
    simp only [decide_eq_false_iff_not] at d1 d2
    exact ⟨rfl, hg c, hg' c', by omega, by omega⟩
  rintro h2 ⟨rfl, ⟨hl60, h3000⟩, ⟨hl60', h3000'⟩, hn1, hn2⟩
  obtain ⟨n, rfl⟩ : ∃ n : Nat, frames = n := ⟨frames.toNat, by omega⟩
  refine (new_spec (n := n) (by omega) (by omega)).mono ?_
  rintro v h3 ⟨rfl, w3, f3, s3⟩
  refine ⟨_, _, rfl, fun h5 => h5 = h3, ⟨fun hc => absurd hc (by simp), fun _ => ⟨fun hc => absurd hc (by simp [notIf]), fun _ => rfl⟩⟩, ?_⟩
  rintro h4 rfl
  refine (rnew_spec (n := n) (by omega)).mono ?_
  rintro v h6 ⟨rfl, r6, f6, s6⟩
  refine ⟨_, rfl, ?_⟩
  have w6 := w3.fr f6 (by simp) (by simp)
  have z1 := f1.size
  have e1 : sz h2 + 1 ≠ sz h4 + 1 := by omega
  have e2 : sz h2 + 1 ≠ sz h4 := by omega
  have e3 : sz h2 ≠ sz h4 + 1 := by omega
  have e4 : sz h2 ≠ sz h4 := by omega
  have fr6 := (f1.trans f3).trans f6
  have gf : sz h ≤ sz h2 := z1
  have gr : sz h ≤ sz h4 := by omega
  have gq : sz h ≤ sz h2 + 1 := by omega
  have gq2 : sz h ≤ sz h4 + 1 := by omega
  clear s3 s6
  generalize sz h4 + 1 = q2 at *
  generalize sz h4 = rb at *
  generalize sz h2 + 1 = q at *
  generalize sz h2 = fb at *
  refine ⟨fun i h7 => ∃ (k : Nat) (B : List Nat), i = k ∧ k ≤ l.length ∧ MS h7 q fb n B ∧ RS h7 q2 rb B ∧ Fr [] h h7, fun i _ => l.length - i.toNat, ⟨0, _, rfl, by omega, w6, r6, fr6⟩, ?_⟩
  rintro i h7 ⟨k, B, rfl, hk, w7, r7, f7⟩
  by_cases hkl : k < l.length
  · refine ⟨fun _ => ?_, fun hf => absurd hf (by simp; omega)⟩
    obtain ⟨x, hx⟩ : ∃ x, l[k]? = some x := ⟨_, List.getElem?_eq_getElem hkl⟩
    have hxm := List.mem_of_getElem? hx
    obtain ⟨b1, o1, rfl, ec⟩ := encL_one (f := Q.cells) (m := 5) Q.len (g1.fr f7 (by simp)) hx (by omega)
    have e (j : Nat) (hj : j < 5) : cellAt h7 b1 (o1 + (k : Int).toNat * 5 + j) = x.cells[j]? := by rw [Int.toNat_natCast]; exact ec j hj
    refine ⟨by omega, by omega, _, _, rfl, _, (e 0 (by omega)).trans rfl, _, (e 1 (by omega)).trans rfl, _, (e 2 (by omega)).trans rfl, _, (e 3 (by omega)).trans rfl, _, _, _, (e 4 (by omega)).trans rfl, ?_⟩
    refine (told_step w7 r7 e1 e2 e3 e4 (hq x hxm).ok (h3000 x hxm) f7 gf gr).mono ?_
    rintro v h8 ⟨rfl, w8, r8, f8, _⟩
    rw [wrapN hkl (by omega)]
    exact ⟨_, rfl, ⟨k + 1, _, rfl, by omega, w8, r8, f8⟩, dec hkl⟩
  refine ⟨fun hf => absurd hf (by simp; omega), fun _ => ⟨_, _, rfl, _, _, _, r7.row, ?_⟩⟩
  have hlB := w7.len
  have lf7 := w7.ltf
  have lq7 := w7.lt
  have lr7 := r7.ltr
  have lq27 := r7.lt
  have z7 := f7.size
  refine (Copy_spec (c := B.length) (r7.arr.row) (by omega)).mono ?_
  rintro v h10 ⟨ao, co, rfl, oo, foo, f10⟩
  refine ⟨_, _, _, rfl, ?_⟩
  refine (Clone_spec (w7.fr f10 (by simp) (by simp))).mono ?_
  rintro v h11 ⟨qc, fc, rfl, v11, gqc, gfc, f11⟩
  refine ⟨_, rfl, ?_⟩
  have z10 := f10.size
  have z11 := f11.size
  have fx := f10.trans f11
  have gfoo : ∀ y ∈ foot ao, sz h7 ≤ y := fun y hy => (foo y hy).1
  refine ⟨fun i h12 => ∃ (k : Nat) (D : List Nat), i = k ∧ k ≤ l2.length ∧ MS h12 q fb n D ∧ RS h12 q2 rb D ∧ MS h12 qc fc n B ∧ Own h12 5 1 ao B.length co (encL iB B) ∧ Fr [] h h12, fun i _ => l2.length - i.toNat,
    ⟨0, _, rfl, by omega, w7.fr fx (by simp) (by simp), r7.fr fx (by simp) (by simp), v11, oo.fr f11 (by simp), f7.trans fx⟩, ?_⟩
  rintro i h12 ⟨k2, D, rfl, hk2, w12, r12, v12, oo12, f12⟩
  by_cases hkl2 : k2 < l2.length
  · refine ⟨fun _ => ?_, fun hf => absurd hf (by simp; omega)⟩
    obtain ⟨x, hx⟩ : ∃ x, l2[k2]? = some x := ⟨_, List.getElem?_eq_getElem hkl2⟩
    have hxm := List.mem_of_getElem? hx
    obtain ⟨b1, o1, rfl, ec⟩ := encL_one (f := Q.cells) (m := 5) Q.len (g2.fr f12 (by simp)) hx (by omega)
    have e (j : Nat) (hj : j < 5) : cellAt h12 b1 (o1 + (k2 : Int).toNat * 5 + j) = x.cells[j]? := by rw [Int.toNat_natCast]; exact ec j hj
    refine ⟨by omega, by omega, _, _, rfl, _, (e 0 (by omega)).trans rfl, _, (e 1 (by omega)).trans rfl, _, (e 2 (by omega)).trans rfl, _, (e 3 (by omega)).trans rfl, _, _, _, (e 4 (by omega)).trans rfl, ?_⟩
    refine (told_step w12 r12 e1 e2 e3 e4 (hq2 x hxm).ok (h3000' x hxm) f12 gf gr).mono ?_
    rintro v h8 ⟨rfl, w8, r8, f8, g8⟩
    rw [wrapN hkl2 (by omega)]
    exact ⟨_, rfl, ⟨k2 + 1, _, rfl, by omega, w8, r8, v12.fr g8 (by simp; omega) (by simp; omega), oo12.fr g8 (fun y hy => by have := gfoo y hy; simp; omega), f8⟩, dec hkl2⟩
  refine ⟨fun hf => absurd hf (by simp; omega), fun _ => ⟨fun hc => absurd hc (by simp [notIf]), fun _ => ?_⟩⟩
  rintro h14 rfl
  have f14 : Fr [] h12 (new h12 (blk 3 [])) := Fr.new _ _ _
  have k14 := new_at h12 (blk 3 [])
  have w14 := w12.fr f14 (by simp) (by simp)
  have r14 := r12.fr f14 (by simp) (by simp)
  have v14 := v12.fr f14 (by simp) (by simp)
  have oo14 := oo12.fr f14 (by simp)
  have fr14 := f12.trans f14
  have z12 := f12.size
  have hlD := w12.len
  have zz : sz h12 < sz (new h12 (blk 3 [])) := by rw [sz_new]; omega
  have lq12 := w12.lt
  have lf12 := w12.ltf
  have lq212 := r12.lt
  have lr12 := r12.ltr
  have lqc12 := v12.lt
  have lfc12 := v12.ltf
  have lao := oo12.foot_lt
  generalize new h12 (blk 3 []) = h14 at *
  have hclr := oo.le
  refine ⟨fun wa wl wc i h15 => ∃ m : Nat, i = m ∧ m ≤ n ∧ wl = (diffs m B D).length ∧ Own h15 3 1 wa wl wc (encL iN (diffs m B D)) ∧ (∀ y ∈ foot wa, sz h12 ≤ y) ∧ MS h15 q fb n D ∧ RS h15 q2 rb D ∧ MS h15 qc fc n B ∧ Own h15 5 1 ao B.length co (encL iB B) ∧ Fr [] h h15 ∧ sz h12 ≤ sz h15, fun _ _ _ i _ => n - i.toNat,
    ⟨0, rfl, by omega, rfl, ⟨rfl, .inr ⟨_, [], rfl, k14, rfl, by omega⟩⟩, by simp [foot], w14, r14, v14, oo14, fr14, Nat.le_of_lt zz⟩, ?_⟩
  rintro wa wl wc i h15 ⟨m, rfl, hm, rfl, ow, fow, w15, r15, v15, oo15, f15, z15⟩
  by_cases hmn : m < n
  · refine ⟨fun _ => ?_, fun hf => absurd hf (by simp; omega)⟩
    have hflB := frameOf_len hlB hmn
    have hflD := frameOf_len hlD hmn
    have e5 : IntKind.wrap .i64 (256 * (m : Int)) = ((m * 256 : Nat) : Int) := by rw [wrapS (by omega) (by omega)]; omega
    have e6 : IntKind.wrap .i64 (((m * 256 : Nat) : Int) + 256) = ((m * 256 + 256 : Nat) : Int) := by rw [wrapS (by omega) (by omega)]; omega
    have hle := oo15.le
    rw [e5, e6]
    rcases oo15.2 with ⟨_, h0, _⟩ | ⟨oob, rest, rfl, hoob, _, _⟩
    · omega
    rw [seg_base _ _ _ (by omega)]
    have e7 : (((m * 256 + 256 : Nat) : Int)).toNat - (((m * 256 : Nat) : Int)).toNat = 256 := by omega
    rw [e7]
    have hdl := diffs_len m B D
    have hnx := diffs_next m B D
    have aro : ∀ h', Fr [] h15 h' → Arr iB 5 h' oob B rest := fun h' f => ⟨f.at hoob (by simp)⟩
    refine ⟨fun wa wl wc h19 => wl = (diffs (m + 1) B D).length ∧ Own h19 3 1 wa wl wc (encL iN (diffs (m + 1) B D)) ∧ (∀ y ∈ foot wa, sz h12 ≤ y) ∧ MS h19 q fb n D ∧ RS h19 q2 rb D ∧ MS h19 qc fc n B ∧ Own h19 5 1 (some ⟨oob, 0, none⟩) B.length co (encL iB B) ∧ Fr [] h h19 ∧ Arr iB 5 h19 oob B rest ∧ sz h12 ≤ sz h19, ?_, ?_⟩
    · refine ⟨fun _ => rfl, by omega, by omega, by omega, by omega, _, _, rfl, _, _, _, r15.row, fun _ => rfl, by omega, by omega, by omega, by omega, ?_⟩
      rw [seg_base _ _ _ (by omega)]
      have hrowB := arrB_row (aro _ (Fr.refl _ _)) (m * 256) 256 (by omega)
      have hrowD := arrB_row r15.arr (m * 256) 256 (by omega)
      have hs := SameB_spec (c := (((co : Nat) : Int)).toNat - (((m * 256 : Nat) : Int)).toNat) (d := (((D.length : Nat) : Int)).toNat - (((m * 256 : Nat) : Int)).toNat) hrowB hrowD (by simp; omega)
      rw [show ((B.drop (m * 256)).take 256).length = 256 from hflB, show ((D.drop (m * 256)).take 256).length = 256 from hflD] at hs
      refine hs.mono ?_
      rintro v h16 ⟨rfl, rfl⟩
      refine ⟨_, rfl, fun c => ?_, fun c => ?_⟩
      · have hne : diffP B D m = true := by
          have hnf : ¬ frameOf B m = frameOf D m := by simpa [frameOf] using c
          unfold diffP
          rw [decide_eq_false hnf]; rfl
        rw [if_pos hne] at hnx
        intro h17 h17e
        refine append_new (h0 := h) (F := []) ow rfl f15 (fun y hy => .inr (by have := fow y hy; omega)) rfl rfl h17e (by omega) (by omega) ?_
        intro a' c' h18 o18 f18 g18 l18 t18
        have hge : ∀ y ∈ foot a', sz h12 ≤ y := by
          intro y hy
          rcases t18 with rfl | t18
          · exact fow y hy
          · have := t18 y hy; have := f15.size; have := w15.lt; have := lq12; omega
        have nq : ∀ b, b < sz h12 → b ∉ foot wa := fun b hb hq => by have := fow _ hq; omega
        have l1 := oo15.foot_lt
        refine ⟨by rw [hnx]; simp, by rw [hnx, encL_append]; exact o18, hge, w15.fr l18 (nq _ lq12) (nq _ lf12), r15.fr l18 (nq _ lq212) (nq _ lr12), v15.fr l18 (nq _ lqc12) (nq _ lfc12), oo15.fr l18 (fun y hy => nq _ (lao y hy)), f18, (aro _ (Fr.refl _ _)).fr l18 (nq _ (lao oob (by simp [foot]))), Nat.le_trans z15 l18.size⟩
      · have hne : diffP B D m = false := by
          have hnf : frameOf B m = frameOf D m := by simpa [frameOf] using c
          unfold diffP
          rw [decide_eq_true hnf]; rfl
        rw [hne, if_neg (by simp), List.append_nil] at hnx
        exact ⟨by rw [hnx], by rw [hnx]; exact ow, fow, w15, r15, v15, oo15, f15, aro _ (Fr.refl _ _), z15⟩
    rintro wa wl wc h19 ⟨rfl, ow, fow, w19, r19, v19, oo19, f19, ar19, z19⟩
    refine (Frame_spec v19 hmn).mono ?_
    rintro v h20 ⟨ax, cx, rfl, ox, _, f20⟩
    refine ⟨_, _, _, _, rfl, fun _ => rfl, by omega, by omega, by omega, by omega, ?_⟩
    have hrowB := arrB_row (ar19.fr f20 (by simp)) (m * 256) 256 (by omega)
    have hs := SameB_spec (c := cx) (d := (((co : Nat) : Int)).toNat - (((m * 256 : Nat) : Int)).toNat) ox.row hrowB (by omega)
    rw [hflB, show ((B.drop (m * 256)).take 256).length = 256 from hflB] at hs
    refine hs.mono ?_
    rintro v h21 ⟨rfl, rfl⟩
    refine ⟨_, rfl, fun hc => absurd hc (by simp [frameOf]), fun _ => ?_⟩
    rw [wrapN hmn (by omega)]
    exact ⟨⟨m + 1, rfl, by omega, rfl, ow.fr f20 (by simp), fow, w19.fr f20 (by simp) (by simp), r19.fr f20 (by simp) (by simp), v19.fr f20 (by simp) (by simp), oo19.fr f20 (by simp), f19.trans f20, Nat.le_trans z19 f20.size⟩, dec hmn⟩
  · have : m = n := by omega
    subst this
    refine ⟨fun hf => absurd hf (by simp), fun _ => ?_⟩
    have hdl := diffs_len m B D
    refine (Differ_spec w15 v15).mono ?_
    rw [diffs_comm]
    rintro v h22 ⟨a22, c22, rfl, r22, _, f22⟩
    refine ⟨_, _, _, rfl, ?_⟩
    refine (SameN_spec (c := c22) (d := wc) r22 (ow.row.fr f22 (by simp)) (by omega)).mono ?_
    rintro v h23 ⟨rfl, rfl⟩
    refine ⟨_, rfl, fun _ => ?_, fun hc => absurd hc (by simp)⟩
    refine (Differ_spec (v15.fr f22 (by simp) (by simp)) (w15.fr f22 (by simp) (by simp))).mono ?_
    rintro v h24 ⟨a24, c24, rfl, r24, _, f24⟩
    refine ⟨_, _, _, rfl, ?_⟩
    refine (SameN_spec (c := c24) (d := wc) r24 ((ow.row.fr f22 (by simp)).fr f24 (by simp)) (by omega)).mono ?_
    rintro v h25 ⟨rfl, rfl⟩
    refine ⟨_, rfl, fun _ => ?_, fun hc => absurd hc (by simp)⟩
    have v24 := (v15.fr f22 (by simp) (by simp)).fr f24 (by simp) (by simp)
    refine (Clone_spec v24).mono ?_
    rintro v h26 ⟨qd, fd, rfl, u26, _, _, f26⟩
    refine ⟨_, rfl, ?_⟩
    refine (Differ_spec (v24.fr f26 (by simp) (by simp)) u26).mono ?_
    rw [diffs_same]
    rintro v h27 ⟨a27, c27, rfl, _, _, f27⟩
    exact ⟨_, _, _, rfl, yes _ ((((f15.trans f22).trans f24).trans f26).trans f27)⟩
end Go.Proofs.Ytdnkpgedejikcaa
