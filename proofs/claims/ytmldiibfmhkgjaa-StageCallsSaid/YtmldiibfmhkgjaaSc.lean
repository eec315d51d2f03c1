import Derived.Test.YtmldiibfmhkgjaaSb
namespace Go.Proofs.Ytmldiibfmhkgjaa
open Go Go.Wd
set_option linter.unusedVariables false
set_option linter.unusedSimpArgs false
set_option linter.unnecessarySimpa false

theorem Sp.word_lt {h : Hp} {y : Lay} {s : Sp} (w : SP h y s) (a : Nat) : s.word a < 4294967296 := by
  unfold Sp.word
  split
  · exact leN_lt w.g.m.byt _ 4
  · decide
theorem word_int (s : Sp) (a : Nat) : (if wordOk s.n a then ((leN s.B a 4 : Nat) : Int) else 0) = ((s.word a : Nat) : Int) := by unfold Sp.word; split <;> rfl
theorem enc_int (e : Ent) : (if encOk e then (encN e : Int) else 0) = ((encW e : Nat) : Int) := by unfold encW; split <;> rfl
theorem encW_lt (e : Ent) : encW e < 4294967296 := by
  unfold encW
  split
  · rename_i c
    simp only [encOk, Bool.and_eq_true, decide_eq_true_eq] at c
    unfold encN bit
    have : e.f.toNat < 65536 := by omega
    cases e.v <;> cases e.w <;> cases e.x <;> cases e.b <;> simp <;> omega
  · decide
section
variable {h : Hp} {y : Lay} {s : Sp}
/-- A deed is written into the log. -/
theorem log_step (w : SP h y s) (d : Dd) (hl : s.lg.length ≤ 2000000) {K : Hp → Prop} (hK : ∀ h', SP h' y { s with lg := s.lg ++ [d] } → FrL y h h' → K h') :
    ∃ la : Option Addr, ∃ ll : Nat, ∃ lc : Nat, cellAt h y.q (0 + 6) = some (.slice la ll lc) ∧ ∀ h2 : Hp, h2 = new h (blk 71 [.int .i64 d.kind, .int .u32 (d.addr : Int), .int .u32 (d.value : Int)]) →
      appendN h2 71 3 16 [.int .i64 0, .int .u32 0, .int .u32 0] la ll lc (some ⟨sz h, 0, none⟩) 1 fun a7 l8 c9 h3 => truly true ∧ ∃ T10 : TypeId, ∃ l11 : List Value, bk h3 y.q = some (blk T10 l11) ∧ (0 + 6) + 1 ≤ l11.length ∧ ∀ h4 : Hp, h4 = upd h3 y.q T10 (writeAt l11 (0 + 6) [.slice a7 l8 c9]) → K h4 := by
  obtain ⟨la, lc, e, o, z⟩ := w.hs
  have hq := ty_of e
  refine ⟨la, _, lc, (cellAt_of e 6).trans rfl, fun h2 e2 => ?_⟩
  have ot := own_ty o
  refine append_new (h0 := h) (F := foot la) o rfl (Fr.refl _ _) (fun x hx => .inl hx) (news := d.cells) rfl rfl e2 (by omega) (by omega) ?_
  intro a' c' h4 o4 f4 hfoot _ hcase
  have hnq : y.q ∉ foot la := fun hm => absurd (ot _ hm) (by rw [hq]; decide)
  have e4 := f4.at e hnq
  refine ⟨truly_rfl, _, _, e4, by simp [Sp.cells], ?_⟩
  intro h5 e5
  have hc : encL Dd.cells s.lg ++ d.cells = encL Dd.cells (s.lg ++ [d]) := by rw [encL_append]; simp [encL]
  have hlen : s.lg.length + 1 = (s.lg ++ [d]).length := by simp
  rw [hc, hlen] at o4
  have hw : writeAt (s.cells y la s.lg.length lc) (0 + 6) [.slice a' (s.lg.length + 1) c'] = ({ s with lg := s.lg ++ [d] } : Sp).cells y a' (s.lg ++ [d]).length c' := by
    rw [hlen]; rfl
  rw [hw] at e5
  have g4 := w.g.fr f4 (fun x hx t ht => by rw [ot x hx] at ht; cases ht; decide)
  have w5 := g4.self e4 (s' := { s with lg := s.lg ++ [d] }) ⟨rfl, rfl, rfl, rfl, rfl⟩ o4 ⟨Nat.le_trans z.1 f4.size, fun x hx => (hfoot x hx).elim (z.2 x) (fun hh => Nat.le_trans z.1 hh)⟩
  rw [← e5] at w5
  refine hK h5 w5 ?_
  have f5 : Fr [y.q] h4 h5 := by rw [e5]; exact Fr.upd (by simp) _ _ _
  exact (FrL.of f4 (fun x hx => .inr ⟨ot x hx, z.2 x hx⟩)).later f5 (by simp [Lay.F])
theorem put_spec (w : SP h y s) {a : Nat} (ha : a < 4294967296) {x : Nat} (hx : x < 4294967296) (hl : s.lg.length ≤ 2000000) :
    CallsH Try.prog 98 [.pointer (some ⟨y.q, 0, none⟩), .int .u32 (a : Int), .int .u32 (x : Int)] h fun v h' => v = .tuple #[] ∧ SP h' y (s.put a x) ∧ FrL y h h' := by
  refine calls_k fun R hR => ?_
  apply stage_Space_put.calls
  unfold stage_Space_put.P
  refine ⟨_, w.mem, ?_⟩
  refine (PutWord_spec w.g.m ha hx).mono ?_
  rintro v h1 ⟨rfl, m1, f1⟩
  have w1 := w.mw f1 m1
  refine ⟨_, rfl, ?_⟩
  refine log_step w1 ⟨1, a, x⟩ hl (K := fun h4 => R (.tuple #[]) h4) ?_
  intro h4 w4 f4
  exact hR _ _ ⟨rfl, w4, (FrL.of f1 (by simp [Lay.F])).trans f4⟩
theorem Ent.rd0 {h : Hp} {b T : Nat} (x : Ent) (hb : bk h b = some (blk T x.cells)) {K : Bool → Bool → Bool → Bool → Int → Prop} (hK : K x.v x.w x.x x.b x.f) :
    ∃ a1 : Bool, cellAt h b (0 + 0) = some (.bool a1) ∧ ∃ a2 : Bool, cellAt h b (0 + 1) = some (.bool a2) ∧ ∃ a3 : Bool, cellAt h b (0 + 2) = some (.bool a3) ∧ ∃ a4 : Bool, cellAt h b (0 + 3) = some (.bool a4) ∧ ∃ a5 : Int, cellAt h b (0 + 4) = some (.int .i64 a5) ∧ K a1 a2 a3 a4 a5 :=
  Ent.rd x (fun j _ => by rw [Nat.zero_add]; exact cellAt_of hb j) hK
theorem brk_len (s : Sp) (a : Nat) : (s.brk a).lg.length ≤ s.lg.length + 2 := by
  unfold Sp.brk
  split
  · simp [Sp.put, Sp.drop]
  · omega
theorem change_spec (w : SP h y s) {a : Nat} (ha : a < 4294967296) (e : Ent) (hl : s.lg.length ≤ 1000000) :
    CallsH Try.prog 55 [.pointer (some ⟨y.q, 0, none⟩), .int .u32 (a : Int), .agg ⟨e.cells⟩] h fun v h' => v = .tuple #[] ∧ SP h' y (s.change a e) ∧ FrL y h h' := by
  refine calls_k fun R hR => ?_
  apply stage_Space_change.calls
  unfold stage_Space_change.P
  intro h1 e1
  have k1 : bk h1 (sz h) = some (blk 54 e.cells) := by rw [e1]; exact new_at _ _
  have f1 : Fr [] h h1 := by rw [e1]; exact Fr.new _ _ _
  clear e1
  have w1 := w.fr0 f1
  refine ⟨_, w1.mem, ?_⟩
  refine (Word_spec w1.g.m ha).mono ?_
  rintro v h2 ⟨rfl, hh⟩
  rw [hh]; clear hh h2
  rw [word_int]
  refine ⟨_, _, rfl, ?_⟩
  refine Ent.rd0 e k1 ?_
  refine (encode_spec e).mono ?_
  rintro v h3 ⟨rfl, f3⟩
  rw [enc_int]
  refine ⟨_, _, rfl, fun c => ?_, fun c => ?_⟩
  · have hw : s.word a = encW e := by have := eq_of_beq c; omega
    have hch : s.change a e = s := if_pos hw
    rw [hch] at hR
    exact hR _ _ ⟨rfl, w1.fr0 f3, FrL.of0 (f1.trans f3)⟩
  have hw : s.word a ≠ encW e := by
    intro hc
    rw [hc] at c
    simp at c
  have hch : s.change a e = (s.brk a).mk' a (encW e) := if_neg hw
  rw [hch] at hR
  have w3 := w1.fr0 f3
  refine (decode_spec (s.word a) (Sp.word_lt w a)).mono ?_
  rintro v h4 ⟨rfl, f4⟩
  have w4 := w3.fr0 f4
  have fx : FrL y h h4 := FrL.of0 ((f1.trans f3).trans f4)
  have fin : ∀ h9, SP h9 y (s.brk a) → FrL y h h9 →
      ((((encW e : Nat) : Int) != 0) = true → (CallsH Try.prog 98 [.pointer (some ⟨y.q, 0, none⟩), .int .u32 (a : Int), .int .u32 ((encW e : Nat) : Int)] h9 fun r33 h11 => r33 = .tuple #[] ∧ R (.tuple #[]) h11)) ∧ ((((encW e : Nat) : Int) != 0) = false → R (.tuple #[]) h9) := by
    intro h9 w9 f9
    have hb := brk_len s a
    refine ⟨fun c => ?_, fun c => ?_⟩
    · have c : encW e ≠ 0 := by intro hc; rw [hc] at c; simp at c
      have hm : (s.brk a).mk' a (encW e) = (s.brk a).put a (encW e) := if_pos c
      rw [hm] at hR
      refine (put_spec w9 ha (encW_lt e) (by omega)).mono ?_
      rintro v h10 ⟨rfl, w10, f10⟩
      exact ⟨rfl, hR _ _ ⟨rfl, w10, f9.trans f10⟩⟩
    · have c : ¬ encW e ≠ 0 := by
        have c := eq_of_beq (by simpa [bne] using c : (((encW e : Nat) : Int) == 0) = true)
        omega
      have hm : (s.brk a).mk' a (encW e) = s.brk a := if_neg c
      rw [hm] at hR
      exact hR _ _ ⟨rfl, w9, f9⟩
  refine ⟨_, _, _, _, _, rfl, fun c => ?_, fun c => ?_⟩
  · have hb : s.brk a = (s.put a 0).drop := if_pos c
    refine (put_spec w4 ha (x := 0) (by decide) (by omega)).mono ?_
    rintro v h5 ⟨rfl, w5, f5⟩
    refine ⟨rfl, _, w5.tlb, _, w5.vm, ?_⟩
    refine (TDropAll_spec w5.g.t _).mono ?_
    rintro v h6 ⟨rfl, t6, f6⟩
    have w6 := w5.tw (f6.mono (by simp)) t6
    refine ⟨_, rfl, ?_⟩
    refine log_step w6 ⟨2, 0, 0⟩ (by simp [Sp.put]; omega) (K := fun h9 => ((((encW e : Nat) : Int) != 0) = true → (CallsH Try.prog 98 [.pointer (some ⟨y.q, 0, none⟩), .int .u32 (a : Int), .int .u32 ((encW e : Nat) : Int)] h9 fun r33 h11 => r33 = .tuple #[] ∧ R (.tuple #[]) h11)) ∧ ((((encW e : Nat) : Int) != 0) = false → R (.tuple #[]) h9)) ?_
    intro h9 w9 f9
    refine fin h9 ?_ (((fx.trans f5).trans (FrL.of f6 (by simp [Lay.F]))).trans f9)
    rw [hb]; exact w9
  · have hb : s.brk a = s := if_neg (by intro hc; rw [hc] at c; cases c)
    exact fin h4 (by rw [hb]; exact w4) fx
theorem read_spec' (w : SP h y s) {a : Nat} (ha : a < 4294967296) :
    CallsH Try.prog 78 [.pointer (some ⟨y.q, 0, none⟩), .int .u32 (a : Int)] h fun v h' => v = .agg ⟨(dec (s.word a)).cells⟩ ∧ Fr [] h h' := by
  refine calls_k fun R hR => ?_
  apply stage_Space_read.calls
  unfold stage_Space_read.P
  intro h1 e1
  have k1 : bk h1 (sz h) = some (blk 54 noEnt.cells) := by rw [e1]; exact new_at _ _
  have f1 : Fr [] h h1 := by rw [e1]; exact Fr.new _ _ _
  clear e1
  have w1 := w.fr0 f1
  refine ⟨_, w1.mem, ?_⟩
  refine (Word_spec w1.g.m ha).mono ?_
  rintro v h2 ⟨rfl, hh⟩
  rw [hh]; clear hh h2
  rw [word_int]
  refine ⟨_, _, rfl, ?_⟩
  refine (decode_spec (s.word a) (Sp.word_lt w a)).mono ?_
  rintro v h3 ⟨rfl, f3⟩
  refine ⟨_, _, _, _, _, rfl, ?_⟩
  refine Ent.ret (f3.at k1 (by simp)) rfl _ _ _ _ _ ?_
  exact hR _ _ ⟨rfl, (f1.trans f3).later (Fr.upd (F := [sz h]) (by simp) _ _ _) (by simp)⟩
theorem first_spec' (w : SP h y s) (hr : s.root < 65536) {i : Nat} (hi : i < 64) :
    CallsH Try.prog 53 [.pointer (some ⟨y.q, 0, none⟩), .int .i64 (i : Int)] h fun v h' => v = .tuple #[.int .u32 ((s.root * 256 + 4 * i : Nat) : Int), .agg ⟨(dec (s.word (s.root * 256 + 4 * i))).cells⟩] ∧ Fr [] h h' := by
  refine calls_k fun R hR => ?_
  apply stage_Space_first.calls
  unfold stage_Space_first.P
  intro h1 e1
  have k1 : bk h1 (sz h) = some (blk 54 noEnt.cells) := by rw [e1]; exact new_at _ _
  have f1 : Fr [] h h1 := by rw [e1]; exact Fr.new _ _ _
  clear e1
  have w1 := w.fr0 f1
  refine ⟨_, w1.rt, ?_⟩
  refine (at_spec' hr hi).mono ?_
  rintro v h2 ⟨rfl, hh⟩
  rw [hh]; clear hh h2
  refine ⟨_, rfl, ?_⟩
  refine (read_spec' w1 (a := s.root * 256 + 4 * i) (by omega)).mono ?_
  rintro v h3 ⟨rfl, f3⟩
  refine ⟨_, _, _, _, _, rfl, ?_⟩
  refine Ent.ret (f3.at k1 (by simp)) rfl _ _ _ _ _ ?_
  exact hR _ _ ⟨rfl, (f1.trans f3).later (Fr.upd (F := [sz h]) (by simp) _ _ _) (by simp)⟩
end
/-! ## a table is taken -/
theorem least (P : Nat → Bool) : ∀ m, (∀ j, j < m → P j = false) ∨ ∃ i, i < m ∧ P i = true ∧ ∀ j, j < i → P j = false
  | 0 => .inl (fun j hj => by omega)
  | m + 1 => by
    rcases least P m with h | ⟨i, hi, h1, h2⟩
    · cases hm : P m with
      | false => exact .inl fun j hj => (Nat.lt_or_ge j m).elim (h j) (fun hj' => by rw [show j = m by omega]; exact hm)
      | true => exact .inr ⟨m, by omega, hm, h⟩
    · exact .inr ⟨i, by omega, h1, h2⟩
theorem take_cases (L : List Int) : (takeE 1 L 1 = 15 ∧ takeL 1 L 1 = L ∧ (0 : Int) ∉ L) ∨ ∃ t : Nat, L[t]? = some 0 ∧ takeE 1 L 1 = 0 ∧ takeN 1 L 1 = (t : Int) ∧ takeL 1 L 1 = L.set t 1 := by
  rcases least (takeP 1 L) L.length with hno | ⟨i, hi, hp, hno⟩
  · left
    have hall : ∀ j, takeP 1 L j = false := fun j => (Nat.lt_or_ge j L.length).elim (hno j) (fun hj => by
      unfold takeP
      rw [decide_eq_false (by omega)]; rfl)
    obtain ⟨a, b, c⟩ := take_full (n := 1) (L := L) (o := 1) rfl (takeI_none hall)
    refine ⟨a, c, fun hm => ?_⟩
    obtain ⟨j, hj, hx⟩ := List.getElem_of_mem hm
    have h1 := hno j hj
    have h2 : takeP 1 L j = true := by
      unfold takeP
      rw [(free_cases (by omega)).2 (fun k hk => ?_), decide_eq_true (by omega)]; rfl
      rw [show j * 1 + k = j by omega, List.getElem?_eq_getElem hj, hx]
    rw [h2] at h1; cases h1
  · right
    have hi' := takeI_at hi hp hno
    obtain ⟨a, b, c⟩ := take_some (n := 1) (L := L) (o := 1) rfl hi'
    rw [Nat.mul_one] at b c
    refine ⟨i, ?_, a, b, ?_⟩
    · unfold takeP at hp
      rw [Bool.and_eq_true, decide_eq_true_eq] at hp
      have := (free_cases hp.1).1 hp.2 0 (by omega)
      simpa using this
    · rw [c, ← setRun_next (a := i) (k := 0) (by omega), setRun_zero]; rfl
theorem table_spec {h : Hp} {y : Lay} {s : Sp} (w : SP h y s) (hn : s.L.length = s.n) :
    CallsX Try.prog 54 [.pointer (some ⟨y.q, 0, none⟩)] h (fun v h' => ∃ t : Nat, s.L[t]? = some 0 ∧ v = .int .i64 (t : Int) ∧ SP h' y (s.take t) ∧ FrL y h h') (fun x h' => (0 : Int) ∉ s.L ∧ x = refusal 15 ∧ SP h' y s ∧ FrL y h h') := by
  refine stage_Space_table.calls _ _ _ _ _ ?_
  unfold stage_Space_table.P
  refine ⟨_, w.frames, ?_⟩
  refine (Take_spec w.g.f 1).mono ?_
  rintro v h1 ⟨rfl, t1, f1⟩
  have w1 := w.fw f1 t1
  have fx : FrL y h h1 := FrL.of f1 (by simp [Lay.F])
  refine ⟨_, _, rfl, ?_⟩
  refine (need_spec _ _).mono ?_ ?_
  · rintro v h2 ⟨hok, rfl, hh⟩
    rw [hh]; clear hh h2
    have hok : takeE 1 s.L 1 = 0 := eq_of_beq hok
    rcases take_cases s.L with ⟨he, _⟩ | ⟨t, ht, _, hN, hL⟩
    · rw [he] at hok; cases hok
    refine ⟨rfl, _, w1.mem, ?_⟩
    rw [hN]
    rw [hL] at w1
    have htn : t < s.n := by rw [← hn]; exact (List.getElem?_eq_some_iff.1 ht).1
    refine (FillNil w1.g.m htn).mono ?_
    rintro v h3 ⟨⟨e3, rfl⟩, m3, f3⟩
    refine ⟨_, rfl, t, ht, rfl, w1.mw f3 m3, fx.trans (FrL.of f3 (by simp [Lay.F]))⟩
  · rintro x h2 ⟨hno, rfl, hh⟩
    rw [hh]; clear hh h2
    rcases take_cases s.L with ⟨he, hL, h0⟩ | ⟨t, ht, he, hN, hL⟩
    · rw [hL] at w1
      refine ⟨h0, by rw [he], w1, fx⟩
    · rw [he] at hno; cases hno
end Go.Proofs.Ytmldiibfmhkgjaa
