import Derived.Test.YtmldiibfmhkgjaaGf
namespace Go.Proofs.Ytmldiibfmhkgjaa
open Go Go.Wd
set_option linter.unusedVariables false
set_option linter.unusedSimpArgs false
set_option linter.unnecessarySimpa false

/-! ## frames that were taken are noughts -/
theorem zero_twice {n : Nat} {B : List Nat} (hl : B.length = n * 256) {t : Nat} (ht : t < n) : zeroF (zeroF B t) t = zeroF B t := by
  apply List.ext_getElem?
  intro k
  have hl2 : (zeroF B t).length = n * 256 := (zeroF_len hl ht).trans hl
  rw [zeroF_at hl2 ht, zeroF_at hl ht]
  split <;> rfl
def tkAll (own : List Int) (B : List Nat) (now : List Int) : List Nat := now.foldl (fun M x => if x ∈ own then M else zeroF M x.toNat) B
theorem tk_next {own now : List Int} {B : List Nat} {k : Nat} {x : Int} (hx : now[k]? = some x) : tkAll own B (now.take (k + 1)) = if x ∈ own then tkAll own B (now.take k) else zeroF (tkAll own B (now.take k)) x.toNat := by
  rw [Ftake_one hx]; simp [tkAll]
theorem tk_none {own : List Int} {B : List Nat} : ∀ now : List Int, (∀ x ∈ now, x ∈ own) → tkAll own B now = B
  | [], _ => rfl
  | x :: now, h => by
    show tkAll own (if x ∈ own then B else _) now = B
    rw [if_pos (h x (by simp))]
    exact tk_none now (fun y hy => h y (by simp [hy]))
theorem tk_some {own : List Int} {n t : Nat} (ht : t < n) (hno : (t : Int) ∉ own) : ∀ (now : List Int) (B : List Nat), B.length = n * 256 → (∀ x ∈ now, x ∈ own ∨ x = (t : Int)) → tkAll own B now = if (t : Int) ∈ now then zeroF B t else B
  | [], B, _, _ => by simp [tkAll]
  | x :: now, B, hl, h => by
    show tkAll own (if x ∈ own then B else zeroF B x.toNat) now = _
    by_cases hx : x ∈ own
    · rw [if_pos hx, tk_some ht hno now B hl (fun y hy => h y (by simp [hy]))]
      have : x ≠ (t : Int) := fun e => hno (by rw [← e]; exact hx)
      simp [this.symm]
    · rcases h x (by simp) with h1 | h1
      · exact absurd h1 hx
      · rw [if_neg hx, h1, Int.toNat_natCast, tk_some ht hno now (zeroF B t) ((zeroF_len hl ht).trans hl) (fun y hy => h y (by simp [hy])), zero_twice hl ht]
        simp
theorem pos_in {o : Int} {L : List Int} {f : Nat} (h : L[f]? = some o) : (f : Int) ∈ posOf o L := by
  have : ∀ (L : List Int) (k f : Nat), L[f]? = some o → ((k + f : Nat) : Int) ∈ posA o L k := by
    intro L
    induction L with
    | nil => intro k f h; simp at h
    | cons x L ih =>
      intro k f h
      simp only [posA]
      cases f with
      | zero =>
        simp at h
        rw [if_pos h]; simp
      | succ f =>
        have := ih (k + 1) f (by simpa using h)
        rw [show k + 1 + f = k + (f + 1) by omega] at this
        split
        · exact List.mem_cons_of_mem _ this
        · exact this
  have h0 := this L 0 f h
  rw [Nat.zero_add] at h0
  exact h0
theorem taken_spec {h : Hp} {q fb n : Nat} {B : List Nat} (w : MS h q fb n B) {oa na : Option Addr} {oc nc : Nat} {own now : List Int} (ro : rowAtK h oa (encL FiN own)) (rn : rowAtK h na (encL FiN now)) (fo : fb ∉ foot oa) (fn : fb ∉ foot na)
    (hin : ∀ x ∈ now, ∃ f : Nat, x = f ∧ f < n) (hlo : own.length ≤ 1000000) (hln : now.length ≤ 1000000) :
    CallsH Try.prog 32 [.pointer (some ⟨q, 0, none⟩), .slice oa own.length oc, .slice na now.length nc] h fun v h' => v = .tuple #[] ∧ MS h' q fb n (tkAll own B now) ∧ Fr [fb] h h' := by
  refine calls_k fun R hR => ?_
  apply warderlaw11_taken.calls
  unfold warderlaw11_taken.P
  refine ⟨fun i h1 => ∃ j : Nat, i = (j : Int) ∧ j ≤ now.length ∧ MS h1 q fb n (tkAll own B (now.take j)) ∧ Fr [fb] h h1, fun i _ => now.length - i.toNat, ⟨0, rfl, by omega, w, Fr.refl _ _⟩, ?_⟩
  rintro i h1 ⟨j, rfl, hj, w1, f1⟩
  have ro1 := ro.fr f1 (by simpa using fun x hx e => fo (by rw [← e]; exact hx))
  have rn1 := rn.fr f1 (by simpa using fun x hx e => fn (by rw [← e]; exact hx))
  refine ⟨fun c => ?_, fun c => ?_⟩
  · have hj1 : j < now.length := lt_cast c
    obtain ⟨x, hx⟩ : ∃ x, now[j]? = some x := ⟨_, List.getElem?_eq_getElem hj1⟩
    obtain ⟨f, rfl, hf⟩ := hin x (List.mem_of_getElem? hx)
    have hnext := tk_next (own := own) (B := B) hx
    obtain ⟨nb, no, rfl, cn⟩ := row_cell rn1 hx
    refine ⟨fun was k h2 => ∃ l : Nat, k = (l : Int) ∧ l ≤ own.length ∧ was = decide ((f : Int) ∈ own.take l) ∧ h2 = h1, fun _ k _ => own.length - k.toNat, ⟨0, rfl, by omega, by simp, rfl⟩, ?_⟩
    rintro was k h2 ⟨l, rfl, hl, hwas, hh⟩
    rw [hh]; clear hh h2
    refine ⟨fun c => ?_, fun c => ?_⟩
    · have hl1 : l < own.length := lt_cast c
      obtain ⟨z, hz⟩ : ∃ z, own[l]? = some z := ⟨_, List.getElem?_eq_getElem hl1⟩
      obtain ⟨ob, oo, rfl, co⟩ := row_cell ro1 hz
      have htk := Ftake_one hz
      rw [wrapN hl1 (by omega)]
      refine ⟨fun c1 => ⟨⟨l + 1, rfl, hl1, ?_, rfl⟩, decM hl1⟩, fun c1 => ⟨by omega, by omega, _, _, rfl, _, co, by omega, by omega, _, _, rfl, _, cn, ⟨l + 1, rfl, hl1, ?_, rfl⟩, decM hl1⟩⟩
      · rw [c1] at hwas
        have := of_decide_eq_true hwas.symm
        rw [htk, decide_eq_true (by rw [List.mem_append]; exact .inl this)]
      · rw [c1] at hwas
        have := of_decide_eq_false hwas.symm
        rw [htk]
        by_cases e : z = (f : Int)
        · rw [e]; simp
        · have e2 : (z == (f : Int)) = false := by simpa using e
          rw [e2, decide_eq_false]
          rw [List.mem_append, List.mem_singleton]
          rintro (hc | hc)
          · exact this hc
          · exact e hc.symm
    · have hl1 : l = own.length := Nat.le_antisymm hl (ge_cast c)
      subst hl1
      rw [List.take_length] at hwas
      rw [wrapN hj1 (by omega)]
      refine ⟨fun c1 => ?_, fun c1 => ?_⟩
      · have hno : ¬ (f : Int) ∈ own := by rw [hwas] at c1; simpa using c1
        rw [if_neg hno, Int.toNat_natCast] at hnext
        refine ⟨by omega, by omega, _, _, rfl, _, cn, ?_⟩
        refine (FillNil w1 hf).mono ?_
        rintro v h3 ⟨⟨e3, rfl⟩, m3, f3⟩
        exact ⟨_, rfl, ⟨j + 1, rfl, hj1, by rw [hnext]; exact m3, f1.trans f3⟩, decM hj1⟩
      · have hyes : (f : Int) ∈ own := by rw [hwas] at c1; simpa using c1
        rw [if_pos hyes] at hnext
        exact ⟨⟨j + 1, rfl, hj1, by rw [hnext]; exact w1, f1⟩, decM hj1⟩
  · have hj1 : j = now.length := Nat.le_antisymm hj (ge_cast c)
    subst hj1
    rw [List.take_length] at w1
    exact hR _ _ ⟨rfl, w1, f1⟩

/-! ## the log, done again -/
def brM : Option Nat → List MapEntry → Prop
  | none, es => es = []
  | some a, es => ∃ c, es = [{ key := .int .u32 (a : Int), val := .int .i64 1, born := c }]
theorem repl_step {n : Nat} {st fin : Br} {lg : List Dd} {j : Nat} {d : Dd} (hd : lg[j]? = some d) {st' : Br} (h1 : repl n st (lg.take j) = some st') (h2 : repl n st lg = some fin) : ∃ st2, stepD n st' d = some st2 ∧ repl n st (lg.take (j + 1)) = some st2 := by
  have e : lg = lg.take (j + 1) ++ lg.drop (j + 1) := (List.take_append_drop _ _).symm
  have ht := take_one hd
  rw [e, repl_append, ht, repl_append, h1] at h2
  simp only [Option.bind_some, repl] at h2
  cases hs : stepD n st' d with
  | none => rw [hs] at h2; simp at h2
  | some st2 => exact ⟨st2, rfl, by rw [ht]; exact repl_snoc h1 hs⟩
theorem replay_spec {h : Hp} {q fb n : Nat} {B : List Nat} (w : MS h q fb n B) {la : Option Addr} {lc : Nat} {lg : List Dd} (rl : rowAtK h la (encL Dd.cells lg)) (fl : fb ∉ foot la) (hll : lg.length ≤ 1000000) {B' : List Nat} (hr : repl n (B, none) lg = some (B', none)) :
    CallsH Try.prog 33 [.pointer (some ⟨q, 0, none⟩), .slice la lg.length lc] h fun v h' => v = .bool true ∧ MS h' q fb n B' ∧ Fr [fb] h h' := by
  refine calls_k fun R hR => ?_
  apply warderlaw11_replay.calls
  unfold warderlaw11_replay.P
  intro h1 e1
  have k1 : bk h1 (sz h) = some (.map ⟨[]⟩ 0) := by rw [e1]; exact new_at _ _
  have f1 : Fr [] h h1 := by rw [e1]; exact Fr.new _ _ _
  clear e1
  have lq := w.lt
  have lf := w.ltf
  refine ⟨fun br i h2 => ∃ (j r c : Nat) (B1 : List Nat) (o : Option Nat) (es : List MapEntry), i = (j : Int) ∧ j ≤ lg.length ∧ br = some r ∧ sz h ≤ r ∧ bk h2 r = some (.map ⟨es⟩ c) ∧ brM o es ∧ repl n (B, none) (lg.take j) = some (B1, o) ∧ MS h2 q fb n B1 ∧ Fr [fb] h h2, fun _ i _ => lg.length - i.toNat,
    ⟨0, sz h, 0, B, none, [], rfl, by omega, rfl, Nat.le_refl _, k1, (show brM none [] from rfl), rfl, w.fr f1 (by simp) (by simp), f1.mono (by simp)⟩, ?_⟩
  rintro br i h2 ⟨j, r, c, B1, o, es, rfl, hj, rfl, hrz, k2, hbr, hrep, w2, f2⟩
  have rl2 := rl.fr f2 (by simpa using fun x hx e => fl (by rw [← e]; exact hx))
  refine ⟨fun c1 => ?_, fun c1 => ?_⟩
  rotate_left
  · have hj1 : j = lg.length := Nat.le_antisymm hj (ge_cast c1)
    subst hj1
    rw [List.take_length, hr] at hrep
    cases hrep
    have hes : es = [] := hbr
    subst hes
    exact ⟨0, ⟨_, _, k2, rfl⟩, hR _ _ ⟨rfl, w2, f2⟩⟩
  have hj1 : j < lg.length := lt_cast c1
  obtain ⟨d, hd⟩ : ∃ d, lg[j]? = some d := ⟨_, List.getElem?_eq_getElem hj1⟩
  obtain ⟨st2, hst, hrep2⟩ := repl_step hd hrep hr
  obtain ⟨lb, lo, rfl, e⟩ := encL_one Dd.len rl2 hd (by decide)
  have hne : lb ≠ fb := fun e => fl (by rw [← e]; simp [foot])
  have lrow : lb < sz h := by
    have := encL_one Dd.len rl hd (by decide)
    obtain ⟨b', o', e1, e2⟩ := this
    cases e1
    exact lt_of_cell (e2 0 (by decide))
  have c0 : cellAt h2 lb (lo + ((j : Nat) : Int).toNat * 3) = some (.int .i64 d.kind) := by rw [Int.toNat_natCast]; exact (e 0 (by decide)).trans rfl
  have ca : cellAt h2 lb (lo + ((j : Nat) : Int).toNat * 3 + 1) = some (.int .u32 (d.addr : Int)) := by rw [Int.toNat_natCast]; exact (e 1 (by decide)).trans rfl
  have cv : cellAt h2 lb (lo + ((j : Nat) : Int).toNat * 3 + 2) = some (.int .u32 (d.value : Int)) := by rw [Int.toNat_natCast]; exact (e 2 (by decide)).trans rfl
  rw [wrapN hj1 (by omega)]
  refine ⟨by omega, by omega, _, _, rfl, _, c0, fun c2 => ?_, fun c2 => ?_⟩
  · intro h3 e3
    have f3 : Fr [] h2 h3 := by rw [e3]; exact Fr.new _ _ _
    have hk : d.kind = 2 := eq_of_beq c2
    unfold stepD at hst
    rw [if_pos hk] at hst
    cases hst
    exact ⟨⟨j + 1, sz h2, 0, _, _, [], rfl, hj1, rfl, f2.size, by rw [e3]; exact new_at _ _, (show brM none [] from rfl), hrep2, w2.fr f3 (by simp) (by simp), f2.trans (f3.mono (by simp))⟩, decM hj1⟩
  have hk2 : d.kind ≠ 2 := by intro hc; rw [hc] at c2; simp at c2
  unfold stepD at hst
  rw [if_neg hk2] at hst
  split at hst
  rotate_left
  · cases hst
  rename_i hcond
  obtain ⟨hk1, ho, hw, hv, hz⟩ := hcond
  have ho : o = none := ho
  subst ho
  have hes : es = [] := hbr
  subst hes
  have hz : (dec (leN B1 d.addr 4)).v = true → d.value = 0 := hz
  cases hst
  have hadd : d.addr < 4294967296 := by
    have := w.hi
    simp only [wordOk, Bool.and_eq_true, decide_eq_true_eq] at hw
    omega
  refine ⟨by omega, by omega, _, _, rfl, _, ca, ?_⟩
  refine (Word_spec w2 hadd).mono ?_
  rw [hw, if_pos rfl]
  rintro v h4 ⟨rfl, hh⟩
  rw [hh]; clear hh h4
  have hw32 : leN B1 d.addr 4 < 4294967296 := leN_lt w2.byt _ 4
  refine ⟨_, _, rfl, ?_⟩
  have look : ∀ {h5 : Hp}, Fr [] h2 h5 → lookIs false [.int .u32] h5 (some r) [.int .u32 (d.addr : Int)] none := fun f => ⟨[], c, none, f.at k2 (by simp), rfl, rfl⟩
  refine ⟨fun h5 => Fr [] h2 h5, ?_, ?_⟩
  · refine ⟨by omega, by omega, _, _, rfl, _, c0, fun c3 => by rw [hk1] at c3; simp at c3, fun _ => ⟨fun c3 => (by cases c3), fun _ => ?_⟩⟩
    refine (decode_spec (leN B1 d.addr 4) hw32).mono ?_
    rintro v h5 ⟨rfl, f5⟩
    have cell := fun {k : Nat} {x : Value} (hc : cellAt h2 lb k = some x) => f5.cell hc (by simp)
    refine ⟨_, _, _, _, _, rfl, fun cv1 => ?_, fun cv1 => ?_⟩
    · have hv0 := hz cv1
      refine ⟨by omega, by omega, _, _, rfl, _, cell cv, fun c3 => by rw [hv0] at c3; simp at c3, fun _ => ⟨by omega, by omega, _, _, rfl, _, cell ca, none, look f5, 0, rfl, fun c3 => absurd c3 (by decide), fun _ => f5⟩⟩
    · exact ⟨by omega, by omega, _, _, rfl, _, cell ca, none, look f5, 0, rfl, fun c3 => absurd c3 (by decide), fun _ => f5⟩
  intro h6 f6
  have w6 := w2.fr f6 (by simp) (by simp)
  have k6 := f6.at k2 (by simp)
  refine ⟨fun h9 => ∃ (c : Nat) (es : List MapEntry), bk h9 r = some (.map ⟨es⟩ c) ∧ brM (if (dec (leN B1 d.addr 4)).v then some d.addr else none) es ∧ Fr [r] h6 h9, ?_, ?_⟩
  · refine (decode_spec (leN B1 d.addr 4) hw32).mono ?_
    rintro v h7 ⟨rfl, f7⟩
    have f27 := f6.trans f7
    refine ⟨_, _, _, _, _, rfl, fun cv1 => ?_, fun cv1 => ?_⟩
    · refine ⟨by omega, by omega, _, _, rfl, _, f27.cell ca (by simp), none, look f27, 0, rfl, r, [], c, none, rfl, f27.at k2 (by simp), rfl, ?_⟩
      intro h8 e8
      have f8 : Fr [r] h7 h8 := by rw [e8]; exact Fr.updO (by simp) _ _
      refine ⟨c + 1, [{ key := .int .u32 (d.addr : Int), val := .int .i64 1, born := c }], ?_, ?_, (f7.mono (by simp)).trans f8⟩
      · rw [e8, bk_updO (lt_of_bk (f27.at k2 (by simp))), if_pos rfl]; rfl
      · rw [if_pos cv1]; exact ⟨c, rfl⟩
    · refine ⟨c, [], f27.at k2 (by simp), ?_, f7.mono (by simp)⟩
      rw [if_neg (by rw [cv1]; decide)]; rfl
  rintro h9 ⟨c', es', k9, hb9, f9⟩
  have hrq : r ≠ q := by omega
  have hrf : r ≠ fb := by omega
  have hrl : r ≠ lb := by omega
  have w9 := w6.fr f9 (by simpa using hrq.symm) (by simpa using hrf.symm)
  have cell9 := fun {k : Nat} {x : Value} (hc : cellAt h2 lb k = some x) => f9.cell (f6.cell hc (by simp)) (by simpa using hrl.symm)
  refine ⟨by omega, by omega, _, _, rfl, _, cell9 ca, by omega, by omega, _, _, rfl, _, cell9 cv, ?_⟩
  refine (PutWord_spec w9 hadd hv).mono ?_
  rintro v h10 ⟨rfl, m10, f10⟩
  refine ⟨_, rfl, ⟨j + 1, r, c', _, _, es', rfl, hj1, rfl, hrz, f10.at k9 (by simpa using hrf), hb9, hrep2, m10, ?_⟩, decM hj1⟩
  exact ((f2.trans (f6.mono (by simp))).later f9 (by simp; omega)).trans f10
end Go.Proofs.Ytmldiibfmhkgjaa
