import Derived.Test.YtmldiibfmhkgjaaSa
import Derived.Test.YtmldiibfmhkgjaaEa
import Derived.Test.YtmldiibfmhkgjaaPe
namespace Go.Proofs.Ytmldiibfmhkgjaa
open Go Go.Wd
set_option linter.unusedVariables false
set_option linter.unusedSimpArgs false
set_option linter.unnecessarySimpa false

/-! ## blocks by their types -/
def ty (h : Hp) (b : Nat) : Option Nat := match bk h b with
  | some (.cells _ T _) => some T
  | some _ => some 0
  | none => none
theorem ty_of {h : Hp} {b : Nat} {T : Nat} {l : List Value} (hb : bk h b = some (blk T l)) : ty h b = some T := by unfold ty; rw [hb]
theorem ty_map {h : Hp} {b : Nat} {M : List MapEntry} {c : Nat} (hb : bk h b = some (.map ⟨M⟩ c)) : ty h b = some 0 := by unfold ty; rw [hb]
theorem ty_ne {h : Hp} {a b s t : Nat} (h1 : ty h a = some s) (h2 : ty h b = some t) (hne : s ≠ t) : a ≠ b := by
  intro e; rw [e, h2] at h1; exact hne (Option.some.inj h1).symm
theorem ty_lt {h : Hp} {b T : Nat} (hb : ty h b = some T) : b < sz h := by
  unfold ty at hb
  cases hx : bk h b with
  | none => rw [hx] at hb; cases hb
  | some o => exact lt_of_bk hx
theorem ty_eq {h h' : Hp} {b : Nat} (e : bk h' b = bk h b) : ty h' b = ty h b := by unfold ty; rw [e]
theorem Fr.ty {F : List Nat} {h h' : Hp} (k : Fr F h h') {b T : Nat} (hb : ty h b = some T) (hn : b ∉ F) : ty h' b = some T := by
  rw [ty_eq (k.keep b (ty_lt hb) hn)]; exact hb
theorem own_ty {h : Hp} {T size : Nat} {a : Option Addr} {l c : Nat} {cells : List Value} (o : Go.Wd.Own h T size a l c cells) : ∀ x ∈ foot a, ty h x = some T := by
  intro x hx
  rcases o.2 with ⟨rfl, _⟩ | ⟨b, rest, rfl, hb, _⟩
  · simp [foot] at hx
  · simp only [foot, List.mem_singleton] at hx
    rw [hx]; exact ty_of hb

/-! ## a space in memory -/
/-- Where the parts lie. -/
structure Lay where
  q : Nat
  mq : Nat
  mb : Nat
  fq : Nat
  fo : Nat
  tq : Nat
  pl : Nat
  mp : Nat
  z : Nat
def Lay.F (y : Lay) : List Nat := [y.q, y.mb, y.fq, y.fo, y.tq, y.pl, y.mp]
/-- Of the blocks of h all stay but those of the layout, and rows of deeds that lie behind its mark. -/
structure FrL (y : Lay) (h h' : Hp) : Prop where
  size : sz h ≤ sz h'
  keep : ∀ b, b < sz h → b ∉ y.F → (Go.Proofs.Ytmldiibfmhkgjaa.ty h b ≠ some 71 ∨ b < y.z) → bk h' b = bk h b
theorem FrL.refl (y : Lay) (h : Hp) : FrL y h h := ⟨Nat.le_refl _, fun _ _ _ _ => rfl⟩
theorem FrL.of {F : List Nat} {y : Lay} {h h' : Hp} (k : Fr F h h') (hs : ∀ x ∈ F, x ∈ y.F ∨ (Go.Proofs.Ytmldiibfmhkgjaa.ty h x = some 71 ∧ y.z ≤ x)) : FrL y h h' :=
  ⟨k.size, fun b hb hg ht => k.keep b hb fun hm => (hs b hm).elim hg (fun e => ht.elim (fun n => n e.1) (fun n => by have := e.2; omega))⟩
theorem FrL.of0 {y : Lay} {h h' : Hp} (k : Fr [] h h') : FrL y h h' := .of k (by simp)
theorem FrL.trans {y : Lay} {a b c : Hp} (h : FrL y a b) (k : FrL y b c) : FrL y a c :=
  ⟨Nat.le_trans h.size k.size, fun x hx hn ht => by
    have e := h.keep x hx hn ht
    rw [k.keep x (Nat.lt_of_lt_of_le hx h.size) hn (by rw [ty_eq e]; exact ht), e]⟩
theorem FrL.later {F : List Nat} {y : Lay} {a b c : Hp} (h : FrL y a b) (k : Fr F b c) (hs : ∀ x ∈ F, x ∈ y.F ∨ sz a ≤ x) : FrL y a c :=
  ⟨Nat.le_trans h.size k.size, fun x hx hn ht => (k.keep x (Nat.lt_of_lt_of_le hx h.size) fun hm => (hs x hm).elim hn (fun h => by omega)).trans (h.keep x hx hn ht)⟩
theorem FrL.next {y : Lay} {a b c : Hp} (h : Fr [] a b) (k : FrL y b c) : FrL y a c := (FrL.of0 h).trans k
theorem FrL.at {y : Lay} {h h' : Hp} (k : FrL y h h') {b : Nat} {T : Nat} {l : List Value} (hb : bk h b = some (blk T l)) (hn : b ∉ y.F) (ht : T ≠ 71) : bk h' b = some (blk T l) := by
  rw [k.keep b (lt_of_bk hb) hn (.inl (by rw [ty_of hb]; intro e; exact ht (Option.some.inj e)))]; exact hb
theorem FrL.ofF {y : Lay} {h h' : Hp} (k : Fr y.F h h') : FrL y h h' := .of k (fun x hx => .inl hx)
/-- The same layout, with another mark. -/
def Lay.at (y : Lay) (z : Nat) : Lay := { y with z := z }
theorem FrL.strict {y : Lay} {h h' : Hp} (k : FrL (y.at (sz h)) h h') : Fr y.F h h' := ⟨k.size, fun b hb hn => k.keep b hb hn (.inr hb)⟩
/-- All that lies ahead of the mark and the layout stays. -/
theorem FrL.old {y : Lay} {h0 h h' : Hp} (f : Fr [] h0 h) (k : FrL y h h') (hz : sz h0 ≤ y.z) (hF : ∀ x ∈ y.F, sz h0 ≤ x) : Fr [] h0 h' :=
  ⟨Nat.le_trans f.size k.size, fun b hb hn => by
    rw [k.keep b (Nat.lt_of_lt_of_le hb f.size) (fun hm => by have := hF b hm; omega) (.inr (by omega)), f.keep b hb hn]⟩
/-- The rows of deeds lie behind the mark. -/
def LZ (h : Hp) (y : Lay) (la : Option Addr) : Prop := y.z ≤ sz h ∧ ∀ x ∈ foot la, y.z ≤ x
theorem LZ.fr {y : Lay} {h h' : Hp} {la : Option Addr} (z : LZ h y la) {F : List Nat} (k : Fr F h h') : LZ h' y la := ⟨Nat.le_trans z.1 k.size, z.2⟩
theorem LZ.nil {y : Lay} {h : Hp} {la : Option Addr} (z : LZ h y la) : LZ h y none := ⟨z.1, by simp [foot]⟩
/-- What a space stands on, and what it is. -/
structure Sp where
  n : Nat
  B : List Nat
  L : List Int
  TL : List (Option S)
  nx : Nat
  vmid : Int
  root : Nat
  dead : Bool
  lg : List Dd
def Sp.cells (y : Lay) (s : Sp) (la : Option Addr) (l c : Nat) : List Value := [.pointer (some ⟨y.mq, 0, none⟩), .pointer (some ⟨y.fq, 0, none⟩), .pointer (some ⟨y.tq, 0, none⟩), .int .i64 s.vmid, .int .i64 (s.root : Int), .bool s.dead, .slice la l c]
/-- What it stands on. -/
structure SG (h : Hp) (y : Lay) (s : Sp) : Prop where
  m : MS h y.mq y.mb s.n s.B
  f : FTS h y.fq y.fo s.L
  t : TS h y.tq y.pl y.mp s.TL s.nx
structure SP (h : Hp) (y : Lay) (s : Sp) : Prop where
  hs : ∃ la lc, bk h y.q = some (blk 89 (s.cells y la s.lg.length lc)) ∧ Go.Wd.Own h 71 3 la s.lg.length lc (encL Dd.cells s.lg) ∧ LZ h y la
  g : SG h y s
section
variable {h h' : Hp} {y : Lay} {s : Sp}
theorem SG.ty_mq (w : SG h y s) : ty h y.mq = some 115 := by obtain ⟨c, _, e⟩ := w.m.hq; exact ty_of e
theorem SG.ty_mb (w : SG h y s) : ty h y.mb = some 113 := by obtain ⟨t, e⟩ := w.m.arr; exact ty_of e.hq
theorem SG.ty_fq (w : SG h y s) : ty h y.fq = some 118 := ty_of w.f.hq
theorem SG.ty_fo (w : SG h y s) : ty h y.fo = some 3 := ty_of w.f.arr.hq
theorem SG.ty_tq (w : SG h y s) : ty h y.tq = some 126 := ty_of w.t.hq
theorem SG.ty_pl (w : SG h y s) : ty h y.pl = some 127 := by obtain ⟨A, e, _⟩ := w.t.hpl; exact ty_of e
theorem SG.ty_mp (w : SG h y s) : ty h y.mp = some 0 := by obtain ⟨M, c, e, _⟩ := w.t.hmp; exact ty_map e
theorem SP.ty_q (w : SP h y s) : ty h y.q = some 89 := by obtain ⟨la, lc, e, _⟩ := w.hs; exact ty_of e
/-- All stays that it stands on. -/
theorem SG.fr (w : SG h y s) {F : List Nat} (k : Fr F h h') (hF : ∀ x ∈ F, ∀ t, ty h x = some t → t ≠ 115 ∧ t ≠ 113 ∧ t ≠ 118 ∧ t ≠ 3 ∧ t ≠ 126 ∧ t ≠ 127 ∧ t ≠ 0 ∧ t ≠ 64) : SG h' y s := by
  have e : ∀ {b t : Nat}, ty h b = some t → (t = 115 ∨ t = 113 ∨ t = 118 ∨ t = 3 ∨ t = 126 ∨ t = 127 ∨ t = 0 ∨ t = 64) → b ∉ F := fun hb ht hm => by
    have := hF _ hm _ hb
    omega
  exact ⟨w.m.fr k (e w.ty_mq (by simp)) (e w.ty_mb (by simp)), w.f.fr k (e w.ty_fq (by simp)) (e w.ty_fo (by simp)), w.t.fr k (e w.ty_tq (by simp)) (e w.ty_pl (by simp)) (e w.ty_mp (by simp)) (fun x hx T l hb => (hF x hx T (ty_of hb)).2.2.2.2.2.2.2)⟩
theorem SG.fr0 (w : SG h y s) (k : Fr [] h h') : SG h' y s := w.fr k (by simp)
theorem SP.fr0 (w : SP h y s) (k : Fr [] h h') : SP h' y s := by
  obtain ⟨la, lc, e, o, z⟩ := w.hs
  exact ⟨⟨la, lc, k.at e (by simp), o.fr k (by simp), z.fr k⟩, w.g.fr0 k⟩
theorem SP.mem (w : SP h y s) : cellAt h y.q 0 = some (.pointer (some ⟨y.mq, 0, none⟩)) := by obtain ⟨la, lc, e, _⟩ := w.hs; exact (cellAt_of e 0).trans rfl
theorem SP.frames (w : SP h y s) : cellAt h y.q (0 + 1) = some (.pointer (some ⟨y.fq, 0, none⟩)) := by obtain ⟨la, lc, e, _⟩ := w.hs; exact (cellAt_of e 1).trans rfl
theorem SP.tlb (w : SP h y s) : cellAt h y.q (0 + 2) = some (.pointer (some ⟨y.tq, 0, none⟩)) := by obtain ⟨la, lc, e, _⟩ := w.hs; exact (cellAt_of e 2).trans rfl
theorem SP.vm (w : SP h y s) : cellAt h y.q (0 + 3) = some (.int .i64 s.vmid) := by obtain ⟨la, lc, e, _⟩ := w.hs; exact (cellAt_of e 3).trans rfl
theorem SP.rt (w : SP h y s) : cellAt h y.q (0 + 4) = some (.int .i64 (s.root : Int)) := by obtain ⟨la, lc, e, _⟩ := w.hs; exact (cellAt_of e 4).trans rfl
theorem SP.de (w : SP h y s) : cellAt h y.q (0 + 5) = some (.bool s.dead) := by obtain ⟨la, lc, e, _⟩ := w.hs; exact (cellAt_of e 5).trans rfl
theorem SP.lq (w : SP h y s) : y.q < sz h := ty_lt w.ty_q
/-- Blocks of the layout lie below. -/
theorem SP.ltF (w : SP h y s) : ∀ x ∈ y.F, x < sz h := by
  intro x hx
  simp only [Lay.F, List.mem_cons, List.not_mem_nil, or_false] at hx
  rcases hx with rfl | rfl | rfl | rfl | rfl | rfl | rfl
  · exact w.lq
  · exact ty_lt w.g.ty_mb
  · exact ty_lt w.g.ty_fq
  · exact ty_lt w.g.ty_fo
  · exact ty_lt w.g.ty_tq
  · exact ty_lt w.g.ty_pl
  · exact ty_lt w.g.ty_mp
/-- A block of another type is none of the layout's. -/
theorem SP.out (w : SP h y s) {b T : Nat} (hb : ty h b = some T) (hT : T ≠ 89 ∧ T ≠ 113 ∧ T ≠ 118 ∧ T ≠ 3 ∧ T ≠ 126 ∧ T ≠ 127 ∧ T ≠ 0) : b ∉ y.F := by
  simp only [Lay.F, List.mem_cons, List.not_mem_nil, or_false, not_or]
  exact ⟨ty_ne hb w.ty_q hT.1, ty_ne hb w.g.ty_mb hT.2.1, ty_ne hb w.g.ty_fq hT.2.2.1, ty_ne hb w.g.ty_fo hT.2.2.2.1, ty_ne hb w.g.ty_tq hT.2.2.2.2.1, ty_ne hb w.g.ty_pl hT.2.2.2.2.2.1, ty_ne hb w.g.ty_mp hT.2.2.2.2.2.2⟩
theorem SG.at (w : SG h y s) (z : Nat) : SG h (y.at z) s := ⟨w.m, w.f, w.t⟩
theorem SP.at (w : SP h y s) {z : Nat} (hz : y.z ≤ z) (g : ∀ la ll lc, cellAt h y.q 6 = some (.slice la ll lc) → ∀ x ∈ foot la, z ≤ x) (hs : z ≤ sz h) : SP h (y.at z) s := by
  obtain ⟨la, lc, e, o, zz⟩ := w.hs
  exact ⟨⟨la, lc, e, o, hs, g _ _ _ ((cellAt_of e 6).trans rfl)⟩, w.g.at z⟩
theorem SP.unat {z : Nat} (w : SP h (y.at z) s) (hz : y.z ≤ z) : SP h y s := by
  obtain ⟨la, lc, e, o, zz⟩ := w.hs
  exact ⟨⟨la, lc, e, o, Nat.le_trans hz zz.1, fun x hx => Nat.le_trans hz (zz.2 x hx)⟩, ⟨w.g.m, w.g.f, w.g.t⟩⟩
/-- The space's own cells are written. -/
theorem SG.self (w : SG h y s) {l0 : List Value} (e : bk h y.q = some (blk 89 l0)) {s' : Sp} {la : Option Addr} {lc : Nat} (hm : s'.n = s.n ∧ s'.B = s.B ∧ s'.L = s.L ∧ s'.TL = s.TL ∧ s'.nx = s.nx)
    (o : Go.Wd.Own h 71 3 la s'.lg.length lc (encL Dd.cells s'.lg)) (z : LZ h y la) : SP (upd h y.q 89 (s'.cells y la s'.lg.length lc)) y s' := by
  have f : Fr [y.q] h (upd h y.q 89 (s'.cells y la s'.lg.length lc)) := Fr.upd (by simp) _ _ _
  have ht := ty_of e
  refine ⟨⟨la, lc, upd_same e _ _, o.fr f ?_, z.fr f⟩, ?_⟩
  · intro x hx
    simp only [List.mem_singleton]
    exact ty_ne (own_ty o x hx) ht (by decide)
  · have := w.fr f (fun x hx t htx => by
      simp only [List.mem_singleton] at hx
      rw [hx, ht] at htx
      cases htx
      decide)
    obtain ⟨a, b, c⟩ := this
    obtain ⟨e1, e2, e3, e4, e5⟩ := hm
    exact ⟨by rw [e1, e2]; exact a, by rw [e3]; exact b, by rw [e4, e5]; exact c⟩
/-- The memory is written. -/
theorem SP.mw (w : SP h y s) (k : Fr [y.mb] h h') {B' : List Nat} (m' : MS h' y.mq y.mb s.n B') : SP h' y { s with B := B' } := by
  obtain ⟨la, lc, e, o, z⟩ := w.hs
  have hq := w.ty_q
  have e1 := w.g.ty_mb
  have ne : ∀ {b t : Nat}, ty h b = some t → t ≠ 113 → b ∉ [y.mb] := fun hb ht => by simp only [List.mem_singleton]; exact ty_ne hb e1 ht
  refine ⟨⟨la, lc, k.at e (ne hq (by decide)), o.fr k ?_, z.fr k⟩, m', w.g.f.fr k (ne w.g.ty_fq (by decide)) (ne w.g.ty_fo (by decide)), w.g.t.fr k (ne w.g.ty_tq (by decide)) (ne w.g.ty_pl (by decide)) (ne w.g.ty_mp (by decide)) ?_⟩
  · intro x hx
    exact ne (own_ty o x hx) (by decide)
  · intro x hx T l hb
    simp only [List.mem_singleton] at hx
    rw [hx] at hb
    have := ty_of hb
    rw [e1] at this
    cases this
    decide
/-- The frames' owners are written. -/
theorem SP.fw (w : SP h y s) (k : Fr [y.fq, y.fo] h h') {L' : List Int} (m' : FTS h' y.fq y.fo L') : SP h' y { s with L := L' } := by
  obtain ⟨la, lc, e, o, z⟩ := w.hs
  have hq := w.ty_q
  have e1 := w.g.ty_fq
  have e2 := w.g.ty_fo
  have ne : ∀ {b t : Nat}, ty h b = some t → t ≠ 118 → t ≠ 3 → b ∉ [y.fq, y.fo] := fun hb ht ht' => by
    simp only [List.mem_cons, List.not_mem_nil, or_false, not_or]; exact ⟨ty_ne hb e1 ht, ty_ne hb e2 ht'⟩
  refine ⟨⟨la, lc, k.at e (ne hq (by decide) (by decide)), o.fr k ?_, z.fr k⟩, w.g.m.fr k (ne w.g.ty_mq (by decide) (by decide)) (ne w.g.ty_mb (by decide) (by decide)), m', w.g.t.fr k (ne w.g.ty_tq (by decide) (by decide)) (ne w.g.ty_pl (by decide) (by decide)) (ne w.g.ty_mp (by decide) (by decide)) ?_⟩
  · intro x hx
    exact ne (own_ty o x hx) (by decide) (by decide)
  · intro x hx T l hb
    simp only [List.mem_cons, List.not_mem_nil, or_false] at hx
    have := ty_of hb
    rcases hx with rfl | rfl
    · rw [e1] at this; cases this; decide
    · rw [e2] at this; cases this; decide
/-- The TLB is written. -/
theorem SP.tw (w : SP h y s) (k : Fr [y.tq, y.pl, y.mp] h h') {TL' : List (Option S)} {nx' : Nat} (m' : TS h' y.tq y.pl y.mp TL' nx') : SP h' y { s with TL := TL', nx := nx' } := by
  obtain ⟨la, lc, e, o, z⟩ := w.hs
  have hq := w.ty_q
  have e0 := w.g.ty_tq
  have e1 := w.g.ty_pl
  have e2 := w.g.ty_mp
  have ne : ∀ {b t : Nat}, ty h b = some t → t ≠ 126 → t ≠ 127 → t ≠ 0 → b ∉ [y.tq, y.pl, y.mp] := fun hb ht ht' ht2 => by
    simp only [List.mem_cons, List.not_mem_nil, or_false, not_or]; exact ⟨ty_ne hb e0 ht, ty_ne hb e1 ht', ty_ne hb e2 ht2⟩
  refine ⟨⟨la, lc, k.at e (ne hq (by decide) (by decide) (by decide)), o.fr k ?_, z.fr k⟩, w.g.m.fr k (ne w.g.ty_mq (by decide) (by decide) (by decide)) (ne w.g.ty_mb (by decide) (by decide) (by decide)), w.g.f.fr k (ne w.g.ty_fq (by decide) (by decide) (by decide)) (ne w.g.ty_fo (by decide) (by decide) (by decide)), m'⟩
  intro x hx
  exact ne (own_ty o x hx) (by decide) (by decide) (by decide)
end

/-! ## what is done to it, in plain terms -/
def encW (e : Ent) : Nat := if encOk e then encN e else 0
def Sp.word (s : Sp) (a : Nat) : Nat := if wordOk s.n a then leN s.B a 4 else 0
def Sp.put (s : Sp) (a x : Nat) : Sp := { s with B := putW s.n s.B a x, lg := s.lg ++ [⟨1, a, x⟩] }
def Sp.drop (s : Sp) : Sp := { s with TL := dropL (fun t => t.vm == s.vmid) s.TL, lg := s.lg ++ [⟨2, 0, 0⟩] }
def Sp.brk (s : Sp) (a : Nat) : Sp := if (dec (s.word a)).v then (s.put a 0).drop else s
def Sp.mk' (s : Sp) (a x : Nat) : Sp := if x ≠ 0 then s.put a x else s
def Sp.change (s : Sp) (a : Nat) (e : Ent) : Sp := if s.word a = encW e then s else (s.brk a).mk' a (encW e)
def Sp.take (s : Sp) (t : Nat) : Sp := { s with L := s.L.set t 1, B := zeroF s.B t }
end Go.Proofs.Ytmldiibfmhkgjaa
