import Derived.Test.YtopfdfcbhclolaaWe
namespace Go.Proofs.Ytopfdfcbhclolaa
open Go Go.Wd
set_option linter.unusedVariables false
set_option linter.unusedSimpArgs false

/-! ## what a translation comes to -/
inductive Rs (α : Type) where
  | ok (a : α) (r : Int)
  | bad (st kd : Int) (ad : Nat) (tb : Bool) (r : Int)
def Rs.bind {α β : Type} (m : Rs α) (f : α → Int → Rs β) : Rs β := match m with
  | .ok a r => f a r
  | .bad st kd ad tb r => .bad st kd ad tb r
theorem Rs.bind_ok {α β : Type} {m : Rs α} {a : α} {r : Int} (h : m = .ok a r) (f : α → Int → Rs β) : m.bind f = f a r := by rw [h]; rfl
theorem Rs.bind_bad {α β : Type} {m : Rs α} {st kd : Int} {ad : Nat} {tb : Bool} {r : Int} (h : m = .bad st kd ad tb r) (f : α → Int → Rs β) : m.bind f = .bad st kd ad tb r := by rw [h]; rfl
structure Tl where
  st : Int
  kd : Int
  fa : Nat
  tb : Bool
  rd : Int
  pg : Int
  ad : Nat
  wr : Bool
  ex : Bool
  deriving DecidableEq
def Tl.cells (x : Tl) : List Value := [.int .i64 x.st, .int .i64 x.kd, .int .u32 x.fa, .bool x.tb, .int .i64 x.rd, .int .i64 x.pg, .int .u32 x.ad, .bool x.wr, .bool x.ex]
theorem Tl.len (x : Tl) : x.cells.length = 9 := rfl
def adr (f : Int) (k : Nat) : Nat := f.toNat * 256 + k % 256
section
variable (n : Nat) (B : List Nat) (tab : Int) (va : Nat)
def thruR (ipa : Nat) (acc : Int) (tb : Bool) (r : Int) : Rs Hit :=
  if (walkOf n B tab ipa acc).fault = 0 then .ok (walkOf n B tab ipa acc) (r + (walkOf n B tab ipa acc).reads) else .bad 2 (walkOf n B tab ipa acc).fault ipa tb (r + (walkOf n B tab ipa acc).reads)
def entR (page : Int) (i : Nat) (r : Int) : Rs Ent :=
  if page < 4096 then (thruR n B tab (page.toNat * 256 + 4 * i) 0 true r).bind fun H r => .ok (dec (leN B (adr H.frame (page.toNat * 256 + 4 * i)) 4)) r
  else .bad 1 1 va false r
def ownR (root : Nat) (r : Int) : Rs (Ent × Int) :=
  (entR n B tab va ((root / 256 : Nat) : Int) (va / 16384 % 64) r).bind fun e r => if e.v = false then .bad 1 2 va false r else if e.b = true then .ok (e, e.f + ((va / 256 % 64 : Nat) : Int)) r else
    (entR n B tab va e.f (va / 256 % 64) r).bind fun e r => if e.v = false then .bad 1 3 va false r else .ok (e, e.f) r
def lastR (ww xx : Bool) (page : Int) (acc : Int) (r : Int) : Rs Tl :=
  (thruR n B tab (page.toNat * 256 + va % 256) acc false r).bind fun H r => .ok ⟨0, 0, 0, false, r, page, adr H.frame (page.toNat * 256 + va % 256), ww && H.write, xx && H.exec⟩ r
def toldR (root : Nat) (acc : Int) (r : Int) : Rs Tl :=
  if ¬ va < 1048576 then .bad 1 1 va false r
  else if root = 0 then lastR n B tab va true true ((va / 256 : Nat) : Int) acc r
  else (ownR n B tab va root r).bind fun x r => if allows x.1 acc = false then .bad 1 4 va false r else if ¬ x.2 < 4096 then .bad 1 1 va false r else lastR n B tab va x.1.w x.1.x x.2 acc r
def trOf (root : Nat) (acc : Int) : Tl := match toldR n B tab va root acc 0 with
  | .ok t _ => t
  | .bad st kd ad tb r => ⟨st, kd, ad, tb, r, 0, 0, false, false⟩
end

/-! ## bounds -/
theorem iteP {α : Type} {P : α → Prop} {c : Prop} [Decidable c] {a b : α} (ha : c → P a) (hb : ¬ c → P b) : P (if c then a else b) := by
  by_cases h : c
  · rw [if_pos h]; exact ha h
  · rw [if_neg h]; exact hb h
theorem found_reads (n : Nat) (B : List Nat) (root : Int) (a : Nat) : 0 ≤ (foundOf n B root a).r ∧ (foundOf n B root a).r ≤ 2 := by
  unfold foundOf
  refine iteP (P := fun x : Fd => 0 ≤ x.r ∧ x.r ≤ 2) (fun _ => ⟨by decide, by decide⟩) fun _ => ?_
  refine iteP (P := fun x : Fd => 0 ≤ x.r ∧ x.r ≤ 2) (fun _ => ⟨by decide, by decide⟩) fun _ => ?_
  refine iteP (P := fun x : Fd => 0 ≤ x.r ∧ x.r ≤ 2) (fun _ => ⟨by decide, by decide⟩) fun _ => ?_
  refine iteP (P := fun x : Fd => 0 ≤ x.r ∧ x.r ≤ 2) (fun _ => ⟨(by decide : (0 : Int) ≤ 1), (by decide : (1 : Int) ≤ 2)⟩) fun _ => ?_
  refine iteP (P := fun x : Fd => 0 ≤ x.r ∧ x.r ≤ 2) (fun _ => ⟨by decide, by decide⟩) fun _ => ?_
  refine iteP (P := fun x : Fd => 0 ≤ x.r ∧ x.r ≤ 2) (fun _ => ⟨by decide, by decide⟩) fun _ => ?_
  exact ⟨(by decide : (0 : Int) ≤ 2), (by decide : (2 : Int) ≤ 2)⟩
theorem walk_reads (n : Nat) (B : List Nat) (root : Int) (a : Nat) (acc : Int) : 0 ≤ (walkOf n B root a acc).reads ∧ (walkOf n B root a acc).reads ≤ 2 := by
  have := found_reads n B root a
  unfold walkOf
  generalize foundOf n B root a = F at *
  refine iteP (P := fun x : Hit => 0 ≤ x.reads ∧ x.reads ≤ 2) (fun _ => this) fun _ => ?_
  refine iteP (P := fun x : Hit => 0 ≤ x.reads ∧ x.reads ≤ 2) (fun _ => this) fun _ => ?_
  exact iteP (P := fun x : Hit => 0 ≤ x.reads ∧ x.reads ≤ 2) (fun _ => this) fun _ => this
theorem addF_le (e : Ent) (k : Nat) (hk : k < 64) (h : 0 ≤ e.f ∧ e.f < 65536) : 0 ≤ (e.addF (k : Int)).f ∧ (e.addF (k : Int)).f < 70000 := by
  show 0 ≤ e.f + (k : Int) ∧ e.f + (k : Int) < 70000
  omega
theorem noB_le (e : Ent) (h : 0 ≤ e.f ∧ e.f < 65536) : 0 ≤ e.noB.f ∧ e.noB.f < 70000 := by
  show 0 ≤ e.f ∧ e.f < 70000
  omega
theorem found_ok {n : Nat} {B : List Nat} {root : Int} {a : Nat} : (foundOf n B root a).f = 0 → 0 ≤ (foundOf n B root a).e.f ∧ (foundOf n B root a).e.f < 70000 := by
  have hd : ∀ t i, 0 ≤ (entAt B t i).f ∧ (entAt B t i).f < 65536 := fun t i => dec_f _
  have hk : a / 256 % 64 < 64 := Nat.mod_lt _ (by decide)
  unfold foundOf
  generalize a / 256 % 64 = k at *
  generalize a / 16384 % 64 = j at *
  generalize entAt B = E at *
  generalize isIn n = I at *
  refine iteP (P := fun x : Fd => x.f = 0 → 0 ≤ x.e.f ∧ x.e.f < 70000) (fun _ h => absurd h (by decide)) fun _ => ?_
  refine iteP (P := fun x : Fd => x.f = 0 → 0 ≤ x.e.f ∧ x.e.f < 70000) (fun _ h => absurd h (by decide)) fun _ => ?_
  refine iteP (P := fun x : Fd => x.f = 0 → 0 ≤ x.e.f ∧ x.e.f < 70000) (fun _ h => absurd h (by decide)) fun _ => ?_
  refine iteP (P := fun x : Fd => x.f = 0 → 0 ≤ x.e.f ∧ x.e.f < 70000) (fun _ h => addF_le _ k hk (hd _ _)) fun _ => ?_
  refine iteP (P := fun x : Fd => x.f = 0 → 0 ≤ x.e.f ∧ x.e.f < 70000) (fun _ h => absurd h (by decide)) fun _ => ?_
  refine iteP (P := fun x : Fd => x.f = 0 → 0 ≤ x.e.f ∧ x.e.f < 70000) (fun _ h => absurd h (by decide)) fun _ h => noB_le _ (hd _ _)
theorem walk_frame {n : Nat} {B : List Nat} {root : Int} {a : Nat} {acc : Int} : (walkOf n B root a acc).fault = 0 → 0 ≤ (walkOf n B root a acc).frame ∧ (walkOf n B root a acc).frame < n := by
  have hk := found_ok (n := n) (B := B) (root := root) (a := a)
  unfold walkOf
  generalize foundOf n B root a = F at *
  refine iteP (P := fun x : Hit => x.fault = 0 → 0 ≤ x.frame ∧ x.frame < n) (fun h1 h => absurd h h1) fun h1 => ?_
  refine iteP (P := fun x : Hit => x.fault = 0 → 0 ≤ x.frame ∧ x.frame < n) (fun _ h => absurd h (by decide : ¬ (4 : Int) = 0)) fun h2 => ?_
  refine iteP (P := fun x : Hit => x.fault = 0 → 0 ≤ x.frame ∧ x.frame < n) (fun _ h => absurd h (by decide : ¬ (5 : Int) = 0)) fun h3 h => ?_
  have := hk (by simpa using h1)
  exact ⟨this.1, by show F.e.f < n; omega⟩
theorem thru_le {n : Nat} {B : List Nat} {tab : Int} {ipa : Nat} {acc : Int} {tb : Bool} {r r' : Int} {H : Hit} (h : thruR n B tab ipa acc tb r = .ok H r') : r ≤ r' ∧ r' ≤ r + 2 ∧ 0 ≤ H.frame ∧ H.frame < n ∧ H = walkOf n B tab ipa acc := by
  unfold thruR at h
  split at h
  · rename_i h1
    have := walk_reads n B tab ipa acc
    have h2 := walk_frame h1
    cases h
    exact ⟨by omega, by omega, h2.1, h2.2, rfl⟩
  · cases h
theorem ent_le {n : Nat} {B : List Nat} {tab : Int} {va : Nat} {page : Int} {i : Nat} {r r' : Int} {e : Ent} (h : entR n B tab va page i r = .ok e r') : r ≤ r' ∧ r' ≤ r + 2 ∧ 0 ≤ e.f ∧ e.f < 65536 := by
  unfold entR at h
  split at h
  · cases hm : thruR n B tab (page.toNat * 256 + 4 * i) 0 true r with
    | bad st kd ad tb r1 => rw [hm] at h; cases h
    | ok H r1 =>
      rw [hm] at h
      have := thru_le hm
      have h2 := dec_f (leN B (adr H.frame (page.toNat * 256 + 4 * i)) 4)
      cases h
      exact ⟨by omega, by omega, h2.1, h2.2⟩
  · cases h

/-! ## the walker -/
def flt (st kd : Int) (ad : Nat) (tb : Bool) : Value := .iface 78 (.agg #[.int .i64 st, .int .i64 kd, .int .u32 ad, .bool tb])
def WS (h : Hp) (W q : Nat) (tab : Int) (va : Nat) (r : Int) : Prop := bk h W = some (blk 76 [.pointer (some ⟨q, 0, none⟩), .int .i64 tab, .int .u32 va, .int .i64 r])
def Good {α : Type} (h : Hp) (W q : Nat) (tab : Int) (va : Nat) (m : Rs α) (val : α → Value) (v : Value) (h' : Hp) : Prop := ∃ a r, m = .ok a r ∧ v = val a ∧ WS h' W q tab va r ∧ Fr [W] h h'
def Bad {α : Type} (h : Hp) (W q : Nat) (tab : Int) (va : Nat) (m : Rs α) (v : Value) (h' : Hp) : Prop := ∃ st kd ad tb r, m = .bad st kd ad tb r ∧ v = flt st kd ad tb ∧ WS h' W q tab va r ∧ Fr [W] h h'
theorem need_spec {h : Hp} {W q : Nat} {tab : Int} {va : Nat} {r : Int} (w : WS h W q tab va r) (ok : Bool) (kd : Int) :
    CallsX Try.prog 50 [.pointer (some ⟨W, 0, none⟩), .bool ok, .int .i64 kd] h (fun v h' => v = .tuple #[] ∧ ok = true ∧ h' = h) (fun v h' => v = flt 1 kd va false ∧ ok = false ∧ h' = h) := by
  apply nest_walker_need.calls
  unfold nest_walker_need.P
  refine ⟨fun hc => ⟨_, (cellAt_of w 2).trans rfl, rfl, by simpa using hc, rfl⟩, fun hc => ⟨rfl, by simpa using hc, rfl⟩⟩
theorem through_spec {h : Hp} {q fb n : Nat} {B : List Nat} (ms : MS h q fb n B) {W : Nat} {tab : Int} {va : Nat} {r : Int} (w : WS h W q tab va r) (hr : 0 ≤ r) (hr2 : r ≤ 100) {ipa : Nat} (hi : ipa < 4294967296) (acc : Int) (tb : Bool) :
    CallsX Try.prog 54 [.pointer (some ⟨W, 0, none⟩), .int .u32 ipa, .int .i64 acc, .bool tb] h (Good h W q tab va (thruR n B tab ipa acc tb r) fun H => .agg ⟨H.cells⟩) (Bad h W q tab va (thruR n B tab ipa acc tb r)) := by
  apply nest_walker_through.calls
  unfold nest_walker_through.P
  intro h1 e1
  have k1 : bk h1 (sz h) = some (blk 31 noHit.cells) := by rw [e1]; exact new_at _ _
  have s1 : sz h1 = sz h + 1 := by rw [e1]; exact sz_new _ _
  have f1 : Fr [] h h1 := by rw [e1]; exact Fr.new _ _ _
  clear e1
  have w1 : bk h1 W = _ := f1.at w (by simp)
  have lW : W < sz h := lt_of_bk w
  have ms1 := ms.fr f1 (by simp) (by simp)
  have hq := walk_reads n B tab ipa acc
  have hm : thruR n B tab ipa acc tb r = if (walkOf n B tab ipa acc).fault = 0 then .ok (walkOf n B tab ipa acc) (r + (walkOf n B tab ipa acc).reads) else .bad 2 (walkOf n B tab ipa acc).fault ipa tb (r + (walkOf n B tab ipa acc).reads) := rfl
  have hwalk : ∀ {h2 : Hp}, MS h2 q fb n B → CallsH Try.prog 11 [.pointer (some ⟨q, 0, none⟩), .int .i64 tab, .int .u32 ipa, .int .i64 acc] h2 fun v h' => v = .agg ⟨(walkOf n B tab ipa acc).cells⟩ ∧ Fr [] h2 h' := fun m => Walk_spec m tab hi acc
  generalize walkOf n B tab ipa acc = H at *
  refine ⟨fun hb ho h8 => ho = 0 ∧ bk h8 hb = some (blk 31 H.cells) ∧ sz h < hb ∧ Fr [] h1 h8, ⟨_, (cellAt_of w1 0).trans rfl, _, (cellAt_of w1 1).trans rfl, ?_, ?_⟩, ?_⟩
  · refine (hwalk ms1).mono ?_
    rintro v h2 ⟨rfl, f2⟩
    refine ⟨_, _, _, _, _, _, rfl, ?_⟩
    intro h3 e3
    have k3 : bk h3 (sz h2) = some (blk 31 noHit.cells) := by rw [e3]; exact new_at _ _
    have f3 : Fr [] h2 h3 := by rw [e3]; exact Fr.new _ _ _
    clear e3
    have w3 := (f2.trans f3).at w1 (by simp)
    have z2 := f2.size
    refine ⟨(cellAt_of w3 0).trans rfl, (cellAt_of w3 1).trans rfl, truly_rfl, _, _, k3, by decide, ?_⟩
    rintro h4 rfl
    exact ⟨rfl, upd_same k3 _ _, by omega, (f2.trans f3).later (Fr.upd (F := [sz h2]) (by simp) _ _ _) (by simp; omega)⟩
  · intro h5 e5
    have k5 : bk h5 (sz h1) = some (blk 31 noHit.cells) := by rw [e5]; exact new_at _ _
    have f5 : Fr [] h1 h5 := by rw [e5]; exact Fr.new _ _ _
    clear e5
    have w5 := f5.at w1 (by simp)
    refine ⟨(cellAt_of w5 0).trans rfl, (cellAt_of w5 1).trans rfl, ?_⟩
    refine (hwalk (ms1.fr f5 (by simp) (by simp))).mono ?_
    rintro v h6 ⟨rfl, f6⟩
    refine ⟨_, _, _, _, _, _, rfl, truly_rfl, _, _, f6.at k5 (by simp), by decide, ?_⟩
    rintro h7 rfl
    exact ⟨rfl, upd_same (f6.at k5 (by simp)) _ _, by omega, (f5.trans f6).later (Fr.upd (F := [sz h1]) (by simp) _ _ _) (by simp)⟩
  · rintro hb ho h8 ⟨rfl, k8, lb, f8⟩
    have w8 := f8.at w1 (by simp)
    refine ⟨_, (cellAt_of w8 3).trans rfl, _, (cellAt_of k8 1).trans rfl, truly_rfl, _, _, w8, by simp, ?_⟩
    intro h9 e9
    rw [wrapS (by omega) (by omega)] at e9
    have w9 : WS h9 W q tab va (r + H.reads) := by rw [e9]; exact upd_same w8 _ _
    have k9 : bk h9 hb = some (blk 31 H.cells) := by rw [e9, upd_other (by omega)]; exact k8
    have f9 : Fr [W] h8 h9 := by rw [e9]; exact Fr.upd (by simp) _ _ _
    clear e9
    have fr9 : Fr [W] h h9 := ((f1.trans f8).sub (by simp)).trans f9
    have r9 : bk h9 (sz h) = some (blk 31 noHit.cells) := f9.at (f8.at k1 (by simp)) (by simp; omega)
    refine ⟨_, (cellAt_of k9 0).trans rfl, fun hc => ⟨_, (cellAt_of k9 0).trans rfl, 2, H.fault, ipa, tb, r + H.reads, ?_, rfl, w9, fr9⟩, fun hc => ?_⟩
    · have hc : H.fault ≠ 0 := by simpa using hc
      rw [hm, if_neg hc]
    · have hc : H.fault = 0 := by simpa using hc
      refine Hit.rd (o := 0) H (fun j hj => by rw [Nat.zero_add]; exact cellAt_of k9 j) ?_
      refine Hit.ret r9 rfl _ _ _ _ _ _ ?_
      refine ⟨H, r + H.reads, by rw [hm, if_pos hc], rfl, ?_, fr9.later (Fr.upd (F := [sz h]) (by simp) _ _ _) (by simp)⟩
      unfold WS; rw [upd_other (by omega)]; exact w9
theorem addr_spec {h : Hp} {n : Nat} (H : Hit) (k : Nat) (g0 : 0 ≤ H.frame) (g1 : H.frame < n) (hn : n ≤ 1024) : CallsH Try.prog 56 [.agg ⟨H.cells⟩, .int .u32 k] h fun v h' => v = .int .u32 (adr H.frame k) ∧ Fr [] h h' := by
  refine calls_k fun R hR => ?_
  apply nest_addr.calls
  unfold nest_addr.P
  intro h1 e1
  have k1 : bk h1 (sz h) = some (blk 31 H.cells) := by rw [e1]; exact new_at _ _
  have f1 : Fr [] h h1 := by rw [e1]; exact Fr.new _ _ _
  refine ⟨_, (cellAt_of k1 2).trans rfl, by decide, hR _ _ ⟨?_, f1⟩⟩
  congr 1
  show IntKind.wrap .u32 (IntKind.wrap .u32 (IntKind.wrap .i64 (H.frame * 256)) + Int.tmod (k : Int) 256) = _
  clear k1 e1 hR
  unfold adr
  obtain ⟨m, hm⟩ : ∃ m : Nat, H.frame = m := ⟨H.frame.toNat, by omega⟩
  rw [hm] at g1 ⊢
  rw [wrapS (by omega) (by omega), wrap_u32 (n := (m : Int) * 256) (by omega) (by omega), tmod_nat (by omega), wrap_u32 (by omega) (by omega)]
  omega
end Go.Proofs.Ytopfdfcbhclolaa
