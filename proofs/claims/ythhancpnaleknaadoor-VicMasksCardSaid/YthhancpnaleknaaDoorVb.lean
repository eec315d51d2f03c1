import Derived.Test.YthhancpnaleknaaDoorVa
namespace Go.Proofs.YthhancpnaleknaaDoor
open Go Go.Wd
set_option linter.unusedVariables false
set_option linter.unusedSimpArgs false

def iN (x : Int) : List Value := [.int .i64 x]
theorem iN_len (x : Int) : (iN x).length = 1 := rfl
theorem decM {n k : Nat} (h : k < n) : n - ((k + 1 : Nat) : Int).toNat < n - (k : Int).toNat := by omega
theorem wrapN {j n : Nat} (h : j < n) (hn : n ≤ 1000000) : IntKind.wrap .i64 ((j : Int) + 1) = ((j + 1 : Nat) : Int) := by rw [wrap_i64 (by omega) (by omega)]; omega

/-! ## lines -/
def Ln.sEn (x : Ln) (b : Bool) : Ln := ⟨b, x.pe, x.ac, x.pr⟩
def Ln.sPe (x : Ln) (b : Bool) : Ln := ⟨x.en, b, x.ac, x.pr⟩
def Ln.sAc (x : Ln) (b : Bool) : Ln := ⟨x.en, x.pe, b, x.pr⟩
def Ln.sPr (x : Ln) (p : Int) : Ln := ⟨x.en, x.pe, x.ac, p⟩
def upL (L : List Ln) (n : Nat) (g : Ln → Ln) : List Ln := match L[n]? with | some x => L.set n (g x) | none => L
theorem upL_len (L : List Ln) (n : Nat) (g : Ln → Ln) : (upL L n g).length = L.length := by unfold upL; split <;> simp
theorem upL_at (L : List Ln) (n : Nat) (g : Ln → Ln) (j : Nat) : (upL L n g)[j]? = if n = j then L[j]?.map g else L[j]? := by
  unfold upL
  split
  · rename_i x hx
    have hn := (List.getElem?_eq_some_iff.1 hx).1
    rw [List.getElem?_set]
    by_cases e : n = j
    · subst e; rw [if_pos rfl, if_pos rfl, if_pos hn, hx]; rfl
    · rw [if_neg e, if_neg e]
  · rename_i hx
    by_cases e : n = j
    · subst e; rw [if_pos rfl, hx]; rfl
    · rw [if_neg e]
theorem upL_set {L : List Ln} {n : Nat} {x : Ln} (hx : L[n]? = some x) (g : Ln → Ln) : upL L n g = L.set n (g x) := by unfold upL; rw [hx]
theorem upL_id {L : List Ln} {n : Nat} {g : Ln → Ln} (h : ∀ x, L[n]? = some x → g x = x) : upL L n g = L := by
  apply List.ext_getElem?
  intro j
  rw [upL_at]
  by_cases e : n = j
  · subst e
    rw [if_pos rfl]
    cases hx : L[n]? with
    | none => rfl
    | some x => rw [Option.map_some, h x hx]
  · rw [if_neg e]
theorem upL_mem {L : List Ln} {n : Nat} {g : Ln → Ln} {y : Ln} (h : y ∈ upL L n g) : y ∈ L ∨ ∃ x, L[n]? = some x ∧ y = g x := by
  unfold upL at h
  split at h
  · rename_i x hx
    rcases List.mem_or_eq_of_mem_set h with h | h
    · exact .inl h
    · exact .inr ⟨x, hx, h⟩
  · exact .inl h
def Pr (L : List Ln) : Prop := L.length = 16 ∧ ∀ x ∈ L, 0 ≤ x.pr ∧ x.pr ≤ 15
theorem Pr.get {L : List Ln} (w : Pr L) {n : Nat} (hn : n < 16) : ∃ x, L[n]? = some x := ⟨_, List.getElem?_eq_getElem (by rw [w.1]; exact hn)⟩
theorem Pr.at {L : List Ln} (w : Pr L) {n : Nat} {x : Ln} (hx : L[n]? = some x) : 0 ≤ x.pr ∧ x.pr ≤ 15 := w.2 x (List.mem_of_getElem? hx)
theorem Pr.lt {L : List Ln} (w : Pr L) {n : Nat} {x : Ln} (hx : L[n]? = some x) : n < 16 := by have := (List.getElem?_eq_some_iff.1 hx).1; rw [w.1] at this; exact this
theorem Pr.up {L : List Ln} (w : Pr L) (n : Nat) {g : Ln → Ln} (hg : ∀ x, 0 ≤ x.pr ∧ x.pr ≤ 15 → 0 ≤ (g x).pr ∧ (g x).pr ≤ 15) : Pr (upL L n g) := by
  refine ⟨by rw [upL_len]; exact w.1, fun y hy => ?_⟩
  rcases upL_mem hy with h | ⟨x, hx, rfl⟩
  · exact w.2 y h
  · exact hg x (w.at hx)

/-! ## the controller in memory -/
def Bits (L : List Ln) (f : Ln → Bool) (n : Nat) : Prop := n < 2 ^ 16 ∧ ∀ i x, L[i]? = some x → n.testBit i = f x
def vicC (e p a : Nat) (L : List Ln) (m : Int) : List Value := .int .u16 e :: .int .u16 p :: .int .u16 a :: ((L.map fun x => Value.int .i64 x.pr) ++ [.int .i64 m])
structure VS (h : Hp) (q : Nat) (L : List Ln) (m : Int) : Prop where
  ex : ∃ e p a : Nat, bk h q = some (blk 58 (vicC e p a L m)) ∧ Bits L Ln.en e ∧ Bits L Ln.pe p ∧ Bits L Ln.ac a
  pr : Pr L
  m0 : 0 ≤ m ∧ m ≤ 16
  tab : Tab h
  ne : 0 ≠ q
section
variable {h h' : Hp} {q : Nat} {L : List Ln} {m : Int}
theorem VS.fr (w : VS h q L m) {F : List Nat} (k : Fr F h h') (h1 : q ∉ F) (h0 : 0 ∉ F) : VS h' q L m := by
  obtain ⟨e, p, a, hb, he, hp, ha⟩ := w.ex
  exact ⟨⟨e, p, a, k.at hb h1, he, hp, ha⟩, w.pr, w.m0, w.tab.fr k h0, w.ne⟩
theorem VS.lt (w : VS h q L m) : q < sz h := by obtain ⟨e, p, a, hb, _⟩ := w.ex; exact lt_of_bk hb
theorem vicC_len (e p a : Nat) (w : Pr L) (m : Int) : (vicC e p a L m).length = 20 := by simp [vicC, w.1]
theorem vicC_pr {e p a : Nat} {n : Nat} {x : Ln} (hx : L[n]? = some x) : (vicC e p a L m)[3 + n]? = some (.int .i64 x.pr) := by
  have hn := (List.getElem?_eq_some_iff.1 hx).1
  unfold vicC
  rw [show 3 + n = n + 1 + 1 + 1 by omega, List.getElem?_cons_succ, List.getElem?_cons_succ, List.getElem?_cons_succ, List.getElem?_append_left (by simpa using hn), List.getElem?_map, hx]; rfl
theorem vicC_m {e p a : Nat} (w : Pr L) : (vicC e p a L m)[19]? = some (.int .i64 m) := by
  unfold vicC
  rw [show 19 = 16 + 1 + 1 + 1 by omega, List.getElem?_cons_succ, List.getElem?_cons_succ, List.getElem?_cons_succ, List.getElem?_append_right (by simp [w.1])]
  simp [w.1]
theorem Bits.up {f : Ln → Bool} {n k : Nat} {g : Ln → Ln} {y : Nat} (hl : Pr L) (b : Bits L f k) (hy : y < 2 ^ 16) {on : Bool} (hg : ∀ x, f (g x) = on) (hyb : ∀ i, i < 16 → y.testBit i = if n = i then on else k.testBit i) : Bits (upL L n g) f y := by
  refine ⟨hy, fun i x hx => ?_⟩
  rw [upL_at] at hx
  by_cases e : n = i
  · rw [if_pos e] at hx
    obtain ⟨x', hx', rfl⟩ := Option.map_eq_some_iff.1 hx
    rw [hyb i (hl.lt hx'), if_pos e, hg]
  · rw [if_neg e] at hx
    rw [hyb i (hl.lt hx), if_neg e, b.2 i x hx]
theorem Bits.keep {f : Ln → Bool} {n k : Nat} {g : Ln → Ln} (b : Bits L f k) (hg : ∀ x, f (g x) = f x) : Bits (upL L n g) f k := by
  refine ⟨b.1, fun i x hx => ?_⟩
  rw [upL_at] at hx
  by_cases e : n = i
  · rw [if_pos e] at hx
    obtain ⟨x', hx', rfl⟩ := Option.map_eq_some_iff.1 hx
    rw [hg]; exact b.2 i x' hx'
  · rw [if_neg e] at hx
    exact b.2 i x hx
theorem prs_up (n : Nat) (g : Ln → Ln) (hg : ∀ x, (g x).pr = x.pr) : (upL L n g).map (fun x => Value.int .i64 x.pr) = L.map fun x => Value.int .i64 x.pr := by
  apply List.ext_getElem?
  intro j
  rw [List.getElem?_map, List.getElem?_map, upL_at]
  by_cases e : n = j
  · rw [if_pos e]
    cases L[j]? with
    | none => rfl
    | some x => simp [hg]
  · rw [if_neg e]
/-- A bit that is put: of what is enabled (0), pending (1), active (2). -/
theorem putE (w : VS h q L m) {n : Nat} (hn : n < 16) (on : Bool) : CallsH Tryd.prog 25 [.pointer (some ⟨q, 0, none⟩), .int .i64 n, .bool on] h fun v h' => v = .tuple #[] ∧ VS h' q (upL L n (Ln.sEn · on)) m ∧ Fr [q] h h' := by
  obtain ⟨e, p, a, hb, he, hp, ha⟩ := w.ex
  refine (put_spec (o := 0) hb rfl he.1 hn on).mono ?_
  rintro v h' ⟨y, rfl, hb', hy, hyb, f⟩
  refine ⟨rfl, ⟨⟨y, p, a, ?_, he.up w.pr hy (fun _ => rfl) hyb, hp.keep (fun _ => rfl), ha.keep (fun _ => rfl)⟩, w.pr.up n (fun x hx => hx), w.m0, w.tab.fr f (by simpa using w.ne), w.ne⟩, f⟩
  rw [hb']
  unfold vicC
  rw [prs_up n (Ln.sEn · on) (fun _ => rfl)]; rfl
theorem putP (w : VS h q L m) {n : Nat} (hn : n < 16) (on : Bool) : CallsH Tryd.prog 25 [.pointer (some ⟨q, 1, none⟩), .int .i64 n, .bool on] h fun v h' => v = .tuple #[] ∧ VS h' q (upL L n (Ln.sPe · on)) m ∧ Fr [q] h h' := by
  obtain ⟨e, p, a, hb, he, hp, ha⟩ := w.ex
  refine (put_spec (o := 1) hb rfl hp.1 hn on).mono ?_
  rintro v h' ⟨y, rfl, hb', hy, hyb, f⟩
  refine ⟨rfl, ⟨⟨e, y, a, ?_, he.keep (fun _ => rfl), hp.up w.pr hy (fun _ => rfl) hyb, ha.keep (fun _ => rfl)⟩, w.pr.up n (fun x hx => hx), w.m0, w.tab.fr f (by simpa using w.ne), w.ne⟩, f⟩
  rw [hb']
  unfold vicC
  rw [prs_up n (Ln.sPe · on) (fun _ => rfl)]; rfl
theorem putA (w : VS h q L m) {n : Nat} (hn : n < 16) (on : Bool) : CallsH Tryd.prog 25 [.pointer (some ⟨q, 2, none⟩), .int .i64 n, .bool on] h fun v h' => v = .tuple #[] ∧ VS h' q (upL L n (Ln.sAc · on)) m ∧ Fr [q] h h' := by
  obtain ⟨e, p, a, hb, he, hp, ha⟩ := w.ex
  refine (put_spec (o := 2) hb rfl ha.1 hn on).mono ?_
  rintro v h' ⟨y, rfl, hb', hy, hyb, f⟩
  refine ⟨rfl, ⟨⟨e, p, y, ?_, he.keep (fun _ => rfl), hp.keep (fun _ => rfl), ha.up w.pr hy (fun _ => rfl) hyb⟩, w.pr.up n (fun x hx => hx), w.m0, w.tab.fr f (by simpa using w.ne), w.ne⟩, f⟩
  rw [hb']
  unfold vicC
  rw [prs_up n (Ln.sAc · on) (fun _ => rfl)]; rfl
end

/-! ## what is asked and done of a line -/
def atL (L : List Ln) (n : Int) : Ln := if thereB n then (L[n.toNat]?).getD ⟨false, false, false, 0⟩ else ⟨false, false, false, 0⟩
theorem atL_nat {L : List Ln} {n : Nat} {x : Ln} (hn : n < 16) (hx : L[n]? = some x) : atL L n = x := by
  have : thereB (n : Int) = true := by simp [thereB]; omega
  unfold atL
  rw [if_pos this, Int.toNat_natCast, hx]; rfl
theorem atL_no {L : List Ln} {n : Int} (h : thereB n = false) : atL L n = ⟨false, false, false, 0⟩ := by unfold atL; rw [if_neg (by simp [h])]
section
variable {h h' : Hp} {q : Nat} {L : List Ln} {m : Int}
theorem Raise_spec (w : VS h q L m) (n : Int) : CallsH Tryd.prog 12 [.pointer (some ⟨q, 0, none⟩), .int .i64 n] h fun v h' => v = .bool (thereB n && !(atL L n).pe) ∧ VS h' q (if thereB n then upL L n.toNat (Ln.sPe · true) else L) m ∧ Fr [q] h h' := by
  refine calls_k fun R hR => ?_
  apply vic_Vic_Raise.calls
  unfold vic_Vic_Raise.P
  refine (there_spec n).mono ?_
  rintro v h1 ⟨rfl, rfl⟩
  refine ⟨_, rfl, fun c => ?_, fun c => ?_⟩
  · have c : thereB n = false := by simpa using c
    exact hR _ _ ⟨by rw [c]; rfl, by rw [c]; exact w, Fr.refl _ _⟩
  have c : thereB n = true := by simpa using c
  obtain ⟨k, rfl, hk⟩ := there_nat c
  rw [c, Int.toNat_natCast, if_pos rfl] at hR
  obtain ⟨x, hx⟩ := w.pr.get hk
  rw [atL_nat hk hx] at hR
  obtain ⟨e, p, a, hb, he, hp, ha⟩ := w.ex
  refine ⟨p, (cellAt_of hb 1).trans rfl, ?_⟩
  refine (has_spec hp.1 hk).mono ?_
  rintro v h2 ⟨rfl, rfl⟩
  rw [hp.2 k x hx]
  refine ⟨_, rfl, fun c2 => ?_, fun c2 => ?_⟩
  · exact hR _ _ ⟨by rw [c2]; rfl, by rw [upL_id (fun y hy => by rw [hx] at hy; cases hy; cases x; simp only at c2; subst c2; rfl)]; exact w, Fr.refl _ _⟩
  · refine (putP w hk true).mono ?_
    rintro v h3 ⟨rfl, w3, f3⟩
    exact ⟨rfl, hR _ _ ⟨by rw [c2]; rfl, w3, f3⟩⟩
theorem Drop_spec (w : VS h q L m) (n : Int) : CallsH Tryd.prog 28 [.pointer (some ⟨q, 0, none⟩), .int .i64 n] h fun v h' => v = .bool (thereB n && (atL L n).pe) ∧ VS h' q (if thereB n then upL L n.toNat (Ln.sPe · false) else L) m ∧ Fr [q] h h' := by
  refine calls_k fun R hR => ?_
  apply vic_Vic_Drop.calls
  unfold vic_Vic_Drop.P
  refine (there_spec n).mono ?_
  rintro v h1 ⟨rfl, rfl⟩
  refine ⟨_, rfl, fun c => ?_, fun c => ?_⟩
  · have c : thereB n = false := by simpa using c
    exact hR _ _ ⟨by rw [c]; rfl, by rw [c]; exact w, Fr.refl _ _⟩
  have c : thereB n = true := by simpa using c
  obtain ⟨k, rfl, hk⟩ := there_nat c
  rw [c, Int.toNat_natCast, if_pos rfl] at hR
  obtain ⟨x, hx⟩ := w.pr.get hk
  rw [atL_nat hk hx] at hR
  obtain ⟨e, p, a, hb, he, hp, ha⟩ := w.ex
  refine ⟨p, (cellAt_of hb 1).trans rfl, ?_⟩
  refine (has_spec hp.1 hk).mono ?_
  rintro v h2 ⟨rfl, rfl⟩
  rw [hp.2 k x hx]
  refine ⟨_, rfl, fun c2 => ?_, fun c2 => ?_⟩
  · have c2 : x.pe = false := by simpa using c2
    exact hR _ _ ⟨by rw [c2]; rfl, by rw [upL_id (fun y hy => by rw [hx] at hy; cases hy; cases x; simp only at c2; subst c2; rfl)]; exact w, Fr.refl _ _⟩
  · have c2 : x.pe = true := by simpa using c2
    refine (putP w hk false).mono ?_
    rintro v h3 ⟨rfl, w3, f3⟩
    exact ⟨rfl, hR _ _ ⟨by rw [c2]; rfl, w3, f3⟩⟩
theorem Enable_spec (w : VS h q L m) (n : Int) (on : Bool) : CallsH Tryd.prog 9 [.pointer (some ⟨q, 0, none⟩), .int .i64 n, .bool on] h fun v h' => v = .int .i64 (if thereB n then 0 else 11) ∧ VS h' q (if thereB n then upL L n.toNat (Ln.sEn · on) else L) m ∧ Fr [q] h h' := by
  refine calls_k fun R hR => ?_
  apply vic_Vic_Enable.calls
  unfold vic_Vic_Enable.P
  refine (there_spec n).mono ?_
  rintro v h1 ⟨rfl, rfl⟩
  refine ⟨_, rfl, fun c => ?_, fun c => ?_⟩
  · have c : thereB n = false := by simpa using c
    exact hR _ _ ⟨by rw [c]; rfl, by rw [c]; exact w, Fr.refl _ _⟩
  have c : thereB n = true := by simpa using c
  obtain ⟨k, rfl, hk⟩ := there_nat c
  rw [c, Int.toNat_natCast, if_pos rfl, if_pos rfl] at hR
  refine (putE w hk on).mono ?_
  rintro v h3 ⟨rfl, w3, f3⟩
  exact ⟨rfl, hR _ _ ⟨rfl, w3, f3⟩⟩
theorem End_spec (w : VS h q L m) (n : Int) : CallsH Tryd.prog 14 [.pointer (some ⟨q, 0, none⟩), .int .i64 n] h fun v h' => v = .int .i64 (if thereB n then if (atL L n).ac then 0 else 20 else 11) ∧ VS h' q (if thereB n then upL L n.toNat (Ln.sAc · false) else L) m ∧ Fr [q] h h' := by
  refine calls_k fun R hR => ?_
  apply vic_Vic_End.calls
  unfold vic_Vic_End.P
  refine (there_spec n).mono ?_
  rintro v h1 ⟨rfl, rfl⟩
  refine ⟨_, rfl, fun c => ?_, fun c => ?_⟩
  · have c : thereB n = false := by simpa using c
    exact hR _ _ ⟨by rw [c]; rfl, by rw [c]; exact w, Fr.refl _ _⟩
  have c : thereB n = true := by simpa using c
  obtain ⟨k, rfl, hk⟩ := there_nat c
  rw [c, Int.toNat_natCast, if_pos rfl, if_pos rfl] at hR
  obtain ⟨x, hx⟩ := w.pr.get hk
  rw [atL_nat hk hx] at hR
  obtain ⟨e, p, a, hb, he, hp, ha⟩ := w.ex
  refine ⟨a, (cellAt_of hb 2).trans rfl, ?_⟩
  refine (has_spec ha.1 hk).mono ?_
  rintro v h2 ⟨rfl, rfl⟩
  rw [ha.2 k x hx]
  refine ⟨_, rfl, fun c2 => ?_, fun c2 => ?_⟩
  · have c2 : x.ac = false := by simpa using c2
    exact hR _ _ ⟨by rw [c2]; rfl, by rw [upL_id (fun y hy => by rw [hx] at hy; cases hy; cases x; simp only at c2; subst c2; rfl)]; exact w, Fr.refl _ _⟩
  · have c2 : x.ac = true := by simpa using c2
    refine (putA w hk false).mono ?_
    rintro v h3 ⟨rfl, w3, f3⟩
    exact ⟨rfl, hR _ _ ⟨by rw [c2]; rfl, w3, f3⟩⟩
theorem vicC_setP {e p a n : Nat} {x : Ln} (hx : L[n]? = some x) (y : Int) : (vicC e p a L m).set (3 + n) (.int .i64 y) = vicC e p a (upL L n (Ln.sPr · y)) m := by
  have hn := (List.getElem?_eq_some_iff.1 hx).1
  unfold vicC
  rw [upL_set hx, show 3 + n = n + 1 + 1 + 1 by omega, List.set_cons_succ, List.set_cons_succ, List.set_cons_succ, List.set_append_left _ _ (by simpa using hn), List.map_set]; rfl
theorem Prio_spec (w : VS h q L m) (n p : Int) : CallsH Tryd.prog 10 [.pointer (some ⟨q, 0, none⟩), .int .i64 n, .int .i64 p] h fun v h' => v = .int .i64 (if thereB n && decide (0 ≤ p) && decide (p ≤ 15) then 0 else 11) ∧ VS h' q (if thereB n && decide (0 ≤ p) && decide (p ≤ 15) then upL L n.toNat (Ln.sPr · p) else L) m ∧ Fr [q] h h' := by
  refine calls_k fun R hR => ?_
  apply vic_Vic_Prioritize.calls
  unfold vic_Vic_Prioritize.P
  have no : (thereB n && decide (0 ≤ p) && decide (p ≤ 15)) = false → R (.int .i64 11) h := fun c => hR _ _ ⟨by rw [c]; rfl, by rw [c]; exact w, Fr.refl _ _⟩
  refine ⟨fun h1 => h1 = h ∧ thereB n = true ∧ 0 ≤ p ∧ p ≤ 15, ?_, ?_⟩
  · refine (there_spec n).mono ?_
    rintro v h1 ⟨rfl, rfl⟩
    refine ⟨_, rfl, fun c => no ?_, fun c => ⟨fun c2 => no ?_, fun c2 => ⟨fun c3 => no ?_, fun c3 => ?_⟩⟩⟩
    · have c : thereB n = false := by simpa using c
      rw [c]; rfl
    · simp only [decide_eq_true_eq] at c2
      rw [decide_eq_false (show ¬ 0 ≤ p by omega), Bool.and_false, Bool.false_and]
    · simp only [decide_eq_true_eq] at c3
      rw [decide_eq_false (show ¬ p ≤ 15 by omega), Bool.and_false]
    · simp only [decide_eq_false_iff_not] at c2 c3
      exact ⟨rfl, by simpa using c, by omega, by omega⟩
  rintro h2 ⟨rfl, c, p0, p1⟩
  rw [c, decide_eq_true p0, decide_eq_true p1] at hR
  obtain ⟨k, rfl, hk⟩ := there_nat c
  obtain ⟨x, hx⟩ := w.pr.get hk
  obtain ⟨e, pp, a, hb, he, hp, ha⟩ := w.ex
  refine ⟨by omega, by omega, truly_rfl, _, _, hb, ?_, ?_⟩
  · rw [vicC_len _ _ _ w.pr]; simp; omega
  rintro h3 rfl
  rw [Int.toNat_natCast, Nat.mul_one, Nat.zero_add, writeAt_one, vicC_setP hx]
  refine hR _ _ ⟨rfl, ⟨⟨e, pp, a, upd_same hb _ _, he.keep (fun _ => rfl), hp.keep (fun _ => rfl), ha.keep (fun _ => rfl)⟩, w.pr.up k (fun _ _ => ⟨p0, p1⟩), w.m0, w.tab.fr (Fr.upd (F := [q]) (by simp) _ _ _) (by simpa using w.ne), w.ne⟩, Fr.upd (by simp) _ _ _⟩
theorem vicC_setM {e p a : Nat} (w : Pr L) (y : Int) : (vicC e p a L m).set 19 (.int .i64 y) = vicC e p a L y := by
  unfold vicC
  rw [show 19 = 16 + 1 + 1 + 1 by omega, List.set_cons_succ, List.set_cons_succ, List.set_cons_succ, List.set_append_right _ _ (by simp [w.1])]
  simp [w.1]
theorem Mask_spec (w : VS h q L m) (p : Int) : CallsH Tryd.prog 23 [.pointer (some ⟨q, 0, none⟩), .int .i64 p] h fun v h' => v = .int .i64 (if 0 ≤ p ∧ p ≤ 16 then 0 else 11) ∧ VS h' q L (if 0 ≤ p ∧ p ≤ 16 then p else m) ∧ Fr [q] h h' := by
  refine calls_k fun R hR => ?_
  apply vic_Vic_Mask.calls
  unfold vic_Vic_Mask.P
  have no : ¬ (0 ≤ p ∧ p ≤ 16) → R (.int .i64 11) h := fun c => hR _ _ ⟨by rw [if_neg c], by rw [if_neg c]; exact w, Fr.refl _ _⟩
  refine ⟨fun c => no ?_, fun c => ⟨fun c2 => no ?_, fun c2 => ?_⟩⟩
  · simp only [decide_eq_true_eq] at c; omega
  · simp only [decide_eq_true_eq] at c2; omega
  simp only [decide_eq_false_iff_not] at c c2
  have hc : 0 ≤ p ∧ p ≤ 16 := by omega
  rw [if_pos hc, if_pos hc] at hR
  obtain ⟨e, pp, a, hb, he, hp, ha⟩ := w.ex
  refine ⟨truly_rfl, _, _, hb, ?_, ?_⟩
  · rw [vicC_len _ _ _ w.pr]; decide
  rintro h3 rfl
  rw [Nat.zero_add, writeAt_one, vicC_setM w.pr]
  exact hR _ _ ⟨rfl, ⟨⟨e, pp, a, upd_same hb _ _, he, hp, ha⟩, w.pr, hc, w.tab.fr (Fr.upd (F := [q]) (by simp) _ _ _) (by simpa using w.ne), w.ne⟩, Fr.upd (by simp) _ _ _⟩
theorem Masked_spec (w : VS h q L m) : CallsH Tryd.prog 22 [.pointer (some ⟨q, 0, none⟩)] h fun v h' => v = .int .i64 m ∧ h' = h := by
  apply vic_Vic_Masked.calls
  unfold vic_Vic_Masked.P
  obtain ⟨e, pp, a, hb, he, hp, ha⟩ := w.ex
  exact ⟨m, (cellAt_of hb _).trans (by rw [Nat.zero_add]; exact vicC_m w.pr), rfl, rfl⟩
theorem Get_spec (w : VS h q L m) (n : Int) : CallsH Tryd.prog 11 [.pointer (some ⟨q, 0, none⟩), .int .i64 n] h fun v h' => v = .agg ⟨(atL L n).cells⟩ ∧ Fr [] h h' := by
  refine calls_k fun R hR => ?_
  apply vic_Vic_Get.calls
  unfold vic_Vic_Get.P
  intro h1 e1
  have k1 : bk h1 (sz h) = some (blk 30 [.bool false, .bool false, .bool false, .int .i64 0]) := by rw [e1]; exact new_at _ _
  have f1 : Fr [] h h1 := by rw [e1]; exact Fr.new _ _ _
  clear e1
  have w1 := w.fr f1 (by simp) (by simp)
  refine (there_spec n).mono ?_
  rintro v h2 ⟨rfl, rfl⟩
  refine ⟨_, rfl, fun c => ?_, fun c => ?_⟩
  · have c : thereB n = false := by simpa using c
    rw [atL_no c] at hR
    refine Ln.ret k1 rfl _ _ _ _ ?_
    exact hR _ _ ⟨rfl, f1.fresh (Fr.upd (F := [sz h]) (by simp) _ _ _) (fun x hx => .inr (by simp at hx; omega))⟩
  have c : thereB n = true := by simpa using c
  obtain ⟨k, rfl, hk⟩ := there_nat c
  obtain ⟨x, hx⟩ := w.pr.get hk
  rw [atL_nat hk hx] at hR
  obtain ⟨e, p, a, hb, he, hp, ha⟩ := w1.ex
  have cp : cellAt h2 q (0 + 3 + (k : Int).toNat * 1) = some (.int .i64 x.pr) := by
    rw [Int.toNat_natCast, Nat.mul_one, Nat.zero_add, cellAt_of hb]; exact vicC_pr hx
  refine ⟨e, (cellAt_of hb 0).trans rfl, p, (cellAt_of hb 1).trans rfl, a, (cellAt_of hb 2).trans rfl, by omega, by omega, x.pr, cp, ?_⟩
  refine (has_spec he.1 hk).mono ?_
  rintro v h3 ⟨rfl, rfl⟩
  refine ⟨_, rfl, (cellAt_of hb 1).trans rfl, (cellAt_of hb 2).trans rfl, cp, ?_⟩
  refine (has_spec hp.1 hk).mono ?_
  rintro v h3 ⟨rfl, rfl⟩
  refine ⟨_, rfl, (cellAt_of hb 2).trans rfl, cp, ?_⟩
  refine (has_spec ha.1 hk).mono ?_
  rintro v h3 ⟨rfl, rfl⟩
  rw [he.2 k x hx, hp.2 k x hx, ha.2 k x hx]
  refine ⟨_, rfl, cp, ?_⟩
  refine Ln.ret k1 rfl x.en x.pe x.ac x.pr ?_
  exact hR _ _ ⟨rfl, f1.fresh (Fr.upd (F := [sz h]) (by simp) _ _ _) (fun x hx => .inr (by simp at hx; omega))⟩
end
end Go.Proofs.YthhancpnaleknaaDoor
