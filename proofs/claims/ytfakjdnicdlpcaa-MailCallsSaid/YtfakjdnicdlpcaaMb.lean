import Derived.Test.YtfakjdnicdlpcaaMa
namespace Go.Proofs.Ytfakjdnicdlpcaa
open Go Go.Wd
set_option linter.unusedVariables false
set_option linter.unusedSimpArgs false
set_option linter.unnecessarySimpa false

def setB (B : List (Option (List Lt))) (n : Int) (x : Option (List Lt)) : List (Option (List Lt)) := B.set (n - 2).toNat x
theorem setB_k (B : List (Option (List Lt))) (k : Nat) (x : Option (List Lt)) : setB B ((k : Int) + 2) x = B.set k x := by unfold setB; rw [show ((k : Int) + 2 - 2).toNat = k by omega]
def opE (B : List (Option (List Lt))) (n : Int) : Int := if isG n then (match bxB B n with | none => 0 | some _ => 13) else 11
def opB (B : List (Option (List Lt))) (n : Int) : List (Option (List Lt)) := if isG n then (match bxB B n with | none => setB B n (some []) | some _ => B) else B
def shN (B : List (Option (List Lt))) (n : Int) : Int := match bxB B n with | none => -1 | some L => (L.length : Nat)
def shB (B : List (Option (List Lt))) (n : Int) : List (Option (List Lt)) := match bxB B n with | none => B | some _ => setB B n none
def sdE (B : List (Option (List Lt))) (f t : Int) : Int := if isG f ∧ isG t ∧ f ≠ t then (match bxB B t with | none => 12 | some L => if L.length < 8 then 0 else 15) else 11
def sdB (B : List (Option (List Lt))) (f t v : Int) : List (Option (List Lt)) := if isG f ∧ isG t ∧ f ≠ t then (match bxB B t with | none => B | some L => if L.length < 8 then setB B t (some (L ++ [⟨f, v⟩])) else B) else B
def rcE (B : List (Option (List Lt))) (n : Int) : Int := if isG n then (match bxB B n with | none => 12 | some [] => 23 | some (_ :: _) => 0) else 11
def rcX (B : List (Option (List Lt))) (n : Int) : Lt := match bxB B n with | some (x :: _) => x | _ => ⟨0, 0⟩
def rcB (B : List (Option (List Lt))) (n : Int) : List (Option (List Lt)) := match bxB B n with | some (_ :: L) => setB B n (some L) | _ => B
section
variable {h0 h h' : Hp} {q : Nat} {A : List (Option Nat)} {B : List (Option (List Lt))}
theorem MA.nr (w : MA h0 h q A B) {r cap : Nat} {buf : Array Value} {cl tm : Bool} {s rc : Nat} (hb : bk h r = some (.chan cap buf cl s rc tm)) : q ≠ r := fun e => by
  subst e; rw [w.hq] at hb; cases hb
theorem FrM.chan {r cap : Nat} {buf : Array Value} {cl tm : Bool} {s rc : Nat} (hb : bk h r = some (.chan cap buf cl s rc tm)) (o : Obj) : FrM h (updO h r o) := ⟨by rw [sz_updO]; exact Nat.le_refl _, fun b T l hl hT => by
  rw [updO_other (fun e => ?_)]
  · exact hl
  · subst e; rw [hb] at hl; cases hl⟩
theorem MA.put (w : MA h0 h q A B) {k r : Nat} (hk : A[k]? = some (some r)) {L' : List Lt} (hL : L'.length ≤ 8) (s' rc' : Nat) : MA h0 (updO h r (.chan 8 ⟨L'.map Lt.val⟩ false s' rc' false)) q A (B.set k (some L')) := by
  obtain ⟨L, s, rc, h1, h2, h3, h4⟩ := w.has k r hk
  have hkB := (List.getElem?_eq_some_iff.1 h1).1
  refine ⟨by rw [updO_other (w.nr h2)]; exact w.hq, w.la, by rw [List.length_set]; exact w.lb, fun i hi => ?_, fun i r' hr => ?_, w.one, w.g, w.f.later (Fr.updO (F := [r]) (by simp) _ _) (by simpa using h4)⟩
  · rw [List.getElem?_set]
    by_cases c : k = i
    · subst c; rw [hk] at hi; cases hi
    · rw [if_neg c]; exact w.no i hi
  · rw [List.getElem?_set]
    by_cases c : k = i
    · subst c
      rw [hk] at hr
      obtain rfl : r = r' := by cases hr; rfl
      rw [if_pos rfl, if_pos hkB]
      exact ⟨L', s', rc', rfl, updO_same h2 _, hL, h4⟩
    · rw [if_neg c]
      obtain ⟨L2, s2, rc2, g1, g2, g3, g4⟩ := w.has i r' hr
      refine ⟨L2, s2, rc2, g1, ?_, g3, g4⟩
      rw [updO_other (fun e => ?_)]
      · exact g2
      · subst e; exact c (w.one k i r' hk hr)
theorem MA.open (w : MA h0 h q A B) {k : Nat} (hk : k < 8) : MA h0 (upd (new h (.chan 8 ⟨[]⟩ false 0 0 false)) q 59 (chs (A.set k (some (sz h))))) q (A.set k (some (sz h))) (B.set k (some [])) := by
  have lq := w.lq
  have hq1 : bk (new h (.chan 8 ⟨[]⟩ false 0 0 false)) q = some (blk 59 (chs A)) := new_of _ w.hq
  have hn : bk (new h (.chan 8 ⟨[]⟩ false 0 0 false)) (sz h) = some (.chan 8 ⟨[]⟩ false 0 0 false) := new_at _ _
  have hrs : ∀ i r : Nat, A[i]? = some (some r) → r < sz h := fun i r hr => by obtain ⟨_, _, _, _, h2, _⟩ := w.has i r hr; exact lt_of_bk h2
  refine ⟨upd_same hq1 _ _, by rw [List.length_set]; exact w.la, by rw [List.length_set]; exact w.lb, fun i hi => ?_, fun i r' hr => ?_, fun i j r hi hj => ?_, w.g, (w.f.trans (Fr.new [] _ _)).later (Fr.upd (F := [q]) (by simp) _ _ _) (by simpa using w.g)⟩
  · rw [List.getElem?_set] at hi ⊢
    by_cases c : k = i
    · rw [if_pos c] at hi
      split at hi <;> cases hi
    · rw [if_neg c] at hi ⊢; exact w.no i hi
  · rw [List.getElem?_set] at hr ⊢
    by_cases c : k = i
    · subst c
      rw [if_pos rfl, if_pos (by rw [w.la]; exact hk)] at hr
      rw [if_pos rfl, if_pos (by rw [w.lb]; exact hk)]
      obtain rfl : sz h = r' := by cases hr; rfl
      exact ⟨[], 0, 0, rfl, by rw [upd_other (by omega)]; exact hn, by simp, w.f.size⟩
    · rw [if_neg c] at hr ⊢
      obtain ⟨L2, s2, rc2, g1, g2, g3, g4⟩ := w.has i r' hr
      exact ⟨L2, s2, rc2, g1, by rw [upd_other (fun e => w.nr g2 e.symm)]; exact new_of _ g2, g3, g4⟩
  · rw [List.getElem?_set] at hi hj
    by_cases c : k = i
    · by_cases d : k = j
      · omega
      · rw [if_neg d] at hj
        rw [if_pos c] at hi
        have := hrs j r hj
        split at hi
        · cases hi; omega
        · cases hi
    · rw [if_neg c] at hi
      by_cases d : k = j
      · rw [if_pos d] at hj
        have := hrs i r hi
        split at hj
        · cases hj; omega
        · cases hj
      · rw [if_neg d] at hj; exact w.one i j r hi hj
theorem MA.shut (w : MA h0 h q A B) {k r : Nat} (hk : A[k]? = some (some r)) (fr : Fr [r] h h') : MA h0 (upd h' q 59 (chs (A.set k none))) q (A.set k none) (B.set k none) := by
  obtain ⟨L, s, rc, h1, h2, h3, h4⟩ := w.has k r hk
  have hkA := (List.getElem?_eq_some_iff.1 hk).1
  have hkB := (List.getElem?_eq_some_iff.1 h1).1
  have hq1 : bk h' q = some (blk 59 (chs A)) := fr.at w.hq (by simpa using w.nr h2)
  refine ⟨upd_same hq1 _ _, by rw [List.length_set]; exact w.la, by rw [List.length_set]; exact w.lb, fun i hi => ?_, fun i r' hr => ?_, fun i j r hi hj => ?_, w.g, (w.f.later fr (by simpa using h4)).later (Fr.upd (F := [q]) (by simp) _ _ _) (by simpa using w.g)⟩
  · rw [List.getElem?_set] at hi ⊢
    by_cases c : k = i
    · subst c; rw [if_pos rfl, if_pos hkB]
    · rw [if_neg c] at hi ⊢; exact w.no i hi
  · rw [List.getElem?_set] at hr ⊢
    by_cases c : k = i
    · rw [if_pos c] at hr
      split at hr <;> cases hr
    · rw [if_neg c] at hr ⊢
      obtain ⟨L2, s2, rc2, g1, g2, g3, g4⟩ := w.has i r' hr
      have hrr : r' ≠ r := fun e => by subst e; exact c (w.one k i r' hk hr)
      exact ⟨L2, s2, rc2, g1, by rw [upd_other (fun e => w.nr g2 e.symm)]; exact fr.at g2 (by simpa using hrr), g3, g4⟩
  · rw [List.getElem?_set] at hi hj
    by_cases c : k = i
    · rw [if_pos c] at hi
      split at hi <;> cases hi
    · by_cases d : k = j
      · rw [if_pos d] at hj
        split at hj <;> cases hj
      · rw [if_neg c] at hi
        rw [if_neg d] at hj
        exact w.one i j r hi hj
theorem Open_spec (w : MA h0 h q A B) (n : Int) : CallsH Try.prog 11 [.pointer (some ⟨q, 0, none⟩), .int .i64 n] h fun v h' => v = .int .i64 (opE B n) ∧ (∃ A', MA h0 h' q A' (opB B n)) ∧ FrM h h' := by
  refine calls_k fun R hR => ?_
  apply mail_Mail_Open.calls
  unfold mail_Mail_Open.P
  refine (guest_spec n).mono ?_
  rintro _ h1 ⟨rfl, hh⟩
  rw [hh]; clear hh h1
  unfold opE opB at hR
  refine ⟨_, rfl, fun c => ?_, fun c => ?_⟩
  · have c : ¬ isG n := by simpa using c
    rw [if_neg c, if_neg c] at hR
    exact hR _ _ ⟨rfl, ⟨A, w⟩, FrM.refl _⟩
  have c : isG n := by simpa using c
  rw [if_pos c, if_pos c] at hR
  refine (IsOpen_spec w n).mono ?_
  rintro _ h1 ⟨rfl, hh⟩
  rw [hh]; clear hh h1
  rcases ma_cases w n with ⟨e, _⟩ | ⟨k, hk, rfl, _, ⟨h1, h2, h3, h4⟩ | ⟨r, L, s, rc, h1, h2, h3, h4, _⟩⟩
  · exact absurd c e
  · rw [h4] at hR ⊢
    refine ⟨_, rfl, fun hn => (by cases hn), fun _ => ⟨by omega, by omega, by omega, ?_⟩⟩
    intro h5 e5
    have e5 : h5 = new h (.chan 8 ⟨[]⟩ false 0 0 false) := e5
    have hq1 : bk h5 q = some (blk 59 (chs A)) := by rw [e5]; exact new_of _ w.hq
    rw [wrap2 hk]
    refine ⟨by omega, by omega, truly_rfl, _, _, hq1, ?_, ?_⟩
    · rw [chs_len, w.la, Int.toNat_natCast]; omega
    rintro h6 e6
    rw [Int.toNat_natCast, Nat.mul_one, Nat.zero_add, writeAt_one, chs_set] at e6
    rw [setB_k] at hR
    refine hR _ _ ⟨rfl, ⟨_, by rw [e6, e5]; exact w.open hk⟩, ?_⟩
    rw [e6]
    refine FrM.trans (h' := h5) (by rw [e5]; exact FrM.of (Fr.new _ _ _)) (FrM.upd hq1 _)
  · rw [h4] at hR ⊢
    exact ⟨_, rfl, fun _ => hR _ _ ⟨rfl, ⟨A, w⟩, FrM.refl _⟩, fun hn => (by cases hn)⟩
theorem Send_spec (w : MA h0 h q A B) (f t v : Int) : CallsH Try.prog 13 [.pointer (some ⟨q, 0, none⟩), .int .i64 f, .int .i64 t, .int .u32 v] h fun x h' => x = .int .i64 (sdE B f t) ∧ (∃ A', MA h0 h' q A' (sdB B f t v)) ∧ FrM h h' := by
  refine calls_k fun R hR => ?_
  apply mail_Mail_Send.calls
  unfold mail_Mail_Send.P
  unfold sdE sdB at hR
  have bad : ¬ (isG f ∧ isG t ∧ f ≠ t) → R (.int .i64 11) h := fun c => by
    rw [if_neg c, if_neg c] at hR
    exact hR _ _ ⟨rfl, ⟨A, w⟩, FrM.refl _⟩
  refine (guest_spec f).mono ?_
  rintro _ h1 ⟨rfl, hh⟩
  rw [hh]; clear hh h1
  refine ⟨_, rfl, fun c => bad fun hh => ?_, fun c1 => ?_⟩
  · have c : ¬ isG f := by simpa using c
    exact c hh.1
  have c1 : isG f := by simpa using c1
  refine (guest_spec t).mono ?_
  rintro _ h1 ⟨rfl, hh⟩
  rw [hh]; clear hh h1
  refine ⟨_, rfl, fun c => bad fun hh => ?_, fun c2 => ⟨fun c => bad fun hh => ?_, fun c3 => ?_⟩⟩
  · have c : ¬ isG t := by simpa using c
    exact c hh.2.1
  · have c : f = t := by simpa using c
    exact hh.2.2 c
  have c2 : isG t := by simpa using c2
  have c3 : f ≠ t := by simpa using c3
  rw [if_pos ⟨c1, c2, c3⟩, if_pos ⟨c1, c2, c3⟩] at hR
  refine (IsOpen_spec w t).mono ?_
  rintro _ h1 ⟨rfl, hh⟩
  rw [hh]; clear hh h1
  rcases ma_cases w t with ⟨e, _⟩ | ⟨k, hk, rfl, _, ⟨h1, h2, h3, h4⟩ | ⟨r, L, s, rc, h1, h2, h3, h4, h5, h6, h7⟩⟩
  · exact absurd c2 e
  · rw [h4] at hR ⊢
    exact ⟨_, rfl, fun _ => hR _ _ ⟨rfl, ⟨A, w⟩, FrM.refl _⟩, fun hn => (by cases hn)⟩
  · rw [h4] at hR ⊢
    refine ⟨_, rfl, fun hn => (by cases hn), fun _ => ?_⟩
    refine (box_spec w _).mono ?_
    rintro _ h8 ⟨rfl, hh⟩
    rw [hh, h2]; clear hh h8
    refine ⟨_, rfl, r, 8, L.map Lt.val, s, rc, false, rfl, h5, fun hlt => ?_, fun hge => ?_⟩
    · have hlt : L.length < 8 := by simpa using hlt
      rintro h9 rfl
      simp only [if_pos hlt, setB_k] at hR
      refine ⟨fun _ => hR _ _ ⟨rfl, ⟨A, ?_⟩, FrM.chan h5 _⟩, fun hn => (by cases hn)⟩
      have := w.put h1 (L' := L ++ [⟨f, v⟩]) (by simp; omega) (s + 1) rc
      rw [List.map_append] at this
      exact this
    · have hge : ¬ L.length < 8 := by simpa using hge
      simp only [if_neg hge] at hR
      exact ⟨fun hn => absurd hn (by decide), fun _ => hR _ _ ⟨rfl, ⟨A, w⟩, FrM.refl _⟩⟩
end
end Go.Proofs.Ytfakjdnicdlpcaa
