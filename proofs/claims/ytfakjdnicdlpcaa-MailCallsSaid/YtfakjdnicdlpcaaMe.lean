import Derived.Test.YtfakjdnicdlpcaaMd
namespace Go.Proofs.Ytfakjdnicdlpcaa
open Go Go.Wd
set_option linter.unusedVariables false
set_option linter.unusedSimpArgs false
set_option linter.unnecessarySimpa false

/-! ## a box, told -/
section
variable {B : List (Option (List Lt))} {n m f t : Int}
theorem bx_set (hB : B.length = 8) (hn : isG n) (x : Option (List Lt)) : bxB (setB B n x) n = x := by
  unfold bxB setB
  rw [if_pos hn]
  unfold isG at hn
  rw [List.getD_eq_getElem?_getD, List.getElem?_set, if_pos rfl, if_pos (by omega)]; rfl
theorem bx_other (hn : isG n) (hm : isG m) (h : n ≠ m) (x : Option (List Lt)) : bxB (setB B n x) m = bxB B m := by
  unfold bxB setB
  rw [if_pos hm, if_pos hm]
  unfold isG at hn hm
  rw [List.getD_eq_getElem?_getD, List.getElem?_set, if_neg (by omega), ← List.getD_eq_getElem?_getD]
theorem sd_room {L : List Lt} (hf : isG f) (ht : isG t) (hne : f ≠ t) (h : bxB B t = some L) (hl : L.length < 8) (v : Int) : sdE B f t = 0 ∧ sdB B f t v = setB B t (some (L ++ [⟨f, v⟩])) := by
  unfold sdE sdB
  rw [if_pos ⟨hf, ht, hne⟩, if_pos ⟨hf, ht, hne⟩, h]
  simp only [if_pos hl]
  exact ⟨trivial, trivial⟩
theorem sd_full {L : List Lt} (hf : isG f) (ht : isG t) (hne : f ≠ t) (h : bxB B t = some L) (hl : ¬ L.length < 8) (v : Int) : sdE B f t = 15 ∧ sdB B f t v = B := by
  unfold sdE sdB
  rw [if_pos ⟨hf, ht, hne⟩, if_pos ⟨hf, ht, hne⟩, h]
  simp only [if_neg hl]
  exact ⟨trivial, trivial⟩
theorem rc_one {x : Lt} {L : List Lt} (hn : isG n) (h : bxB B n = some (x :: L)) : rcE B n = 0 ∧ rcX B n = x ∧ rcB B n = setB B n (some L) := by
  unfold rcE rcX rcB
  rw [if_pos hn, h]
  exact ⟨rfl, rfl, rfl⟩
theorem rc_none (hn : isG n) (h : bxB B n = some []) : rcE B n = 23 ∧ rcX B n = ⟨0, 0⟩ ∧ rcB B n = B := by
  unfold rcE rcX rcB
  rw [if_pos hn, h]
  exact ⟨rfl, rfl, rfl⟩
theorem op_new (hn : isG n) (h : bxB B n = none) : opE B n = 0 ∧ opB B n = setB B n (some []) := by
  unfold opE opB
  rw [if_pos hn, if_pos hn, h]
  exact ⟨rfl, rfl⟩
theorem sh_some {L : List Lt} (h : bxB B n = some L) : shN B n = (L.length : Nat) ∧ shB B n = setB B n none := by
  unfold shN shB
  rw [h]
  exact ⟨rfl, rfl⟩
end
theorem bx_zero {n : Int} : bxB (List.replicate 8 none) n = none := by
  unfold bxB
  split
  · rw [List.getD_eq_getElem?_getD, List.getElem?_replicate]
    split <;> rfl
  · rfl
def bB (b : Bool) : List Value := [.bool b]
theorem bB_len (b : Bool) : (bB b).length = 1 := rfl
theorem cell_b {h : Hp} {a : Option Addr} {l : List Bool} (g : rowAtK h a (encL bB l)) {k : Nat} {x : Bool} (hx : l[k]? = some x) : ∃ b o, a = some ⟨b, o, none⟩ ∧ cellAt h b (o + (k : Int).toNat * 1) = some (.bool x) := by
  obtain ⟨b, o, e1, e2⟩ := encL_one bB_len g hx (by decide)
  exact ⟨b, o, e1, by rw [Int.toNat_natCast]; exact e2 0 (by decide)⟩
set_option maxRecDepth 4000 in
set_option maxHeartbeats 4000000 in
theorem room_law {h : Hp} {a : Option Addr} {c : Nat} {l : List Bool} (g : rowAtK h a (encL bB l)) :
    CallsH Try.prog 6 [.slice a l.length c] h fun v h' => v = .bool true ∧ Fr [] h h' := by
  refine calls_k fun R hR => ?_
  apply warderlaw22_MailRoom.calls
  unfold warderlaw22_MailRoom.P
  refine (alive_spec h).mono ?_
  rintro _ h1 ⟨rfl, f1⟩
  refine ⟨_, rfl, fun hn => (by cases hn), fun _ => ⟨fun _ => hR _ _ ⟨rfl, f1⟩, fun c1 => ?_⟩⟩
  have hlen : l.length ≤ 200 := by
    have c1 : ¬ (l.length : Int) > 200 := by simpa using c1
    omega
  refine (New_spec f1).mono ?_
  rintro _ h2 ⟨rfl, w2, f2⟩
  refine ⟨_, rfl, ?_⟩
  generalize sz h1 = q at *
  have g9 : isG 9 := by decide
  have g2 : isG 2 := by decide
  have ne29 : (2 : Int) ≠ 9 := by decide
  obtain ⟨oe, ob⟩ := op_new g9 (bx_zero (n := 9))
  refine (Open_spec w2 9).mono ?_
  rintro _ h3 ⟨rfl, ⟨A3, w3⟩, m3⟩
  rw [ob] at w3
  rw [oe]
  refine ⟨_, rfl, fun hn => (by cases hn), fun _ => ?_⟩
  refine ⟨fun n i h4 => ∃ (k : Nat) (A : List (Option Nat)) (B : List (Option (List Lt))) (L : List Lt), i = k ∧ k ≤ l.length ∧ n = (L.length : Nat) ∧ bxB B 9 = some L ∧ L.length ≤ 8 ∧ MA h h4 q A B, fun _ i _ => l.length - i.toNat,
    ⟨0, _, _, [], rfl, by omega, rfl, bx_set (by simp) g9 _, by decide, w3⟩, ?_⟩
  clear w3 w2 m3 oe ob f1 f2
  rintro n i h4 ⟨k, A, B, L, rfl, hk, rfl, hb, hL, w⟩
  refine ⟨fun hc => ?_, fun hc => ?_⟩
  · have hk : k < l.length := by simpa using hc
    obtain ⟨x, hx⟩ : ∃ o, l[k]? = some o := ⟨_, List.getElem?_eq_getElem hk⟩
    rw [wrapN hk (by omega)]
    obtain ⟨b, o, e1, e2⟩ := cell_b (g.fr w.f (by simp)) hx
    refine ⟨by omega, by omega, b, o, e1, x, e2, fun hx1 => ?_, fun hx1 => ?_⟩
    · refine (Send_spec w 2 9 _).mono ?_
      rintro _ h5 ⟨rfl, ⟨A5, w5⟩, m5⟩
      by_cases hl : L.length < 8
      · obtain ⟨s1, s2⟩ := sd_room g2 g9 ne29 hb hl (IntKind.wrap .u32 k)
        rw [s2] at w5
        rw [s1]
        have hw : IntKind.wrap .i64 (((L.length : Nat) : Int) + 1) = ((L.length + 1 : Nat) : Int) := by rw [wrap_i64 (by omega) (by omega)]; omega
        rw [hw]
        have hi : decide (((L.length : Nat) : Int) < 8) = true := decide_eq_true (by omega)
        rw [hi]
        refine ⟨_, rfl, fun hn => (by cases hn), fun _ => ⟨fun hn => (by cases hn), fun _ => ⟨fun _ => ?_, fun hn => (by cases hn)⟩⟩⟩
        have hb5 := bx_set (B := B) w.lb g9 (some (L ++ [⟨2, IntKind.wrap .u32 k⟩]))
        refine (Len_spec w5 9).mono ?_
        rintro _ h6 ⟨rfl, hh⟩
        rw [hh]; clear hh h6
        rw [hb5]
        have e3 : ((((some (L ++ [⟨2, IntKind.wrap .u32 k⟩]) : Option (List Lt)).getD []).length : Nat) : Int) = ((L.length + 1 : Nat) : Int) := by simp
        rw [e3]
        exact ⟨_, rfl, fun hn => by simp at hn, fun _ => ⟨⟨k + 1, _, _, _, rfl, by omega, by simp, hb5, by simp; omega, w5⟩, decM hk⟩⟩
      · obtain ⟨s1, s2⟩ := sd_full g2 g9 ne29 hb hl (IntKind.wrap .u32 k)
        rw [s2] at w5
        rw [s1]
        have hi : decide (((L.length : Nat) : Int) < 8) = false := decide_eq_false (by omega)
        rw [hi]
        refine ⟨_, rfl, fun hn => (by cases hn), fun _ => ⟨fun _ => ⟨fun hn => (by cases hn), fun _ => ⟨fun hn => (by cases hn), fun _ => ?_⟩⟩, fun hn => (by cases hn)⟩⟩
        refine (Len_spec w5 9).mono ?_
        rintro _ h6 ⟨rfl, hh⟩
        rw [hh]; clear hh h6
        rw [hb]
        exact ⟨_, rfl, fun hn => by simp at hn, fun _ => ⟨⟨k + 1, _, _, _, rfl, by omega, rfl, hb, hL, w5⟩, decM hk⟩⟩
    · refine (Receive_spec w 9).mono ?_
      rintro _ h5 ⟨rfl, ⟨A5, w5⟩, m5⟩
      refine ⟨_, _, _, rfl, local_lt fun h7 b7 f7 => ?_⟩
      replace w5 := w5.fr0 f7
      cases L with
      | nil =>
        obtain ⟨s1, s2, s3⟩ := rc_none g9 hb
        rw [s3] at w5
        rw [s1]
        refine ⟨fun hn => (by cases hn), fun _ => ⟨fun _ => ⟨fun hn => (by cases hn), fun _ => ⟨fun hn => (by cases hn), fun _ => ?_⟩⟩, fun hn => (by cases hn)⟩⟩
        refine (Len_spec w5 9).mono ?_
        rintro _ h6 ⟨rfl, hh⟩
        rw [hh]; clear hh h6
        rw [hb]
        exact ⟨_, rfl, fun hn => by simp at hn, fun _ => ⟨⟨k + 1, _, _, _, rfl, by omega, rfl, hb, hL, w5⟩, decM hk⟩⟩
      | cons y L =>
        obtain ⟨s1, s2, s3⟩ := rc_one g9 hb
        rw [s3] at w5
        rw [s1]
        rw [List.length_cons] at hL ⊢
        have hw : IntKind.wrap .i64 (((L.length + 1 : Nat) : Int) - 1) = ((L.length : Nat) : Int) := by rw [wrap_i64 (by omega) (by omega)]; omega
        rw [hw]
        have hi : decide (((L.length + 1 : Nat) : Int) > 0) = true := decide_eq_true (by omega)
        rw [hi]
        refine ⟨fun hn => (by cases hn), fun _ => ⟨fun hn => (by cases hn), fun _ => ⟨fun _ => ?_, fun hn => (by cases hn)⟩⟩⟩
        have hb5 := bx_set (B := B) w.lb g9 (some L)
        refine (Len_spec w5 9).mono ?_
        rintro _ h6 ⟨rfl, hh⟩
        rw [hh]; clear hh h6
        rw [hb5]
        exact ⟨_, rfl, fun hn => by simp at hn, fun _ => ⟨⟨k + 1, _, _, _, rfl, by omega, rfl, hb5, by omega, w5⟩, decM hk⟩⟩
  · refine (Shut_spec w 9).mono ?_
    rintro _ h5 ⟨rfl, ⟨A5, w5⟩, m5⟩
    obtain ⟨s1, s2⟩ := sh_some hb
    rw [s1]
    refine ⟨_, rfl, ?_⟩
    have : (((L.length : Nat) : Int) == ((L.length : Nat) : Int)) = true := by simp
    rw [this]
    exact hR _ _ ⟨rfl, w5.f⟩
theorem rows_b {rows : List (List Value)} (hw : ∀ r ∈ rows, wfCells [.bool] r) : ∃ l : List Bool, rows.length = l.length ∧ rows.flatten = encL bB l := by
  obtain ⟨l, h1, h2, _⟩ := rows_enc (f := bB) (ok := fun _ => True) (rows := rows) (fun r hr => by
    obtain ⟨v1, r, rfl, h1, h⟩ := wfCells_cons (hw r hr)
    obtain rfl := wfCells_nil h
    obtain ⟨b, rfl⟩ := wfBool h1
    exact ⟨b, rfl, trivial⟩)
  exact ⟨l, h1, h2⟩
end Go.Proofs.Ytfakjdnicdlpcaa
