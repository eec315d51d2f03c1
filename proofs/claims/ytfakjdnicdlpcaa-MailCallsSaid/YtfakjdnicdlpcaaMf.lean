import Derived.Test.YtfakjdnicdlpcaaMe
namespace Go.Proofs.Ytfakjdnicdlpcaa
open Go Go.Wd
set_option linter.unusedVariables false
set_option linter.unusedSimpArgs false
set_option linter.unnecessarySimpa false

def uN (x : Int) : List Value := [.int .u32 x]
theorem uN_len (x : Int) : (uN x).length = 1 := rfl
theorem cell_u {h : Hp} {a : Option Addr} {l : List Int} (g : rowAtK h a (encL uN l)) {k : Nat} {x : Int} (hx : l[k]? = some x) : ∃ b o, a = some ⟨b, o, none⟩ ∧ cellAt h b (o + (k : Int).toNat * 1) = some (.int .u32 x) := by
  obtain ⟨b, o, e1, e2⟩ := encL_one uN_len g hx (by decide)
  exact ⟨b, o, e1, by rw [Int.toNat_natCast]; exact e2 0 (by decide)⟩
theorem rows_u {rows : List (List Value)} (hw : ∀ r ∈ rows, wfCells [.int .u32] r) : ∃ l : List Int, rows.length = l.length ∧ rows.flatten = encL uN l := by
  obtain ⟨l, h1, h2, _⟩ := rows_enc (f := uN) (ok := fun _ => True) (rows := rows) (fun r hr => by
    obtain ⟨v1, r, rfl, h1, h⟩ := wfCells_cons (hw r hr)
    obtain rfl := wfCells_nil h
    obtain ⟨b, rfl, b1, b2⟩ := wfInt h1
    exact ⟨b, rfl, trivial⟩)
  exact ⟨l, h1, h2⟩
def lts (f : Int) (l : List Int) : List Lt := l.map fun v => ⟨f, v⟩
theorem drop_get {l : List Int} {k : Nat} {x : Int} (h : l[k]? = some x) : l.drop k = x :: l.drop (k + 1) := by
  obtain ⟨hk, rfl⟩ := List.getElem?_eq_some_iff.1 h
  exact List.drop_eq_getElem_cons hk
set_option maxHeartbeats 4000000 in
theorem order_law {h : Hp} {a : Option Addr} {c : Nat} {l : List Int} (g : rowAtK h a (encL uN l)) (f t : Int) :
    CallsH Try.prog 4 [.slice a l.length c, .int .i64 f, .int .i64 t] h fun v h' => v = .bool true ∧ Fr [] h h' := by
  refine calls_k fun R hR => ?_
  apply warderlaw22_MailOrder.calls
  unfold warderlaw22_MailOrder.P
  refine (alive_spec h).mono ?_
  rintro _ h1 ⟨rfl, f1⟩
  refine ⟨_, rfl, fun hn => (by cases hn), fun _ => ?_⟩
  refine (rGuest_spec f).mono ?_
  rintro _ h2 ⟨rfl, hh⟩
  rw [hh]; clear hh h2
  refine ⟨_, rfl, fun _ => hR _ _ ⟨rfl, f1⟩, fun gf => ?_⟩
  have gf : isG f := by simpa using gf
  refine (rGuest_spec t).mono ?_
  rintro _ h2 ⟨rfl, hh⟩
  rw [hh]; clear hh h2
  refine ⟨_, rfl, fun _ => hR _ _ ⟨rfl, f1⟩, fun gt => ⟨fun _ => hR _ _ ⟨rfl, f1⟩, fun ne => ⟨fun _ => hR _ _ ⟨rfl, f1⟩, fun hlen => ?_⟩⟩⟩
  have gt : isG t := by simpa using gt
  have ne : f ≠ t := by simpa using ne
  have hlen : l.length ≤ 50 := by
    have c1 : ¬ (l.length : Int) > 50 := by simpa using hlen
    omega
  refine (New_spec f1).mono ?_
  rintro _ h2 ⟨rfl, w2, f2⟩
  refine ⟨_, rfl, ?_⟩
  generalize sz h1 = q at *
  obtain ⟨oe, ob⟩ := op_new gt (bx_zero (n := t))
  refine (Open_spec w2 t).mono ?_
  rintro _ h3 ⟨rfl, ⟨A3, w3⟩, m3⟩
  rw [ob] at w3
  rw [oe]
  refine ⟨_, rfl, fun hn => (by cases hn), fun _ => ?_⟩
  refine ⟨fun i h4 => ∃ (k : Nat) (A : List (Option Nat)) (B : List (Option (List Lt))), i = k ∧ k ≤ l.length ∧ bxB B t = some (lts f (l.take (min k 8))) ∧ MA h h4 q A B, fun i _ => l.length - i.toNat,
    ⟨0, _, _, rfl, by omega, bx_set (by simp) gt _, w3⟩, ?_⟩
  clear w3 w2 m3 oe ob f1 f2
  rintro i h4 ⟨k, A, B, rfl, hk, hb, w⟩
  refine ⟨fun hc => ?_, fun hc => ?_⟩
  · have hk : k < l.length := by simpa using hc
    obtain ⟨x, hx⟩ : ∃ o, l[k]? = some o := ⟨_, List.getElem?_eq_getElem hk⟩
    rw [wrapN hk (by omega)]
    obtain ⟨b, o, e1, e2⟩ := cell_u (g.fr w.f (by simp)) hx
    have hll : (lts f (l.take (min k 8))).length = min k 8 := by
      unfold lts; rw [List.length_map, List.length_take]; omega
    refine ⟨fun h8 => ⟨by omega, by omega, b, o, e1, x, e2, ?_⟩, fun h8 => ⟨by omega, by omega, b, o, e1, x, e2, ?_⟩⟩
    · have h8 : (k : Int) ≥ 8 := of_decide_eq_true h8
      refine (Send_spec w f t x).mono ?_
      rintro _ h5 ⟨rfl, ⟨A5, w5⟩, m5⟩
      obtain ⟨s1, s2⟩ := sd_full gf gt ne hb (by omega) x
      rw [s2] at w5
      rw [s1]
      exact ⟨_, rfl, fun hn => (by cases hn), fun _ => ⟨⟨k + 1, _, _, rfl, by omega, by rw [show min (k + 1) 8 = min k 8 by omega]; exact hb, w5⟩, decM hk⟩⟩
    · have h8 : ¬ (k : Int) ≥ 8 := by simpa using h8
      refine (Send_spec w f t x).mono ?_
      rintro _ h5 ⟨rfl, ⟨A5, w5⟩, m5⟩
      obtain ⟨s1, s2⟩ := sd_room gf gt ne hb (by omega) x
      rw [s2] at w5
      rw [s1]
      have hb5 := bx_set (B := B) w.lb gt (some (lts f (l.take (min k 8)) ++ [⟨f, x⟩]))
      have e3 : lts f (l.take (min (k + 1) 8)) = lts f (l.take (min k 8)) ++ [⟨f, x⟩] := by
        rw [show min (k + 1) 8 = k + 1 by omega, show min k 8 = k by omega, List.take_add_one, hx]
        unfold lts
        rw [List.map_append]; rfl
      rw [← e3] at hb5
      rw [← e3] at w5
      exact ⟨_, rfl, fun hn => (by cases hn), fun _ => ⟨⟨k + 1, _, _, rfl, by omega, hb5, w5⟩, decM hk⟩⟩
  have hk : k = l.length := by
    have : ¬ k < l.length := by simpa using hc
    omega
  subst hk
  clear hc
  have et : l.take (min l.length 8) = l.take 8 := by
    rcases Nat.lt_or_ge l.length 8 with e | e
    · rw [show min l.length 8 = l.length by omega, List.take_length, List.take_of_length_le (by omega)]
    · rw [show min l.length 8 = 8 by omega]
  rw [et] at hb
  refine ⟨fun i h5 => ∃ (k : Nat) (A : List (Option Nat)) (B : List (Option (List Lt))), i = k ∧ k ≤ l.length ∧ k ≤ 8 ∧ bxB B t = some (lts f ((l.take 8).drop k)) ∧ MA h h5 q A B, fun i _ => l.length - i.toNat,
    ⟨0, _, _, rfl, by omega, by omega, hb, w⟩, ?_⟩
  clear hb w
  clear A B
  rintro i h5 ⟨k, A, B, rfl, hk, hk8, hb, w⟩
  have fin : ∀ (K : Value → Hp → Prop), (l.take 8).drop k = [] → (∀ r h6, MA h h6 q A B → ∀ h7, Fr [] h6 h7 → K r h7) → True := fun _ _ _ => trivial
  clear fin
  have last : (l.take 8).drop k = [] → CallsH Try.prog 15 [.pointer (some ⟨q, 0, none⟩), .int .i64 t] h5 fun r h16 => ∃ Receive45 : Int, ∃ Receive46 : Int, ∃ Receive47 : Int, r = .tuple #[.agg #[.int .i64 Receive45, .int .u32 Receive46], .int .i64 Receive47] ∧
      ∀ h17 : Hp, h17 = new h16 (blk 43 [.int .i64 0, .int .u32 0]) → truly true ∧ ∃ T48 : TypeId, ∃ l49 : List Value, bk h17 (sz h16) = some (blk T48 l49) ∧ 0 + 2 ≤ l49.length ∧ ∀ h18 : Hp, h18 = upd h17 (sz h16) T48 (writeAt l49 0 [.int .i64 Receive45, .int .u32 Receive46]) →
      R (.bool (Receive47 == 23)) h18 := fun e => by
    rw [e] at hb
    refine (Receive_spec w t).mono ?_
    rintro _ h6 ⟨rfl, ⟨A6, w6⟩, m6⟩
    obtain ⟨s1, s2, s3⟩ := rc_none gt hb
    rw [s1]
    exact ⟨_, _, _, rfl, local_lt fun h9 b9 f9 => hR _ _ ⟨rfl, w6.f.trans f9⟩⟩
  refine ⟨fun hc => ⟨fun h8 => ?_, fun h8 => last ?_⟩, fun hc => last ?_⟩
  · have hk : k < l.length := by simpa using hc
    have h8 : k < 8 := by
      have : (k : Int) < 8 := of_decide_eq_true h8
      omega
    obtain ⟨x, hx⟩ : ∃ o, l[k]? = some o := ⟨_, List.getElem?_eq_getElem hk⟩
    rw [wrapN hk (by omega)]
    have hx8 : (l.take 8)[k]? = some x := by rw [List.getElem?_take, if_pos h8]; exact hx
    rw [drop_get hx8] at hb
    refine (Receive_spec w t).mono ?_
    rintro _ h6 ⟨rfl, ⟨A6, w6⟩, m6⟩
    obtain ⟨s1, s2, s3⟩ := rc_one gt hb
    rw [s3] at w6
    rw [s1, s2]
    have hb6 := bx_set (B := B) w.lb gt (some (lts f ((l.take 8).drop (k + 1))))
    refine ⟨_, _, _, rfl, local_lt fun h9 b9 f9 => ⟨fun hn => (by cases hn), fun _ => ⟨_, (cellAt_of b9 0).trans rfl, fun hn => ?_, fun _ => ?_⟩⟩⟩
    · simp at hn
    have w9 := w6.fr0 f9
    obtain ⟨b, o, e1, e2⟩ := cell_u (g.fr w9.f (by simp)) hx
    refine ⟨_, (cellAt_of b9 1).trans rfl, by omega, by omega, b, o, e1, x, e2, fun hn => ?_, fun _ => ⟨⟨k + 1, _, _, rfl, by omega, by omega, hb6, w9⟩, decM hk⟩⟩
    simp at hn
  · have h8 : ¬ (k : Int) < 8 := by simpa using h8
    exact List.drop_eq_nil_of_le (by rw [List.length_take]; omega)
  · have hk : ¬ k < l.length := by simpa using hc
    exact List.drop_eq_nil_of_le (by rw [List.length_take]; omega)
end Go.Proofs.Ytfakjdnicdlpcaa
