import Derived.Test.YtfakjdnicdlpcaaMf
namespace Go.Proofs.Ytfakjdnicdlpcaa
open Go Go.Wd
set_option linter.unusedVariables false
set_option linter.unusedSimpArgs false
set_option linter.unnecessarySimpa false

def iN (x : Int) : List Value := [.int .i64 x]
theorem iN_len (x : Int) : (iN x).length = 1 := rfl
theorem own_blk {h : Hp} {T size : Nat} {a : Option Addr} {l c : Nat} {cells : List Value} (o : Own h T size a l c cells) : ∀ x ∈ foot a, ∃ l, bk h x = some (blk T l) := by
  intro x hx
  rcases o.2 with ⟨rfl, _⟩ | ⟨b, rest, rfl, hb, _⟩
  · simp [foot] at hx
  · simp [foot] at hx; subst hx; exact ⟨_, hb⟩
theorem own_frM {h h' : Hp} {T size : Nat} {a : Option Addr} {l c : Nat} {cells : List Value} (o : Own h T size a l c cells) (m : FrM h h') (hT : T ≠ 59) : Own h' T size a l c cells := by
  refine ⟨o.1, ?_⟩
  rcases o.2 with h1 | ⟨b, rest, rfl, hb, h2⟩
  · exact .inl h1
  · exact .inr ⟨b, rest, rfl, m.2 _ _ _ hb hT, h2⟩
theorem MA.app {h0 h h' : Hp} {q : Nat} {A : List (Option Nat)} {B : List (Option (List Lt))} (w : MA h0 h q A B) {a : Option Addr} {l c size : Nat} {cells : List Value} (o : Own h 28 size a l c cells) (hg : ∀ x ∈ foot a, sz h0 ≤ x) (k : Fr (foot a) h h') : MA h0 h' q A B :=
  w.fr k fun x hx => ⟨hg x hx, by
    obtain ⟨l, hl⟩ := own_blk o x hx
    exact ⟨28, l, hl, by decide⟩⟩
theorem lts_len (f : Int) (l : List Int) : (lts f l).length = l.length := by simp [lts]
theorem lts_snoc (f : Int) (l : List Int) (x : Int) : lts f (l ++ [x]) = lts f l ++ [⟨f, x⟩] := by simp [lts]
structure Ap (h0 h : Hp) (q : Nat) (aa ba : Option Addr) (ac bc : Nat) (La Lb : List Int) (A : List (Option Nat)) (B : List (Option (List Lt))) : Prop where
  w : MA h0 h q A B
  b3 : bxB B 3 = some (lts 2 La)
  b4 : bxB B 4 = some (lts 2 Lb)
  la : La.length ≤ 8
  lb : Lb.length ≤ 8
  oa : Own h 28 1 aa La.length ac (encL uN La)
  ob : Own h 28 1 ba Lb.length bc (encL uN Lb)
  ga : ∀ x ∈ foot aa, sz h0 ≤ x
  gb : ∀ x ∈ foot ba, sz h0 ≤ x
  ds : ∀ x ∈ foot aa, x ∉ foot ba
set_option maxHeartbeats 8000000 in
theorem apart_law {h : Hp} {a : Option Addr} {c : Nat} {l : List Int} (g : rowAtK h a (encL uN l)) {a1 : Option Addr} {c1 : Nat} {to : List Int} (g1 : rowAtK h a1 (encL iN to)) :
    CallsH Try.prog 5 [.slice a l.length c, .slice a1 to.length c1] h fun v h' => v = .bool true ∧ Fr [] h h' := by
  refine calls_k fun R hR => ?_
  apply warderlaw22_MailApart.calls
  unfold warderlaw22_MailApart.P
  refine (alive_spec h).mono ?_
  rintro _ h1 ⟨rfl, f1⟩
  refine ⟨_, rfl, fun hn => (by cases hn), fun _ => ⟨fun _ => hR _ _ ⟨rfl, f1⟩, fun d1 => ⟨fun _ => hR _ _ ⟨rfl, f1⟩, fun d2 => ⟨fun _ => hR _ _ ⟨rfl, f1⟩, fun d3 => ?_⟩⟩⟩⟩
  have d1 : l.length ≤ 60 := by
    have : ¬ (l.length : Int) > 60 := by simpa using d1
    omega
  have d2 : l.length ≤ to.length := by
    have : ¬ (to.length : Int) < (l.length : Int) := of_decide_eq_false d2
    omega
  refine (New_spec f1).mono ?_
  rintro _ h2 ⟨rfl, w2, f2⟩
  refine ⟨_, rfl, ?_⟩
  generalize sz h1 = q at *
  have i2 : isG 2 := by decide
  have i3 : isG 3 := by decide
  have i4 : isG 4 := by decide
  have n23 : (2 : Int) ≠ 3 := by decide
  have n24 : (2 : Int) ≠ 4 := by decide
  have n34 : (3 : Int) ≠ 4 := by decide
  have n43 : (4 : Int) ≠ 3 := by decide
  obtain ⟨oe, ob⟩ := op_new i3 (bx_zero (n := 3))
  refine (Open_spec w2 3).mono ?_
  rintro _ h3 ⟨rfl, ⟨A3, w3⟩, m3⟩
  rw [ob] at w3
  rw [oe]
  refine ⟨_, rfl, fun hn => (by cases hn), fun _ => ?_⟩
  have b3 := bx_set (B := List.replicate 8 none) (by simp) i3 (some [])
  have b4 := (bx_other (B := List.replicate 8 none) i3 i4 n34 (some [])).trans bx_zero
  obtain ⟨oe4, ob4⟩ := op_new i4 b4
  refine (Open_spec w3 4).mono ?_
  rintro _ h4 ⟨rfl, ⟨A4, w4⟩, m4⟩
  rw [ob4] at w4
  rw [oe4]
  refine ⟨_, rfl, fun hn => (by cases hn), fun _ => ?_⟩
  have c4 := bx_set (B := setB (List.replicate 8 none) 3 (some [])) w3.lb i4 (some [])
  have c3 := (bx_other (B := setB (List.replicate 8 none) 3 (some [])) i4 i3 n43 (some [])).trans b3
  clear b3 b4 oe oe4 ob ob4 w2 w3 m3 m4 f2
  intro h5 e5 h6 e6
  have s5 : sz h5 = sz h4 + 1 := by rw [e5]; exact sz_new _ _
  have k5 : bk h6 (sz h4) = some (blk 28 []) := by rw [e6, bk_new, if_neg (by omega), e5]; exact new_at _ _
  have k6 : bk h6 (sz h5) = some (blk 28 []) := by rw [e6]; exact new_at _ _
  have f6 : Fr [] h4 h6 := by rw [e6, e5]; exact (Fr.new [] _ _).trans (Fr.new [] _ _)
  have z4 := w4.f.size
  have st : Ap h h6 q (some ⟨sz h4, 0, none⟩) (some ⟨sz h5, 0, none⟩) 0 0 [] [] A4 (setB (setB (List.replicate 8 none) 3 (some [])) 4 (some [])) :=
    ⟨w4.fr0 f6, c3, c4, by decide, by decide, ⟨rfl, .inr ⟨_, [], rfl, k5, rfl, Nat.le_refl _⟩⟩, ⟨rfl, .inr ⟨_, [], rfl, k6, rfl, Nat.le_refl _⟩⟩, by simpa [foot] using z4, by simp [foot]; omega, by simp [foot]; omega⟩
  clear k5 k6 f6 e5 e6 c3 c4 w4
  refine ⟨fun aa al ac ba bl bc i h7 => ∃ (k : Nat) (La Lb : List Int) (A : List (Option Nat)) (B : List (Option (List Lt))), i = k ∧ k ≤ l.length ∧ al = La.length ∧ bl = Lb.length ∧ Ap h h7 q aa ba ac bc La Lb A B, fun _ _ _ _ _ _ i _ => l.length - i.toNat,
    ⟨0, [], [], _, _, rfl, by omega, rfl, rfl, st⟩, ?_⟩
  clear st s5 z4 f1
  rintro aa al ac ba bl bc i h7 ⟨k, La, Lb, A, B, rfl, hk, rfl, rfl, st⟩
  refine ⟨fun hc => ?_, fun hc => ⟨fun hn => ?_, fun _ => ⟨fun hn => ?_, fun _ => ?_⟩⟩⟩
  · have hk : k < l.length := by simpa using hc
    obtain ⟨x, hx⟩ : ∃ o, l[k]? = some o := ⟨_, List.getElem?_eq_getElem hk⟩
    obtain ⟨y, hy⟩ : ∃ o, to[k]? = some o := ⟨_, List.getElem?_eq_getElem (by omega)⟩
    rw [wrapN hk (by omega)]
    have cl : ∀ {h8 : Hp}, Fr [] h h8 → ∃ b o, a = some ⟨b, o, none⟩ ∧ cellAt h8 b (o + (k : Int).toNat * 1) = some (.int .u32 x) := fun f8 => cell_u (g.fr f8 (by simp)) hx
    obtain ⟨b1, o1, e1, e2⟩ := encL_one iN_len (g1.fr st.w.f (by simp)) hy (by decide)
    obtain ⟨b, o, e3, e4⟩ := cl st.w.f
    refine ⟨by omega, by omega, b1, o1, e1, y, by rw [Int.toNat_natCast]; exact e2 0 (by decide), fun _ => ⟨by omega, by omega, b, o, e3, x, e4, ?_⟩, fun _ => ⟨by omega, by omega, b, o, e3, x, e4, ?_⟩⟩
    · refine (Send_spec st.w 2 3 x).mono ?_
      rintro _ h8 ⟨rfl, ⟨A8, w8⟩, m8⟩
      by_cases hl : La.length < 8
      · obtain ⟨s1, s2⟩ := sd_room i2 i3 n23 st.b3 (by rw [lts_len]; exact hl) x
        rw [s2, ← lts_snoc] at w8
        rw [s1]
        obtain ⟨b', o', e5, e6⟩ := cl w8.f
        have oa := own_frM st.oa m8 (by decide)
        have ob := own_frM st.ob m8 (by decide)
        refine ⟨_, rfl, fun _ => ⟨by omega, by omega, b', o', e5, x, e6, ?_⟩, fun hn => (by cases hn)⟩
        intro h9 e9
        refine append_new (h0 := h) (F := []) oa rfl w8.f (fun z hz => .inr (st.ga z hz)) rfl rfl e9 (by omega) (by omega) ?_
        intro a' c' h10 o10 f10 fa10 k10 n10
        have w10 := w8.app oa st.ga k10
        have ds : ∀ z ∈ foot a', z ∉ foot ba := by
          rcases n10 with rfl | n10
          · exact st.ds
          · intro z hz hm
            have := n10 z hz
            have := ob.foot_lt z hm
            omega
        have e7 : encL uN La ++ [.int .u32 x] = encL uN (La ++ [x]) := by rw [encL_append]; rfl
        rw [e7] at o10
        refine ⟨⟨k + 1, La ++ [x], Lb, _, _, rfl, by omega, by simp, rfl, ⟨w10, bx_set st.w.lb i3 _, (bx_other i3 i4 n34 _).trans st.b4, by simp; omega, st.lb, by rw [List.length_append]; exact o10, ob.fr k10 fun z hz hm => st.ds z hm hz, fun z hz => (fa10 z hz).resolve_left (by simp), st.gb, ds⟩⟩, decM hk⟩
      · obtain ⟨s1, s2⟩ := sd_full i2 i3 n23 st.b3 (by rw [lts_len]; exact hl) x
        rw [s2] at w8
        rw [s1]
        exact ⟨_, rfl, fun hn => (by cases hn), fun _ => ⟨⟨k + 1, La, Lb, _, _, rfl, by omega, rfl, rfl, ⟨w8, st.b3, st.b4, st.la, st.lb, own_frM st.oa m8 (by decide), own_frM st.ob m8 (by decide), st.ga, st.gb, st.ds⟩⟩, decM hk⟩⟩
    · refine (Send_spec st.w 2 4 x).mono ?_
      rintro _ h8 ⟨rfl, ⟨A8, w8⟩, m8⟩
      by_cases hl : Lb.length < 8
      · obtain ⟨s1, s2⟩ := sd_room i2 i4 n24 st.b4 (by rw [lts_len]; exact hl) x
        rw [s2, ← lts_snoc] at w8
        rw [s1]
        obtain ⟨b', o', e5, e6⟩ := cl w8.f
        have oa := own_frM st.oa m8 (by decide)
        have ob := own_frM st.ob m8 (by decide)
        refine ⟨_, rfl, fun _ => ⟨by omega, by omega, b', o', e5, x, e6, ?_⟩, fun hn => (by cases hn)⟩
        intro h9 e9
        refine append_new (h0 := h) (F := []) ob rfl w8.f (fun z hz => .inr (st.gb z hz)) rfl rfl e9 (by omega) (by omega) ?_
        intro a' c' h10 o10 f10 fa10 k10 n10
        have w10 := w8.app ob st.gb k10
        have ds : ∀ z ∈ foot aa, z ∉ foot a' := by
          rcases n10 with rfl | n10
          · exact st.ds
          · intro z hz hm
            have := n10 z hm
            have := oa.foot_lt z hz
            omega
        have e7 : encL uN Lb ++ [.int .u32 x] = encL uN (Lb ++ [x]) := by rw [encL_append]; rfl
        rw [e7] at o10
        refine ⟨⟨k + 1, La, Lb ++ [x], _, _, rfl, by omega, rfl, by simp, ⟨w10, (bx_other i4 i3 n43 _).trans st.b3, bx_set st.w.lb i4 _, st.la, by simp; omega, oa.fr k10 st.ds, by rw [List.length_append]; exact o10, st.ga, fun z hz => (fa10 z hz).resolve_left (by simp), ds⟩⟩, decM hk⟩
      · obtain ⟨s1, s2⟩ := sd_full i2 i4 n24 st.b4 (by rw [lts_len]; exact hl) x
        rw [s2] at w8
        rw [s1]
        exact ⟨_, rfl, fun hn => (by cases hn), fun _ => ⟨⟨k + 1, La, Lb, _, _, rfl, by omega, rfl, rfl, ⟨w8, st.b3, st.b4, st.la, st.lb, own_frM st.oa m8 (by decide), own_frM st.ob m8 (by decide), st.ga, st.gb, st.ds⟩⟩, decM hk⟩⟩
  · have hn : ((La.length : Nat) : Int) > 8 := of_decide_eq_true hn
    have := st.la
    omega
  · have hn : ((Lb.length : Nat) : Int) > 8 := of_decide_eq_true hn
    have := st.lb
    omega
  refine (Len_spec st.w 3).mono ?_
  rintro _ h8 ⟨rfl, hh⟩
  rw [hh, st.b3]; clear hh h8
  have e3 : (((some (lts 2 La) : Option (List Lt)).getD []).length : Nat) = La.length := lts_len _ _
  have e4 : (((some (lts 2 Lb) : Option (List Lt)).getD []).length : Nat) = Lb.length := lts_len _ _
  rw [e3]
  refine ⟨_, rfl, fun hn => by simp at hn, fun _ => ?_⟩
  refine (Len_spec st.w 4).mono ?_
  rintro _ h8 ⟨rfl, hh⟩
  rw [hh, st.b4]; clear hh h8
  rw [e4]
  refine ⟨_, rfl, fun hn => by simp at hn, fun _ => ?_⟩
  have hla := st.la
  have b3' : bxB B 3 = some ((lts 2 La).drop 0) := st.b3
  refine ⟨fun i h8 => ∃ (k : Nat) (A : List (Option Nat)) (B : List (Option (List Lt))), i = k ∧ k ≤ La.length ∧ bxB B 3 = some ((lts 2 La).drop k) ∧ bxB B 4 = some (lts 2 Lb) ∧ MA h h8 q A B ∧ Own h8 28 1 aa La.length ac (encL uN La), fun i _ => La.length - i.toNat,
    ⟨0, _, _, rfl, by omega, b3', st.b4, st.w, st.oa⟩, ?_⟩
  clear b3' e3 e4 st hk hc
  clear k A B
  rintro i h8 ⟨k, A, B, rfl, hk, b3, b4, w, oa⟩
  refine ⟨fun hc => ?_, fun hc => ?_⟩
  · have hk : k < La.length := by simpa using hc
    obtain ⟨x, hx⟩ : ∃ o, La[k]? = some o := ⟨_, List.getElem?_eq_getElem hk⟩
    rw [wrapN hk (by omega)]
    have hx2 : (lts 2 La)[k]? = some ⟨2, x⟩ := by unfold lts; rw [List.getElem?_map, hx]; rfl
    have hd : (lts 2 La).drop k = ⟨2, x⟩ :: (lts 2 La).drop (k + 1) := by
      obtain ⟨hk2, e⟩ := List.getElem?_eq_some_iff.1 hx2
      rw [← e]; exact List.drop_eq_getElem_cons hk2
    rw [hd] at b3
    refine (Receive_spec w 3).mono ?_
    rintro _ h9 ⟨rfl, ⟨A9, w9⟩, m9⟩
    obtain ⟨s1, s2, s3⟩ := rc_one i3 b3
    rw [s3] at w9
    rw [s1, s2]
    have oa9 := own_frM oa m9 (by decide)
    refine ⟨_, _, _, rfl, local_lt fun h10 b10 f10 => ⟨fun hn => (by cases hn), fun _ => ⟨_, (cellAt_of b10 1).trans rfl, by omega, by omega, ?_⟩⟩⟩
    have oa10 := oa9.fr f10 (by simp)
    obtain ⟨b, o, e1, e2⟩ := cell_u oa10.row hx
    exact ⟨b, o, e1, x, e2, fun hn => by simp at hn, fun _ => ⟨_, (cellAt_of b10 0).trans rfl, fun hn => by simp at hn, fun _ => ⟨⟨k + 1, _, _, rfl, by omega, bx_set w.lb i3 _, (bx_other i3 i4 n34 _).trans b4, w9.fr0 f10, oa10⟩, decM hk⟩⟩⟩
  · have hk : k = La.length := by
      have : ¬ k < La.length := by simpa using hc
      omega
    subst hk
    have hd : (lts 2 La).drop La.length = [] := List.drop_eq_nil_of_le (by rw [lts_len]; exact Nat.le_refl _)
    rw [hd] at b3
    refine (Shut_spec w 4).mono ?_
    rintro _ h9 ⟨rfl, ⟨A9, w9⟩, m9⟩
    obtain ⟨s1, s2⟩ := sh_some b4
    rw [s2] at w9
    rw [s1, lts_len]
    refine ⟨_, rfl, fun hn => by simp at hn, fun _ => ?_⟩
    have c4 := bx_set w.lb i4 none
    have c3 := (bx_other i4 i3 n43 none).trans b3
    obtain ⟨oe, ob⟩ := op_new i4 c4
    refine (Open_spec w9 4).mono ?_
    rintro _ h10 ⟨rfl, ⟨A10, w10⟩, m10⟩
    rw [ob] at w10
    rw [oe]
    refine ⟨_, rfl, fun hn => (by cases hn), fun _ => ?_⟩
    have d4 := bx_set w9.lb i4 (some [])
    have d3 := (bx_other i4 i3 n43 (some [])).trans c3
    refine (Receive_spec w10 3).mono ?_
    rintro _ h11 ⟨rfl, ⟨A11, w11⟩, m11⟩
    obtain ⟨r1, r2, r3⟩ := rc_none i3 d3
    rw [r3] at w11
    rw [r1]
    refine ⟨_, _, _, rfl, local_lt fun h12 b12 f12 => ?_⟩
    refine (Receive_spec (w11.fr0 f12) 4).mono ?_
    rintro _ h13 ⟨rfl, ⟨A13, w13⟩, m13⟩
    obtain ⟨t1, t2, t3⟩ := rc_none i4 d4
    rw [t1]
    refine ⟨_, _, _, rfl, local_lt fun h14 b14 f14 => ⟨fun _ => hR _ _ ⟨rfl, w13.f.trans f14⟩, fun hn => (by cases hn)⟩⟩
theorem rows_n {rows : List (List Value)} (hw : ∀ r ∈ rows, wfCells [.int .i64] r) : ∃ l : List Int, rows.length = l.length ∧ rows.flatten = encL iN l := by
  obtain ⟨l, h1, h2, _⟩ := rows_enc (f := iN) (ok := fun _ => True) (rows := rows) (fun r hr => by
    obtain ⟨v1, r, rfl, h1, h⟩ := wfCells_cons (hw r hr)
    obtain rfl := wfCells_nil h
    obtain ⟨b, rfl, b1, b2⟩ := wfInt h1
    exact ⟨b, rfl, trivial⟩)
  exact ⟨l, h1, h2⟩
end Go.Proofs.Ytfakjdnicdlpcaa
