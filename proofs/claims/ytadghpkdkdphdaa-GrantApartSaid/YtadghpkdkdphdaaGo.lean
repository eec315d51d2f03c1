import Derived.Test.YtadghpkdkdphdaaGm
namespace Go.Proofs.Ytadghpkdkdphdaa
open Go Go.Wd
set_option linter.unusedVariables false
set_option linter.unusedSimpArgs false

set_option maxHeartbeats 4000000 in
theorem apart_law {h : Hp} {a : Option Addr} {c : Nat} {l : List C} (g1 : rowAtK h a (encL C.cells l)) (who : Int) :
    CallsH Try.prog 6 [.slice a l.length c, .int .i64 who] h fun v h' => v = .bool true ∧ Fr [] h h' := by
  refine calls_k fun R hR => ?_
  apply warderlaw12_GrantApart.calls
  unfold warderlaw12_GrantApart.P
  refine (alive_spec h).mono ?_
  rintro v h1 ⟨rfl, f1⟩
  have yes := fun h' (f : Fr [] h h') => hR (.bool true) h' ⟨rfl, f⟩
  refine ⟨_, rfl, by simp, fun _ => ?_⟩
  refine ⟨fun h2 => h2 = h1 ∧ l.length ≤ 60, ⟨fun _ => yes _ f1, fun d1 => ⟨fun _ => yes _ f1, fun d2 => ⟨fun _ => yes _ f1, fun d3 => ⟨rfl, by simp only [decide_eq_false_iff_not] at d1; omega⟩⟩⟩⟩, ?_⟩
  rintro h2 ⟨rfl, hn⟩
  refine new_spec.mono ?_
  rintro v h2y ⟨rfl, w2, f2, s2⟩
  refine ⟨_, rfl, ?_⟩
  refine rnew_spec.mono ?_
  rintro v h3 ⟨rfl, r3, f3, s3⟩
  refine ⟨_, rfl, ?_⟩
  have z1 := f1.size
  have w3 := w2.fr f3 (by simp)
  have ne1 : sz h2 ≠ sz h2y := by omega
  have ne2 : sz h2 ≠ sz h2y + 1 := by omega
  have gq : sz h ≤ sz h2 := z1
  have glb : sz h ≤ sz h2y := by omega
  generalize sz h2y + 1 = q2 at *
  generalize sz h2y = lb at *
  generalize sz h2 = q at *
  refine ⟨fun i h4 => ∃ (k : Nat) (L : List G), i = k ∧ k ≤ l.length ∧ GS h4 q L ∧ RS h4 q2 lb L ∧ Inv L ∧ Fr [] h h4, fun i _ => l.length - i.toNat, ⟨0, _, rfl, by omega, w3, r3, Inv.zero, (f1.trans f2).trans f3⟩, ?_⟩
  rintro i h4 ⟨k, L, rfl, hk, w4, r4, v4, f4⟩
  by_cases hkl : k < l.length
  · refine ⟨fun _ => ?_, fun hf => absurd hf (by simp; omega)⟩
    obtain ⟨c, hc⟩ : ∃ c, l[k]? = some c := ⟨_, List.getElem?_eq_getElem hkl⟩
    obtain ⟨b1, o1, rfl, e1⟩ := encL_one (f := C.cells) (m := 6) C.len (g1.fr f4 (by simp)) hc (by omega)
    refine ⟨by omega, by omega, _, _, rfl, ?_⟩
    refine C.rd c (by simpa using e1) ?_
    refine (told_spec w4 r4 v4 ne1 ne2 c).mono ?_
    rintro v h5 ⟨rfl, w5, r5, f5⟩
    refine ⟨_, rfl, ?_⟩
    rw [wrapN hkl (by omega)]
    exact ⟨⟨k + 1, _, rfl, by omega, w5, r5, v4.step w4.len c, f4.later f5 (by simp; omega)⟩, by show l.length - ((k + 1 : Nat) : Int).toNat < l.length - (k : Int).toNat; omega⟩
  refine ⟨fun hf => absurd hf (by simp; omega), fun _ => ?_⟩
  clear r4 r3 w3 w2 f2 f3 s2 s3 ne1 ne2 glb
  rintro h7 rfl
  have fz := Fr.new [] h4 (blk 29 [])
  have k7 := new_at h4 (blk 29 [])
  have w7 := w4.fr fz (by simp)
  have f7 := f4.trans fz
  have z7 := f4.size
  generalize new h4 (blk 29 []) = h7 at *
  refine ⟨fun oa ol oc n i h8 => ∃ j : Nat, i = j ∧ j ≤ 32 ∧ ol = j ∧ n = (((L.take j).filter (goneP who)).length : Nat) ∧ Own h8 29 6 oa j oc (encL G.cells (L.take j)) ∧ (∀ y ∈ foot oa, q < y) ∧ GS h8 q L ∧ Fr [] h h8, fun _ _ _ _ i _ => 32 - i.toNat,
    ⟨0, rfl, by omega, rfl, rfl, ⟨rfl, .inr ⟨_, [], rfl, k7, rfl, by omega⟩⟩, by simpa [foot] using w4.lt, w7, f7⟩, ?_⟩
  rintro oa ol oc n i h8 ⟨j, rfl, hj, rfl, rfl, o8, fo, w8, f8⟩
  have lq4 := w4.lt
  by_cases hj32 : ol < 32
  · refine ⟨fun _ => ?_, fun hf => absurd hf (by simp; omega)⟩
    obtain ⟨x, hx⟩ := w8.ex hj32
    have htake := take_one hx
    refine (get_spec w8 ol).mono ?_
    rw [getG_nat hj32 hx]
    rintro v h9 ⟨rfl, f9⟩
    refine ⟨_, _, _, _, _, _, rfl, ?_⟩
    refine put_local rfl (by simp) ?_
    intro h11 k11 f11 s11
    have f811 := f9.trans f11
    have fr11 := f8.trans f811
    refine G.rd (o := 0) x (fun j hj => by rw [Nat.zero_add]; exact cellAt_of k11 j) ?_
    intro h12 h12e
    refine append_new (h0 := h) (F := []) (o8.fr f811 (by simp)) rfl fr11 (fun y hy => .inr (by have := fo y hy; omega)) rfl rfl h12e (by omega) (by omega) ?_
    intro a' c' h13 o13 f13 g13 l13 t13
    have lq11 := (w8.fr f811 (by simp)).lt
    have hge : ∀ y ∈ foot a', q < y := by
      intro y hy
      rcases t13 with rfl | t13
      · exact fo y hy
      · have := t13 y hy; omega
    have hqa : q ∉ foot oa := fun hq => by have := fo q hq; omega
    have w13 := (w8.fr f811 (by simp)).fr l13 hqa
    have k13 : bk h13 (sz h9) = some (blk 29 x.cells) := l13.at k11 (fun hq => by have := o8.foot_lt _ hq; have := f9.size; omega)
    have o13' : Own h13 29 6 a' (ol + 1) c' (encL G.cells (L.take (ol + 1))) := by
      have e2 : encL G.cells (L.take (ol + 1)) = encL G.cells (L.take ol) ++ x.cells := by rw [htake, encL_append]; simp [encL]
      rw [e2]; exact o13
    have nxt : ∀ n : Int, n = (((L.take ol).filter (goneP who)).length : Nat) + (if goneP who x then 1 else 0) → (∃ j : Nat, IntKind.wrap .i64 ((ol : Int) + 1) = j ∧ j ≤ 32 ∧ ol + 1 = j ∧ n = (((L.take j).filter (goneP who)).length : Nat) ∧ Own h13 29 6 a' j c' (encL G.cells (L.take j)) ∧ (∀ y ∈ foot a', q < y) ∧ GS h13 q L ∧ Fr [] h h13) ∧ 32 - (IntKind.wrap .i64 ((ol : Int) + 1)).toNat < 32 - (ol : Int).toNat := by
      intro n hn
      rw [wrapN hj32 (by omega)]
      refine ⟨⟨ol + 1, rfl, by omega, rfl, ?_, o13', hge, w13, f13⟩, by omega⟩
      rw [hn, htake, List.filter_append]
      by_cases hp : goneP who x <;> simp [hp]
    have hfl : ((L.take ol).filter (goneP who)).length ≤ ol := by
      have := List.length_filter_le (goneP who) (L.take ol)
      simp at this; omega
    have hwn : IntKind.wrap .i64 ((((L.take ol).filter (goneP who)).length : Int) + 1) = (((L.take ol).filter (goneP who)).length : Nat) + 1 := wrapN (n := 32) (by omega) (by omega)
    refine ⟨_, (cellAt_of k13 0).trans rfl, fun c0 => ⟨_, (cellAt_of k13 1).trans rfl, fun c1 => ?_, fun c1 => ⟨_, (cellAt_of k13 3).trans rfl, fun c2 => ?_, fun c2 => nxt _ ?_⟩⟩, fun c0 => nxt _ ?_⟩
    · rw [hwn]; refine nxt _ ?_; simp only [goneP, c0, c1]; simp
    · rw [hwn]; refine nxt _ ?_; simp only [goneP, c0, c1, c2]; simp
    · simp only [goneP, c0, c1, c2]; simp
    · simp only [goneP, c0]; simp
  have : ol = 32 := by omega
  subst this
  refine ⟨fun hf => absurd hf (by simp), fun _ => ?_⟩
  have et : L.take 32 = L := List.take_of_length_le (by rw [w8.len]; exact Nat.le_refl _)
  rw [et] at o8 ⊢
  have hqa : q ∉ foot oa := fun hq => by have := fo q hq; omega
  refine (gone_spec w8 who).mono ?_
  rintro v h14 ⟨a2, c2, rfl, _, _, w14, f14⟩
  refine ⟨_, _, _, rfl, fun hf => absurd hf (by simp), fun _ => ?_⟩
  have row14 := o8.row.fr f14 (fun y hy => by have := fo y hy; simp; omega)
  refine ⟨fun i h15 => ∃ j : Nat, i = j ∧ j ≤ 32 ∧ GS h15 q (goneL who L) ∧ rowAtK h15 oa (encL G.cells L) ∧ Fr [] h h15, fun i _ => 32 - i.toNat, ⟨0, rfl, by omega, w14, row14, f8.later f14 (by simp; omega)⟩, ?_⟩
  rintro i h15 ⟨j, rfl, hj, w15, row15, f15⟩
  by_cases hj32 : j < 32
  · refine ⟨fun _ => ?_, fun hf => absurd hf (by simp; omega)⟩
    obtain ⟨x, hx⟩ := w15.ex hj32
    refine (get_spec w15 j).mono ?_
    rw [getG_nat hj32 hx]
    rintro v h16 ⟨rfl, f16⟩
    refine ⟨_, _, _, _, _, _, rfl, ?_⟩
    refine put_local rfl (by simp) ?_
    intro h18 k18 f18 s18
    have f1518 := f16.trans f18
    have w18 := w15.fr f1518 (by simp)
    have row18 := row15.fr f1518 (by simp)
    have fr18 := f15.trans f1518
    have hgn := gone_none x (List.mem_of_getElem? hx)
    obtain ⟨y, hy⟩ : ∃ y, L[j]? = some y := ⟨_, List.getElem?_eq_getElem (by rw [w8.len]; omega)⟩
    obtain ⟨b3, o3, rfl, e3⟩ := encL_one (f := G.cells) (m := 6) G.len row18 hy (by omega)
    have nxt : (∃ j' : Nat, IntKind.wrap .i64 ((j : Int) + 1) = j' ∧ j' ≤ 32 ∧ GS h18 q (goneL who L) ∧ rowAtK h18 (some ⟨b3, o3, none⟩) (encL G.cells L) ∧ Fr [] h h18) ∧ 32 - (IntKind.wrap .i64 ((j : Int) + 1)).toNat < 32 - (j : Int).toNat := by
      rw [wrapN hj32 (by omega)]
      exact ⟨⟨j + 1, rfl, by omega, w18, row18, fr18⟩, by omega⟩
    refine ⟨fun h19 => h19 = h18, ⟨_, (cellAt_of k18 0).trans rfl, fun c0 => ⟨_, (cellAt_of k18 1).trans rfl, fun c1 => ?_, fun c1 => ⟨_, (cellAt_of k18 3).trans rfl, fun c3 => ?_, fun _ => rfl⟩⟩, fun _ => rfl⟩, ?_⟩
    · simp only [bne_iff_ne] at c0; simp only [beq_iff_eq] at c1; exact absurd c1 (hgn c0).1
    · simp only [bne_iff_ne] at c0; simp only [beq_iff_eq] at c3; exact absurd c3 (hgn c0).2
    rintro h19 rfl
    refine ⟨by omega, by omega, _, _, rfl, _, (e3 1 (by omega)).trans rfl, fun c1 => ⟨by omega, by omega, _, _, rfl, _, (e3 3 (by omega)).trans rfl, fun c3 => ?_, fun _ => nxt⟩, fun _ => nxt⟩
    have hxy : x = y := by
      rcases gone_at hx with ⟨z, hz, hg, _⟩ | ⟨hz, _⟩
      · rw [hy] at hz; cases hz
        simp only [bne_iff_ne] at c1 c3
        simp [goneP, c1, c3] at hg
      · rw [hy] at hz; cases hz; rfl
    subst hxy
    refine G.rd (o := 0) x (fun j hj => by rw [Nat.zero_add]; exact cellAt_of k18 j) ?_
    refine ⟨by omega, by omega, _, _, rfl, ?_⟩
    refine G.rd x (fun j hj => e3 j hj) ?_
    exact ⟨fun hc => absurd hc (by simp [notIf]), fun _ => nxt⟩
  · exact ⟨fun hf => absurd hf (by simp; omega), fun _ => yes _ f15⟩

set_option maxHeartbeats 4000000 in
theorem pages_law {h : Hp} {a : Option Addr} {c : Nat} {l : List C} (g1 : rowAtK h a (encL C.cells l)) (who : Int) :
    CallsH Try.prog 7 [.slice a l.length c, .int .i64 who] h fun v h' => v = .bool true ∧ Fr [] h h' := by
  refine calls_k fun R hR => ?_
  apply warderlaw12_GrantPages.calls
  unfold warderlaw12_GrantPages.P
  refine (alive_spec h).mono ?_
  rintro v h1 ⟨rfl, f1⟩
  have yes := fun h' (f : Fr [] h h') => hR (.bool true) h' ⟨rfl, f⟩
  refine ⟨_, rfl, by simp, fun _ => ⟨fun _ => yes _ f1, fun d1 => ?_⟩⟩
  have hn : l.length ≤ 60 := by simp only [decide_eq_false_iff_not] at d1; omega
  refine new_spec.mono ?_
  rintro v h2 ⟨rfl, w2, f2, s2⟩
  refine ⟨_, rfl, ?_⟩
  refine rnew_spec.mono ?_
  rintro v h3 ⟨rfl, r3, f3, s3⟩
  refine ⟨_, rfl, ?_⟩
  have z1 := f1.size
  have w3 := w2.fr f3 (by simp)
  have ne1 : sz h1 ≠ sz h2 := by omega
  have ne2 : sz h1 ≠ sz h2 + 1 := by omega
  have gq : sz h ≤ sz h1 := z1
  have glb : sz h ≤ sz h2 := by omega
  generalize sz h2 + 1 = q2 at *
  generalize sz h2 = lb at *
  generalize sz h1 = q at *
  refine ⟨fun i h4 => ∃ (k : Nat) (L : List G), i = k ∧ k ≤ l.length ∧ GS h4 q L ∧ RS h4 q2 lb L ∧ Inv L ∧ Fr [] h h4, fun i _ => l.length - i.toNat, ⟨0, _, rfl, by omega, w3, r3, Inv.zero, (f1.trans f2).trans f3⟩, ?_⟩
  rintro i h4 ⟨k, L, rfl, hk, w4, r4, v4, f4⟩
  by_cases hkl : k < l.length
  · refine ⟨fun _ => ?_, fun hf => absurd hf (by simp; omega)⟩
    obtain ⟨c, hc⟩ : ∃ c, l[k]? = some c := ⟨_, List.getElem?_eq_getElem hkl⟩
    obtain ⟨b1, o1, rfl, e1⟩ := encL_one (f := C.cells) (m := 6) C.len (g1.fr f4 (by simp)) hc (by omega)
    refine ⟨by omega, by omega, _, _, rfl, ?_⟩
    refine C.rd c (by simpa using e1) ?_
    refine (told_spec w4 r4 v4 ne1 ne2 c).mono ?_
    rintro v h5 ⟨rfl, w5, r5, f5⟩
    refine ⟨_, rfl, ?_⟩
    rw [wrapN hkl (by omega)]
    exact ⟨⟨k + 1, _, rfl, by omega, w5, r5, v4.step w4.len c, f4.later f5 (by simp; omega)⟩, by show l.length - ((k + 1 : Nat) : Int).toNat < l.length - (k : Int).toNat; omega⟩
  refine ⟨fun hf => absurd hf (by simp; omega), fun _ => ?_⟩
  clear r4 r3 w3 w2 f2 f3 s2 s3 ne1 ne2 glb
  have row : ∀ (j : Nat), j < 32 → ∃ x, L[j]? = some x := fun j hj => w4.ex hj
  refine ⟨fun i h6 => ∃ j : Nat, i = j ∧ j ≤ 32 ∧ GS h6 q L ∧ Fr [] h h6, fun i _ => 32 - i.toNat, ⟨0, rfl, by omega, w4, f4⟩, ?_⟩
  rintro i h6 ⟨ja, rfl, hja, w6, f6⟩
  by_cases ha32 : ja < 32
  · refine ⟨fun _ => ?_, fun hf => absurd hf (by simp; omega)⟩
    obtain ⟨x, hx⟩ := w6.ex ha32
    refine (get_spec w6 ja).mono ?_
    rw [getG_nat ha32 hx]
    rintro v h7 ⟨rfl, f7⟩
    refine ⟨_, _, _, _, _, _, rfl, ?_⟩
    refine put_local rfl (by simp) ?_
    intro h9 k9 f9 s9
    have f69 := f7.trans f9
    have w9 := w6.fr f69 (by simp)
    have fr9 := f6.trans f69
    generalize sz h7 = xa at *
    rw [wrapN ha32 (by omega)]
    refine ⟨fun i h10 => ∃ j : Nat, i = j ∧ j ≤ 32 ∧ ja < j ∧ GS h10 q L ∧ bk h10 xa = some (blk 29 x.cells) ∧ Fr [] h h10, fun i _ => 32 - i.toNat, ⟨ja + 1, rfl, by omega, by omega, w9, k9, fr9⟩, ?_⟩
    rintro i h10 ⟨jb, rfl, hjb, hlt, w10, k10, f10⟩
    have e0 := (cellAt_of k10 0).trans rfl
    have e3 := (cellAt_of k10 3).trans rfl
    have e4 := (cellAt_of k10 4).trans rfl
    by_cases hb32 : jb < 32
    · refine ⟨fun _ => ?_, fun hf => absurd hf (by simp; omega)⟩
      obtain ⟨y, hy⟩ := w10.ex hb32
      refine (get_spec w10 jb).mono ?_
      rw [getG_nat hb32 hy]
      rintro v h11 ⟨rfl, f11⟩
      refine ⟨_, _, _, _, _, _, rfl, ?_⟩
      refine put_local rfl (by simp) ?_
      intro h13 k13 f13 s13
      have f1013 := f11.trans f13
      have w13 := w10.fr f1013 (by simp)
      have kx13 := f1013.at k10 (by simp)
      have fr13 := f10.trans f1013
      generalize sz h11 = ya at *
      have nxt : (∃ j : Nat, IntKind.wrap .i64 ((jb : Int) + 1) = j ∧ j ≤ 32 ∧ ja < j ∧ GS h13 q L ∧ bk h13 xa = some (blk 29 x.cells) ∧ Fr [] h h13) ∧ 32 - (IntKind.wrap .i64 ((jb : Int) + 1)).toNat < 32 - (jb : Int).toNat := by
        rw [wrapN hb32 (by omega)]
        exact ⟨⟨jb + 1, rfl, by omega, by omega, w13, kx13, fr13⟩, by omega⟩
      have xc : ∀ j, cellAt h13 xa j = x.cells[j]? := cellAt_of kx13
      have yc : ∀ j, cellAt h13 ya j = y.cells[j]? := cellAt_of k13
      have hlike : x.state ≠ 0 → y.state ≠ 0 → x.owner = y.owner → x.frame = y.frame → x.to = y.to → False := fun a1 a2 a3 a4 a5 => by
        have := v4.like ja jb x y hx hy a1 a2 a3 a4 a5; omega
      have hpage : x.state = 2 → y.state = 2 → x.to = y.to → x.page = y.page → False := fun a1 a2 a3 a4 => by
        have := v4.page ja jb x y hx hy a1 a2 a3 a4; omega
      have pg : (x.state == 2) = true → (y.state == 2) = true → (x.to == y.to) = true → (x.page == y.page) = true → False := fun a1 a2 a3 a4 => hpage (by simpa using a1) (by simpa using a2) (by simpa using a3) (by simpa using a4)
      refine ⟨fun h14 => h14 = h13 ∧ x.state ≠ 0 ∧ y.state ≠ 0, ⟨_, (xc 0).trans rfl, fun _ => nxt, fun c0 => ⟨_, (yc 0).trans rfl, fun _ => nxt, fun c1 => ⟨rfl, by simpa using c0, by simpa using c1⟩⟩⟩, ?_⟩
      rintro h14 ⟨rfl, hs1, hs2⟩
      refine ⟨_, (xc 1).trans rfl, _, (yc 1).trans rfl, fun c1 => ⟨_, (xc 2).trans rfl, _, (yc 2).trans rfl, fun c2 => ⟨_, (xc 3).trans rfl, _, (yc 3).trans rfl, fun c3 => (hlike hs1 hs2 (by simpa using c1) (by simpa using c2) (by simpa using c3)).elim, fun c3 => ?_⟩, fun c2 => ?_⟩, fun c1 => ?_⟩
      all_goals exact ⟨_, (xc 0).trans rfl, fun s1 => ⟨_, (yc 0).trans rfl, fun s2 => ⟨_, (xc 3).trans rfl, _, (yc 3).trans rfl, fun s3 => ⟨_, (xc 4).trans rfl, _, (yc 4).trans rfl, fun s4 => (pg s1 s2 s3 s4).elim, fun _ => nxt⟩, fun _ => nxt⟩, fun _ => nxt⟩, fun _ => nxt⟩
    · refine ⟨fun hf => absurd hf (by simp; omega), fun _ => ?_⟩
      have nxt : ∀ h11, Fr [] h10 h11 → (∃ j : Nat, ((ja + 1 : Nat) : Int) = j ∧ j ≤ 32 ∧ GS h11 q L ∧ Fr [] h h11) ∧ 32 - ((ja + 1 : Nat) : Int).toNat < 32 - (ja : Int).toNat := by
        intro h11 f11
        exact ⟨⟨ja + 1, rfl, by omega, w10.fr f11 (by simp), f10.trans f11⟩, by omega⟩
      refine ⟨_, e0, fun c0 => ⟨_, e3, fun c3 => ⟨_, e4, ?_⟩, fun _ => nxt _ (Fr.refl _ _)⟩, fun _ => nxt _ (Fr.refl _ _)⟩
      refine (At_spec w10 who x.page).mono ?_
      have m2 := (v4.may hx (by simpa using c0)).2
      rw [show x.to = who by simpa using c3] at m2
      rw [m2]
      rintro v h15 ⟨rfl, f15⟩
      exact ⟨_, rfl, fun hc => absurd hc (by simp), fun _ => nxt _ f15⟩
  · exact ⟨fun hf => absurd hf (by simp; omega), fun _ => yes _ f6⟩
end Go.Proofs.Ytadghpkdkdphdaa
