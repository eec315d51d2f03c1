import Derived.Test.YtdcbapbpamekkaaTh
import Derived.Test.YtdcbapbpamekkaaWdRow
namespace Go.Proofs.Ytdcbapbpamekkaa
open Go Go.Wd
set_option linter.unusedVariables false
set_option linter.unusedSimpArgs false

/-! ## two that are told the same -/
theorem drop_filter (f : S → Bool) : ∀ L : List (Option S), (dropL f L).filterMap id = (L.filterMap id).filter fun s => !f s
  | [] => rfl
  | none :: L => by
    have := drop_filter f L
    simpa [dropL, gone] using this
  | some s :: L => by
    have := drop_filter f L
    unfold dropL at this ⊢
    rw [List.map_cons]
    cases hf : f s with
    | true =>
      rw [show gone f (some s) = none by simp [gone, hf]]
      simp only [List.filterMap_cons_none (f := id) (a := none) rfl, List.filterMap_cons_some (f := id) (a := some s) (b := s) rfl, List.filter_cons, hf, Bool.not_true, Bool.false_eq_true, if_false]
      exact this
    | false =>
      rw [show gone f (some s) = some s by simp [gone, hf]]
      simp only [List.filterMap_cons_some (f := id) (a := some s) (b := s) rfl, List.filter_cons, hf, Bool.not_false, if_true]
      rw [this]
theorem drop_count (f : S → Bool) : ∀ L : List (Option S), dropN f L + ((L.filterMap id).filter fun s => !f s).length = (L.filterMap id).length
  | [] => rfl
  | none :: L => by
    have := drop_count f L
    simpa [dropN, hit] using this
  | some s :: L => by
    have := drop_count f L
    unfold dropN at this ⊢
    cases hf : f s with
    | true =>
      simp only [List.countP_cons, hit, hf, List.filterMap_cons_some (f := id) (a := some s) (b := s) rfl, List.filter_cons, Bool.not_true, Bool.false_eq_true, if_false, List.length_cons, if_true]
      have h2 : List.countP (hit f) L = L.countP (hit f) := rfl
      omega
    | false =>
      simp only [List.countP_cons, hit, hf, List.filterMap_cons_some (f := id) (a := some s) (b := s) rfl, List.filter_cons, Bool.not_false, Bool.false_eq_true, if_false, List.length_cons, if_true]
      omega
structure Two (h0 h : Hp) (q pl mp q2 pl2 mp2 : Nat) (L : List (Option S)) (nx : Nat) (L2 : List (Option S)) (nx2 : Nat) : Prop where
  t : TS h q pl mp L nx
  u : TS h q2 pl2 mp2 L2 nx2
  g : ∀ x ∈ [q, pl, mp], sz h0 ≤ x
  g2 : ∀ x ∈ [q2, pl2, mp2], sz h0 ≤ x
  dis : ∀ x ∈ [q, pl, mp], x ∉ [q2, pl2, mp2]
  f : Fr [] h0 h
theorem TS.apart {h h' : Hp} {q pl mp q2 pl2 mp2 : Nat} {L L2 : List (Option S)} {nx nx2 : Nat} (t : TS h q pl mp L nx) (u : TS h q2 pl2 mp2 L2 nx2) (k : Fr [q2, pl2, mp2] h h') (hd : ∀ x ∈ [q, pl, mp], x ∉ [q2, pl2, mp2]) : TS h' q pl mp L nx := by
  refine t.fr k (hd _ (by simp)) (hd _ (by simp)) (hd _ (by simp)) ?_
  intro x hx T l hb
  simp only [List.mem_cons, List.not_mem_nil, or_false] at hx
  obtain ⟨A, hA, _⟩ := u.hpl
  obtain ⟨M, c, hM, _⟩ := u.hmp
  rcases hx with rfl | rfl | rfl
  · rw [u.hq] at hb; cases hb; decide
  · rw [hA] at hb; cases hb; decide
  · rw [hM] at hb; cases hb
section
variable {h0 h h' : Hp} {q pl mp q2 pl2 mp2 : Nat} {L L' L2 L2' : List (Option S)} {nx nx' nx2 nx2' : Nat}
theorem Two.fr0 (w : Two h0 h q pl mp q2 pl2 mp2 L nx L2 nx2) (k : Fr [] h h') : Two h0 h' q pl mp q2 pl2 mp2 L nx L2 nx2 := ⟨w.t.fr0 k, w.u.fr0 k, w.g, w.g2, w.dis, w.f.trans k⟩
theorem Two.one (w : Two h0 h q pl mp q2 pl2 mp2 L nx L2 nx2) (t' : TS h' q pl mp L' nx') {F : List Nat} (k : Fr F h h') (hF : F ⊆ [q, pl, mp]) : Two h0 h' q pl mp q2 pl2 mp2 L' nx' L2 nx2 :=
  ⟨t', w.u.apart w.t (k.sub hF) (fun x hx hm => w.dis x hm hx), w.g, w.g2, w.dis, w.f.later (k.sub hF) w.g⟩
theorem Two.other (w : Two h0 h q pl mp q2 pl2 mp2 L nx L2 nx2) (u' : TS h' q2 pl2 mp2 L2' nx2') {F : List Nat} (k : Fr F h h') (hF : F ⊆ [q2, pl2, mp2]) : Two h0 h' q pl mp q2 pl2 mp2 L nx L2' nx2' :=
  ⟨w.t.apart w.u (k.sub hF) w.dis, u', w.g, w.g2, w.dis, w.f.later (k.sub hF) w.g2⟩
end
def keptOf (f : S → Bool) (l : List S) (k : Nat) : List S := (l.take k).filter fun s => !f s
theorem kept_step {f : S → Bool} {l : List S} {k : Nat} {s : S} (hs : l[k]? = some s) : keptOf f l (k + 1) = keptOf f l k ++ if f s then [] else [s] := by
  unfold keptOf
  rw [List.take_add_one, hs, List.filter_append]
  cases hf : f s <;> simp [hf]
theorem kept_le (f : S → Bool) (l : List S) (k : Nat) : (keptOf f l k).length ≤ k := by
  have h1 := List.length_filter_le (fun s => !f s) (l.take k)
  unfold keptOf
  rw [List.length_take] at h1; omega

set_option maxHeartbeats 4000000 in
theorem apart_law {h : Hp} (room : Int) {a : Option Addr} {c : Nat} {cs : List Cl} (g : rowAtK h a (encL Cl.cells cs)) (n : Int) :
    CallsH Try.prog 3 [.int .i64 room, .slice a cs.length c, .int .i64 n] h fun v h' => v = .bool true ∧ Fr [] h h' := by
  refine calls_k fun R hR => ?_
  apply warderlaw09_TlbApart.calls
  unfold warderlaw09_TlbApart.P
  refine (alive_spec h).mono ?_
  rintro _ h1 ⟨rfl, f1⟩
  refine ⟨_, rfl, fun hn => (by cases hn), fun _ => ?_⟩
  refine ⟨fun h2 => h2 = h1 ∧ cs.length ≤ 100 ∧ 1 ≤ room ∧ room ≤ 64, ⟨fun _ => hR _ _ ⟨rfl, f1⟩, fun c1 => ⟨fun _ => hR _ _ ⟨rfl, f1⟩, fun c2 => ⟨fun _ => hR _ _ ⟨rfl, f1⟩, fun c3 => ⟨rfl, ?_, ?_, ?_⟩⟩⟩⟩, ?_⟩
  · simp only [decide_eq_false_iff_not] at c1; omega
  · simp only [decide_eq_false_iff_not] at c2; omega
  · simp only [decide_eq_false_iff_not] at c3; omega
  rintro h2 ⟨rfl, hlen, hr1, hr2⟩
  refine (New_spec room).mono ?_
  rintro _ h3 ⟨f2, ⟨hn, rfl⟩ | ⟨_, _, rfl, w3⟩⟩
  · omega
  refine ⟨_, _, rfl, ?_⟩
  refine (New_spec room).mono ?_
  rintro _ h4 ⟨f3, ⟨hn, rfl⟩ | ⟨_, _, rfl, w4⟩⟩
  · omega
  refine ⟨_, _, rfl, fun h5 => h5 = h4, ⟨fun hn => (by cases hn), fun _ => ⟨fun hn => (by cases hn), fun _ => ⟨fun hn => (by cases hn), fun _ => ⟨fun hn => (by cases hn), fun _ => rfl⟩⟩⟩⟩, ?_⟩
  rintro h5 rfl
  have z1 := f1.size
  have z3 := w3.lq
  have z3' := w3.lpl
  have z3'' := w3.lmp
  have st5 : Two h h5 (sz h2 + 2) (sz h2) (sz h2 + 1) (sz h3 + 2) (sz h3) (sz h3 + 1) (List.replicate room.toNat none) 0 (List.replicate room.toNat none) 0 := ⟨w3.fr0 f3, w4, by simp; omega, by simp; omega, by simp; omega, (f1.trans f2).trans f3⟩
  clear w3 w4 f3 f2 f1 z1 z3 z3' z3''
  generalize sz h3 + 2 = q2 at *
  generalize sz h3 + 1 = mp2 at *
  generalize sz h3 = pl2 at *
  generalize sz h2 + 2 = q at *
  generalize sz h2 + 1 = mp at *
  generalize sz h2 = pl at *
  refine ⟨fun i h6 => ∃ (k : Nat) (L : List (Option S)) (nx : Nat), i = k ∧ k ≤ cs.length ∧ Two h h6 q pl mp q2 pl2 mp2 L nx L nx, fun i _ => cs.length - i.toNat, ⟨0, _, _, rfl, by omega, st5⟩, ?_⟩
  clear st5
  rintro i h6 ⟨k, L, nx, rfl, hk, st⟩
  refine ⟨fun hc => ?_, fun hc => ?_⟩
  · have hk : k < cs.length := by simpa using hc
    obtain ⟨x, hx⟩ : ∃ o, cs[k]? = some o := ⟨_, List.getElem?_eq_getElem hk⟩
    rw [wrapN hk (by omega)]
    simp only [Int.toNat_natCast]
    obtain ⟨b, o, rfl, e⟩ := encL_one Cl.len (g.fr st.f (by simp)) hx (by decide)
    refine ⟨by omega, by omega, _, _, rfl, x.what, e 0 (by decide), fun _ => ?_, fun _ => ⟨⟨k + 1, L, nx, rfl, by omega, st⟩, decM hk⟩⟩
    refine ⟨by omega, by omega, _, _, rfl, x.s.vm, e 1 (by decide), x.s.pg, e 2 (by decide), x.s.fr, e 3 (by decide), x.s.wr, e 4 (by decide), x.s.ex, e 5 (by decide), ?_⟩
    refine (Fill_spec st.t x.s).mono ?_
    rintro _ h7 ⟨rfl, w7, f7⟩
    have st7 := st.one w7 f7 (by simp)
    obtain ⟨b', o', eb, e'⟩ := encL_one Cl.len (g.fr st7.f (by simp)) hx (by decide)
    cases eb
    refine ⟨rfl, by omega, by omega, _, _, rfl, x.s.vm, e' 1 (by decide), x.s.pg, e' 2 (by decide), x.s.fr, e' 3 (by decide), x.s.wr, e' 4 (by decide), x.s.ex, e' 5 (by decide), ?_⟩
    refine (Fill_spec st7.u x.s).mono ?_
    rintro _ h8 ⟨rfl, w8, f8⟩
    exact ⟨rfl, ⟨k + 1, _, _, rfl, by omega, st7.other w8 f8 (by simp)⟩, decM hk⟩
  have hpos := st.t.pos
  have hle := filter_le L
  refine (List_spec st.t).mono ?_
  rintro _ h9 ⟨la, lc, rfl, o9, fa9, f9⟩
  have st9 := st.fr0 f9
  refine ⟨_, _, _, rfl, ?_⟩
  refine (DropAll_spec st9.t n).mono ?_
  rintro _ h10 ⟨rfl, w10, f10⟩
  have sub : ∀ {x y z : Nat}, [y, z] ⊆ [x, y, z] := by intro x y z; simp
  have st10 := st9.one w10 f10 sub
  refine ⟨_, rfl, ?_⟩
  refine (DropFrame_spec st10.u n).mono ?_
  rintro _ h11 ⟨rfl, w11, f11⟩
  have st11 := st10.other w11 f11 sub
  refine ⟨_, rfl, ?_⟩
  have hrow : Own h11 29 5 la (L.filterMap id).length lc (encL S.cells (L.filterMap id)) := by
    have g1 : ∀ x ∈ foot la, x ∉ [pl, mp] := by
      intro x hx hm
      have h1 := fa9 x hx
      have l1 := st.t.lpl
      have l2 := st.t.lmp
      simp only [List.mem_cons, List.not_mem_nil, or_false] at hm
      rcases hm with rfl | rfl <;> omega
    have g2 : ∀ x ∈ foot la, x ∉ [pl2, mp2] := by
      intro x hx hm
      have h1 := fa9 x hx
      have l1 := st.u.lpl
      have l2 := st.u.lmp
      simp only [List.mem_cons, List.not_mem_nil, or_false] at hm
      rcases hm with rfl | rfl <;> omega
    exact (o9.fr f10 g1).fr f11 g2
  clear f9 f10 f11 o9 fa9
  intro h12 e12
  have b12 : bk h12 (sz h11) = some (blk 29 []) := by rw [e12]; exact new_at _ _
  have s12 : sz h12 = sz h11 + 1 := by rw [e12]; exact sz_new _ _
  have f12 : Fr [] h11 h12 := by rw [e12]; exact Fr.new _ _ _
  clear e12
  intro h13 e13
  have b13 : bk h13 (sz h12) = some (blk 29 []) := by rw [e13]; exact new_at _ _
  have f13 : Fr [] h12 h13 := by rw [e13]; exact Fr.new _ _ _
  clear e13
  have oo : ∀ {b : Nat}, bk h13 b = some (blk 29 []) → Own h13 29 5 (some ⟨b, 0, none⟩) 0 0 (encL S.cells []) := fun hb => ⟨rfl, .inr ⟨_, [], rfl, hb, rfl, Nat.le_refl _⟩⟩
  have hrow13 := (hrow.fr f12 (by simp)).fr f13 (by simp)
  generalize hl : L.filterMap id = l at *
  refine ⟨fun la1 ll1 lc1 oa ol oc i h14 => ∃ k : Nat, i = k ∧ k ≤ l.length ∧ ll1 = (keptOf (fun s => s.vm == n) l k).length ∧ ol = (keptOf (fun s => s.fr == n) l k).length ∧
    Own h14 29 5 la1 ll1 lc1 (encL S.cells (keptOf (fun s => s.vm == n) l k)) ∧ Own h14 29 5 oa ol oc (encL S.cells (keptOf (fun s => s.fr == n) l k)) ∧ (∀ x ∈ foot la1, sz h11 ≤ x) ∧ (∀ x ∈ foot oa, sz h11 ≤ x) ∧ (∀ x ∈ foot la1, x ∉ foot oa) ∧ Fr [] h11 h14,
    fun _ _ _ _ _ _ i _ => l.length - i.toNat, ⟨0, rfl, by omega, rfl, rfl, oo (f13.at b12 (by simp)), oo b13, by simp [foot], by simp [foot]; omega, by simp [foot]; omega, f12.trans f13⟩, ?_⟩
  rintro la1 ll1 lc1 oa ol oc i h14 ⟨k, rfl, hk, rfl, rfl, ow1, ow2, fo1, fo2, dis, f14⟩
  have hrow14 := hrow.fr f14 (by simp)
  have k1 := kept_le (fun s => s.vm == n) l k
  have k2 := kept_le (fun s => s.fr == n) l k
  refine ⟨fun hc => ?_, fun hc => ?_⟩
  · have hk : k < l.length := by simpa using hc
    obtain ⟨s, hs⟩ : ∃ o, l[k]? = some o := ⟨_, List.getElem?_eq_getElem hk⟩
    have st1 := kept_step (f := fun s => s.vm == n) hs
    have st2 := kept_step (f := fun s => s.fr == n) hs
    rw [wrapN hk (by omega)]
    simp only [Int.toNat_natCast]
    obtain ⟨b, o, rfl, e⟩ := encL_one S.len hrow14.row hs (by decide)
    have tail : ∀ (x y : Option Addr) (z w : Nat) (h17 : Hp), z = (keptOf (fun s => s.vm == n) l (k + 1)).length → Own h17 29 5 x z w (encL S.cells (keptOf (fun s => s.vm == n) l (k + 1))) → (∀ y ∈ foot x, sz h11 ≤ y) → Fr [] h11 h17 →
        Own h17 29 5 oa (keptOf (fun s => s.fr == n) l k).length oc (encL S.cells (keptOf (fun s => s.fr == n) l k)) → (∀ y ∈ foot x, y ∉ foot oa) →
        (0 : Int) ≤ (k : Int) ∧ (k : Int) < ((l.length : Nat) : Int) ∧ ∃ b67 : Nat, ∃ o68 : Nat, (some ⟨b, o, none⟩ : Option Addr) = some ⟨b67, o68, none⟩ ∧
  ∃ Frame69 : Int, cellAt h17 b67 (o68 + k * 5 + 2) = some (.int .i64 Frame69) ∧ ((Frame69 != n) = true → ((0 : Int) ≤ (k : Int) ∧ (k : Int) < ((l.length : Nat) : Int) ∧ ∃ b70 : Nat, ∃ o71 : Nat, (some ⟨b, o, none⟩ : Option Addr) = some ⟨b70, o71, none⟩ ∧
  ∃ x72 : Int, cellAt h17 b70 (o71 + k * 5 + 0) = some (.int .i64 x72) ∧ ∃ x73 : Int, cellAt h17 b70 (o71 + k * 5 + 1) = some (.int .i64 x73) ∧ ∃ x74 : Int, cellAt h17 b70 (o71 + k * 5 + 2) = some (.int .i64 x74) ∧
  ∃ x75 : Bool, cellAt h17 b70 (o71 + k * 5 + 3) = some (.bool x75) ∧ ∃ x76 : Bool, cellAt h17 b70 (o71 + k * 5 + 4) = some (.bool x76) ∧ ∀ h18 : Hp, h18 = new h17 (blk 29 [.int .i64 x72, .int .i64 x73, .int .i64 x74, .bool x75, .bool x76]) →
  appendN h18 29 5 32 [.int .i64 0, .int .i64 0, .int .i64 0, .bool false, .bool false] oa (keptOf (fun s => s.fr == n) l k).length oc (some ⟨sz h17, 0, none⟩) 1 fun a77 l78 c79 h19 => (∃ k' : Nat, ((k + 1 : Nat) : Int) = k' ∧ k' ≤ l.length ∧ z = (keptOf (fun s => s.vm == n) l k').length ∧ l78 = (keptOf (fun s => s.fr == n) l k').length ∧
    Own h19 29 5 x z w (encL S.cells (keptOf (fun s => s.vm == n) l k')) ∧ Own h19 29 5 a77 l78 c79 (encL S.cells (keptOf (fun s => s.fr == n) l k')) ∧ (∀ y ∈ foot x, sz h11 ≤ y) ∧ (∀ y ∈ foot a77, sz h11 ≤ y) ∧ (∀ y ∈ foot x, y ∉ foot a77) ∧ Fr [] h11 h19) ∧
    l.length - ((k + 1 : Nat) : Int).toNat < l.length - (k : Int).toNat)) ∧ ((Frame69 != n) = false → ((∃ k' : Nat, ((k + 1 : Nat) : Int) = k' ∧ k' ≤ l.length ∧ z = (keptOf (fun s => s.vm == n) l k').length ∧ (keptOf (fun s => s.fr == n) l k).length = (keptOf (fun s => s.fr == n) l k').length ∧
    Own h17 29 5 x z w (encL S.cells (keptOf (fun s => s.vm == n) l k')) ∧ Own h17 29 5 oa (keptOf (fun s => s.fr == n) l k).length oc (encL S.cells (keptOf (fun s => s.fr == n) l k')) ∧ (∀ y ∈ foot x, sz h11 ≤ y) ∧ (∀ y ∈ foot oa, sz h11 ≤ y) ∧ (∀ y ∈ foot x, y ∉ foot oa) ∧ Fr [] h11 h17) ∧
    l.length - ((k + 1 : Nat) : Int).toNat < l.length - (k : Int).toNat)) := by
      intro x _ z w h17 hz ox fx f17 oy dx
      obtain ⟨b', o', eb, e'⟩ := encL_one S.len ((hrow.fr f17 (by simp)).row) hs (by decide)
      cases eb
      refine ⟨by omega, by omega, _, _, rfl, s.fr, e' 2 (by decide), fun c1 => ?_, fun c1 => ?_⟩
      · have hf : (s.fr == n) = false := by simpa using c1
        rw [hf] at st2
        simp only [Bool.false_eq_true, if_false] at st2
        refine ⟨by omega, by omega, _, _, rfl, s.vm, e' 0 (by decide), s.pg, e' 1 (by decide), s.fr, e' 2 (by decide), s.wr, e' 3 (by decide), s.ex, e' 4 (by decide), ?_⟩
        intro h18 e18
        refine append_new (h0 := h11) (F := []) oy rfl f17 (fun y hy => .inr (fo2 y hy)) rfl rfl e18 (by omega) (by omega) ?_
        intro a' c' h19 o19 f19 fa19 fy hor
        have ox19 : Own h19 29 5 x z w (encL S.cells (keptOf (fun s => s.vm == n) l (k + 1))) := ox.fr fy dx
        refine ⟨⟨k + 1, rfl, by omega, hz, by rw [st2]; simp, ox19, by rw [st2, encL_append]; exact o19, fx, fun y hy => (fa19 y hy).resolve_left (by simp), fun y hy hm => ?_, f19⟩, decM hk⟩
        rcases hor with rfl | hge
        · exact dx y hy hm
        · have := hge y hm
          have := ox.foot_lt y hy
          omega
      · have hf : (s.fr == n) = true := by simpa using c1
        rw [hf] at st2
        simp only [if_true, List.append_nil] at st2
        exact ⟨⟨k + 1, rfl, by omega, hz, by rw [st2], ox, by rw [st2]; exact oy, fx, fo2, dx, f17⟩, decM hk⟩
    refine ⟨fun x z w h17 => z = (keptOf (fun s => s.vm == n) l (k + 1)).length ∧ Own h17 29 5 x z w (encL S.cells (keptOf (fun s => s.vm == n) l (k + 1))) ∧ (∀ y ∈ foot x, sz h11 ≤ y) ∧ Fr [] h11 h17 ∧
        Own h17 29 5 oa (keptOf (fun s => s.fr == n) l k).length oc (encL S.cells (keptOf (fun s => s.fr == n) l k)) ∧ (∀ y ∈ foot x, y ∉ foot oa), ⟨by omega, by omega, _, _, rfl, s.vm, e 0 (by decide), fun c1 => ?_, fun c1 => ?_⟩, ?_⟩
    · have hf : (s.vm == n) = false := by simpa using c1
      rw [hf] at st1
      simp only [Bool.false_eq_true, if_false] at st1
      refine ⟨by omega, by omega, _, _, rfl, s.vm, e 0 (by decide), s.pg, e 1 (by decide), s.fr, e 2 (by decide), s.wr, e 3 (by decide), s.ex, e 4 (by decide), ?_⟩
      intro h15 e15
      refine append_new (h0 := h11) (F := []) ow1 rfl f14 (fun y hy => .inr (fo1 y hy)) rfl rfl e15 (by omega) (by omega) ?_
      intro a' c' h16 o16 f16 fa16 fy hor
      refine ⟨by rw [st1]; simp, by rw [st1, encL_append]; exact o16, fun y hy => (fa16 y hy).resolve_left (by simp), f16, ow2.fr fy (fun y hy hm => dis y hm hy), fun y hy hm => ?_⟩
      rcases hor with rfl | hge
      · exact dis y hy hm
      · have := hge y hy
        have := ow2.foot_lt y hm
        omega
    · have hf : (s.vm == n) = true := by simpa using c1
      rw [hf] at st1
      simp only [if_true, List.append_nil] at st1
      exact ⟨by rw [st1], by rw [st1]; exact ow1, fo1, f14, ow2, dis⟩
    · rintro x z w h17 ⟨hz, ox, fx, f17, oy, dx⟩
      exact tail x x z w h17 hz ox fx f17 oy dx
  · have hk : k = l.length := by have : ¬ k < l.length := by simpa using hc
                                 omega
    subst hk
    have t1 : keptOf (fun s => s.vm == n) l l.length = l.filter fun s => !(s.vm == n) := by unfold keptOf; rw [List.take_length]
    have t2 : keptOf (fun s => s.fr == n) l l.length = l.filter fun s => !(s.fr == n) := by unfold keptOf; rw [List.take_length]
    have n1 := drop_count (fun s => s.vm == n) L
    have n2 := drop_count (fun s => s.fr == n) L
    have m1 := drop_filter (fun s => s.vm == n) L
    have m2 := drop_filter (fun s => s.fr == n) L
    rw [hl] at n1 n2 m1 m2
    rw [← t1] at n1 m1
    rw [← t2] at n2 m2
    have st14 := st11.fr0 f14
    refine ⟨fun _ => ⟨fun _ => ?_, fun hn => ?_⟩, fun hn => ?_⟩
    · refine (List_spec st14.t).mono ?_
      rintro _ h20 ⟨a20, c20, rfl, o20, fa20, f20⟩
      refine ⟨_, _, _, rfl, ?_⟩
      rw [m1] at o20 ⊢
      refine (alike_spec o20.row ((ow1.fr f20 (by simp)).row) (by omega)).mono ?_
      rintro _ h21 ⟨rfl, rfl⟩
      refine ⟨_, rfl, fun _ => ?_, fun hn => (by cases hn)⟩
      have st20 := st14.fr0 f20
      refine (List_spec st20.u).mono ?_
      rintro _ h22 ⟨a22, c22, rfl, o22, fa22, f22⟩
      refine ⟨_, _, _, rfl, ?_⟩
      rw [m2] at o22 ⊢
      refine (alike_spec o22.row (((ow2.fr f20 (by simp)).fr f22 (by simp)).row) (by omega)).mono ?_
      rintro _ h23 ⟨rfl, rfl⟩
      exact ⟨_, rfl, hR _ _ ⟨rfl, (st20.fr0 f22).f⟩⟩
    · exfalso
      rw [wrap_i64 (by omega) (by omega)] at hn
      simp only [beq_eq_false_iff_ne, ne_eq] at hn
      omega
    · exfalso
      rw [wrap_i64 (by omega) (by omega)] at hn
      simp only [beq_eq_false_iff_ne, ne_eq] at hn
      omega
theorem rows_c {rows : List (List Value)} (hw : ∀ r ∈ rows, wfCells [.int .i64, .int .i64, .int .i64, .int .i64, .bool, .bool] r) : ∃ l : List Cl, rows.length = l.length ∧ rows.flatten = encL Cl.cells l := by
  obtain ⟨l, h1, h2, _⟩ := rows_enc (f := Cl.cells) (ok := fun _ => True) (rows := rows) (fun r hr => by
    obtain ⟨v1, r, rfl, h1, h⟩ := wfCells_cons (hw r hr)
    obtain ⟨v2, r, rfl, h2, h⟩ := wfCells_cons h
    obtain ⟨v3, r, rfl, h3, h⟩ := wfCells_cons h
    obtain ⟨v4, r, rfl, h4, h⟩ := wfCells_cons h
    obtain ⟨v5, r, rfl, h5, h⟩ := wfCells_cons h
    obtain ⟨v6, r, rfl, h6, h⟩ := wfCells_cons h
    obtain rfl := wfCells_nil h
    obtain ⟨b1, rfl, _, _⟩ := wfInt h1
    obtain ⟨b2, rfl, _, _⟩ := wfInt h2
    obtain ⟨b3, rfl, _, _⟩ := wfInt h3
    obtain ⟨b4, rfl, _, _⟩ := wfInt h4
    obtain ⟨b5, rfl⟩ := wfBool h5
    obtain ⟨b6, rfl⟩ := wfBool h6
    exact ⟨⟨b1, ⟨b2, b3, b4, b5, b6⟩⟩, rfl, trivial⟩)
  exact ⟨l, h1, h2⟩
end Go.Proofs.Ytdcbapbpamekkaa
