import Derived.Test.YtmocndbebknbgaaYe
namespace Go.Proofs.Ytmocndbebknbgaa
open Go Go.Wd
set_option linter.unusedVariables false
set_option linter.unusedSimpArgs false
set_option linter.unnecessarySimpa false

/-! ## round and round -/
def StepOk (what : Int) (L L' : List Int) : Prop := L'.length = L.length ∧ ∀ (j : Nat) (x y : Int), L[j]? = some x → L'[j]? = some y → y = x ∨ (what = x ∧ y = (x + 1) % 3 ∧ 0 ≤ x ∧ x ≤ 2)
theorem step_set {what : Int} {L : List Int} {k : Nat} {x : Int} (hx : L[k]? = some x) (hw : what = x) (h0 : 0 ≤ x ∧ x ≤ 2) : StepOk what L (L.set k ((x + 1) % 3)) := by
  refine ⟨by simp, fun j y z hy hz => ?_⟩
  rw [List.getElem?_set] at hz
  by_cases e : k = j
  · subst e
    rw [if_pos rfl, if_pos (List.getElem?_eq_some_iff.1 hx).1] at hz
    rw [hx] at hy
    cases hy; cases hz
    exact .inr ⟨hw, rfl, h0⟩
  · rw [if_neg e] at hz
    rw [hy] at hz; cases hz
    exact .inl rfl
theorem step_id (what : Int) (L : List Int) : StepOk what L L := ⟨rfl, fun j x y hx hy => by rw [hx] at hy; cases hy; exact .inl rfl⟩
theorem step_take (L : List Int) : StepOk 0 L (tkL L) := by
  rcases tk_cases L with ⟨k, e0, e1, e2, e3, e4, e5⟩ | ⟨e0, e1, e3, e4, e5⟩
  · rw [e5]; exact step_set e1 rfl (by decide)
  · rw [e5]; exact step_id _ _
theorem step_give (L : List Int) (v : Int) : StepOk 1 L (gvL L v) := by
  unfold gvL
  by_cases c : stO L v = 1
  · rw [if_pos c]
    rcases st_cases L v with ⟨_, e⟩ | ⟨k, x, rfl, hk, hx, e⟩
    · rw [e] at c; cases c
    · rw [show ((k : Int) + 1 - 1).toNat = k by omega]
      rw [e] at c
      subst c
      exact step_set hx rfl (by decide)
  · rw [if_neg c]; exact step_id _ _
theorem drL_all (L : List Int) : drL L L.length = L.map fun x => if x = 2 then 0 else x := by unfold drL; rw [List.take_length, List.drop_length, List.append_nil]
theorem step_drop (L : List Int) : StepOk 2 L (drL L L.length) := by
  refine ⟨drL_len _ _, fun j x y hx hy => ?_⟩
  rw [drL_all, List.getElem?_map, hx] at hy
  simp only [Option.map_some, Option.some.injEq] at hy
  by_cases c : x = 2
  · rw [if_pos c] at hy
    subst c; subst hy
    exact .inr ⟨rfl, by decide, by decide, by decide⟩
  · rw [if_neg c] at hy
    exact .inl hy.symm
theorem decP {n k : Nat} (h : k < n) : n + 1 - (((k + 1 : Nat) : Int) + 1).toNat < n + 1 - ((k : Int) + 1).toNat := by omega
set_option maxHeartbeats 4000000 in
theorem stale_law {h : Hp} (most : Int) {a : Option Addr} {c : Nat} {cs : List Cl} (g : rowAtK h a (encL Cl.cells cs)) :
    CallsH Try.prog 5 [.int .i64 most, .slice a cs.length c] h fun v h' => v = .bool true ∧ Fr [] h h' := by
  refine calls_k fun R hR => ?_
  apply warderlaw13_VmidStale.calls
  unfold warderlaw13_VmidStale.P
  refine (alive_spec h).mono ?_
  rintro _ h1 ⟨rfl, f1⟩
  refine ⟨_, rfl, fun hn => (by cases hn), fun _ => ?_⟩
  refine ⟨fun h2 => h2 = h1 ∧ cs.length ≤ 100 ∧ 1 ≤ most ∧ most ≤ 255, ⟨fun _ => hR _ _ ⟨rfl, f1⟩, fun c1 => ⟨fun _ => hR _ _ ⟨rfl, f1⟩, fun c2 => ⟨fun _ => hR _ _ ⟨rfl, f1⟩, fun c3 => ⟨rfl, ?_, ?_, ?_⟩⟩⟩⟩, ?_⟩
  · simp only [decide_eq_false_iff_not] at c1; omega
  · simp only [decide_eq_false_iff_not] at c2; omega
  · simp only [decide_eq_false_iff_not] at c3; omega
  rintro h2 ⟨hh, hlen, hr1, hr2⟩
  rw [hh]; clear hh h2
  refine (New_spec most).mono ?_
  rintro _ h3 ⟨f2, ⟨hn, rfl⟩ | ⟨_, _, rfl, w3, _⟩⟩
  · omega
  refine ⟨_, _, rfl, fun h4 => h4 = h3, ⟨fun hn => (by cases hn), fun _ => ⟨fun hn => (by cases hn), fun _ => rfl⟩⟩, ?_⟩
  rintro h4 hh
  rw [hh]; clear hh h4
  have z1 := f1.size
  have gq : sz h ≤ sz h1 + 1 := by omega
  have gs : sz h ≤ sz h1 := by omega
  have fr3 := f1.trans f2
  clear f1 f2 z1
  generalize sz h1 + 1 = q at *
  generalize sz h1 = sb at *
  refine ⟨fun i h5 => ∃ (k : Nat) (L : List Int), i = k ∧ k ≤ cs.length ∧ PS h5 54 q sb L ∧ L.length = most.toNat ∧ Fr [] h h5, fun i _ => cs.length - i.toNat, ⟨0, _, rfl, by omega, w3, by simp, fr3⟩, ?_⟩
  clear w3 fr3
  rintro i h5 ⟨k, L, rfl, hk, w5, hL, f5⟩
  refine ⟨fun hc => ?_, fun hc => hR _ _ ⟨rfl, f5⟩⟩
  have hk : k < cs.length := by simpa using hc
  obtain ⟨x, hx⟩ : ∃ o, cs[k]? = some o := ⟨_, List.getElem?_eq_getElem hk⟩
  rw [wrapN hk (by omega)]
  simp only [Int.toNat_natCast]
  have key : ∀ {h7 : Hp}, Fr [] h h7 → ∃ b o, a = some ⟨b, o, none⟩ ∧ cellAt h7 b (o + k * 2) = some (.int .i64 x.what) ∧ cellAt h7 b (o + k * 2 + 1) = some (.int .i64 x.n) := by
    intro h7 f7
    obtain ⟨b', o', eb, e'⟩ := encL_one Cl.len (g.fr f7 (by simp)) hx (by decide)
    exact ⟨b', o', eb, e' 0 (by decide), e' 1 (by decide)⟩
  intro h6 e6
  have b6 : bk h6 (sz h5) = some (blk 3 []) := by rw [e6]; exact new_at _ _
  have f6 : Fr [] h5 h6 := by rw [e6]; exact Fr.new _ _ _
  clear e6
  refine ⟨fun ta tl tc n h7 => ∃ j : Nat, n = (j : Int) + 1 ∧ j ≤ L.length ∧ tl = j ∧ Go.Wd.Own h7 3 1 ta tl tc (encL iN (L.take j)) ∧ (∀ x ∈ foot ta, sz h5 ≤ x) ∧ Fr [] h5 h7, fun _ _ _ n _ => L.length + 1 - n.toNat,
    ⟨0, rfl, by omega, rfl, ⟨rfl, .inr ⟨_, [], rfl, by rw [b6]; rfl, rfl, Nat.le_refl _⟩⟩, by simp [foot], f6⟩, ?_⟩
  clear b6 f6
  rintro ta tl tc n h7 ⟨j, rfl, hj, htl, ow, fo, f7⟩
  rw [htl] at ow ⊢; clear htl tl
  have w7 := w5.fr0 f7
  have hl := w5.len
  refine ⟨fun hc => ?_, fun hc => ?_⟩
  · have hj : j < L.length := by
      have : (j : Int) + 1 ≤ most := of_decide_eq_true hc
      omega
    obtain ⟨y, hy⟩ : ∃ o, L[j]? = some o := ⟨_, List.getElem?_eq_getElem hj⟩
    refine (State_spec w7 ((j : Int) + 1)).mono ?_
    rintro _ h8 ⟨rfl, hh⟩
    rw [hh]; clear hh h8
    have hst : stO L ((j : Int) + 1) = y := by
      rcases st_cases L ((j : Int) + 1) with ⟨c, _⟩ | ⟨j', x', ej, hj', hx', e⟩
      · omega
      · obtain rfl : j = j' := by omega
        rw [hy] at hx'; cases hx'; exact e
    rw [hst]
    refine ⟨_, rfl, ?_⟩
    intro h9 e9
    refine append_new (h0 := h5) (F := []) ow rfl f7 (fun z hz => .inr (fo z hz)) rfl rfl e9 (by omega) (by omega) ?_
    intro a' c' h10 o10 f10 fa10 _ _
    have hw : IntKind.wrap .i64 ((j : Int) + 1 + 1) = ((j + 1 : Nat) : Int) + 1 := by rw [wrap_i64 (by omega) (by omega)]; omega
    rw [hw]
    have et : L.take (j + 1) = L.take j ++ [y] := by rw [List.take_add_one, hy]; rfl
    refine ⟨⟨j + 1, rfl, by omega, rfl, by rw [et, encL_append]; exact o10, fun z hz => (fa10 z hz).resolve_left (by simp), f10⟩, decP hj⟩
  have hj : j = L.length := by
    have : ¬ (j : Int) + 1 ≤ most := by simpa using hc
    omega
  subst hj
  rw [List.take_length] at ow
  have f07 := f5.trans f7
  obtain ⟨b, o, ha, c0, c1⟩ := key f07
  have ge : ∀ z ∈ foot ta, sz h ≤ z := fun z hz => Nat.le_trans f5.size (fo z hz)
  have lsb : sb < sz h5 := w5.ls
  have hsbt : ∀ z ∈ foot ta, z ∉ [sb] := fun z hz hm => by
    have := fo z hz
    simp at hm; omega
  refine ⟨fun h14 => ∃ L', PS h14 54 q sb L' ∧ StepOk x.what L L' ∧ Fr [sb] h7 h14, ⟨by omega, by omega, _, _, ha, _, c0, fun c2 => ?_, fun c2 => ⟨fun c3 => ⟨by omega, by omega, _, _, ha, _, c1, ?_⟩, fun c3 => ⟨fun c4 => ?_, fun c4 => ⟨L, w7, step_id _ _, Fr.refl _ _⟩⟩⟩⟩, ?_⟩
  · have c2 : x.what = 0 := by simpa using c2
    refine (Take_spec w7).mono ?_
    rintro _ h11 ⟨rfl, w11, f11⟩
    exact ⟨_, _, rfl, _, w11, by rw [c2]; exact step_take L, f11⟩
  · have c3 : x.what = 1 := by simpa using c3
    refine (Give_spec w7 x.n).mono ?_
    rintro _ h11 ⟨rfl, w11, f11⟩
    exact ⟨_, rfl, _, w11, by rw [c3]; exact step_give L _, f11⟩
  · have c4 : x.what = 2 := by simpa using c4
    refine (Drop_spec w7).mono ?_
    rintro _ h11 ⟨rfl, w11, f11⟩
    exact ⟨_, rfl, _, w11, by rw [c4]; exact step_drop L, f11⟩
  rintro h14 ⟨L', w14, hst, f14⟩
  have ow14 := ow.fr f14 hsbt
  have f014 : Fr [] h h14 := f07.later f14 (by simpa using gs)
  obtain ⟨hlen', hstep⟩ := hst
  refine ⟨fun n h15 => ∃ j : Nat, n = (j : Int) + 1 ∧ j ≤ L.length ∧ h15 = h14, fun n _ => L.length + 1 - n.toNat, ⟨0, rfl, by omega, rfl⟩, ?_⟩
  rintro n h15 ⟨j, rfl, hj, hh⟩
  rw [hh]; clear hh h15
  refine ⟨fun hc => ?_, fun hc => ⟨⟨k + 1, L', rfl, by omega, w14, by omega, f014⟩, decM hk⟩⟩
  have hj : j < L.length := by
    have : (j : Int) + 1 ≤ most := of_decide_eq_true hc
    omega
  obtain ⟨y, hy⟩ : ∃ o, L[j]? = some o := ⟨_, List.getElem?_eq_getElem hj⟩
  obtain ⟨z, hz⟩ : ∃ o, L'[j]? = some o := ⟨_, List.getElem?_eq_getElem (by omega)⟩
  rw [wrapM hj (by omega)]
  have hrow14 := ow14.row
  obtain ⟨b2, o2, eb2, e2⟩ := encL_one iN_len hrow14 hy (by decide)
  refine ⟨by omega, by omega, _, _, eb2, y, by rw [Int.toNat_natCast]; exact e2 0 (by decide), ?_⟩
  refine (State_spec w14 ((j : Int) + 1)).mono ?_
  rintro _ h16 ⟨rfl, hh⟩
  rw [hh]; clear hh h16
  have hst : stO L' ((j : Int) + 1) = z := by
    rcases st_cases L' ((j : Int) + 1) with ⟨c, _⟩ | ⟨j', x', ej, hj', hx', e⟩
    · omega
    · obtain rfl : j = j' := by omega
      rw [hz] at hx'; cases hx'; exact e
  rw [hst]
  have hw : IntKind.wrap .i64 ((j : Int) + 1 + 1) = ((j + 1 : Nat) : Int) + 1 := by rw [wrap_i64 (by omega) (by omega)]; omega
  rw [hw]
  have hz3 := w14.v.at hz
  obtain ⟨b', o', ha', c0', c1'⟩ := key f014
  have go : (∃ j_1 : Nat, ((j + 1 : Nat) : Int) + 1 = (j_1 : Int) + 1 ∧ j_1 ≤ L.length ∧ h14 = h14) ∧ L.length + 1 - (((j + 1 : Nat) : Int) + 1).toNat < L.length + 1 - ((j : Int) + 1).toNat := ⟨⟨j + 1, rfl, by omega, rfl⟩, by omega⟩
  refine ⟨_, rfl, fun hn => ?_, fun _ => ⟨fun hn => ?_, fun _ => ⟨fun hne => ?_, fun _ => go⟩⟩⟩
  · have hn : z < 0 := of_decide_eq_true hn
    omega
  · have hn : z > 2 := of_decide_eq_true hn
    omega
  · have hne : z ≠ y := by simpa using hne
    rcases hstep j y z hy hz with e | ⟨e1, e2, e3⟩
    · exact absurd e hne
    refine ⟨by omega, by omega, _, _, ha', _, c0', fun hn => ?_, fun _ => ⟨by omega, by omega, _, _, ha', _, c0', fun hn => ?_, fun _ => ⟨by omega, by omega, _, _, ha', _, c0', fun hn => ?_, fun _ => ⟨by decide, fun hn => ?_, fun _ => go⟩⟩⟩⟩
    · have hn : x.what < 0 := of_decide_eq_true hn
      omega
    · have hn : x.what > 2 := of_decide_eq_true hn
      omega
    · have hn : y ≠ x.what := by simpa using hn
      exact absurd e1.symm hn
    · rw [wrap_i64 (by omega) (by omega), tmod_nat (by omega)] at hn
      have hn : z ≠ (y + 1) % 3 := by simpa using hn
      exact absurd e2 hn
end Go.Proofs.Ytmocndbebknbgaa
