import Derived.Test.YtadghpkdkdphdaaGa
namespace Go.Proofs.Ytadghpkdkdphdaa
open Go Go.Wd
set_option linter.unusedVariables false
set_option linter.unusedSimpArgs false

structure GS (h : Hp) (q : Nat) (L : List G) : Prop where
  arr : Arr G.cells 54 h q L []
  len : L.length = 32
theorem GS.fr {h h' : Hp} {q : Nat} {L : List G} (w : GS h q L) {F : List Nat} (k : Fr F h h') (hn : q ∉ F) : GS h' q L := ⟨w.arr.fr k hn, w.len⟩
theorem GS.lt {h : Hp} {q : Nat} {L : List G} (w : GS h q L) : q < sz h := w.arr.lt
theorem GS.ex {h : Hp} {q : Nat} {L : List G} (w : GS h q L) {k : Nat} (hk : k < 32) : ∃ x, L[k]? = some x := ⟨_, List.getElem?_eq_getElem (by rw [w.len]; exact hk)⟩
def noG : G := ⟨0, 0, 0, 0, 0, false⟩

theorem new_spec {h : Hp} : CallsH Try.prog 9 [] h fun v h' => v = .pointer (some ⟨sz h, 0, none⟩) ∧ GS h' (sz h) (List.replicate 32 noG) ∧ Fr [] h h' ∧ sz h' = sz h + 1 := by
  apply grant_New.calls
  unfold grant_New.P
  rintro h1 rfl
  exact ⟨rfl, ⟨⟨new_at _ _⟩, by simp⟩, Fr.new _ _ _, sz_new _ _⟩

def isThere (i : Int) : Bool := decide (0 ≤ i) && decide (i < 32)
def isGuest (i : Int) : Bool := decide (2 ≤ i) && decide (i ≤ 9)
theorem there_spec {h : Hp} (i : Int) : CallsH Try.prog 26 [.int .i64 i] h fun v h' => v = .bool (isThere i) ∧ h' = h := by
  apply grant_there.calls
  unfold grant_there.P
  by_cases c : 0 ≤ i
  · have c' : ¬ (i < 0) := by omega
    simp [isThere, c, c']
  · have c' : i < 0 := by omega
    simp [isThere, c, c']
theorem guest_spec {h : Hp} (i : Int) : CallsH Try.prog 23 [.int .i64 i] h fun v h' => v = .bool (isGuest i) ∧ h' = h := by
  apply grant_guest.calls
  unfold grant_guest.P
  by_cases c : 2 ≤ i
  · have c' : ¬ (i < 2) := by omega
    simp [isGuest, c, c']
  · have c' : i < 2 := by omega
    simp [isGuest, c, c']
theorem rguest_spec {h : Hp} (i : Int) : CallsH Try.prog 35 [.int .i64 i] h fun v h' => v = .bool (isGuest i) ∧ h' = h := by
  apply warderref12_guest.calls
  unfold warderref12_guest.P
  by_cases c : 2 ≤ i
  · have c' : ¬ (i < 2) := by omega
    simp [isGuest, c, c']
  · have c' : i < 2 := by omega
    simp [isGuest, c, c']
theorem rid_spec {h : Hp} (i : Int) : CallsH Try.prog 36 [.int .i64 i] h fun v h' => v = .bool (isThere i) ∧ h' = h := by
  apply warderref12_id.calls
  unfold warderref12_id.P
  by_cases c : 0 ≤ i
  · have c' : ¬ (i < 0) := by omega
    simp [isThere, c, c']
  · have c' : i < 0 := by omega
    simp [isThere, c, c']

/-! ## what is looked for -/
def likeP (o f t : Int) (x : G) : Bool := (x.state != 0) && ((x.owner == o) && ((x.frame == f) && (x.to == t)))
def freeP (x : G) : Bool := x.state == 0
def atP (g p : Int) (x : G) : Bool := (x.state == 2) && ((x.to == g) && (x.page == p))
def mayP (g f : Int) (w : Bool) (x : G) : Bool := (x.state == 2) && ((x.to == g) && ((x.frame == f) && (x.write || !w)))

theorem like_spec {h : Hp} (x : G) {o f t : Int} {b0 b1 b2 : Nat} (c0 : cellAt h b0 0 = some (.int .i64 o)) (c1 : cellAt h b1 0 = some (.int .i64 f)) (c2 : cellAt h b2 0 = some (.int .i64 t)) :
    CallsH Try.prog 22 [.agg ⟨x.cells⟩, .pointer (some ⟨b0, 0, none⟩), .pointer (some ⟨b1, 0, none⟩), .pointer (some ⟨b2, 0, none⟩)] h fun v h' => v = .bool (likeP o f t x) ∧ Fr [] h h' := by
  refine calls_k fun R hR => ?_
  apply grant_Grants_Offer_1.calls
  unfold grant_Grants_Offer_1.P
  rintro h1 rfl
  have k1 := new_at h (blk 29 x.cells)
  have f1 : Fr [] h (new h (blk 29 x.cells)) := Fr.new _ _ _
  have d0 := f1.cell c0 (by simp)
  have d1 := f1.cell c1 (by simp)
  have d2 := f1.cell c2 (by simp)
  have hr := fun b e => hR (.bool b) (new h (blk 29 x.cells)) ⟨e, f1⟩
  simp only [likeP] at hr
  simp only [G.cells] at k1 d0 d1 d2 hr f1
  generalize new h (blk 29 [.int .i64 x.state, .int .i64 x.owner, .int .i64 x.frame, .int .i64 x.to, .int .i64 x.page, .bool x.write]) = h1 at *
  by_cases e1 : x.state = 0
  · simp [-Bool.exists_bool, cellAt_of k1, d0, d1, d2, e1]; exact hr _ (by simp [e1])
  by_cases e2 : x.owner = o
  · by_cases e3 : x.frame = f
    · simp [-Bool.exists_bool, cellAt_of k1, d0, d1, d2, e1, e2, e3]; exact hr _ (by simp [e1, e2, e3])
    · simp [-Bool.exists_bool, cellAt_of k1, d0, d1, d2, e1, e2, e3]; exact hr _ (by simp [e1, e2, e3])
  · simp [-Bool.exists_bool, cellAt_of k1, d0, d1, d2, e1, e2]; exact hr _ (by simp [e1, e2])

theorem free_spec {h : Hp} (x : G) : CallsH Try.prog 25 [.agg ⟨x.cells⟩] h fun v h' => v = .bool (freeP x) ∧ Fr [] h h' := by
  apply grant_Grants_Offer_2.calls
  unfold grant_Grants_Offer_2.P
  rintro h1 rfl
  exact ⟨_, by rw [cellAt_of (new_at _ _)]; rfl, rfl, Fr.new _ _ _⟩

theorem at_spec {h : Hp} (x : G) {g p : Int} {b0 b1 : Nat} (c0 : cellAt h b0 0 = some (.int .i64 g)) (c1 : cellAt h b1 0 = some (.int .i64 p)) :
    CallsH Try.prog 32 [.agg ⟨x.cells⟩, .pointer (some ⟨b0, 0, none⟩), .pointer (some ⟨b1, 0, none⟩)] h fun v h' => v = .bool (atP g p x) ∧ Fr [] h h' := by
  refine calls_k fun R hR => ?_
  apply grant_Grants_At_1.calls
  unfold grant_Grants_At_1.P
  rintro h1 rfl
  have k1 := new_at h (blk 29 x.cells)
  have f1 : Fr [] h (new h (blk 29 x.cells)) := Fr.new _ _ _
  have d0 := f1.cell c0 (by simp)
  have d1 := f1.cell c1 (by simp)
  have hr := fun b e => hR (.bool b) (new h (blk 29 x.cells)) ⟨e, f1⟩
  simp only [atP] at hr
  simp only [G.cells] at k1 d0 d1 hr f1
  generalize new h (blk 29 [.int .i64 x.state, .int .i64 x.owner, .int .i64 x.frame, .int .i64 x.to, .int .i64 x.page, .bool x.write]) = h1 at *
  by_cases e1 : x.state = 2
  · by_cases e2 : x.to = g
    · simp [-Bool.exists_bool, cellAt_of k1, d0, d1, e1, e2]; exact hr _ (by simp [e1, e2])
    · simp [-Bool.exists_bool, cellAt_of k1, d0, d1, e1, e2]; exact hr _ (by simp [e1, e2])
  · simp [-Bool.exists_bool, cellAt_of k1, d0, d1, e1]; exact hr _ (by simp [e1])

theorem may_spec {h : Hp} (x : G) {g f : Int} {wr : Bool} {b0 b1 b2 : Nat} (c0 : cellAt h b0 0 = some (.int .i64 g)) (c1 : cellAt h b1 0 = some (.int .i64 f)) (c2 : cellAt h b2 0 = some (.bool wr)) :
    CallsH Try.prog 31 [.agg ⟨x.cells⟩, .pointer (some ⟨b0, 0, none⟩), .pointer (some ⟨b1, 0, none⟩), .pointer (some ⟨b2, 0, none⟩)] h fun v h' => v = .bool (mayP g f wr x) ∧ Fr [] h h' := by
  refine calls_k fun R hR => ?_
  apply grant_Grants_May_1.calls
  unfold grant_Grants_May_1.P
  rintro h1 rfl
  have k1 := new_at h (blk 29 x.cells)
  have f1 : Fr [] h (new h (blk 29 x.cells)) := Fr.new _ _ _
  have d0 := f1.cell c0 (by simp)
  have d1 := f1.cell c1 (by simp)
  have d2 := f1.cell c2 (by simp)
  have hr := fun b e => hR (.bool b) (new h (blk 29 x.cells)) ⟨e, f1⟩
  simp only [mayP] at hr
  simp only [G.cells] at k1 d0 d1 d2 hr f1
  generalize new h (blk 29 [.int .i64 x.state, .int .i64 x.owner, .int .i64 x.frame, .int .i64 x.to, .int .i64 x.page, .bool x.write]) = h1 at *
  by_cases e1 : x.state = 2
  · by_cases e2 : x.to = g
    · by_cases e3 : x.frame = f
      · cases e4 : x.write
        · simp [-Bool.exists_bool, cellAt_of k1, d0, d1, d2, e1, e2, e3, e4] at hr ⊢; exact hr
        · simp [-Bool.exists_bool, cellAt_of k1, d0, d1, d2, e1, e2, e3, e4] at hr ⊢; exact hr
      · simp [-Bool.exists_bool, cellAt_of k1, d0, d1, d2, e1, e2, e3]; exact hr _ (by simp [e1, e2, e3])
    · simp [-Bool.exists_bool, cellAt_of k1, d0, d1, d2, e1, e2]; exact hr _ (by simp [e1, e2])
  · simp [-Bool.exists_bool, cellAt_of k1, d0, d1, d2, e1]; exact hr _ (by simp [e1])


theorem idx22 {h : Hp} {a : Option Addr} {c : Nat} {L : List G} (ha : rowAtK h a (encL G.cells L)) (hl : L.length ≤ 1000) {p : G → Bool} {b0 b1 b2 : Nat} 
    (hc : ∀ (h1 : Hp) (x : G), Fr [] h h1 → CallsH Try.prog 22 [.agg ⟨x.cells⟩, .pointer (some ⟨b0, 0, none⟩), .pointer (some ⟨b1, 0, none⟩), .pointer (some ⟨b2, 0, none⟩)] h1 fun v h' => v = .bool (p x) ∧ Fr [] h1 h') :
    CallsH Try.prog 34 [.slice a L.length c, .func (.func 22) #[] #[.pointer (some ⟨b0, 0, none⟩), .pointer (some ⟨b1, 0, none⟩), .pointer (some ⟨b2, 0, none⟩)]] h fun v h' => v = .int .i64 (idx p L) ∧ Fr [] h h' := by
  refine calls_k fun R hR => ?_
  apply slices_IndexFunc_22.calls
  unfold slices_IndexFunc_22.P
  refine ⟨fun i h1 => ∃ k : Nat, i = k ∧ k ≤ L.length ∧ (∀ j y, j < k → L[j]? = some y → p y = false) ∧ Fr [] h h1, fun i _ => L.length - i.toNat, ⟨0, rfl, by omega, by omega, Fr.refl _ _⟩, ?_⟩
  rintro i h1 ⟨k, rfl, hk, hb, f1⟩
  by_cases hkl : k < L.length
  · refine ⟨fun _ => ?_, fun hf => absurd hf (by simp; omega)⟩
    obtain ⟨x, hx⟩ : ∃ x, L[k]? = some x := ⟨_, List.getElem?_eq_getElem hkl⟩
    obtain ⟨b, o, rfl, e⟩ := encL_one G.len (ha.fr f1 (by simp)) hx (by omega)
    have hwi : IntKind.wrap .i64 ((k : Int) + 1) = ((k + 1 : Nat) : Int) := by rw [wrap_i64 (by omega) (by omega)]; omega
    rw [hwi, Int.toNat_natCast]
    refine ⟨by omega, by omega, b, o, rfl, G.rd x e ?_⟩
    refine (hc h1 x f1).mono ?_
    rintro v h2 ⟨rfl, f2⟩
    refine ⟨_, rfl, fun hp => hR _ _ ⟨?_, f1.trans f2⟩, fun hp => ⟨⟨k + 1, rfl, by omega, fun j y hj hy => ?_, f1.trans f2⟩, by show L.length - ((k + 1 : Nat) : Int).toNat < L.length - (k : Int).toNat; omega⟩⟩
    · rw [idx_at hx hp hb]
    · rcases Nat.lt_or_ge j k with h | h
      · exact hb j y h hy
      · have : j = k := by omega
        subst this; rw [hx] at hy; cases hy; exact hp
  · refine ⟨fun hf => absurd hf (by simp; omega), fun _ => hR _ _ ⟨?_, f1⟩⟩
    rw [idx_none (fun x hx => ?_)]
    obtain ⟨j, hj⟩ := List.mem_iff_getElem?.1 hx
    exact hb j x (by have := (List.getElem?_eq_some_iff.1 hj).1; omega) hj

theorem find22 {h : Hp} {q : Nat} {L : List G} (w : GS h q L) {p : G → Bool} {b0 b1 b2 : Nat} 
    (hc : ∀ (h1 : Hp) (x : G), Fr [] h h1 → CallsH Try.prog 22 [.agg ⟨x.cells⟩, .pointer (some ⟨b0, 0, none⟩), .pointer (some ⟨b1, 0, none⟩), .pointer (some ⟨b2, 0, none⟩)] h1 fun v h' => v = .bool (p x) ∧ Fr [] h1 h') :
    CallsH Try.prog 24 [.pointer (some ⟨q, 0, none⟩), .func (.func 22) #[] #[.pointer (some ⟨b0, 0, none⟩), .pointer (some ⟨b1, 0, none⟩), .pointer (some ⟨b2, 0, none⟩)]] h fun v h' => v = .int .i64 (idx p L) ∧ Fr [] h h' := by
  apply grant_Grants_find_22.calls
  unfold grant_Grants_find_22.P
  have hb : arrBase q 0 ((0 : Int)).toNat (((32 : Nat) : Int)).toNat 6 = some ⟨q, 0, none⟩ := by rfl
  have hl : (((32 : Nat) : Int)).toNat - ((0 : Int)).toNat = L.length := by rw [w.len]; rfl
  rw [hb, hl]
  refine ⟨by simp, by omega, by omega, by omega, by omega, ?_⟩
  refine (idx22 (c := L.length) w.arr.row (by rw [w.len]; omega) hc).mono ?_
  rintro v h' ⟨rfl, f⟩
  exact ⟨_, rfl, rfl, f⟩


theorem idx25 {h : Hp} {a : Option Addr} {c : Nat} {L : List G} (ha : rowAtK h a (encL G.cells L)) (hl : L.length ≤ 1000) {p : G → Bool} 
    (hc : ∀ (h1 : Hp) (x : G), Fr [] h h1 → CallsH Try.prog 25 [.agg ⟨x.cells⟩] h1 fun v h' => v = .bool (p x) ∧ Fr [] h1 h') :
    CallsH Try.prog 34 [.slice a L.length c, .func (.func 25) #[] #[]] h fun v h' => v = .int .i64 (idx p L) ∧ Fr [] h h' := by
  refine calls_k fun R hR => ?_
  apply slices_IndexFunc_25.calls
  unfold slices_IndexFunc_25.P
  refine ⟨fun i h1 => ∃ k : Nat, i = k ∧ k ≤ L.length ∧ (∀ j y, j < k → L[j]? = some y → p y = false) ∧ Fr [] h h1, fun i _ => L.length - i.toNat, ⟨0, rfl, by omega, by omega, Fr.refl _ _⟩, ?_⟩
  rintro i h1 ⟨k, rfl, hk, hb, f1⟩
  by_cases hkl : k < L.length
  · refine ⟨fun _ => ?_, fun hf => absurd hf (by simp; omega)⟩
    obtain ⟨x, hx⟩ : ∃ x, L[k]? = some x := ⟨_, List.getElem?_eq_getElem hkl⟩
    obtain ⟨b, o, rfl, e⟩ := encL_one G.len (ha.fr f1 (by simp)) hx (by omega)
    have hwi : IntKind.wrap .i64 ((k : Int) + 1) = ((k + 1 : Nat) : Int) := by rw [wrap_i64 (by omega) (by omega)]; omega
    rw [hwi, Int.toNat_natCast]
    refine ⟨by omega, by omega, b, o, rfl, G.rd x e ?_⟩
    refine (hc h1 x f1).mono ?_
    rintro v h2 ⟨rfl, f2⟩
    refine ⟨_, rfl, fun hp => hR _ _ ⟨?_, f1.trans f2⟩, fun hp => ⟨⟨k + 1, rfl, by omega, fun j y hj hy => ?_, f1.trans f2⟩, by show L.length - ((k + 1 : Nat) : Int).toNat < L.length - (k : Int).toNat; omega⟩⟩
    · rw [idx_at hx hp hb]
    · rcases Nat.lt_or_ge j k with h | h
      · exact hb j y h hy
      · have : j = k := by omega
        subst this; rw [hx] at hy; cases hy; exact hp
  · refine ⟨fun hf => absurd hf (by simp; omega), fun _ => hR _ _ ⟨?_, f1⟩⟩
    rw [idx_none (fun x hx => ?_)]
    obtain ⟨j, hj⟩ := List.mem_iff_getElem?.1 hx
    exact hb j x (by have := (List.getElem?_eq_some_iff.1 hj).1; omega) hj

theorem find25 {h : Hp} {q : Nat} {L : List G} (w : GS h q L) {p : G → Bool} 
    (hc : ∀ (h1 : Hp) (x : G), Fr [] h h1 → CallsH Try.prog 25 [.agg ⟨x.cells⟩] h1 fun v h' => v = .bool (p x) ∧ Fr [] h1 h') :
    CallsH Try.prog 24 [.pointer (some ⟨q, 0, none⟩), .func (.func 25) #[] #[]] h fun v h' => v = .int .i64 (idx p L) ∧ Fr [] h h' := by
  apply grant_Grants_find_25.calls
  unfold grant_Grants_find_25.P
  have hb : arrBase q 0 ((0 : Int)).toNat (((32 : Nat) : Int)).toNat 6 = some ⟨q, 0, none⟩ := by rfl
  have hl : (((32 : Nat) : Int)).toNat - ((0 : Int)).toNat = L.length := by rw [w.len]; rfl
  rw [hb, hl]
  refine ⟨by simp, by omega, by omega, by omega, by omega, ?_⟩
  refine (idx25 (c := L.length) w.arr.row (by rw [w.len]; omega) hc).mono ?_
  rintro v h' ⟨rfl, f⟩
  exact ⟨_, rfl, rfl, f⟩


theorem idx32 {h : Hp} {a : Option Addr} {c : Nat} {L : List G} (ha : rowAtK h a (encL G.cells L)) (hl : L.length ≤ 1000) {p : G → Bool} {b0 b1 : Nat} 
    (hc : ∀ (h1 : Hp) (x : G), Fr [] h h1 → CallsH Try.prog 32 [.agg ⟨x.cells⟩, .pointer (some ⟨b0, 0, none⟩), .pointer (some ⟨b1, 0, none⟩)] h1 fun v h' => v = .bool (p x) ∧ Fr [] h1 h') :
    CallsH Try.prog 34 [.slice a L.length c, .func (.func 32) #[] #[.pointer (some ⟨b0, 0, none⟩), .pointer (some ⟨b1, 0, none⟩)]] h fun v h' => v = .int .i64 (idx p L) ∧ Fr [] h h' := by
  refine calls_k fun R hR => ?_
  apply slices_IndexFunc_32.calls
  unfold slices_IndexFunc_32.P
  refine ⟨fun i h1 => ∃ k : Nat, i = k ∧ k ≤ L.length ∧ (∀ j y, j < k → L[j]? = some y → p y = false) ∧ Fr [] h h1, fun i _ => L.length - i.toNat, ⟨0, rfl, by omega, by omega, Fr.refl _ _⟩, ?_⟩
  rintro i h1 ⟨k, rfl, hk, hb, f1⟩
  by_cases hkl : k < L.length
  · refine ⟨fun _ => ?_, fun hf => absurd hf (by simp; omega)⟩
    obtain ⟨x, hx⟩ : ∃ x, L[k]? = some x := ⟨_, List.getElem?_eq_getElem hkl⟩
    obtain ⟨b, o, rfl, e⟩ := encL_one G.len (ha.fr f1 (by simp)) hx (by omega)
    have hwi : IntKind.wrap .i64 ((k : Int) + 1) = ((k + 1 : Nat) : Int) := by rw [wrap_i64 (by omega) (by omega)]; omega
    rw [hwi, Int.toNat_natCast]
    refine ⟨by omega, by omega, b, o, rfl, G.rd x e ?_⟩
    refine (hc h1 x f1).mono ?_
    rintro v h2 ⟨rfl, f2⟩
    refine ⟨_, rfl, fun hp => hR _ _ ⟨?_, f1.trans f2⟩, fun hp => ⟨⟨k + 1, rfl, by omega, fun j y hj hy => ?_, f1.trans f2⟩, by show L.length - ((k + 1 : Nat) : Int).toNat < L.length - (k : Int).toNat; omega⟩⟩
    · rw [idx_at hx hp hb]
    · rcases Nat.lt_or_ge j k with h | h
      · exact hb j y h hy
      · have : j = k := by omega
        subst this; rw [hx] at hy; cases hy; exact hp
  · refine ⟨fun hf => absurd hf (by simp; omega), fun _ => hR _ _ ⟨?_, f1⟩⟩
    rw [idx_none (fun x hx => ?_)]
    obtain ⟨j, hj⟩ := List.mem_iff_getElem?.1 hx
    exact hb j x (by have := (List.getElem?_eq_some_iff.1 hj).1; omega) hj

theorem find32 {h : Hp} {q : Nat} {L : List G} (w : GS h q L) {p : G → Bool} {b0 b1 : Nat} 
    (hc : ∀ (h1 : Hp) (x : G), Fr [] h h1 → CallsH Try.prog 32 [.agg ⟨x.cells⟩, .pointer (some ⟨b0, 0, none⟩), .pointer (some ⟨b1, 0, none⟩)] h1 fun v h' => v = .bool (p x) ∧ Fr [] h1 h') :
    CallsH Try.prog 24 [.pointer (some ⟨q, 0, none⟩), .func (.func 32) #[] #[.pointer (some ⟨b0, 0, none⟩), .pointer (some ⟨b1, 0, none⟩)]] h fun v h' => v = .int .i64 (idx p L) ∧ Fr [] h h' := by
  apply grant_Grants_find_32.calls
  unfold grant_Grants_find_32.P
  have hb : arrBase q 0 ((0 : Int)).toNat (((32 : Nat) : Int)).toNat 6 = some ⟨q, 0, none⟩ := by rfl
  have hl : (((32 : Nat) : Int)).toNat - ((0 : Int)).toNat = L.length := by rw [w.len]; rfl
  rw [hb, hl]
  refine ⟨by simp, by omega, by omega, by omega, by omega, ?_⟩
  refine (idx32 (c := L.length) w.arr.row (by rw [w.len]; omega) hc).mono ?_
  rintro v h' ⟨rfl, f⟩
  exact ⟨_, rfl, rfl, f⟩


theorem idx31 {h : Hp} {a : Option Addr} {c : Nat} {L : List G} (ha : rowAtK h a (encL G.cells L)) (hl : L.length ≤ 1000) {p : G → Bool} {b0 b1 b2 : Nat} 
    (hc : ∀ (h1 : Hp) (x : G), Fr [] h h1 → CallsH Try.prog 31 [.agg ⟨x.cells⟩, .pointer (some ⟨b0, 0, none⟩), .pointer (some ⟨b1, 0, none⟩), .pointer (some ⟨b2, 0, none⟩)] h1 fun v h' => v = .bool (p x) ∧ Fr [] h1 h') :
    CallsH Try.prog 34 [.slice a L.length c, .func (.func 31) #[] #[.pointer (some ⟨b0, 0, none⟩), .pointer (some ⟨b1, 0, none⟩), .pointer (some ⟨b2, 0, none⟩)]] h fun v h' => v = .int .i64 (idx p L) ∧ Fr [] h h' := by
  refine calls_k fun R hR => ?_
  apply slices_IndexFunc_31.calls
  unfold slices_IndexFunc_31.P
  refine ⟨fun i h1 => ∃ k : Nat, i = k ∧ k ≤ L.length ∧ (∀ j y, j < k → L[j]? = some y → p y = false) ∧ Fr [] h h1, fun i _ => L.length - i.toNat, ⟨0, rfl, by omega, by omega, Fr.refl _ _⟩, ?_⟩
  rintro i h1 ⟨k, rfl, hk, hb, f1⟩
  by_cases hkl : k < L.length
  · refine ⟨fun _ => ?_, fun hf => absurd hf (by simp; omega)⟩
    obtain ⟨x, hx⟩ : ∃ x, L[k]? = some x := ⟨_, List.getElem?_eq_getElem hkl⟩
    obtain ⟨b, o, rfl, e⟩ := encL_one G.len (ha.fr f1 (by simp)) hx (by omega)
    have hwi : IntKind.wrap .i64 ((k : Int) + 1) = ((k + 1 : Nat) : Int) := by rw [wrap_i64 (by omega) (by omega)]; omega
    rw [hwi, Int.toNat_natCast]
    refine ⟨by omega, by omega, b, o, rfl, G.rd x e ?_⟩
    refine (hc h1 x f1).mono ?_
    rintro v h2 ⟨rfl, f2⟩
    refine ⟨_, rfl, fun hp => hR _ _ ⟨?_, f1.trans f2⟩, fun hp => ⟨⟨k + 1, rfl, by omega, fun j y hj hy => ?_, f1.trans f2⟩, by show L.length - ((k + 1 : Nat) : Int).toNat < L.length - (k : Int).toNat; omega⟩⟩
    · rw [idx_at hx hp hb]
    · rcases Nat.lt_or_ge j k with h | h
      · exact hb j y h hy
      · have : j = k := by omega
        subst this; rw [hx] at hy; cases hy; exact hp
  · refine ⟨fun hf => absurd hf (by simp; omega), fun _ => hR _ _ ⟨?_, f1⟩⟩
    rw [idx_none (fun x hx => ?_)]
    obtain ⟨j, hj⟩ := List.mem_iff_getElem?.1 hx
    exact hb j x (by have := (List.getElem?_eq_some_iff.1 hj).1; omega) hj

theorem find31 {h : Hp} {q : Nat} {L : List G} (w : GS h q L) {p : G → Bool} {b0 b1 b2 : Nat} 
    (hc : ∀ (h1 : Hp) (x : G), Fr [] h h1 → CallsH Try.prog 31 [.agg ⟨x.cells⟩, .pointer (some ⟨b0, 0, none⟩), .pointer (some ⟨b1, 0, none⟩), .pointer (some ⟨b2, 0, none⟩)] h1 fun v h' => v = .bool (p x) ∧ Fr [] h1 h') :
    CallsH Try.prog 24 [.pointer (some ⟨q, 0, none⟩), .func (.func 31) #[] #[.pointer (some ⟨b0, 0, none⟩), .pointer (some ⟨b1, 0, none⟩), .pointer (some ⟨b2, 0, none⟩)]] h fun v h' => v = .int .i64 (idx p L) ∧ Fr [] h h' := by
  apply grant_Grants_find_31.calls
  unfold grant_Grants_find_31.P
  have hb : arrBase q 0 ((0 : Int)).toNat (((32 : Nat) : Int)).toNat 6 = some ⟨q, 0, none⟩ := by rfl
  have hl : (((32 : Nat) : Int)).toNat - ((0 : Int)).toNat = L.length := by rw [w.len]; rfl
  rw [hb, hl]
  refine ⟨by simp, by omega, by omega, by omega, by omega, ?_⟩
  refine (idx31 (c := L.length) w.arr.row (by rw [w.len]; omega) hc).mono ?_
  rintro v h' ⟨rfl, f⟩
  exact ⟨_, rfl, rfl, f⟩

end Go.Proofs.Ytadghpkdkdphdaa
