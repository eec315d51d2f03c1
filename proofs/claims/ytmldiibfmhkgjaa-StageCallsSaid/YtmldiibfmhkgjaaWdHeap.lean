/-
  Heaps for the reader's proofs: blocks that are known whole, what stays, rows that are owned.
-/
import Derived.Test.YtmldiibfmhkgjaaWdFn
namespace Go.Wd
set_option linter.unusedSimpArgs false
set_option linter.unusedVariables false
open Go Go.RowKit

/-! ## blocks -/
theorem cellAt_of {h : Hp} {b : Nat} {T : TypeId} {l : List Value} (hb : bk h b = some (blk T l)) (o : Nat) : cellAt h b o = l[o]? := by
  unfold cellAt; rw [hb]; simp

theorem cellAt_cells {h : Hp} {b : Nat} {T : TypeId} {l : List Value} {fr : Nat × Nat} (hb : bk h b = some (.cells ⟨l⟩ T fr)) (o : Nat) : cellAt h b o = l[o]? := by
  unfold cellAt; rw [hb]; simp

theorem lt_of_bk {h : Hp} {b : Nat} {o : Obj} (hb : bk h b = some o) : b < sz h := (Array.getElem?_eq_some_iff.1 hb).1

theorem bk_ge {h : Hp} {b : Nat} (hb : sz h ≤ b) : bk h b = none := Array.getElem?_eq_none hb

theorem bk_upd {h : Hp} {b : Nat} (hb : b < sz h) (c : Nat) (T : TypeId) (l : List Value) : bk (upd h b T l) c = if c = b then some (blk T l) else bk h c := by
  unfold bk upd
  have hb' : b < h.size := hb
  split
  · rename_i e; subst e; simp [hb']
  · rename_i e
    simp [Array.getElem?_setIfInBounds]
    intro q; exact absurd q.symm e

theorem sz_upd (h : Hp) (b : Nat) (T : TypeId) (l : List Value) : sz (upd h b T l) = sz h := by simp [upd, sz]

theorem bk_new (h : Hp) (o : Obj) (c : Nat) : bk (new h o) c = if c = sz h then some o else bk h c := by
  unfold bk new sz
  rw [Array.getElem?_push]

theorem sz_new (h : Hp) (o : Obj) : sz (new h o) = sz h + 1 := by simp [new, sz]

theorem cellAt_upd {h : Hp} {b : Nat} (hb : b < sz h) (c : Nat) (T : TypeId) (l : List Value) (o : Nat) : cellAt (upd h b T l) c o = if c = b then l[o]? else cellAt h c o := by
  by_cases e : c = b
  · rw [if_pos e]
    exact cellAt_of (by rw [bk_upd hb, if_pos e]) o
  · rw [if_neg e]
    unfold cellAt
    rw [bk_upd hb, if_neg e]

theorem cellAt_new (h : Hp) (T : TypeId) (l : List Value) (c o : Nat) : cellAt (new h (blk T l)) c o = if c = sz h then l[o]? else cellAt h c o := by
  by_cases e : c = sz h
  · rw [if_pos e]
    exact cellAt_of (by rw [bk_new, if_pos e]) o
  · rw [if_neg e]
    unfold cellAt
    rw [bk_new, if_neg e]

theorem upd_same {h : Hp} {b : Nat} {o : Obj} (hb : bk h b = some o) (T : TypeId) (l : List Value) : bk (upd h b T l) b = some (blk T l) := by
  rw [bk_upd (lt_of_bk hb), if_pos rfl]
theorem upd_other {h : Hp} {b c : Nat} (hne : c ≠ b) (T : TypeId) (l : List Value) : bk (upd h b T l) c = bk h c := by
  unfold bk upd
  simp [Array.getElem?_setIfInBounds]
  intro e; exact absurd e.symm hne
theorem new_at (h : Hp) (o : Obj) : bk (new h o) (sz h) = some o := by rw [bk_new, if_pos rfl]
theorem new_of {h : Hp} {b : Nat} {x : Obj} (o : Obj) (hb : bk h b = some x) : bk (new h o) b = some x := by
  have := lt_of_bk hb
  rw [bk_new, if_neg (by omega)]; exact hb

theorem bk_of_upd {h h1 : Hp} {b : Nat} {T : TypeId} {l : List Value} (hh : upd h b T l = h1) (hb : b < sz h) : bk h1 b = some (blk T l) := by
  rw [← hh, bk_upd hb, if_pos rfl]

theorem upd_upd (h : Hp) (b : Nat) (T U : TypeId) (l m : List Value) : upd (upd h b T l) b U m = upd h b U m := by
  simp [upd, Array.setIfInBounds_setIfInBounds]

theorem bk_updO {h : Hp} {b : Nat} (hb : b < sz h) (c : Nat) (o : Obj) : bk (updO h b o) c = if c = b then some o else bk h c := by
  unfold bk updO
  have hb' : b < h.size := hb
  split
  · rename_i e; subst e; simp [hb']
  · rename_i e
    simp [Array.getElem?_setIfInBounds]
    intro q; exact absurd q.symm e
theorem sz_updO (h : Hp) (b : Nat) (o : Obj) : sz (updO h b o) = sz h := by simp [updO, sz]
theorem updO_same {h : Hp} {b : Nat} {x : Obj} (hb : bk h b = some x) (o : Obj) : bk (updO h b o) b = some o := by
  rw [bk_updO (lt_of_bk hb), if_pos rfl]
theorem updO_other {h : Hp} {b c : Nat} (hne : c ≠ b) (o : Obj) : bk (updO h b o) c = bk h c := by
  unfold bk updO
  simp [Array.getElem?_setIfInBounds]
  intro e; exact absurd e.symm hne

theorem writeAt_one (l : List Value) (o : Nat) (v : Value) : writeAt l o [v] = l.set o v := rfl
theorem writeAt_nil (l : List Value) (o : Nat) : writeAt l o [] = l := rfl
theorem writeAt_cons (l : List Value) (o : Nat) (v : Value) (vs : List Value) : writeAt l o (v :: vs) = writeAt (l.set o v) (o + 1) vs := rfl

/-! ## what stays -/
/-- Of the blocks of h all stay but those of F. -/
structure Fr (F : List Nat) (h h' : Hp) : Prop where
  size : sz h ≤ sz h'
  keep : ∀ b, b < sz h → b ∉ F → bk h' b = bk h b

theorem Fr.refl (F : List Nat) (h : Hp) : Fr F h h := ⟨Nat.le_refl _, fun _ _ _ => rfl⟩
theorem Fr.trans {F : List Nat} {a b c : Hp} (h : Fr F a b) (k : Fr F b c) : Fr F a c :=
  ⟨Nat.le_trans h.size k.size, fun x hx hn => (k.keep x (Nat.lt_of_lt_of_le hx h.size) hn).trans (h.keep x hx hn)⟩
theorem Fr.mono {F G : List Nat} {a b : Hp} (h : Fr F a b) (hs : ∀ x ∈ F, x ∈ G) : Fr G a b := ⟨h.size, fun x hx hn => h.keep x hx fun hm => hn (hs x hm)⟩
/-- Blocks that were made since do not count. -/
theorem Fr.fresh {F G : List Nat} {a b c : Hp} (h : Fr F a b) (k : Fr G b c) (hs : ∀ x ∈ G, x ∈ F ∨ sz a ≤ x) : Fr F a c :=
  ⟨Nat.le_trans h.size k.size, fun x hx hn => (k.keep x (Nat.lt_of_lt_of_le hx h.size) fun hm => (hs x hm).elim hn (fun h => by omega)).trans (h.keep x hx hn)⟩
theorem Fr.later {F G : List Nat} {a b c : Hp} (h : Fr F a b) (k : Fr G b c) (hs : ∀ x ∈ G, sz a ≤ x) : Fr F a c := h.fresh k fun x hx => .inr (hs x hx)
theorem Fr.new (F : List Nat) (h : Hp) (o : Obj) : Fr F h (new h o) := ⟨by rw [sz_new]; omega, fun b hb _ => by rw [bk_new, if_neg (by omega)]⟩
theorem Fr.upd {F : List Nat} {b : Nat} (hb : b ∈ F) (h : Hp) (T : TypeId) (l : List Value) : Fr F h (upd h b T l) :=
  ⟨by rw [sz_upd]; exact Nat.le_refl _, fun x _ hn => upd_other (fun e : x = b => hn (by rw [e]; exact hb)) T l⟩
theorem Fr.updO {F : List Nat} {b : Nat} (hb : b ∈ F) (h : Hp) (o : Obj) : Fr F h (updO h b o) :=
  ⟨by rw [sz_updO]; exact Nat.le_refl _, fun x _ hn => updO_other (fun e : x = b => hn (by rw [e]; exact hb)) o⟩
theorem Fr.at {F : List Nat} {h h' : Hp} (k : Fr F h h') {b : Nat} {o : Obj} (hb : bk h b = some o) (hn : b ∉ F) : bk h' b = some o := by
  rw [k.keep b (lt_of_bk hb) hn]; exact hb
theorem Fr.cell {F : List Nat} {h h' : Hp} (k : Fr F h h') {b o : Nat} {v : Value} (hb : cellAt h b o = some v) (hn : b ∉ F) : cellAt h' b o = some v := by
  have hlt : b < sz h := by
    unfold cellAt at hb
    cases hx : bk h b with
    | none => rw [hx] at hb; simp at hb
    | some x => exact lt_of_bk hx
  unfold cellAt at hb ⊢
  rw [k.keep b hlt hn]; exact hb
theorem Fr.lt {F : List Nat} {h h' : Hp} (k : Fr F h h') {b : Nat} (hb : b < sz h) : b < sz h' := Nat.lt_of_lt_of_le hb k.size

/-- What a call owes the world besides. -/
theorem Below_of_Fr {w w' : World} (hs : Same w w') (h : Fr [] w.heap w'.heap) : Below w.heap.size w w' :=
  ⟨hs.os, hs.tape, hs.output, h.size, fun k hk => h.keep k hk (by simp)⟩

/-! ## rows that are owned -/
/-- A slice of l elements, of 'size' cells each, over a block of its own from the block's head on. -/
def Own (h : Hp) (T size : Nat) (a : Option Addr) (l c : Nat) (cells : List Value) : Prop :=
  cells.length = l * size ∧ ((a = none ∧ l = 0 ∧ c = 0) ∨ ∃ b rest, a = some ⟨b, 0, none⟩ ∧ bk h b = some (blk T (cells ++ rest)) ∧ (cells ++ rest).length = c * size ∧ l ≤ c)

def foot : Option Addr → List Nat
  | none => []
  | some p => [p.block]

theorem Own.nil (h : Hp) (T size : Nat) : Own h T size none 0 0 [] := ⟨by simp, .inl ⟨rfl, rfl, rfl⟩⟩

theorem Own.fr {h h' : Hp} {T size : Nat} {a : Option Addr} {l c : Nat} {cells : List Value} (o : Own h T size a l c cells) {F : List Nat} (k : Fr F h h') (hn : ∀ x ∈ foot a, x ∉ F) : Own h' T size a l c cells := by
  refine ⟨o.1, ?_⟩
  rcases o.2 with h1 | ⟨b, rest, rfl, hb, h2⟩
  · exact .inl h1
  · exact .inr ⟨b, rest, rfl, k.at hb (hn b (by simp [foot])), h2⟩

theorem Own.foot_lt {h : Hp} {T size : Nat} {a : Option Addr} {l c : Nat} {cells : List Value} (o : Own h T size a l c cells) : ∀ x ∈ foot a, x < sz h := by
  intro x hx
  rcases o.2 with ⟨rfl, _⟩ | ⟨b, rest, rfl, hb, _⟩
  · simp [foot] at hx
  · simp [foot] at hx; subst hx; exact lt_of_bk hb

theorem Own.cell {h : Hp} {T size : Nat} {a : Option Addr} {l c : Nat} {cells : List Value} (o : Own h T size a l c cells) {i : Nat} (hi : i < cells.length) :
    ∃ b, a = some ⟨b, 0, none⟩ ∧ cellAt h b i = cells[i]? := by
  rcases o.2 with ⟨rfl, rfl, _⟩ | ⟨b, rest, rfl, hb, _⟩
  · have := o.1; simp at this; subst this; simp at hi
  · refine ⟨b, rfl, ?_⟩
    rw [cellAt_of hb, List.getElem?_append_left hi]

/-- The first cells of a row can be read. -/
theorem readAt_of {h : Hp} {b : Nat} {T : TypeId} {l : List Value} (hb : bk h b = some (blk T l)) (o : Nat) (cs : List Value) (hc : (l.drop o).take cs.length = cs) : readAt h b o cs := by
  intro j hj
  rw [cellAt_of hb, ← hc, List.getElem?_take, if_pos hj, List.getElem?_drop]

theorem Own.row {h : Hp} {T size : Nat} {a : Option Addr} {l c : Nat} {cells : List Value} (o : Own h T size a l c cells) : rowAtK h a cells := by
  rcases o.2 with ⟨rfl, rfl, _⟩ | ⟨b, rest, rfl, hb, _⟩
  · exact .inl (by have := o.1; simpa using this)
  · exact .inr ⟨b, 0, rfl, readAt_of hb 0 cells (by simp)⟩

theorem Own.le {h : Hp} {T size : Nat} {a : Option Addr} {l c : Nat} {cells : List Value} (o : Own h T size a l c cells) : l ≤ c := by
  rcases o.2 with ⟨_, rfl, rfl⟩ | ⟨b, rest, rfl, hb, _, h⟩
  · exact Nat.le_refl _
  · exact h

theorem zeros_length (z : List Value) (m : Nat) : (zeros z m).length = m * z.length := by
  rw [← zeros_eq]; simp

/-- Appending to an owned row. -/
theorem append_own {h : Hp} {T size bytes : Nat} {z : List Value} {a : Option Addr} {l c : Nat} {cells : List Value} (o : Own h T size a l c cells) (hz : z.length = size)
    {a2 : Option Addr} {m : Nat} {news : List Value} (hn : news.length = m * size) (h1 : oneCells news = true) (hr : rowAtK h a2 news) (hb1 : l + m ≤ 140737488355328) (hb2 : (l + m) * bytes ≤ 140737488355328)
    {K : Option Addr → Nat → Nat → Hp → Prop}
    (hK : ∀ a' c' h1, Own h1 T size a' (l + m) c' (cells ++ news) → Fr (foot a) h h1 → (a' = a ∨ (a' = some ⟨sz h, 0, none⟩ ∧ sz h1 = sz h + 1)) → K a' (l + m) c' h1) :
    appendN h T size bytes z a l c a2 m K := by
  refine ⟨news, hn, h1, hr, fun hm => ?_, fun hm hle => ?_, fun hm hlt => ?_⟩
  · subst hm
    have : news = [] := List.eq_nil_of_length_eq_zero (by simpa using hn)
    subst this
    exact ⟨o.le, by simpa using hK a c h (by simpa using o) (Fr.refl _ _) (.inl rfl)⟩
  · rcases o.2 with ⟨rfl, rfl, rfl⟩ | ⟨b, rest, rfl, hb, hc, hlc⟩
    · omega
    · have hrl : news.length ≤ rest.length := by
        have h2 := Nat.mul_le_mul_right size hle
        rw [List.length_append, o.1] at hc
        rw [hn]
        rw [Nat.add_mul] at h2
        omega
      refine ⟨b, 0, cells ++ rest, rfl, hb, ?_, ?_⟩
      · rw [hc]; have := Nat.mul_le_mul_right size hle; omega
      · rintro h1 rfl
        have hw : writeAt (cells ++ rest) (0 + l * size) news = (cells ++ news) ++ rest.drop news.length := by
          rw [writeAt_eq _ _ _ (by rw [List.length_append, o.1]; omega), Nat.zero_add, ← o.1, List.take_left, List.drop_append, List.drop_eq_nil_of_le (by omega)]
          simp
        rw [hw]
        refine hK _ c _ ⟨by rw [List.length_append, o.1, hn, Nat.add_mul], .inr ⟨b, rest.drop news.length, rfl, upd_same hb _ _, ?_, hle⟩⟩ (Fr.upd (by simp [foot]) _ _ _) (.inl rfl)
        rw [← hc]
        simp
        omega
  · refine ⟨cells, o.1, o.row, fun hnn => ?_, hb1, hb2, ?_⟩
    · rcases o.2 with ⟨_, h2, h3⟩ | ⟨b, rest, rfl, _⟩
      · exact ⟨h2, h3⟩
      · cases hnn
    · rintro cap h1 hc1 hc2 rfl
      refine hK _ cap _ ⟨by rw [List.length_append, o.1, hn, Nat.add_mul], .inr ⟨sz h, zeros z (cap - (l + m)), rfl, new_at _ _, ?_, hc1⟩⟩ (Fr.new _ _ _) (.inr ⟨rfl, by rw [sz_new]⟩)
      rw [List.length_append, List.length_append, zeros_length, hz, o.1, hn, ← Nat.add_mul, ← Nat.add_mul]
      congr 1
      omega

/-- 'append(s, x)': x stands in a block made for it. -/
theorem append_new {h0 h h3 : Hp} {F : List Nat} {T size bytes : Nat} {z : List Value} {a : Option Addr} {l c : Nat} {cells : List Value} (o : Own h T size a l c cells) (hz : z.length = size)
    (hf : Fr F h0 h) (ha : ∀ x ∈ foot a, x ∈ F ∨ sz h0 ≤ x) {news : List Value} (hn : news.length = size) (h1 : oneCells news = true) (h3e : h3 = new h (blk T news))
    (hb1 : l + 1 ≤ 140737488355328) (hb2 : (l + 1) * bytes ≤ 140737488355328) {K : Option Addr → Nat → Nat → Hp → Prop}
    (hK : ∀ a' c' h4, Own h4 T size a' (l + 1) c' (cells ++ news) → Fr F h0 h4 → (∀ x ∈ foot a', x ∈ F ∨ sz h0 ≤ x) → Fr (foot a) h h4 → (a' = a ∨ ∀ x ∈ foot a', sz h ≤ x) → K a' (l + 1) c' h4) :
    appendN h3 T size bytes z a l c (some ⟨sz h, 0, none⟩) 1 K := by
  subst h3e
  have o3 : Own (new h (blk T news)) T size a l c cells := o.fr (Fr.new [] h _) (by simp)
  have hf3 : Fr F h0 (new h (blk T news)) := hf.trans (Fr.new F h _)
  refine append_own o3 hz (by rw [hn]; omega) h1 (.inr ⟨sz h, 0, rfl, readAt_of (new_at _ _) 0 news (by simp)⟩) hb1 hb2 ?_
  intro a' c' h4 o4 f4 ha4
  have fa : Fr (foot a) h h4 := ((Fr.new [] h (blk T news)).mono (by simp)).trans f4
  have hge : ∀ x ∈ foot a', a' = a ∨ sz h ≤ x := by
    intro x hx
    rcases ha4 with e | ⟨rfl, _⟩
    · exact .inl e
    · simp [foot, sz_new] at hx; exact .inr (by omega)
  refine hK a' c' h4 o4 (hf3.fresh f4 ha) ?_ fa ?_
  · intro x hx
    rcases ha4 with rfl | ⟨rfl, _⟩
    · exact ha x hx
    · simp [foot, sz_new] at hx; have := hf.size; exact .inr (by omega)
  · rcases ha4 with e | ⟨rfl, _⟩
    · exact .inl e
    · exact .inr fun x hx => by simp [foot, sz_new] at hx; omega

/-- A slice that can be read: its cells, and that they lie in blocks since a heap's. -/
structure Fresh (h0 h : Hp) (a : Option Addr) (cells : List Value) : Prop where
  row : rowAtK h a cells
  ge : ∀ x ∈ foot a, sz h0 ≤ x
  lt : ∀ x ∈ foot a, x < sz h

theorem rowAtK.fr {h h' : Hp} {a : Option Addr} {cells : List Value} (r : rowAtK h a cells) {F : List Nat} (f : Fr F h h') (hn : ∀ x ∈ foot a, x ∉ F) : rowAtK h' a cells := by
  rcases r with rfl | ⟨b, o, rfl, hr⟩
  · exact .inl rfl
  · refine .inr ⟨b, o, rfl, fun j hj => ?_⟩
    have h1 := hr j hj
    rw [List.getElem?_eq_getElem hj] at h1 ⊢
    exact f.cell h1 (hn b (by simp [foot]))

theorem lt_of_cell {h : Hp} {b o : Nat} {v : Value} (hc : cellAt h b o = some v) : b < sz h := by
  unfold cellAt at hc
  cases hx : bk h b with
  | none => rw [hx] at hc; simp at hc
  | some x => exact lt_of_bk hx

theorem rowAtK.lt {h : Hp} {a : Option Addr} {cells : List Value} (r : rowAtK h a cells) (hne : cells ≠ []) : ∀ x ∈ foot a, x < sz h := by
  intro x hx
  rcases r with rfl | ⟨b, o, rfl, hr⟩
  · exact absurd rfl hne
  · simp [foot] at hx
    subst hx
    have h0 : 0 < cells.length := List.length_pos_iff.2 hne
    have := hr 0 h0
    rw [List.getElem?_eq_getElem h0] at this
    exact lt_of_cell this

theorem rowAtK.cell {h : Hp} {a : Option Addr} {cells : List Value} (r : rowAtK h a cells) {i : Nat} (hi : i < cells.length) : ∃ b o, a = some ⟨b, o, none⟩ ∧ cellAt h b (o + i) = cells[i]? := by
  rcases r with rfl | ⟨b, o, rfl, hr⟩
  · simp at hi
  · exact ⟨b, o, rfl, hr i hi⟩

theorem nil_or_snoc {α : Type} (l : List α) : l = [] ∨ ∃ m x, l = m ++ [x] := by
  by_cases h : l = []
  · exact .inl h
  · exact .inr ⟨_, _, (List.dropLast_concat_getLast h).symm⟩

/-! ## rows of structs -/
def encL {α : Type} (f : α → List Value) (l : List α) : List Value := l.flatMap f

section
variable {α : Type} {f : α → List Value} {m : Nat}
theorem encL_nil : encL f [] = [] := rfl
theorem encL_cons (x : α) (l : List α) : encL f (x :: l) = f x ++ encL f l := by simp [encL]
theorem encL_append (a b : List α) : encL f (a ++ b) = encL f a ++ encL f b := by simp [encL]
theorem encL_length (hm : ∀ x, (f x).length = m) : ∀ l : List α, (encL f l).length = l.length * m
  | [] => by simp [encL]
  | x :: l => by rw [encL_cons, List.length_append, hm, encL_length hm l, List.length_cons, Nat.succ_mul, Nat.add_comm]
theorem encL_get (hm : ∀ x, (f x).length = m) : ∀ (l : List α) (i j : Nat) (x : α), l[i]? = some x → j < m → (encL f l)[i * m + j]? = (f x)[j]?
  | [], i, j, x, h, _ => by simp at h
  | y :: l, 0, j, x, h, hj => by
    simp at h; subst h
    rw [encL_cons, Nat.zero_mul, Nat.zero_add, List.getElem?_append_left (by rw [hm]; exact hj)]
  | y :: l, i + 1, j, x, h, hj => by
    rw [encL_cons, List.getElem?_append_right (by rw [hm, Nat.succ_mul]; omega), hm, show (i + 1) * m + j - m = i * m + j by rw [Nat.succ_mul]; omega]
    exact encL_get hm l i j x (by simpa using h) hj
theorem encL_set (hm : ∀ x, (f x).length = m) : ∀ (l : List α) (i : Nat) (x : α), i < l.length → writeAt (encL f l) (i * m) (f x) = encL f (l.set i x)
  | [], i, x, h => by simp at h
  | y :: l, 0, x, h => by
    rw [encL_cons, Nat.zero_mul, writeAt_eq _ _ _ (by simp [hm]), Nat.zero_add, hm]
    simp [encL_cons]
    rw [← hm y, List.drop_left]
  | y :: l, i + 1, x, h => by
    have hi : i < l.length := by simpa using h
    have hle : i * m + m ≤ l.length * m := by rw [← Nat.succ_mul]; exact Nat.mul_le_mul_right _ hi
    have ih := encL_set hm l i x hi
    rw [List.set_cons_succ, encL_cons, encL_cons, ← ih, writeAt_eq _ _ _ (by rw [List.length_append, hm, encL_length hm, hm, Nat.succ_mul]; omega), writeAt_eq _ _ _ (by rw [encL_length hm, hm]; omega), hm]
    rw [show (i + 1) * m = (f y).length + i * m by rw [hm, Nat.succ_mul]; omega, List.take_append, List.drop_append]
    simp [hm, Nat.add_assoc]
    have e1 : List.take (m + i * m) (f y) = f y := List.take_of_length_le (by rw [hm]; omega)
    have e2 : List.drop (m + (i * m + m)) (f y) = [] := List.drop_eq_nil_of_le (by rw [hm]; omega)
    rw [e1, e2]
    simp
theorem encL_one (hm : ∀ x, (f x).length = m) {h : Hp} {a : Option Addr} {l : List α} (r : rowAtK h a (encL f l)) {i : Nat} {x : α} (hx : l[i]? = some x) (hp : 0 < m) :
    ∃ b o, a = some ⟨b, o, none⟩ ∧ ∀ j, j < m → cellAt h b (o + i * m + j) = (f x)[j]? := by
  have hi := (List.getElem?_eq_some_iff.1 hx).1
  have hlen := encL_length hm l
  have hle : i * m + m ≤ l.length * m := by rw [← Nat.succ_mul]; exact Nat.mul_le_mul_right _ hi
  rcases r with hn | ⟨b, o, rfl, hr⟩
  · rw [hn] at hlen; simp at hlen; omega
  · refine ⟨b, o, rfl, fun j hj => ?_⟩
    rw [Nat.add_assoc, hr (i * m + j) (by rw [hlen]; omega), encL_get hm l i j x hx hj]
end

/-! ## parts of rows that are written -/
theorem writeAt_length : ∀ (vs : List Value) (l : List Value) (o : Nat), (writeAt l o vs).length = l.length
  | [], l, o => rfl
  | v :: vs, l, o => by rw [writeAt_cons, writeAt_length vs]; simp
theorem writeAt_append_left : ∀ (vs : List Value) (l t : List Value) (o : Nat), o + vs.length ≤ l.length → writeAt (l ++ t) o vs = writeAt l o vs ++ t
  | [], l, t, o, _ => rfl
  | v :: vs, l, t, o, h => by
    simp only [List.length_cons] at h
    rw [writeAt_cons, writeAt_cons, List.set_append_left _ _ (by omega), writeAt_append_left vs _ _ _ (by simp; omega)]
theorem writeAt_append_right : ∀ (vs : List Value) (l t : List Value) (o : Nat), writeAt (l ++ t) (l.length + o) vs = l ++ writeAt t o vs
  | [], l, t, o => rfl
  | v :: vs, l, t, o => by
    rw [writeAt_cons, writeAt_cons, List.set_append_right _ _ (by omega), Nat.add_sub_cancel_left, Nat.add_assoc, writeAt_append_right vs]

section
variable {α : Type} {f : α → List Value} {m : Nat}
/-- A part of a row's element is written. -/
theorem encL_put (hm : ∀ x, (f x).length = m) : ∀ (l : List α) (k j : Nat) (x y : α) (vs t : List Value), l[k]? = some x → j + vs.length ≤ m → writeAt (f x) j vs = f y → writeAt (encL f l ++ t) (k * m + j) vs = encL f (l.set k y) ++ t
  | [], k, j, x, y, vs, t, h, _, _ => by simp at h
  | z :: l, 0, j, x, y, vs, t, h, hj, hy => by
    simp at h; subst h
    rw [encL_cons, List.append_assoc, Nat.zero_mul, Nat.zero_add, writeAt_append_left _ _ _ _ (by rw [hm]; exact hj), hy, List.set_cons_zero, encL_cons, List.append_assoc]
  | z :: l, k + 1, j, x, y, vs, t, h, hj, hy => by
    rw [encL_cons, List.append_assoc, Nat.succ_mul, show k * m + m + j = (f z).length + (k * m + j) by rw [hm]; omega, writeAt_append_right, encL_put hm l k j x y vs t (by simpa using h) hj hy, List.set_cons_succ, encL_cons, List.append_assoc]
theorem encL_at (hm : ∀ x, (f x).length = m) {l : List α} {k j : Nat} {x : α} (t : List Value) (h : l[k]? = some x) (hj : j < m) : (encL f l ++ t)[k * m + j]? = (f x)[j]? := by
  have hk := (List.getElem?_eq_some_iff.1 h).1
  have hle : k * m + m ≤ l.length * m := by rw [← Nat.succ_mul]; exact Nat.mul_le_mul_right _ hk
  rw [List.getElem?_append_left (by rw [encL_length hm]; omega), encL_get hm l k j x h hj]
end

section
variable {α : Type} {f : α → List Value} {m : Nat}
theorem encL_row (hm : ∀ x, (f x).length = m) {l : List α} {k : Nat} {x : α} (h : l[k]? = some x) : ((encL f l).drop (k * m)).take m = f x := by
  have hk := (List.getElem?_eq_some_iff.1 h).1
  have hlen := encL_length hm l
  have hle : k * m + m ≤ l.length * m := by rw [← Nat.succ_mul]; exact Nat.mul_le_mul_right _ hk
  apply List.ext_getElem?
  intro j
  rw [List.getElem?_take]
  split
  · rename_i hj
    rw [List.getElem?_drop, encL_get hm l k j x h hj]
  · rename_i hj
    rw [List.getElem?_eq_none (by rw [hm]; omega)]
end
/-- A variable that is made and set. -/
theorem put_local {h : Hp} {T : TypeId} {z v : List Value} {n : Nat} {K : Hp → Prop} (hl : z.length = v.length) (hn : 0 + n ≤ z.length)
    (hK : ∀ h5, bk h5 (sz h) = some (blk T v) → Fr [] h h5 → sz h5 = sz h + 1 → K h5) :
    ∀ h4 : Hp, h4 = new h (blk T z) → truly true ∧ ∃ T1 : TypeId, ∃ l : List Value, bk h4 (sz h) = some (blk T1 l) ∧ 0 + n ≤ l.length ∧ ∀ h5 : Hp, h5 = upd h4 (sz h) T1 (writeAt l 0 v) → K h5 := by
  rintro h4 rfl
  refine ⟨rfl, T, z, new_at _ _, hn, ?_⟩
  rintro h5 rfl
  have hw : writeAt z 0 v = v := by
    rw [writeAt_eq _ _ _ (by omega), Nat.zero_add, ← hl, List.drop_length]; simp
  rw [hw]
  refine hK _ (upd_same (new_at _ _) _ _) ((Fr.new [] h _).later (Fr.upd (F := [sz h]) (by simp) _ _ _) (by simp)) (by rw [sz_upd, sz_new])
theorem cell_upd {h : Hp} {b : Nat} {T0 : TypeId} {l0 : List Value} (hb : bk h b = some (blk T0 l0)) (T : TypeId) (l : List Value) (o : Nat) : cellAt (upd h b T l) b o = l[o]? := cellAt_of (upd_same hb T l) o

/-! ## the first one of which something is so -/
def idxA {α : Type} (p : α → Bool) : List α → Nat → Int
  | [], _ => -1
  | x :: l, k => if p x then k else idxA p l (k + 1)
def idx {α : Type} (p : α → Bool) (l : List α) : Int := idxA p l 0
theorem idxA_cases {α : Type} (p : α → Bool) : ∀ (l : List α) (k : Nat), (idxA p l k = -1 ∧ ∀ x ∈ l, p x = false) ∨ ∃ j x, idxA p l k = ((k + j : Nat) : Int) ∧ l[j]? = some x ∧ p x = true ∧ ∀ i y, i < j → l[i]? = some y → p y = false
  | [], k => .inl ⟨rfl, by simp⟩
  | x :: l, k => by
    simp only [idxA]
    cases hp : p x
    · rcases idxA_cases p l (k + 1) with ⟨h1, h2⟩ | ⟨j, y, h1, h2, h3, h4⟩
      · exact .inl ⟨by simpa using h1, fun z hz => by
        rcases List.mem_cons.1 hz with rfl | hz
        · exact hp
        · exact h2 z hz⟩
      · refine .inr ⟨j + 1, y, by simp only [Bool.false_eq_true, if_false]; rw [h1]; omega, by simpa using h2, h3, fun i z hi hz => ?_⟩
        cases i with
        | zero => simp at hz; subst hz; exact hp
        | succ i => exact h4 i z (by omega) (by simpa using hz)
    · exact .inr ⟨0, x, by simp, rfl, hp, fun i y hi => by omega⟩
theorem idx_cases {α : Type} (p : α → Bool) (l : List α) : (idx p l = -1 ∧ ∀ x ∈ l, p x = false) ∨ ∃ (j : Nat) (x : α), idx p l = j ∧ l[j]? = some x ∧ p x = true ∧ ∀ i y, i < j → l[i]? = some y → p y = false := by
  rcases idxA_cases p l 0 with h | ⟨j, x, h1, h2⟩
  · exact .inl h
  · exact .inr ⟨j, x, by unfold idx; rw [h1]; simp, h2⟩
theorem idx_at {α : Type} {p : α → Bool} {l : List α} {k : Nat} {x : α} (hx : l[k]? = some x) (hp : p x = true) (hb : ∀ i y, i < k → l[i]? = some y → p y = false) : idx p l = k := by
  rcases idx_cases p l with ⟨_, h2⟩ | ⟨j, y, h1, h2, h3, h4⟩
  · rw [h2 x (List.mem_of_getElem? hx)] at hp; cases hp
  · rcases Nat.lt_trichotomy j k with h | h | h
    · rw [hb j y h h2] at h3; cases h3
    · rw [h1, h]
    · rw [h4 k x h hx] at hp; cases hp
theorem idx_none {α : Type} {p : α → Bool} {l : List α} (h : ∀ x ∈ l, p x = false) : idx p l = -1 := by
  rcases idx_cases p l with ⟨h1, _⟩ | ⟨j, y, h1, h2, h3, h4⟩
  · exact h1
  · rw [h y (List.mem_of_getElem? h2)] at h3; cases h3

/-! ## a block that begins with a row of structs -/
structure Arr {α : Type} (f : α → List Value) (T : TypeId) (h : Hp) (q : Nat) (L : List α) (t : List Value) : Prop where
  hq : bk h q = some (blk T (encL f L ++ t))
section
variable {α : Type} {f : α → List Value} {m : Nat} {T : TypeId} {h h' : Hp} {q : Nat} {L : List α} {t : List Value}
theorem Arr.fr (w : Arr f T h q L t) {F : List Nat} (k : Fr F h h') (hn : q ∉ F) : Arr f T h' q L t := ⟨k.at w.hq hn⟩
theorem Arr.lt (w : Arr f T h q L t) : q < sz h := lt_of_bk w.hq
theorem Arr.get (hm : ∀ x, (f x).length = m) (w : Arr f T h q L t) {k : Nat} {x : α} (hx : L[k]? = some x) (j : Nat) (hj : j < m) : cellAt h q (k * m + j) = (f x)[j]? := by
  rw [cellAt_of w.hq, encL_at hm _ hx hj]
theorem Arr.length (hm : ∀ x, (f x).length = m) (w : Arr f T h q L t) : (encL f L ++ t).length = L.length * m + t.length := by
  rw [List.length_append, encL_length hm]
theorem Arr.put (hm : ∀ x, (f x).length = m) (w : Arr f T h q L t) {k j : Nat} {x y : α} {vs : List Value} (hx : L[k]? = some x) (hj : j + vs.length ≤ m) (hy : writeAt (f x) j vs = f y) :
    Arr f T (upd h q T (writeAt (encL f L ++ t) (k * m + j) vs)) q (L.set k y) t := by
  rw [encL_put hm L k j x y vs _ hx hj hy]
  exact ⟨upd_same w.hq _ _⟩
theorem Arr.room (hm : ∀ x, (f x).length = m) (w : Arr f T h q L t) {k j n : Nat} (hk : k < L.length) (hj : j + n ≤ m) : k * m + j + n ≤ (encL f L ++ t).length := by
  rw [w.length hm]
  have : k * m + m ≤ L.length * m := by rw [← Nat.succ_mul]; exact Nat.mul_le_mul_right _ hk
  omega
theorem Arr.whole (hm : ∀ x, (f x).length = m) (w : Arr f T h q L t) : readAt h q 0 (encL f L) := readAt_of w.hq 0 _ (by simp)
/-- As a row that can be read. -/
theorem Arr.row (w : Arr f T h q L t) : rowAtK h (some ⟨q, 0, none⟩) (encL f L) := .inr ⟨q, 0, rfl, readAt_of w.hq 0 _ (by simp)⟩
end

/-! ## a call's end, hidden -/
theorem calls_k {P : Program} {n : Nat} {args : List Value} {h : Hp} {Q : Value → Hp → Prop} (hc : ∀ R : Value → Hp → Prop, (∀ v h', Q v h' → R v h') → CallsH P n args h R) : CallsH P n args h Q := hc Q fun _ _ h => h
theorem Fr.sub {F G : List Nat} {a b : Hp} (h : Fr F a b) (hs : F ⊆ G) : Fr G a b := h.mono fun x hx => hs hx


/-! ## numbers -/
theorem wrap_i64 {n : Int} (h0 : -9223372036854775808 ≤ n) (h1 : n ≤ 9223372036854775807) : IntKind.wrap .i64 n = n := by
  have := IntKind.wrap_i64 n
  rw [this]; omega
theorem wrap_u64 {n : Int} (h0 : 0 ≤ n) (h1 : n < 18446744073709551616) : IntKind.wrap .u64 n = n := by
  show (n % _ : Int) = n
  exact Int.emod_eq_of_lt h0 h1
theorem wrap_u32 {n : Int} (h0 : 0 ≤ n) (h1 : n < 4294967296) : IntKind.wrap .u32 n = n := by
  show (n % _ : Int) = n
  exact Int.emod_eq_of_lt h0 h1
theorem tmod_nat {a b : Int} (h0 : 0 ≤ a) : Int.tmod a b = a % b := Int.tmod_eq_emod_of_nonneg h0
theorem tdiv_nat {a b : Int} (h0 : 0 ≤ a) : Int.tdiv a b = a / b := Int.tdiv_eq_ediv_of_nonneg h0
end Go.Wd
