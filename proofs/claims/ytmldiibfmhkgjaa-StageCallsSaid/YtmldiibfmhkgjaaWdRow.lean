/-
  Arguments: what a reading tells of them as rows of cells.
-/
import Derived.Test.YtmldiibfmhkgjaaWdHeap
import Derived.Deep.Slices
import Derived.ProofKit
import Derived.OpenShut
import Derived.ShutString
import Derived.ChangeOld
import Derived.SizedLaws
import Derived.Carry
namespace Go.Wd
set_option linter.unusedSimpArgs false
set_option linter.unusedVariables false
open Go Go.RowKit

/-- Cells of given kinds, each within its kind's bounds. -/
def wfCell : Sh → Value → Prop
  | .int k, .int k' n => k = k' ∧ (Lit.int k n).wf = true
  | .bool, .bool _ => True
  | .str, .string s => s.size ≤ maxLen
  | _, _ => False

def wfCells : List Sh → List Value → Prop
  | [], [] => True
  | s :: r, v :: vs => wfCell s v ∧ wfCells r vs
  | _, _ => False

theorem wfCells_cons {s : Sh} {ss : List Sh} {l : List Value} (h : wfCells (s :: ss) l) : ∃ v r, l = v :: r ∧ wfCell s v ∧ wfCells ss r := by
  cases l with
  | nil => exact h.elim
  | cons v r => exact ⟨v, r, rfl, h.1, h.2⟩
theorem wfCells_nil {l : List Value} (h : wfCells [] l) : l = [] := by
  cases l with
  | nil => rfl
  | cons v r => exact h.elim
theorem wf_bounds {k : IntKind} {n : Int} (h : (Lit.int k n).wf = true) : k.min ≤ n ∧ n ≤ k.max := by
  simpa [Lit.wf] using h
theorem wfInt {k : IntKind} {v : Value} (h : wfCell (.int k) v) : ∃ n, v = .int k n ∧ k.min ≤ n ∧ n ≤ k.max := by
  cases v <;> first | exact h.elim | skip
  obtain ⟨rfl, hw⟩ := h
  exact ⟨_, rfl, wf_bounds hw⟩
theorem wfBool {v : Value} (h : wfCell .bool v) : ∃ b, v = .bool b := by
  cases v <;> first | exact h.elim | exact ⟨_, rfl⟩
theorem min_i64 : IntKind.min .i64 = -9223372036854775808 := by decide
theorem max_i64 : IntKind.max .i64 = 9223372036854775807 := by decide
theorem min_u64 : IntKind.min .u64 = 0 := by decide
theorem max_u64 : IntKind.max .u64 = 18446744073709551615 := by decide
theorem min_u32 : IntKind.min .u32 = 0 := by decide
theorem max_u32 : IntKind.max .u32 = 4294967295 := by decide
theorem min_u8 : IntKind.min .u8 = 0 := by decide
theorem max_u8 : IntKind.max .u8 = 255 := by decide

theorem wfCells_len : ∀ {s : List Sh} {l : List Value}, wfCells s l → l.length = s.length
  | [], [], _ => rfl
  | s :: r, v :: vs, h => by simp [wfCells_len h.2]
  | [], _ :: _, h => h.elim
  | _ :: _, [], h => h.elim

theorem wfCells_append : ∀ {s t : List Sh} {l m : List Value}, wfCells s l → wfCells t m → wfCells (s ++ t) (l ++ m)
  | [], t, [], m, _, h => h
  | s :: r, t, v :: vs, m, h, k => ⟨h.1, wfCells_append h.2 k⟩
  | [], _, _ :: _, _, h, _ => h.elim
  | _ :: _, _, [], _, h, _ => h.elim

section
variable {H : Type} {enc : TypeId × Value → H} {P : Program} {w : World} {base : Nat} {spare : Nat → Bool} {held : Bool}

theorem trod_string' {t : TypeId} {fuel : Nat} {cs : List Value} {x : DataW H × List MemPlace} (ht : P.underlying t = some .string) (h : DataW.trod enc P w base spare held fuel t cs = some x) : ∃ s, cs = [.string s] ∧ s.size ≤ maxLen := by
  cases fuel with
  | zero => simp [DataW.trod] at h
  | succ n =>
    unfold DataW.trod at h
    rw [ht] at h
    split at h <;> simp_all

/-- A flat type's cells, as a reading meets them. -/
theorem trod_flat : ∀ (d : Nat) (t : TypeId) (ss : List Sh) (fuel : Nat) (cs : List Value) (x : DataW H × List MemPlace),
    flatEq P d t = some ss → DataW.trod enc P w base spare held fuel t cs = some x → wfCells ss cs := by
  intro d
  induction d with
  | zero => intro t ss fuel cs x h; simp [flatEq] at h
  | succ d ih =>
    intro t ss fuel cs x h hx
    have hsz := flatEq_size h
    by_cases hu : ∃ fs, P.underlying t = some (.struct fs)
    · obtain ⟨fs, hu⟩ := hu
      obtain ⟨_, hff, i, hi, hn⟩ := flatEq_struct h hu
      obtain ⟨xs, n, rfl, rfl, hl, hxs, hfield⟩ := DataW.trod_struct hu hx
      have key : ∀ (l : List Field) (k j : Nat) (ts : List Sh), (∀ q f, l[q]? = some f → fs[k + q]? = some f) → flatFields (flatEq P d) l j = some ts → j + ts.length = cs.length → wfCells ts (cs.drop j) := by
        intro l
        induction l with
        | nil =>
          intro k j ts _ hf hj
          simp only [flatFields, Option.some.injEq] at hf
          subst hf
          have : cs.drop j = [] := List.drop_eq_nil_of_le (by simp at hj; omega)
          rw [this]; trivial
        | cons f r ihr =>
          intro k j ts hmem hf hj
          simp only [flatFields] at hf
          cases hc : ((f.name != "_") && Nat.beq f.offset j)
          · simp [hc] at hf
          · simp only [hc, cond_true] at hf
            rw [Bool.and_eq_true] at hc
            have hoff := Nat.eq_of_beq_eq_true hc.2
            cases hm : flatEq P d f.type with
            | none => simp [hm] at hf
            | some m =>
              simp only [hm] at hf
              cases hz : m.isEmpty
              case true => simp [hz] at hf
              simp only [hz, cond_false] at hf
              cases hm2 : flatFields (flatEq P d) r (j + m.length) with
              | none => simp [hm2] at hf
              | some m2 =>
                simp only [hm2, Option.some.injEq] at hf
                subst hf
                simp only [List.length_append] at hj
                have hfi := hmem 0 f rfl
                have hq := hfield (k + 0) f hfi
                have hlt : k + 0 < xs.length := by rw [hxs]; exact (Array.getElem?_eq_some_iff.1 hfi).1
                rw [List.getElem?_eq_getElem hlt] at hq
                have hlen : ((cs.drop j).take m.length).length = m.length := by simp; omega
                have hcells := flatEq_size hm
                rw [hcells, hoff] at hq
                have hw := ih f.type m n _ _ hm hq
                have hrest := ihr (k + 1) (j + m.length) m2 (fun q g hg => by have := hmem (q + 1) g (by simpa using hg); rw [show k + 1 + q = k + (q + 1) by omega]; exact this) hm2 (by omega)
                have e : cs.drop j = (cs.drop j).take m.length ++ cs.drop (j + m.length) := by
                  rw [← List.drop_drop, List.take_append_drop]
                rw [e]
                exact wfCells_append hw hrest
      have := key fs.toList 0 0 ss (fun q f hf => by simpa using hf) hff (by rw [Nat.zero_add, ← hsz, hl])
      simpa using this
    · have h1 := flatEq_one h (fun gs e => hu ⟨gs, e⟩)
      rcases h1 with ⟨k, hk, rfl⟩ | ⟨hk, rfl⟩ | ⟨hk, rfl⟩
      · obtain ⟨n, rfl, _, hw⟩ := DataW.trod_int hk hx
        exact ⟨⟨rfl, hw⟩, trivial⟩
      · obtain ⟨b, rfl, _⟩ := DataW.trod_bool hk hx
        exact ⟨trivial, trivial⟩
      · obtain ⟨s, rfl, hs⟩ := trod_string' hk hx
        exact ⟨hs, trivial⟩

theorem weightsAll_mem {e : TypeId} {d : DataW H} : ∀ {l : List (DataW H)}, d ∈ l → ∀ k ∈ d.weights P e, k ∈ DataW.weightsAll P e l
  | [], h, _, _ => by simp at h
  | x :: r, h, k, hk => by
    simp only [DataW.weightsAll, List.mem_append]
    rcases List.mem_cons.1 h with rfl | h
    · exact .inl hk
    · exact .inr (weightsAll_mem h k hk)
/-- A slice of elements of which a reading tells something: its rows of cells. -/
theorem open_rowsP {t e : TypeId} {p : List Value → Prop} {fuel : Nat} {v : Value} {x : DataW H × List MemPlace} (ht : P.underlying t = some (.slice e)) (hpos : 0 < P.cellsOf e)
    (hp : ∀ n cs y, DataW.trod enc P w base spare held n e cs = some y → (∀ k ∈ y.1.weights P e, k ∈ x.1.weights P t) → p cs ∧ cs.length = P.cellsOf e)
    (h : DataW.trod enc P w base spare held fuel t v.cells.toList = some x) (hv : ∃ a l c, v = .slice a l c) :
    ∃ a l c, v = .slice a l c ∧ l ≤ c ∧ c ≤ maxLen ∧ ∃ rows : List (List Value), rows.length = l ∧ (∀ r ∈ rows, p r ∧ r.length = P.cellsOf e) ∧ rowAtK w.heap a rows.flatten := by
  obtain ⟨a, l, c, rfl⟩ := hv
  rcases Deep.open_slice ht h with ⟨hcs, _⟩ | ⟨a', len, cap, m, n, D, Pl, hcs, _, hl, hm, hmm, hxe, hel⟩
  · simp [Value.cells] at hcs
    obtain ⟨rfl, rfl, rfl⟩ := hcs
    exact ⟨none, 0, 0, rfl, Nat.le_refl _, by simp [maxLen], [], rfl, by simp, .inl rfl⟩
  · simp [Value.cells] at hcs
    obtain ⟨rfl, rfl, rfl⟩ := hcs
    refine ⟨some a', l, c, rfl, hl, hm, ?_⟩
    have hlm : l ≤ m := by rw [hmm]; split <;> omega
    obtain ⟨R, hR⟩ := Deep.choose_lt (α := List Value) (n := l) (p := fun i r => w.cells? base (a'.add (i * P.cellsOf e)) (P.cellsOf e) = some r ∧ (p r ∧ r.length = P.cellsOf e)) (fun i hi => by
      obtain ⟨cs', h1, h2⟩ := hel i (by omega)
      exact ⟨cs', h1, hp n cs' _ h2 (fun k hk => by
        rw [hxe]
        simp only [DataW.weights, ht, List.mem_cons, List.mem_append]
        exact .inr (.inl (weightsAll_mem (List.mem_map.2 ⟨i, List.mem_range.2 hi, rfl⟩) k hk)))⟩)
    refine ⟨(List.range l).map R, by simp, ?_, ?_⟩
    · intro r hr
      obtain ⟨i, hi, rfl⟩ := List.mem_map.1 hr
      exact (hR i (List.mem_range.1 hi)).2
    · rcases Nat.eq_zero_or_pos l with rfl | hl0
      · exact .inl rfl
      · -- the address has no spot, since its first cell is read
        have hcell : ∀ i j, i < l → j < P.cellsOf e → w.cell? ((a'.add (i * P.cellsOf e)).add j) = (R i)[j]? := fun i j hi hj => (World.cells?_some (hR i hi).1).2.2 j hj
        have h0 := hcell 0 0 hl0 hpos
        simp only [Nat.zero_mul, Addr.add_zero'] at h0
        have hspot : a'.spot = none := by
          obtain ⟨v, hv⟩ : ∃ v, (R 0)[0]? = some v := by
            have := (hR 0 hl0).2.2
            exact ⟨_, List.getElem?_eq_getElem (by rw [this]; exact hpos)⟩
          rw [hv] at h0
          unfold World.cell? at h0
          split at h0
          · split at h0
            · cases h0
            · rename_i hs; simpa using hs
          · cases h0
        refine .inr ⟨a'.block, a'.off, by rw [← hspot], ?_⟩
        have hlen : ∀ (k : Nat), ((List.range k).map R).flatten.length = k * P.cellsOf e ∨ l < k := by
          intro k
          induction k with
          | zero => simp
          | succ k ih =>
            rcases Nat.lt_or_ge k l with hk | hk
            · left
              rcases ih with ih | ih
              · rw [List.range_succ, List.map_append, List.flatten_append, List.length_append, ih]
                have := (hR k hk).2.2
                simp [this, Nat.succ_mul]
              · omega
            · right; omega
        have key : ∀ (k : Nat), k ≤ l → ∀ j, j < k * P.cellsOf e → cellAt w.heap a'.block (a'.off + j) = ((List.range k).map R).flatten[j]? := by
          intro k
          induction k with
          | zero => intro _ j hj; simp at hj
          | succ k ih =>
            intro hk j hj
            have hfl : ((List.range k).map R).flatten.length = k * P.cellsOf e := (hlen k).resolve_right (by omega)
            rw [List.range_succ, List.map_append, List.flatten_append]
            rcases Nat.lt_or_ge j (k * P.cellsOf e) with hj2 | hj2
            · rw [List.getElem?_append_left (by omega)]
              exact ih (by omega) j hj2
            · rw [List.getElem?_append_right (by omega), hfl]
              have h1 := hcell k (j - k * P.cellsOf e) (by omega) (by rw [Nat.succ_mul] at hj; omega)
              rw [Deep.add_add] at h1
              rw [show k * P.cellsOf e + (j - k * P.cellsOf e) = j by omega] at h1
              have ha : a' = ⟨a'.block, a'.off, none⟩ := by rw [← hspot]
              rw [ha, cell?_add] at h1
              simpa using h1
        intro j hj
        have hfl : ((List.range l).map R).flatten.length = l * P.cellsOf e := (hlen l).resolve_right (by omega)
        exact key l (Nat.le_refl _) j (by omega)

/-- A slice of flat elements: its rows of cells. -/
theorem open_rows {t e : TypeId} {ss : List Sh} {fuel : Nat} {v : Value} {x : DataW H × List MemPlace} (ht : P.underlying t = some (.slice e)) (he : flatEq P 8 e = some ss) (hne : ss ≠ [])
    (h : DataW.trod enc P w base spare held fuel t v.cells.toList = some x) (hv : ∃ a l c, v = .slice a l c) :
    ∃ a l c, v = .slice a l c ∧ l ≤ c ∧ c ≤ maxLen ∧ ∃ rows : List (List Value), rows.length = l ∧ (∀ r ∈ rows, wfCells ss r) ∧ rowAtK w.heap a rows.flatten := by
  have hsz := flatEq_size he
  have hpos : 0 < P.cellsOf e := by rw [hsz]; exact List.length_pos_iff.2 hne
  obtain ⟨a, l, c, h1, h2, h3, rows, h4, h5, h6⟩ := open_rowsP (p := wfCells ss) ht hpos (fun n cs y hy _ => by
    have := trod_flat 8 e ss n cs y he hy
    exact ⟨this, by rw [wfCells_len this, hsz]⟩) h hv
  exact ⟨a, l, c, h1, h2, h3, rows, h4, fun r hr => (h5 r hr).1, h6⟩

/-! ### elements that hold slices of flat elements -/
inductive Dh where
  | one (s : Sh) | row (ss : List Sh)
def wfD (h : Hp) : List Dh → List Value → Prop
  | [], [] => True
  | .one s :: r, v :: vs => wfCell s v ∧ wfD h r vs
  | .row ss :: r, v :: vs => (∃ a l c, v = .slice a l c ∧ l ≤ c ∧ l ≤ 140737488355328 ∧ ∃ rows : List (List Value), rows.length = l ∧ (∀ x ∈ rows, wfCells ss x) ∧ rowAtK h a rows.flatten) ∧ wfD h r vs
  | _, _ => False
theorem wfD_one {h : Hp} {s : Sh} {r : List Dh} {l : List Value} (k : wfD h (.one s :: r) l) : ∃ v t, l = v :: t ∧ wfCell s v ∧ wfD h r t := by
  cases l with
  | nil => exact k.elim
  | cons v t => exact ⟨v, t, rfl, k.1, k.2⟩
theorem wfD_row {h : Hp} {ss : List Sh} {r : List Dh} {l : List Value} (k : wfD h (.row ss :: r) l) :
    ∃ (a : Option Addr) (n c : Nat) (rows : List (List Value)) (t : List Value), l = .slice a n c :: t ∧ n ≤ c ∧ n ≤ 140737488355328 ∧ rows.length = n ∧ (∀ x ∈ rows, wfCells ss x) ∧ rowAtK h a rows.flatten ∧ wfD h r t := by
  cases l with
  | nil => exact k.elim
  | cons v t =>
    obtain ⟨⟨a, n, c, rfl, h1, h2, rows, h3, h4, h5⟩, hr⟩ := k
    exact ⟨a, n, c, rows, t, rfl, h1, h2, h3, h4, h5, hr⟩
theorem wfD_nil {h : Hp} {l : List Value} (k : wfD h [] l) : l = [] := by
  cases l with
  | nil => rfl
  | cons v r => exact k.elim
theorem wfD_len {h : Hp} : ∀ {s : List Dh} {l : List Value}, wfD h s l → l.length = s.length
  | [], [], _ => rfl
  | .one s :: r, v :: vs, k => by simp [wfD_len k.2]
  | .row s :: r, v :: vs, k => by simp [wfD_len k.2]
  | [], _ :: _, k => k.elim
  | .one _ :: _, [], k => k.elim
  | .row _ :: _, [], k => k.elim
theorem wfD_append {h : Hp} : ∀ {s t : List Dh} {l m : List Value}, wfD h s l → wfD h t m → wfD h (s ++ t) (l ++ m)
  | [], t, [], m, _, k => k
  | .one s :: r, t, v :: vs, m, k, k2 => ⟨k.1, wfD_append k.2 k2⟩
  | .row s :: r, t, v :: vs, m, k, k2 => ⟨k.1, wfD_append k.2 k2⟩
  | [], _, _ :: _, _, k, _ => k.elim
  | .one _ :: _, _, [], _, k, _ => k.elim
  | .row _ :: _, _, [], _, k, _ => k.elim
theorem wfD_flat {h : Hp} : ∀ {s : List Sh} {l : List Value}, wfCells s l → wfD h (s.map .one) l
  | [], [], _ => trivial
  | s :: r, v :: vs, k => ⟨k.1, wfD_flat k.2⟩
  | [], _ :: _, k => k.elim
  | _ :: _, [], k => k.elim

def deepField (P : Program) (t : TypeId) : Option (List Dh) :=
  match flatEq P 8 t with
  | some m => some (m.map .one)
  | none => match P.underlying t with
    | some (.slice e) => match flatEq P 8 e with
      | some ss => bif !ss.isEmpty && (Nat.beq (P.cellsOf t) 1 && Nat.ble 1 (P.bytesOf e)) then some [.row ss] else none
      | none => none
    | _ => none
def deepFields (P : Program) : List Field → Nat → Option (List Dh)
  | [], _ => some []
  | f :: r, i => bif Nat.beq f.offset i then (match deepField P f.type with
    | some n => match deepFields P r (i + n.length) with
      | some m => some (n ++ m)
      | none => none
    | none => none) else none
def deepEq (P : Program) (t : TypeId) : Option (List Dh) :=
  match P.underlying t with
  | some (.struct fs) => match deepFields P fs.toList 0, P.info? t with
    | some n, some i => bif Nat.beq i.size n.length then some n else none
    | _, _ => none
  | _ => none

theorem trod_deepField {t : TypeId} {ds : List Dh} {fuel : Nat} {cs : List Value} {x : DataW H × List MemPlace} (h : deepField P t = some ds) (hx : DataW.trod enc P w base spare held fuel t cs = some x) (hsz : ∀ k ∈ x.1.weights P t, k ≤ reachBytes) :
    wfD w.heap ds cs := by
  unfold deepField at h
  split at h
  · rename_i m hm
    cases h
    exact wfD_flat (trod_flat 8 t m fuel cs x hm hx)
  · split at h
    · rename_i e hu
      split at h
      · rename_i ss hss
        cases hc : (!ss.isEmpty && (Nat.beq (P.cellsOf t) 1 && Nat.ble 1 (P.bytesOf e)))
        · simp [hc] at h
        · simp only [hc, cond_true, Option.some.injEq] at h
          subst h
          rw [Bool.and_eq_true, Bool.and_eq_true] at hc
          have hne : ss ≠ [] := by intro e; subst e; simp at hc
          have hby : 1 ≤ P.bytesOf e := Nat.le_of_ble_eq_true hc.2.2
          have hcs : ∃ a l c, cs = [.slice a l c] ∧ l ≤ 140737488355328 := by
            rcases Deep.open_slice hu hx with ⟨hcs, _⟩ | ⟨a', len, cap, m, n, D, Pl, hcs, _, _, _, _, hxe, _⟩
            · exact ⟨_, _, _, hcs, by omega⟩
            · refine ⟨_, _, _, hcs, ?_⟩
              have h1 := hsz (((List.range len).map D).length * P.bytesOf e + ((List.range (m - len)).map fun j => D (len + j)).length * P.bytesOf e) (by
                rw [hxe]
                simp only [DataW.weights, hu, List.mem_cons]
                left; rw [Nat.add_mul])
              have h2 := reachBytes_lt
              have h3 : len ≤ len * P.bytesOf e := Nat.le_mul_of_pos_right _ hby
              simp only [List.length_map, List.length_range] at h1
              omega
          obtain ⟨a, l, c, rfl, hlim⟩ := hcs
          obtain ⟨a', l', c', e1, e2, e3, e4⟩ := open_rows (v := .slice a l c) hu hss hne (by simpa [Value.cells] using hx) ⟨_, _, _, rfl⟩
          cases e1
          exact ⟨⟨a, l, c, rfl, e2, hlim, e4⟩, trivial⟩
      · cases h
    · cases h
theorem deepField_size {t : TypeId} {ds : List Dh} (h : deepField P t = some ds) : P.cellsOf t = ds.length := by
  unfold deepField at h
  split at h
  · rename_i m hm
    cases h
    rw [flatEq_size hm, List.length_map]
  · split at h
    · rename_i e hu
      split at h
      · rename_i ss hss
        cases hc : (!ss.isEmpty && (Nat.beq (P.cellsOf t) 1 && Nat.ble 1 (P.bytesOf e)))
        · simp [hc] at h
        · simp only [hc, cond_true, Option.some.injEq] at h
          subst h
          rw [Bool.and_eq_true, Bool.and_eq_true] at hc
          exact Nat.eq_of_beq_eq_true hc.2.1
      · cases h
    · cases h
theorem trod_deep {t : TypeId} {ds : List Dh} {fuel : Nat} {cs : List Value} {x : DataW H × List MemPlace} (h : deepEq P t = some ds) (hx : DataW.trod enc P w base spare held fuel t cs = some x) (hsz : ∀ k ∈ x.1.weights P t, k ≤ reachBytes) :
    wfD w.heap ds cs ∧ cs.length = P.cellsOf t := by
  unfold deepEq at h
  split at h
  · rename_i fs hu
    split at h
    · rename_i n i hff hi
      cases hc : Nat.beq i.size n.length
      · simp [hc] at h
      · simp only [hc, cond_true, Option.some.injEq] at h
        subst h
        have hcz : P.cellsOf t = n.length := by simpa [Program.cellsOf, hi] using Nat.eq_of_beq_eq_true hc
        obtain ⟨xs, m, rfl, rfl, hl, hxs, hfield⟩ := DataW.trod_struct hu hx
        have key : ∀ (l : List Field) (k j : Nat) (ts : List Dh), (∀ q f, l[q]? = some f → fs[k + q]? = some f) → deepFields P l j = some ts → j + ts.length = cs.length → wfD w.heap ts (cs.drop j) := by
          intro l
          induction l with
          | nil =>
            intro k j ts _ hf hj
            simp only [deepFields, Option.some.injEq] at hf
            subst hf
            have : cs.drop j = [] := List.drop_eq_nil_of_le (by simp at hj; omega)
            rw [this]; trivial
          | cons f r ihr =>
            intro k j ts hmem hf hj
            simp only [deepFields] at hf
            cases hc : Nat.beq f.offset j
            · simp [hc] at hf
            · simp only [hc, cond_true] at hf
              have hoff := Nat.eq_of_beq_eq_true hc
              cases hm : deepField P f.type with
              | none => simp [hm] at hf
              | some m' =>
                simp only [hm] at hf
                cases hm2 : deepFields P r (j + m'.length) with
                | none => simp [hm2] at hf
                | some m2 =>
                  simp only [hm2, Option.some.injEq] at hf
                  subst hf
                  simp only [List.length_append] at hj
                  have hfi := hmem 0 f rfl
                  have hq := hfield (k + 0) f hfi
                  have hlt : k + 0 < xs.length := by rw [hxs]; exact (Array.getElem?_eq_some_iff.1 hfi).1
                  rw [List.getElem?_eq_getElem hlt] at hq
                  rw [deepField_size hm, hoff] at hq
                  have hw := trod_deepField hm hq (fun q hk => hsz q (by
                    simp only [DataW.weights, hu]
                    refine DataW.weights_mem_each (j := k + 0) (t := f.type) (d := xs[k + 0].1) ?_ ?_ q hk
                    · rw [List.getElem?_map, Array.getElem?_toList, hfi]; rfl
                    · rw [List.getElem?_map, List.getElem?_eq_getElem hlt]; rfl))
                  have hrest := ihr (k + 1) (j + m'.length) m2 (fun q g hg => by have := hmem (q + 1) g (by simpa using hg); rw [show k + 1 + q = k + (q + 1) by omega]; exact this) hm2 (by omega)
                  have e : cs.drop j = (cs.drop j).take m'.length ++ cs.drop (j + m'.length) := by
                    rw [← List.drop_drop, List.take_append_drop]
                  rw [e]
                  exact wfD_append hw hrest
        have := key fs.toList 0 0 _ (fun q f hf => by simpa using hf) hff (by rw [Nat.zero_add, ← hcz, hl])
        exact ⟨by simpa using this, hl⟩
    · cases h
  · cases h
/-- A slice of structs that hold slices of flat elements. -/
theorem open_rowsD {t e : TypeId} {ds : List Dh} {fuel : Nat} {v : Value} {x : DataW H × List MemPlace} (ht : P.underlying t = some (.slice e)) (he : deepEq P e = some ds) (hpos : 0 < P.cellsOf e) (hsz : ∀ k ∈ x.1.weights P t, k ≤ reachBytes)
    (h : DataW.trod enc P w base spare held fuel t v.cells.toList = some x) (hv : ∃ a l c, v = .slice a l c) :
    ∃ a l c, v = .slice a l c ∧ l ≤ c ∧ c ≤ maxLen ∧ ∃ rows : List (List Value), rows.length = l ∧ (∀ r ∈ rows, wfD w.heap ds r) ∧ rowAtK w.heap a rows.flatten := by
  obtain ⟨a, l, c, h1, h2, h3, rows, h4, h5, h6⟩ := open_rowsP (p := wfD w.heap ds) ht hpos (fun n cs y hy hk => trod_deep he hy (fun q hq => hsz q (hk q hq))) h hv
  exact ⟨a, l, c, h1, h2, h3, rows, h4, fun r hr => (h5 r hr).1, h6⟩

/-- A struct of flat cells, handed by value. -/
theorem open_flat {t : TypeId} {fs : Array Field} {ss : List Sh} {v : Value} {x : DataW H × List MemPlace} {r : Reach} {base2 : Nat} (ht : P.underlying t = some (.struct fs)) (he : flatEq P 8 t = some ss)
    (hv : Value.okWide P w r base2 t v) (h : ∃ fuel, DataW.trod enc P w base spare held fuel t v.cells.toList = some x) : ∃ cs, v = .agg ⟨cs⟩ ∧ wfCells ss cs := by
  unfold Value.okWide at hv
  rw [ht] at hv
  obtain ⟨cs, rfl, _, _⟩ := hv
  obtain ⟨fuel, h⟩ := h
  refine ⟨cs.toList, rfl, ?_⟩
  exact trod_flat 8 t ss fuel _ _ he h

/-- Rows that are each an encoding are an encoding. -/
theorem rows_enc {α : Type} {f : α → List Value} {ok : α → Prop} : ∀ {rows : List (List Value)}, (∀ r ∈ rows, ∃ x, r = f x ∧ ok x) → ∃ l : List α, rows.length = l.length ∧ rows.flatten = encL f l ∧ ∀ x ∈ l, ok x
  | [], _ => ⟨[], rfl, rfl, by simp⟩
  | r :: rs, h => by
    obtain ⟨x, rfl, hx⟩ := h r List.mem_cons_self
    obtain ⟨l, h1, h2, h3⟩ := rows_enc (f := f) (ok := ok) fun r hr => h r (List.mem_cons_of_mem _ hr)
    refine ⟨x :: l, by simp [h1], by rw [encL_cons, ← h2]; rfl, ?_⟩
    intro y hy
    rcases List.mem_cons.1 hy with rfl | hy
    · exact hx
    · exact h3 y hy
end
end Go.Wd
