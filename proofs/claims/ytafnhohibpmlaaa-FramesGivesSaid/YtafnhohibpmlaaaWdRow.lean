/-
  Arguments: what a reading tells of them as rows of cells.
-/
import Derived.Test.YtafnhohibpmlaaaWdHeap
import Derived.Deep.Slices
import Derived.ProofKit
import Derived.OpenShut
import Derived.ShutString
import Derived.ChangeOld
import Derived.SizedLaws
import Derived.Carry
namespace Go.Wd
set_option linter.unusedSimpArgs false
set_option linter.unusedVariables false
open Go Go.RowKit

/-- Cells of given kinds, each within its kind's bounds. -/
def wfCell : Sh → Value → Prop
  | .int k, .int k' n => k = k' ∧ (Lit.int k n).wf = true
  | .bool, .bool _ => True
  | .str, .string s => s.size ≤ maxLen
  | _, _ => False

def wfCells : List Sh → List Value → Prop
  | [], [] => True
  | s :: r, v :: vs => wfCell s v ∧ wfCells r vs
  | _, _ => False

theorem wfCells_cons {s : Sh} {ss : List Sh} {l : List Value} (h : wfCells (s :: ss) l) : ∃ v r, l = v :: r ∧ wfCell s v ∧ wfCells ss r := by
  cases l with
  | nil => exact h.elim
  | cons v r => exact ⟨v, r, rfl, h.1, h.2⟩
theorem wfCells_nil {l : List Value} (h : wfCells [] l) : l = [] := by
  cases l with
  | nil => rfl
  | cons v r => exact h.elim
theorem wf_bounds {k : IntKind} {n : Int} (h : (Lit.int k n).wf = true) : k.min ≤ n ∧ n ≤ k.max := by
  simpa [Lit.wf] using h
theorem wfInt {k : IntKind} {v : Value} (h : wfCell (.int k) v) : ∃ n, v = .int k n ∧ k.min ≤ n ∧ n ≤ k.max := by
  cases v <;> first | exact h.elim | skip
  obtain ⟨rfl, hw⟩ := h
  exact ⟨_, rfl, wf_bounds hw⟩
theorem wfBool {v : Value} (h : wfCell .bool v) : ∃ b, v = .bool b := by
  cases v <;> first | exact h.elim | exact ⟨_, rfl⟩
theorem min_i64 : IntKind.min .i64 = -9223372036854775808 := by decide
theorem max_i64 : IntKind.max .i64 = 9223372036854775807 := by decide
theorem min_u64 : IntKind.min .u64 = 0 := by decide
theorem max_u64 : IntKind.max .u64 = 18446744073709551615 := by decide
theorem min_u32 : IntKind.min .u32 = 0 := by decide
theorem max_u32 : IntKind.max .u32 = 4294967295 := by decide
theorem min_u8 : IntKind.min .u8 = 0 := by decide
theorem max_u8 : IntKind.max .u8 = 255 := by decide

theorem wfCells_len : ∀ {s : List Sh} {l : List Value}, wfCells s l → l.length = s.length
  | [], [], _ => rfl
  | s :: r, v :: vs, h => by simp [wfCells_len h.2]
  | [], _ :: _, h => h.elim
  | _ :: _, [], h => h.elim

theorem wfCells_append : ∀ {s t : List Sh} {l m : List Value}, wfCells s l → wfCells t m → wfCells (s ++ t) (l ++ m)
  | [], t, [], m, _, h => h
  | s :: r, t, v :: vs, m, h, k => ⟨h.1, wfCells_append h.2 k⟩
  | [], _, _ :: _, _, h, _ => h.elim
  | _ :: _, _, [], _, h, _ => h.elim

section
variable {H : Type} {enc : TypeId × Value → H} {P : Program} {w : World} {base : Nat} {spare : Nat → Bool} {held : Bool}

theorem trod_string' {t : TypeId} {fuel : Nat} {cs : List Value} {x : DataW H × List MemPlace} (ht : P.underlying t = some .string) (h : DataW.trod enc P w base spare held fuel t cs = some x) : ∃ s, cs = [.string s] ∧ s.size ≤ maxLen := by
  cases fuel with
  | zero => simp [DataW.trod] at h
  | succ n =>
    unfold DataW.trod at h
    rw [ht] at h
    split at h <;> simp_all

/-- A flat type's cells, as a reading meets them. -/
theorem trod_flat : ∀ (d : Nat) (t : TypeId) (ss : List Sh) (fuel : Nat) (cs : List Value) (x : DataW H × List MemPlace),
    flatEq P d t = some ss → DataW.trod enc P w base spare held fuel t cs = some x → wfCells ss cs := by
  intro d
  induction d with
  | zero => intro t ss fuel cs x h; simp [flatEq] at h
  | succ d ih =>
    intro t ss fuel cs x h hx
    have hsz := flatEq_size h
    by_cases hu : ∃ fs, P.underlying t = some (.struct fs)
    · obtain ⟨fs, hu⟩ := hu
      obtain ⟨_, hff, i, hi, hn⟩ := flatEq_struct h hu
      obtain ⟨xs, n, rfl, rfl, hl, hxs, hfield⟩ := DataW.trod_struct hu hx
      have key : ∀ (l : List Field) (k j : Nat) (ts : List Sh), (∀ q f, l[q]? = some f → fs[k + q]? = some f) → flatFields (flatEq P d) l j = some ts → j + ts.length = cs.length → wfCells ts (cs.drop j) := by
        intro l
        induction l with
        | nil =>
          intro k j ts _ hf hj
          simp only [flatFields, Option.some.injEq] at hf
          subst hf
          have : cs.drop j = [] := List.drop_eq_nil_of_le (by simp at hj; omega)
          rw [this]; trivial
        | cons f r ihr =>
          intro k j ts hmem hf hj
          simp only [flatFields] at hf
          cases hc : ((f.name != "_") && Nat.beq f.offset j)
          · simp [hc] at hf
          · simp only [hc, cond_true] at hf
            rw [Bool.and_eq_true] at hc
            have hoff := Nat.eq_of_beq_eq_true hc.2
            cases hm : flatEq P d f.type with
            | none => simp [hm] at hf
            | some m =>
              simp only [hm] at hf
              cases hz : m.isEmpty
              case true => simp [hz] at hf
              simp only [hz, cond_false] at hf
              cases hm2 : flatFields (flatEq P d) r (j + m.length) with
              | none => simp [hm2] at hf
              | some m2 =>
                simp only [hm2, Option.some.injEq] at hf
                subst hf
                simp only [List.length_append] at hj
                have hfi := hmem 0 f rfl
                have hq := hfield (k + 0) f hfi
                have hlt : k + 0 < xs.length := by rw [hxs]; exact (Array.getElem?_eq_some_iff.1 hfi).1
                rw [List.getElem?_eq_getElem hlt] at hq
                have hlen : ((cs.drop j).take m.length).length = m.length := by simp; omega
                have hcells := flatEq_size hm
                rw [hcells, hoff] at hq
                have hw := ih f.type m n _ _ hm hq
                have hrest := ihr (k + 1) (j + m.length) m2 (fun q g hg => by have := hmem (q + 1) g (by simpa using hg); rw [show k + 1 + q = k + (q + 1) by omega]; exact this) hm2 (by omega)
                have e : cs.drop j = (cs.drop j).take m.length ++ cs.drop (j + m.length) := by
                  rw [← List.drop_drop, List.take_append_drop]
                rw [e]
                exact wfCells_append hw hrest
      have := key fs.toList 0 0 ss (fun q f hf => by simpa using hf) hff (by rw [Nat.zero_add, ← hsz, hl])
      simpa using this
    · have h1 := flatEq_one h (fun gs e => hu ⟨gs, e⟩)
      rcases h1 with ⟨k, hk, rfl⟩ | ⟨hk, rfl⟩ | ⟨hk, rfl⟩
      · obtain ⟨n, rfl, _, hw⟩ := DataW.trod_int hk hx
        exact ⟨⟨rfl, hw⟩, trivial⟩
      · obtain ⟨b, rfl, _⟩ := DataW.trod_bool hk hx
        exact ⟨trivial, trivial⟩
      · obtain ⟨s, rfl, hs⟩ := trod_string' hk hx
        exact ⟨hs, trivial⟩

/-- A slice of flat elements: its rows of cells. -/
theorem open_rows {t e : TypeId} {ss : List Sh} {fuel : Nat} {v : Value} {x : DataW H × List MemPlace} (ht : P.underlying t = some (.slice e)) (he : flatEq P 8 e = some ss) (hne : ss ≠ [])
    (h : DataW.trod enc P w base spare held fuel t v.cells.toList = some x) (hv : ∃ a l c, v = .slice a l c) :
    ∃ a l c, v = .slice a l c ∧ l ≤ c ∧ c ≤ maxLen ∧ ∃ rows : List (List Value), rows.length = l ∧ (∀ r ∈ rows, wfCells ss r) ∧ rowAtK w.heap a rows.flatten := by
  obtain ⟨a, l, c, rfl⟩ := hv
  rcases Deep.open_slice ht h with ⟨hcs, _⟩ | ⟨a', len, cap, m, n, D, Pl, hcs, _, hl, hm, hmm, _, hel⟩
  · simp [Value.cells] at hcs
    obtain ⟨rfl, rfl, rfl⟩ := hcs
    exact ⟨none, 0, 0, rfl, Nat.le_refl _, by simp [maxLen], [], rfl, by simp, .inl rfl⟩
  · simp [Value.cells] at hcs
    obtain ⟨rfl, rfl, rfl⟩ := hcs
    refine ⟨some a', l, c, rfl, hl, hm, ?_⟩
    have hlm : l ≤ m := by rw [hmm]; split <;> omega
    obtain ⟨R, hR⟩ := Deep.choose_lt (α := List Value) (n := l) (p := fun i r => w.cells? base (a'.add (i * P.cellsOf e)) (P.cellsOf e) = some r ∧ wfCells ss r) (fun i hi => by
      obtain ⟨cs', h1, h2⟩ := hel i (by omega)
      exact ⟨cs', h1, trod_flat 8 e ss n cs' _ he h2⟩)
    have hsz := flatEq_size he
    have hpos : 0 < P.cellsOf e := by rw [hsz]; exact List.length_pos_iff.2 hne
    refine ⟨(List.range l).map R, by simp, ?_, ?_⟩
    · intro r hr
      obtain ⟨i, hi, rfl⟩ := List.mem_map.1 hr
      exact (hR i (List.mem_range.1 hi)).2
    · rcases Nat.eq_zero_or_pos l with rfl | hl0
      · exact .inl rfl
      · -- the address has no spot, since its first cell is read
        have hcell : ∀ i j, i < l → j < P.cellsOf e → w.cell? ((a'.add (i * P.cellsOf e)).add j) = (R i)[j]? := fun i j hi hj => (World.cells?_some (hR i hi).1).2.2 j hj
        have h0 := hcell 0 0 hl0 hpos
        simp only [Nat.zero_mul, Addr.add_zero'] at h0
        have hspot : a'.spot = none := by
          obtain ⟨v, hv⟩ : ∃ v, (R 0)[0]? = some v := by
            have := wfCells_len (hR 0 hl0).2
            exact ⟨_, List.getElem?_eq_getElem (by rw [this, ← hsz]; exact hpos)⟩
          rw [hv] at h0
          unfold World.cell? at h0
          split at h0
          · split at h0
            · cases h0
            · rename_i hs; simpa using hs
          · cases h0
        refine .inr ⟨a'.block, a'.off, by rw [← hspot], ?_⟩
        have hlen : ∀ (k : Nat), ((List.range k).map R).flatten.length = k * P.cellsOf e ∨ l < k := by
          intro k
          induction k with
          | zero => simp
          | succ k ih =>
            rcases Nat.lt_or_ge k l with hk | hk
            · left
              rcases ih with ih | ih
              · rw [List.range_succ, List.map_append, List.flatten_append, List.length_append, ih]
                have := wfCells_len (hR k hk).2
                simp [this, ← hsz, Nat.succ_mul]
              · omega
            · right; omega
        have key : ∀ (k : Nat), k ≤ l → ∀ j, j < k * P.cellsOf e → cellAt w.heap a'.block (a'.off + j) = ((List.range k).map R).flatten[j]? := by
          intro k
          induction k with
          | zero => intro _ j hj; simp at hj
          | succ k ih =>
            intro hk j hj
            have hfl : ((List.range k).map R).flatten.length = k * P.cellsOf e := (hlen k).resolve_right (by omega)
            rw [List.range_succ, List.map_append, List.flatten_append]
            rcases Nat.lt_or_ge j (k * P.cellsOf e) with hj2 | hj2
            · rw [List.getElem?_append_left (by omega)]
              exact ih (by omega) j hj2
            · rw [List.getElem?_append_right (by omega), hfl]
              have h1 := hcell k (j - k * P.cellsOf e) (by omega) (by rw [Nat.succ_mul] at hj; omega)
              rw [Deep.add_add] at h1
              rw [show k * P.cellsOf e + (j - k * P.cellsOf e) = j by omega] at h1
              have ha : a' = ⟨a'.block, a'.off, none⟩ := by rw [← hspot]
              rw [ha, cell?_add] at h1
              simpa using h1
        intro j hj
        have hfl : ((List.range l).map R).flatten.length = l * P.cellsOf e := (hlen l).resolve_right (by omega)
        exact key l (Nat.le_refl _) j (by omega)

/-- A struct of flat cells, handed by value. -/
theorem open_flat {t : TypeId} {fs : Array Field} {ss : List Sh} {v : Value} {x : DataW H × List MemPlace} {r : Reach} {base2 : Nat} (ht : P.underlying t = some (.struct fs)) (he : flatEq P 8 t = some ss)
    (hv : Value.okWide P w r base2 t v) (h : ∃ fuel, DataW.trod enc P w base spare held fuel t v.cells.toList = some x) : ∃ cs, v = .agg ⟨cs⟩ ∧ wfCells ss cs := by
  unfold Value.okWide at hv
  rw [ht] at hv
  obtain ⟨cs, rfl, _, _⟩ := hv
  obtain ⟨fuel, h⟩ := h
  refine ⟨cs.toList, rfl, ?_⟩
  exact trod_flat 8 t ss fuel _ _ he h

/-- Rows that are each an encoding are an encoding. -/
theorem rows_enc {α : Type} {f : α → List Value} {ok : α → Prop} : ∀ {rows : List (List Value)}, (∀ r ∈ rows, ∃ x, r = f x ∧ ok x) → ∃ l : List α, rows.length = l.length ∧ rows.flatten = encL f l ∧ ∀ x ∈ l, ok x
  | [], _ => ⟨[], rfl, rfl, by simp⟩
  | r :: rs, h => by
    obtain ⟨x, rfl, hx⟩ := h r List.mem_cons_self
    obtain ⟨l, h1, h2, h3⟩ := rows_enc (f := f) (ok := ok) fun r hr => h r (List.mem_cons_of_mem _ hr)
    refine ⟨x :: l, by simp [h1], by rw [encL_cons, ← h2]; rfl, ?_⟩
    intro y hy
    rcases List.mem_cons.1 hy with rfl | hy
    · exact hx
    · exact h3 y hy
end
end Go.Wd
