/-
  The operations that make memory, write it, or call: what each comes to.
-/
import Derived.Test.YtmldiibfmhkgjaaWdQuiet
namespace Go.Wd
set_option linter.unusedSimpArgs false
set_option linter.unusedVariables false
open Go Go.RowKit
variable {lk : Lock} {ds : List Deferred}

/-- A call that returns: told of heaps alone. -/
def CallsH (P : Program) (f : FuncId) (args : List Value) (h : Hp) (R : Value → Hp → Prop) : Prop :=
  ∀ w : World, w.heap = h → Calls P f ⟨args⟩ w fun e w' => ∃ v, e = .returned v ∧ Same w w' ∧ R v w'.heap

theorem CallsH.mono {P : Program} {f : FuncId} {args : List Value} {h : Hp} {R R' : Value → Hp → Prop} (hc : CallsH P f args h R) (hr : ∀ v h', R v h' → R' v h') :
    CallsH P f args h R' := fun w hw => (hc w hw).mono fun e w' ⟨v, e1, s, r⟩ => ⟨v, e1, s, hr _ _ r⟩

/-- A call that returns, or panics for the first time. -/
def CallsX (P : Program) (f : FuncId) (args : List Value) (h : Hp) (R : Value → Hp → Prop) (X : Value → Hp → Prop) : Prop :=
  ∀ w : World, w.heap = h → Calls P f ⟨args⟩ w fun e w' => (∃ v, e = .returned v ∧ Same w w' ∧ R v w'.heap) ∨ ∃ x, e = .panicked [{ v := x, recovered := false }] ∧ Same w w' ∧ X x w'.heap

theorem CallsX.mono {P : Program} {f : FuncId} {args : List Value} {h : Hp} {R R' X X' : Value → Hp → Prop} (hc : CallsX P f args h R X) (hr : ∀ v h', R v h' → R' v h') (hx : ∀ v h', X v h' → X' v h') :
    CallsX P f args h R' X' := fun w hw => (hc w hw).mono fun e w' hh => by
  rcases hh with ⟨v, e1, s, r⟩ | ⟨v, e1, s, r⟩
  · exact .inl ⟨v, e1, s, hr _ _ r⟩
  · exact .inr ⟨v, e1, s, hx _ _ r⟩

/-- The cells of a value that is known in part. -/
def cellsL : SV → Option (List Value)
  | .agg cs => some cs
  | .tuple _ => none
  | .undef => none
  | .raw (.map r) => some [.map r]
  | .raw (.chan r) => some [.chan r]
  | .raw .nilIface => some [.nilIface]
  | .raw .nilFunc => some [.nilFunc]
  | .raw (.iface t v) => some [.iface t v]
  | .raw _ => none
  | v => some [v.val]

theorem cellsL_val {v : SV} {l : List Value} (h : cellsL v = some l) : v.val.cells = ⟨l⟩ := by
  cases v <;> simp only [cellsL, Option.some.injEq] at h <;> first | (subst h; rfl) | (exact absurd h (by simp)) | skip
  rename_i v
  cases v <;> simp at h <;> subst h <;> rfl

def oneCells (l : List Value) : Bool := l.all fun v => match v with | .agg _ => false | .tuple _ => false | _ => true

/-- A word of its own, so that no rule rewrites it where the rest is looked at. -/
def truly (b : Bool) : Prop := b = true
@[simp] theorem truly_true : truly true = True := by simp [truly]
theorem truly_rfl : truly true := rfl

theorem oneCells_all {l : List Value} (h : oneCells l = true) : ∀ u ∈ l, u.oneCell' = true := by
  intro u hu
  have := List.all_eq_true.1 h u hu
  cases u <;> simp_all [Value.oneCell']

/-- So many cells: nothing is owed where they are written out. -/
def lenIs (cs : List Value) (n : Nat) (K : Prop) : Prop := bif Nat.beq cs.length n then K else cs.length = n ∧ K
theorem lenIs_elim {cs : List Value} {n : Nat} {K : Prop} (h : lenIs cs n K) : cs.length = n ∧ K := by
  unfold lenIs at h
  cases hs : Nat.beq cs.length n
  · rw [hs, cond_false] at h; exact h
  · rw [hs, cond_true] at h; exact ⟨Nat.eq_of_beq_eq_true hs, h⟩
theorem lenIs_intro {cs : List Value} {n : Nat} {K : Prop} (hn : cs.length = n) (h : K) : lenIs cs n K := by
  unfold lenIs
  cases hs : Nat.beq cs.length n
  · rw [cond_false]; exact ⟨hn, h⟩
  · rw [cond_true]; exact h

/-- A row of cells that is written from a place on. -/
def storeK (P : Program) (t : TypeId) (h : Hp) (b o : Nat) (v : SV) (K : Hp → Prop) : Prop :=
  match P.info? t, cellsL v with
  | some i, some cs => lenIs cs i.size (truly (oneCells cs) ∧ ∃ (T : TypeId) (l : List Value), bk h b = some (blk T l) ∧ o + cs.length ≤ l.length ∧ ∀ h1, h1 = upd h b T (writeAt l o cs) → K h1)
  | _, _ => False

theorem writeAt_eq : ∀ (vs : List Value) (l : List Value) (o : Nat), o + vs.length ≤ l.length → writeAt l o vs = l.take o ++ vs ++ l.drop (o + vs.length)
  | [], l, o, _ => by simp [writeAt]
  | v :: vs, l, o, h => by
    simp only [List.length_cons] at h
    rw [writeAt, writeAt_eq vs (l.set o v) (o + 1) (by simp; omega)]
    have h1 : (l.set o v).take (o + 1) = l.take o ++ [v] := by
      rw [List.take_succ_eq_append_getElem (by simp; omega), List.take_set, List.set_eq_of_length_le (by simp; omega)]
      simp
    have h2 : (l.set o v).drop (o + 1 + vs.length) = l.drop (o + (v :: vs).length) := by
      rw [List.drop_set, if_pos (by omega)]
      congr 1
      simp; omega
    rw [h1, h2]
    simp

theorem setRow_upd (w : World) (b : Nat) (T : TypeId) (l l' : List Value) (h : w.heap[b]? = some (blk T l)) : (w.setRow b ⟨l'⟩).heap = upd w.heap b T l' := by
  apply Array.ext_getElem?
  intro i
  by_cases hi : i = b
  · subst hi
    rw [setRow_heap w i ⟨l⟩ ⟨l'⟩ T (0, 0) h]
    have hlt : i < w.heap.size := (Array.getElem?_eq_some_iff.1 h).1
    simp [upd, hlt]
  · rw [setRow_other w b i _ hi]
    simp [upd, Array.getElem?_setIfInBounds]
    intro e; exact absurd e.symm hi

theorem setRow_same (w : World) (b : Nat) (l' : Array Value) : Same w (w.setRow b l') := ⟨rfl, rfl, rfl⟩

theorem run_storeVar {P : Program} {w : World} {t : TypeId} {i : TypeInfo} (hi : P.info? t = some i) {v : Value} {cs : List Value} (hc : v.cells = ⟨cs⟩) (hs : cs.length = i.size)
    (h1 : oneCells cs = true) {b o : Nat} {T : TypeId} {l : List Value} (hb : w.heap[b]? = some (blk T l)) (hl : o + cs.length ≤ l.length) :
    ∃ w', (storeVar t ⟨b, o, none⟩ v).run P w = .ok () w' ∧ Same w w' ∧ w'.heap = upd w.heap b T (writeAt l o cs) := by
  have hst := run_storeCells_at P b o T cs 0 ⟨l⟩ w hb (by simpa using hl) (oneCells_all h1)
  refine ⟨w.setRow b (l.take o ++ cs ++ l.drop (o + cs.length)).toArray, ?_, setRow_same w b _, ?_⟩
  · simp only [storeVar, Sem.run_bind, run_sizeOf hi, Result.andThen_ok, hc]
    rw [if_neg (by simp [hs])]
    simpa using hst
  · rw [writeAt_eq cs l o hl]
    exact setRow_upd w b T l _ hb

theorem storeK_elim {P : Program} {t : TypeId} {h : Hp} {b o : Nat} {v : SV} {K : Hp → Prop} (hk : storeK P t h b o v K) {w : World} (hw : w.heap = h) :
    ∃ w', (storeVar t ⟨b, o, none⟩ v.val).run P w = .ok () w' ∧ Same w w' ∧ K w'.heap := by
  unfold storeK at hk
  split at hk
  · rename_i i cs hi hc
    obtain ⟨hs, hk⟩ := lenIs_elim hk
    obtain ⟨h1, T, l, hb, hl, hK⟩ := hk
    obtain ⟨w', hr, hsame, he⟩ := run_storeVar (P := P) hi (cellsL_val hc) hs h1 (by rw [hw]; exact hb) hl
    exact ⟨w', hr, hsame, hK _ (by rw [he, hw])⟩
  · exact hk.elim

/-! ### new memory -/
def zeros (z : List Value) (m : Nat) : List Value := (List.replicate m z).flatten

theorem zeros_eq (z : List Value) : ∀ m, (List.range (m * z.length)).map (fun i => z[i % z.length]!) = zeros z m
  | 0 => by simp [zeros]
  | m + 1 => by
    rw [Nat.succ_mul, Nat.add_comm, List.range_add, List.map_append]
    rw [show zeros z (m + 1) = z ++ zeros z m by simp [zeros, List.replicate_succ]]
    congr 1
    · apply List.ext_getElem
      · simp
      · intro i h1 h2
        simp only [List.length_map, List.length_range] at h1
        simp [Nat.mod_eq_of_lt h1, h1]
    · rw [← zeros_eq z m, List.map_map]
      apply List.map_congr_left
      intro i _
      simp

def makeK (P : Program) (t : TypeId) (h : Hp) (l c : SV) (K : SV → Hp → Prop) : Prop :=
  match P.underlying t, l, c with
  | some (.slice e), .int _ l, .int _ c => match P.info? e with
    | some i => match i.zero with
      | some z => 0 ≤ l ∧ l ≤ c ∧ c ≤ 140737488355328 ∧ (i.bytes : Int) * c ≤ 281474976710656 ∧ z.cells.toList.length = i.size ∧
          ∀ h1, h1 = new h (blk e (zeros z.cells.toList c.toNat)) → K (.slice (some ⟨sz h, 0, none⟩) l.toNat c.toNat) h1
      | none => False
    | none => False
  | _, _, _ => False

theorem makeK_elim {P : Program} {t : TypeId} {h : Hp} {l c : SV} {K : SV → Hp → Prop} (hk : makeK P t h l c K) {w : World} (hw : w.heap = h) :
    ∃ v w', (Instr.makeSlice t l.val c.val).run P w = .ok v.val w' ∧ Same w w' ∧ K v w'.heap := by
  unfold makeK at hk
  split at hk
  · rename_i e k1 l k2 c hu
    split at hk
    · rename_i i hi
      split at hk
      · rename_i z hz
        obtain ⟨h0, h1, h2, h3, h4, hK⟩ := hk
        refine ⟨.slice (some ⟨sz h, 0, none⟩) l.toNat c.toNat, w.alloc (blk e (zeros z.cells.toList c.toNat)), ?_, ⟨rfl, rfl, rfl⟩, hK _ (by rw [← hw]; rfl)⟩
        have hr := run_make (P := P) w _ e i z hu hi hz k1 k2 l c h0 h1 (by omega) (by omega)
        rw [show SV.val (.int k1 l) = .int k1 l from rfl, show SV.val (.int k2 c) = .int k2 c from rfl, hr]
        rw [← hw]
        have hz2 : madeCells z.cells (c.toNat * i.size) = ⟨zeros z.cells.toList c.toNat⟩ := by
          apply Array.ext'
          rw [← zeros_eq, ← h4]
          simp [madeCells]
          intro a _
          rw [getElem!_def]
          cases z.cells[a % z.cells.size]? <;> rfl
        rw [hz2]
        rfl
      · exact hk.elim
    · exact hk.elim
  · exact hk.elim

def allocK (P : Program) (t : TypeId) (h : Hp) (K : SV → Hp → Prop) : Prop :=
  match P.info? t with
  | some i => match i.zero with
    | some z => ∀ h1, h1 = new h (blk t z.cells.toList) → K (.ptr (sz h) 0) h1
    | none => False
  | none => False

theorem allocK_elim {P : Program} {t : TypeId} {h : Hp} {K : SV → Hp → Prop} (hk : allocK P t h K) {w : World} (hw : w.heap = h) :
    ∃ v w', (Instr.alloc t true (.tuple #[])).run P w = .ok v.val w' ∧ Same w w' ∧ K v w'.heap := by
  unfold allocK at hk
  split at hk
  · rename_i i hi
    split at hk
    · rename_i z hz
      refine ⟨.ptr (sz h) 0, w.alloc (blk t z.cells.toList), ?_, ⟨rfl, rfl, rfl⟩, hk _ (by rw [← hw]; rfl)⟩
      simp [Instr.alloc, zeroValue, typeInfo, hi, hz, newVar, newRow, SV.val, sz, hw]
    · exact hk.elim
  · exact hk.elim

def boxK (t : TypeId) (v : SV) (h : Hp) (K : SV → Hp → Prop) : Prop :=
  match cellsL v with
  | some cs => ∀ h1, h1 = new h (blk t cs) → K (.ptr (sz h) 0) h1
  | none => False

theorem boxK_elim {P : Program} {t : TypeId} {v : SV} {h : Hp} {K : SV → Hp → Prop} (hk : boxK t v h K) {w : World} (hw : w.heap = h) :
    ∃ r w', (Instr.box t v.val).run P w = .ok r.val w' ∧ Same w w' ∧ K r w'.heap := by
  unfold boxK at hk
  split at hk
  · rename_i cs hc
    refine ⟨.ptr (sz h) 0, w.alloc (blk t cs), ?_, ⟨rfl, rfl, rfl⟩, hk _ (by rw [← hw]; rfl)⟩
    have hc' := cellsL_val hc
    generalize v.val = u at hc'
    simp [Instr.box, newVar, newRow, SV.val, sz, hw, hc']
  · exact hk.elim

/-- The cells of a literal slice: the parts in their places, one behind the other. -/
def fillL (size : Nat) (cells : List Value) : List (Nat × Value) → Option (List Value)
  | [] => some cells
  | (i, v) :: r => match v with
    | .agg cs => bif Nat.beq cs.toList.length size && Nat.ble (i * size + size) cells.length then fillL size (writeAt cells (i * size) cs.toList) r else none
    | .tuple _ => none
    | v => bif Nat.beq 1 size && Nat.ble (i * size + size) cells.length then fillL size (writeAt cells (i * size) [v]) r else none

theorem fold_writeAt (cs : List Value) : ∀ (l : List Value) (o k : Nat), ((⟨cs⟩ : Array Value).zipIdx k).foldl (fun (acc : Array Value) (p : Value × Nat) => acc.setIfInBounds (o + p.2) p.1) ⟨l⟩ = ⟨writeAt l (o + k) cs⟩ := by
  induction cs with
  | nil => intro l o k; rfl
  | cons v r ih =>
    intro l o k
    have h1 : (⟨v :: r⟩ : Array Value).zipIdx k = #[(v, k)] ++ (⟨r⟩ : Array Value).zipIdx (k + 1) := by
      apply Array.ext'
      simp
    rw [h1, Array.foldl_append]
    simp only [writeAt]
    have := ih (l.set (o + k) v) o (k + 1)
    simp only [List.foldl_toArray'] at *
    rw [show o + k + 1 = o + (k + 1) by omega, ← this]
    simp

theorem length_writeAt : ∀ (cs l : List Value) (o : Nat), (writeAt l o cs).length = l.length
  | [], l, o => rfl
  | v :: r, l, o => by rw [writeAt, length_writeAt r]; simp

theorem fillL_eq (size : Nat) : ∀ (ps : List (Nat × Value)) (cells l : List Value), fillL size cells ps = some l →
    Instr.fill (fun i => some (i * size, size)) ⟨cells⟩ ps = some ⟨l⟩
  | [], cells, l, h => by simp [fillL] at h; subst h; rfl
  | (i, v) :: r, cells, l, h => by
    have step : ∀ cs : List Value, v.cells = ⟨cs⟩ → cs.length = size → i * size + size ≤ cells.length → fillL size (writeAt cells (i * size) cs) r = some l →
        Instr.fill (fun i => some (i * size, size)) ⟨cells⟩ ((i, v) :: r) = some ⟨l⟩ := by
      intro cs hv hs hle hr
      have ih := fillL_eq size r _ l hr
      simp only [Instr.fill, hv]
      rw [if_neg (by simp; omega)]
      have hf := fold_writeAt cs cells (i * size) 0
      simp only [Nat.add_zero] at hf
      rw [← ih]
      congr 1
    simp only [fillL] at h
    split at h
    · rename_i cs
      cases hb : (Nat.beq cs.toList.length size && Nat.ble (i * size + size) cells.length)
      · rw [hb, cond_false] at h; exact absurd h (by simp)
      · simp only [hb, cond_true] at h
        rw [Bool.and_eq_true] at hb
        exact step cs.toList rfl (Nat.eq_of_beq_eq_true hb.1) (Nat.le_of_ble_eq_true hb.2) h
    · exact absurd h (by simp)
    · rename_i v' h1 h2
      cases hb : (Nat.beq 1 size && Nat.ble (i * size + size) cells.length)
      · rw [hb, cond_false] at h; exact absurd h (by simp)
      · simp only [hb, cond_true] at h
        rw [Bool.and_eq_true] at hb
        refine step [v] ?_ (Nat.eq_of_beq_eq_true hb.1) (Nat.le_of_ble_eq_true hb.2) h
        cases v <;> first | rfl | exact absurd rfl (h1 _) | exact absurd rfl (h2 _)

def litSliceK (P : Program) (t : TypeId) (n : Nat) (ps : List (Nat × Value)) (h : Hp) (K : SV → Hp → Prop) : Prop :=
  match P.underlying t with
  | some (.slice e) => match P.info? e with
    | some i => match i.zero with
      | some z => bif Nat.beq z.cells.toList.length i.size && Nat.ble (n * i.size) 16777216 then (match fillL i.size (zeros z.cells.toList n) ps with
        | some l => ∀ h1, h1 = new h (blk e l) → K (.slice (some ⟨sz h, 0, none⟩) n n) h1
        | none => False) else False
      | none => False
    | none => False
  | _ => False

theorem litSliceK_elim {P : Program} {t : TypeId} {n : Nat} {ps : Array (Nat × Value)} {h : Hp} {K : SV → Hp → Prop} (hk : litSliceK P t n ps.toList h K) {w : World} (hw : w.heap = h) :
    ∃ r w', (Instr.buildSlice t n ps).run P w = .ok r.val w' ∧ Same w w' ∧ K r w'.heap := by
  unfold litSliceK at hk
  split at hk
  · rename_i e hu
    split at hk
    · rename_i i hi
      split at hk
      · rename_i z hz
        cases hb : (Nat.beq z.cells.toList.length i.size && Nat.ble (n * i.size) 16777216)
        · rw [hb, cond_false] at hk; exact hk.elim
        · simp only [hb, cond_true] at hk
          rw [Bool.and_eq_true] at hb
          have hb1 := Nat.eq_of_beq_eq_true hb.1
          have hb2 := Nat.le_of_ble_eq_true hb.2
          split at hk
          · rename_i l hl
            refine ⟨.slice (some ⟨sz h, 0, none⟩) n n, w.alloc (blk e l), ?_, ⟨rfl, rfl, rfl⟩, hk _ (by rw [← hw]; rfl)⟩
            have hf := fillL_eq i.size _ _ _ hl
            have hz2 : (Array.range (n * i.size)).map (z.cells[· % z.cells.size]!) = ⟨zeros z.cells.toList n⟩ := by
              apply Array.ext'
              rw [← zeros_eq, ← hb1]
              simp
              intro a _
              rw [getElem!_def]
              cases z.cells[a % z.cells.size]? <;> rfl
            have hnot : ¬ (n * i.size > 2 ^ 24) := by omega
            by_cases hn : n * i.size = 0
            · have hz3 : zeros z.cells.toList n = [] := by rw [← zeros_eq, hb1, hn]; rfl
              rw [hz3] at hf
              simp only [Instr.buildSlice, Sem.run_bind, run_underlying hu, run_sizeOf hi, Result.andThen_ok]
              rw [if_neg hnot, if_pos hn]
              simp only [Sem.run_bind, Sem.run_pure, Result.andThen_ok, hn]
              have he : ∀ f : Nat → Value, Array.map f (Array.range 0) = (⟨[]⟩ : Array Value) := fun f => by simp [Array.range]
              rw [he, hf]
              simp [newRow, SV.val, sz, hw]
            · simp only [Instr.buildSlice, Sem.run_bind, run_underlying hu, run_sizeOf hi, Result.andThen_ok]
              rw [if_neg hnot, if_neg hn]
              have hzr : (zeroValue e).run P w = .ok z w := by simp [zeroValue, typeInfo, hi, hz]
              simp only [Sem.run_bind, Sem.run_pure, Result.andThen_ok, hzr]
              rw [hz2, hf]
              simp [newRow, SV.val, sz, hw]
          · exact hk.elim
      · exact hk.elim
    · exact hk.elim
  · exact hk.elim

/-! ### append -/
/-- What m elements from a place on hold. -/
def rowAtK (h : Hp) (a : Option Addr) (cs : List Value) : Prop :=
  cs = [] ∨ ∃ b o, a = some ⟨b, o, none⟩ ∧ readAt h b o cs

/-- 'append(dst, src...)': told in the two cases, that there is room and that there is none. -/
def appendN (h : Hp) (e : TypeId) (size bytes : Nat) (z : List Value) (a : Option Addr) (l c : Nat) (a2 : Option Addr) (m : Nat) (K : Option Addr → Nat → Nat → Hp → Prop) : Prop :=
  ∃ news : List Value, news.length = m * size ∧ oneCells news = true ∧ rowAtK h a2 news ∧
    (m = 0 → l ≤ c ∧ K a l c h) ∧
    (0 < m → l + m ≤ c → ∃ b o lst, a = some ⟨b, o, none⟩ ∧ bk h b = some (blk e lst) ∧ o + (l + m) * size ≤ lst.length ∧
      ∀ h1, h1 = upd h b e (writeAt lst (o + l * size) news) → K a (l + m) c h1) ∧
    (0 < m → c < l + m → ∃ olds : List Value, olds.length = l * size ∧ rowAtK h a olds ∧ (a = none → l = 0 ∧ c = 0) ∧ l + m ≤ 140737488355328 ∧ (l + m) * bytes ≤ 140737488355328 ∧
      ∀ cap h1, l + m ≤ cap → cap ≤ maxLen → h1 = new h (blk e (olds ++ news ++ zeros z (cap - (l + m)))) → K (some ⟨sz h, 0, none⟩) (l + m) cap h1)

def appendK (P : Program) (t t2 : TypeId) (x y : SV) (h : Hp) (K : SV → Hp → Prop) : Prop :=
  match x, y, P.underlying t with
  | .slice a l c, .slice a2 m _, some (.slice e) => bif Nat.beq t t2 then (match P.info? e with
    | some i => match i.zero with
      | some z => bif Nat.beq z.cells.toList.length i.size then appendN h e i.size i.bytes z.cells.toList a l c a2 m fun a' l' c' h1 => K (.slice a' l' c') h1 else False
      | none => False
    | none => False) else False
  | _, _, _ => False

theorem readAt_cells {w : World} {b o : Nat} {cs : List Value} (h : readAt w.heap b o cs) : ∀ j u, cs[j]? = some u → w.cell? ((⟨b, o, none⟩ : Addr).add j) = some u := by
  intro j u hu
  have hj : j < cs.length := (List.getElem?_eq_some_iff.1 hu).1
  rw [cell?_add, h j hj, hu]

theorem rowAtK_firstCells {P : Program} {w : World} {a : Option Addr} {cs : List Value} {size m c : Nat} (h : rowAtK w.heap a cs) (hl : cs.length = m * size) :
    (Builtin.firstCells size m (.slice a m c)).run P w = .ok ⟨cs⟩ w := by
  rcases h with rfl | ⟨b, o, rfl, hr⟩
  · cases a with
    | none => rfl
    | some p =>
      have h0 : m * size = 0 := by simpa using hl.symm
      simp [Builtin.firstCells, h0, loadCells, loadCellsFrom]
  · have := run_firstCells_some (P := P) w size m ⟨b, o, none⟩ m c cs hl (readAt_cells hr)
    simpa using this

theorem zeroCells_eq (z : Array Value) (n : Nat) : Builtin.zeroCells z n = ⟨zeros z.toList n⟩ := by
  apply Array.ext'
  rw [← zeros_eq]
  simp [Builtin.zeroCells]
  intro a _
  rw [getElem!_def]
  cases z[a % z.size]? <;> rfl

theorem appendK_elim {P : Program} {t t2 ty : TypeId} {x y : SV} {h : Hp} {K : SV → Hp → Prop} (hk : appendK P t t2 x y h K) {w : World} (hw : w.heap = h) :
    ∃ r w', (Builtin.append_ #[t, t2] ty #[x.val, y.val]).run P w = .ok r.val w' ∧ Same w w' ∧ K r w'.heap := by
  unfold appendK at hk
  split at hk
  · rename_i a l c a2 m c2 e hu
    cases ht : Nat.beq t t2
    · rw [ht, cond_false] at hk; exact hk.elim
    · rw [ht, cond_true] at hk
      obtain rfl := Nat.eq_of_beq_eq_true ht
      split at hk
      · rename_i i hi
        split at hk
        · rename_i z hz
          cases hs : Nat.beq z.cells.toList.length i.size
          · rw [hs, cond_false] at hk; exact hk.elim
          · rw [hs, cond_true] at hk
            obtain ⟨news, hl, h1, hr, hA, hB, hC⟩ := hk
            subst hw
            by_cases hm : m = 0
            · subst hm
              obtain ⟨hlc, hK⟩ := hA rfl
              refine ⟨.slice a l c, w, ?_, Same.refl w, hK⟩
              have hn : news = [] := List.eq_nil_of_length_eq_zero (by simpa using hl)
              subst hn
              have hf : (Builtin.firstCells i.size 0 (.slice a2 0 c2)).run P w = .ok #[] w := by cases a2 <;> simp [Builtin.firstCells, loadCells, loadCellsFrom]
              cases a <;> simp [SV.val, Builtin.append_, run_underlying hu, sizeOf, typeInfo, hi, Builtin.lenOf, hlc, hf, storeCells]
            · have hm0 : 0 < m := by omega
              by_cases hfit : l + m ≤ c
              · obtain ⟨b, o, lst, rfl, hb, hle, hK⟩ := hB hm0 hfit
                have hx : o + l * i.size + news.length ≤ lst.length := by rw [hl]; rw [Nat.add_mul] at hle; omega
                have hf := rowAtK_firstCells (P := P) (c := c2) hr hl
                have hst := run_storeCells_at P b (o + l * i.size) e news 0 ⟨lst⟩ w hb (by simpa using hx) (oneCells_all h1)
                refine ⟨.slice (some ⟨b, o, none⟩) (l + m) c, w.setRow b (lst.take (o + l * i.size) ++ news ++ lst.drop (o + l * i.size + news.length)).toArray, ?_, setRow_same w b _, ?_⟩
                · simp only [Nat.add_zero] at hst
                  simp [SV.val, Builtin.append_, run_underlying hu, sizeOf, typeInfo, hi, Builtin.lenOf, hfit, hf, Addr.add_lit, hst]
                · refine hK _ ?_
                  rw [writeAt_eq news lst _ hx]
                  exact setRow_upd w b e lst _ hb
              · obtain ⟨olds, ho, hro, hnone, hcap, hby, hK⟩ := hC hm0 (by omega)
                have hold : (Builtin.firstCells i.size l (.slice a l c)).run P w.drew = .ok ⟨olds⟩ w.drew := rowAtK_firstCells (P := P) (w := w.drew) hro ho
                have hnew : (Builtin.firstCells i.size m (.slice a2 m c2)).run P w.drew = .ok ⟨news⟩ w.drew := rowAtK_firstCells (P := P) (w := w.drew) hr hl
                have h63' : ¬ (9223372036854775807 < ((l : Int) + (m : Int))) := by omega
                have h48' : ¬ (281474976710656 < Builtin.nextslicecap (l + m) c * i.bytes) := by have := growslice_fits (need := l + m) (old := c) (bytes := i.bytes) (by omega) hby; omega
                refine ⟨.slice (some ⟨sz w.heap, 0, none⟩) (l + m) (grownCap w (l + m) c e), w.drew.alloc (blk e (olds ++ news ++ zeros z.cells.toList (grownCap w (l + m) c e - (l + m)))), ?_, ⟨rfl, rfl, rfl⟩, ?_⟩
                · simp [SV.val, Builtin.append_, run_underlying hu, sizeOf, typeInfo, zeroValue, hi, hz, Builtin.lenOf, hfit, h63', h48', Question.forced, newRow, grownCap, hold, hnew, zeroCells_eq, sz]
                · exact hK _ _ (grownCap_ge w _ _ _) (grownCap_le_maxLen w _ _ _ (by simp only [maxLen]; omega)) rfl
        · exact hk.elim
      · exact hk.elim
  · exact hk.elim

/-! ### copy -/
/-- 'copy(dst, src)': so many elements as both have. -/
def copyN (h : Hp) (size : Nat) (a : Option Addr) (l : Nat) (a2 : Option Addr) (l2 : Nat) (K : Int → Hp → Prop) : Prop :=
  ∃ news : List Value, news.length = Nat.min l2 l * size ∧ oneCells news = true ∧ rowAtK h a2 news ∧
    ((a = none ∧ K ((Nat.min l2 l : Nat) : Int) h) ∨ ∃ b o T lst, a = some ⟨b, o, none⟩ ∧ bk h b = some (blk T lst) ∧ o + news.length ≤ lst.length ∧
      ∀ h1, h1 = upd h b T (writeAt lst o news) → K ((Nat.min l2 l : Nat) : Int) h1)

def copyK (P : Program) (t : TypeId) (x y : SV) (h : Hp) (K : SV → Hp → Prop) : Prop :=
  match x, y, P.underlying t with
  | .slice a l _, .slice a2 l2 _, some (.slice e) => match P.info? e with
    | some i => copyN h i.size a l a2 l2 fun n h1 => K (.int .i64 n) h1
    | none => False
  | _, _, _ => False

theorem copyK_elim {P : Program} {t t2 ty : TypeId} {x y : SV} {h : Hp} {K : SV → Hp → Prop} (hk : copyK P t x y h K) {w : World} (hw : w.heap = h) :
    ∃ r w', (Builtin.copy_ #[t, t2] ty #[x.val, y.val]).run P w = .ok r.val w' ∧ Same w w' ∧ K r w'.heap := by
  unfold copyK at hk
  split at hk
  · rename_i a l c a2 l2 c2 e hu
    split at hk
    · rename_i i hi
      obtain ⟨news, hl, h1, hr, hk⟩ := hk
      subst hw
      have hf := rowAtK_firstCells (P := P) (c := c2) (m := Nat.min l2 l) hr hl
      rcases hk with ⟨rfl, hK⟩ | ⟨b, o, T, lst, rfl, hb, hx, hK⟩
      · refine ⟨.int .i64 ((Nat.min l2 l : Nat) : Int), w, ?_, Same.refl w, hK⟩
        have hf' : (Builtin.firstCells i.size (Nat.min l2 l) (.slice a2 l2 c2)).run P w = .ok ⟨news⟩ w := by cases a2 <;> simpa [Builtin.firstCells] using hf
        simp [SV.val, Builtin.copy_, run_underlying hu, sizeOf, typeInfo, hi, Builtin.lenOf, hf', goInt]
      · have hst := run_storeCells_at P b o T news 0 ⟨lst⟩ w hb (by simpa using hx) (oneCells_all h1)
        have hf' : (Builtin.firstCells i.size (Nat.min l2 l) (.slice a2 l2 c2)).run P w = .ok ⟨news⟩ w := by cases a2 <;> simpa [Builtin.firstCells] using hf
        refine ⟨.int .i64 ((Nat.min l2 l : Nat) : Int), w.setRow b (lst.take o ++ news ++ lst.drop (o + news.length)).toArray, ?_, setRow_same w b _, ?_⟩
        · simp only [Nat.add_zero] at hst
          simp [SV.val, Builtin.copy_, run_underlying hu, sizeOf, typeInfo, hi, Builtin.lenOf, hf', goInt, hst]
        · refine hK _ ?_
          rw [writeAt_eq news lst _ hx]
          exact setRow_upd w b T lst _ hb
    · exact hk.elim
  · exact hk.elim

/-! ### maps, channels, and clearing -/
def updO (h : Hp) (b : Nat) (o : Obj) : Hp := h.setIfInBounds b o

theorem run_setObj {P : Program} {w : World} {r : Nat} {o : Obj} (o' : Obj) (hb : bk w.heap r = some o) (hc : ∀ c t f, o ≠ .cells c t f) : (setObj r o').run P w = .ok () { w with heap := updO w.heap r o' } := by
  have hb' : w.heap[r]? = some o := hb
  cases o with
  | cells c t f => exact absurd rfl (hc c t f)
  | _ => simp [setObj, Sem.run, hb', updO]

def makeMapK (h : Hp) (K : SV → Hp → Prop) : Prop := ∀ h1, h1 = new h (.map ⟨[]⟩ 0) → K (.raw (.map (some (sz h)))) h1

theorem makeMapK_elim {P : Program} {t : TypeId} {h : Hp} {K : SV → Hp → Prop} (hk : makeMapK h K) {w : World} (hw : w.heap = h) :
    ∃ v w', (Instr.makeMap t none).run P w = .ok v.val w' ∧ Same w w' ∧ K v w'.heap := by
  refine ⟨.raw (.map (some (sz h))), w.alloc (.map #[] 0), ?_, ⟨rfl, rfl, rfl⟩, hk _ (by rw [← hw]; rfl)⟩
  simp [Instr.makeMap, SV.val, sz, hw]

/-- What a map's entries become where a key is given a value. -/
def putM (es : List MapEntry) (c : Nat) (q : Option (Nat × Value)) (k v : Value) : List MapEntry × Nat :=
  match q with
  | some p => (es.modify p.1 fun e => { e with key := k, val := v }, c)
  | none => (es ++ [{ key := k, val := v, born := c }], c + 1)

theorem beq_bytes (a b : ByteArray) : (a == b) = true ↔ a = b := by
  obtain ⟨x⟩ := a
  obtain ⟨y⟩ := b
  constructor
  · intro h
    have e : x = y := by simpa using (show (x == y) = true from h)
    rw [e]
  · intro h
    cases h
    show (x == x) = true
    simp
theorem eqCell_same {s : Sh} {a b : Value} (h : eqCell s a b = some true) (n : Nat) : Instr.sameBits n b a = true := by
  cases s <;> cases a <;> cases b <;> simp [eqCell] at h
  case bool a b => subst h; cases n <;> simp [Instr.sameBits]
  case int k k1 a k2 b => obtain ⟨rfl, rfl⟩ := h; cases n <;> simp [Instr.sameBits]
  case str a b =>
    have : (b == a) = true := by
      have hb : a = b := (beq_bytes a b).1 h
      subst hb
      exact (beq_bytes a a).2 rfl
    cases n <;> simp [Instr.sameBits, this]

theorem eqCells_same : ∀ {s : List Sh} {a b : List Value}, eqCells s a b = some true → ∀ n, a.length = b.length ∧ (b.zip a).all (fun p => Instr.sameBits n p.1 p.2) = true
  | [], [], [], _, _ => by simp
  | s :: ss, u :: a, v :: b, h, n => by
    simp only [eqCells] at h
    split at h
    · rename_i c hc
      split at h
      · rename_i z hz
        simp only [Option.some.injEq, Bool.and_eq_true] at h
        obtain ⟨rfl, rfl⟩ := h
        have ih := eqCells_same hz n
        refine ⟨by simp [ih.1], ?_⟩
        simp only [List.zip_cons_cons, List.all_cons, Bool.and_eq_true]
        exact ⟨eqCell_same hc n, ih.2⟩
      · exact absurd h (by simp)
    · exact absurd h (by simp)
  | [], _ :: _, _, h, _ => by simp [eqCells] at h
  | [], [], _ :: _, h, _ => by simp [eqCells] at h
  | _ :: _, [], _, h, _ => by simp [eqCells] at h
  | _ :: _, _ :: _, [], h, _ => by simp [eqCells] at h

/-- The entry that is found has the key, bit by bit. -/
theorem lookM_at {wide : Bool} {ss : List Sh} {k : List Value} {v : Value} (hk : keyCells wide v = some k) : ∀ {es : List MapEntry} {i j : Nat} {u : Value}, lookM wide ss k es i = some (some (j, u)) →
    i ≤ j ∧ ∃ e, es[j - i]? = some e ∧ e.val = u ∧ Instr.sameBits 10000 e.key v = true
  | [], i, j, u, h => by simp [lookM] at h
  | e :: es, i, j, u, h => by
    simp only [lookM] at h
    split at h
    · rename_i cs hcs
      split at h
      · rename_i hb
        simp only [Option.some.injEq, Prod.mk.injEq] at h
        obtain ⟨rfl, rfl⟩ := h
        refine ⟨Nat.le_refl _, e, by simp, rfl, ?_⟩
        cases wide with
        | true =>
          obtain rfl := keyCells_wide hk
          rw [keyCells_wide hcs]
          obtain ⟨h1, h2⟩ := eqCells_same hb 9999
          simp only [Instr.sameBits]
          simp only [Bool.and_eq_true]
          exact ⟨by simpa using h1.symm, h2⟩
        | false =>
          obtain rfl := keyCells_one hk
          obtain rfl := keyCells_one hcs
          have := (eqCells_same hb 10000).2
          simpa using this
      · have ih := lookM_at hk h
        obtain ⟨h1, e', h2, h3⟩ := ih
        refine ⟨by omega, e', ?_, h3⟩
        rw [show j - i = (j - (i + 1)) + 1 by omega]
        simpa using h2
      · cases h
    · cases h

def mapPutK (P : Program) (t : TypeId) (x y v : SV) (h : Hp) (K : Hp → Prop) : Prop :=
  match mapKind P t, x with
  | some m, .raw (.map a) => match keyCells m.2.2.1 y.val with
    | some k => bif keyFit m.2.1 k then ∃ (r : Nat) (es : List MapEntry) (c : Nat) (q : Option (Nat × Value)), a = some r ∧ bk h r = some (.map ⟨es⟩ c) ∧ lookM m.2.2.1 m.2.1 k es 0 = some q ∧
        ∀ h1, h1 = updO h r (.map ⟨(putM es c q y.val v.val).1⟩ (putM es c q y.val v.val).2) → K h1 else False
    | none => False
  | _, _ => False

theorem mapPutK_elim {P : Program} {t : TypeId} {x y v : SV} {h : Hp} {K : Hp → Prop} (hk : mapPutK P t x y v h K) {w : World} (hw : w.heap = h) :
    ∃ w', (Instr.mapUpdate t x.val y.val v.val).run P w = .ok () w' ∧ Same w w' ∧ K w'.heap := by
  unfold mapPutK at hk
  split at hk
  · rename_i m a hm
    obtain ⟨kt, ss, wide, et⟩ := m
    simp only at hk
    split at hk
    · rename_i k hkc
      cases hf : keyFit ss k
      · rw [hf, cond_false] at hk; exact hk.elim
      · rw [hf, cond_true] at hk
        obtain ⟨r, es, c, q, rfl, hb, hq, hK⟩ := hk
        subst hw
        have hu := (mapKind_spec hm).1
        obtain ⟨hc, hfind⟩ := run_find (P := P) (w := w) hm hkc hf
        have hg := run_getObj (P := P) hb (by simp)
        have hfd := hfind es q hq
        have hset := fun o' => run_setObj (P := P) o' hb (by simp)
        refine ⟨{ w with heap := updO w.heap r (.map ⟨(putM es c q y.val v.val).1⟩ (putM es c q y.val v.val).2) }, ?_, ⟨rfl, rfl, rfl⟩, hK _ rfl⟩
        show (Instr.mapUpdate t (.map (some r)) y.val v.val).run P w = _
        simp only [Instr.mapUpdate, Sem.run_bind, run_underlying hu, Result.andThen_ok, hg, hc, hfd]
        cases q with
        | none =>
          simp only [hset, putM]
          simp
        | some p =>
          obtain ⟨j, u⟩ := p
          obtain ⟨_, e, he, _, hs⟩ := lookM_at hkc hq
          simp only [Nat.sub_zero] at he
          have hkey : (Instr.keyThatStays (((({ toList := es } : Array MapEntry)[j]?).map (·.key)).getD y.val) y.val).run P w = .ok y.val w := by
            have he' : ({ toList := es } : Array MapEntry)[j]? = some e := by simpa using he
            rw [he']
            simp [Instr.keyThatStays, hs]
          simp only [Sem.run_bind, hkey, Result.andThen_ok, hset, putM]
          simp
    · exact hk.elim
  · exact hk.elim

/-- The entry of a key, made where there is none: what becomes of the entries, its value and its stamp. -/
def entM (es : List MapEntry) (c : Nat) (q : Option (Nat × Value)) (k z : Value) : List MapEntry × Nat :=
  match q with
  | some p => (es.modify p.1 fun e => { e with key := k }, c)
  | none => (es ++ [{ key := k, val := z, born := c }], c + 1)
def entV (q : Option (Nat × Value)) (z : Value) : Value := match q with
  | some p => p.2
  | none => z
def entS (es : List MapEntry) (c : Nat) (q : Option (Nat × Value)) : Nat := match q with
  | some p => ((es[p.1]?).map (·.born)).getD 0
  | none => c

def mapEntK (P : Program) (t : TypeId) (x y : SV) (h : Hp) (K : SV → Hp → Prop) : Prop :=
  match mapKind P t, x with
  | some m, .raw (.map a) => match keyCells m.2.2.1 y.val, P.info? m.2.2.2 with
    | some k, some ie => match ie.zero with
      | some z => bif keyFit m.2.1 k then ∃ (r : Nat) (es : List MapEntry) (c : Nat) (q : Option (Nat × Value)), a = some r ∧ bk h r = some (.map ⟨es⟩ c) ∧ lookM m.2.2.1 m.2.1 k es 0 = some q ∧
          ∀ h1, h1 = updO h r (.map ⟨(entM es c q y.val z).1⟩ (entM es c q y.val z).2) → K (.tuple [entV q z, .int .i64 (entS es c q)]) h1 else False
      | none => False
    | _, _ => False
  | _, _ => False

theorem mapEntK_elim {P : Program} {t : TypeId} {x y : SV} {h : Hp} {K : SV → Hp → Prop} (hk : mapEntK P t x y h K) {w : World} (hw : w.heap = h) :
    ∃ v w', (Instr.mapEntry t x.val y.val).run P w = .ok v.val w' ∧ Same w w' ∧ K v w'.heap := by
  unfold mapEntK at hk
  split at hk
  · rename_i m a hm
    obtain ⟨kt, ss, wide, et⟩ := m
    simp only at hk
    split at hk
    · rename_i k ie hkc hie
      split at hk
      · rename_i z hz
        cases hf : keyFit ss k
        · rw [hf, cond_false] at hk; exact hk.elim
        · rw [hf, cond_true] at hk
          obtain ⟨r, es, c, q, rfl, hb, hq, hK⟩ := hk
          subst hw
          have hu := (mapKind_spec hm).1
          obtain ⟨hc, hfind⟩ := run_find (P := P) (w := w) hm hkc hf
          have hg := run_getObj (P := P) hb (by simp)
          have hfd := hfind es q hq
          have hset := fun o' => run_setObj (P := P) o' hb (by simp)
          have hzr : (zeroValue et).run P w = .ok z w := by simp [zeroValue, typeInfo, hie, hz]
          refine ⟨.tuple [entV q z, .int .i64 (entS es c q)], { w with heap := updO w.heap r (.map ⟨(entM es c q y.val z).1⟩ (entM es c q y.val z).2) }, ?_, ⟨rfl, rfl, rfl⟩, hK _ rfl⟩
          show (Instr.mapEntry t (.map (some r)) y.val).run P w = .ok (.tuple #[entV q z, .int .i64 (entS es c q)]) _
          simp only [Instr.mapEntry, Sem.run_bind, run_underlying hu, Result.andThen_ok, hg, hc, hfd]
          cases q with
          | none =>
            simp only [Sem.run_bind, hzr, Result.andThen_ok, hset]
            simp [entM, entV, entS, goInt]
          | some p =>
            obtain ⟨j, u⟩ := p
            obtain ⟨_, e, he, _, hs⟩ := lookM_at hkc hq
            simp only [Nat.sub_zero] at he
            have hkey : (Instr.keyThatStays (((({ toList := es } : Array MapEntry)[j]?).map (·.key)).getD y.val) y.val).run P w = .ok y.val w := by
              have he' : ({ toList := es } : Array MapEntry)[j]? = some e := by simpa using he
              rw [he']
              simp [Instr.keyThatStays, hs]
            simp only [Sem.run_bind, hkey, Result.andThen_ok, hset]
            simp [entM, entV, entS, goInt, he]
      · exact hk.elim
    · exact hk.elim
  · exact hk.elim

def entStoreK (x s v : SV) (h : Hp) (K : Hp → Prop) : Prop :=
  match x, s with
  | .raw (.map a), .int _ n => ∃ (r : Nat) (es : List MapEntry) (c i : Nat), a = some r ∧ bk h r = some (.map ⟨es⟩ c) ∧ es.findIdx? (fun e => (e.born : Int) == n) = some i ∧
      ∀ h1, h1 = updO h r (.map ⟨es.modify i fun e => { e with val := v.val }⟩ c) → K h1
  | _, _ => False

theorem entStoreK_elim {P : Program} {t : TypeId} {x s v : SV} {h : Hp} {K : Hp → Prop} (hk : entStoreK x s v h K) {w : World} (hw : w.heap = h) :
    ∃ w', (Instr.entryStore t x.val s.val v.val).run P w = .ok () w' ∧ Same w w' ∧ K w'.heap := by
  unfold entStoreK at hk
  split at hk
  · rename_i a k n
    obtain ⟨r, es, c, i, rfl, hb, hi, hK⟩ := hk
    subst hw
    have hg := run_getObj (P := P) hb (by simp)
    have hset := fun o' => run_setObj (P := P) o' hb (by simp)
    refine ⟨{ w with heap := updO w.heap r (.map ⟨es.modify i fun e => { e with val := v.val }⟩ c) }, ?_, ⟨rfl, rfl, rfl⟩, hK _ rfl⟩
    have hi' : ({ toList := es } : Array MapEntry).findIdx? (fun e => (e.born : Int) == n) = some i := by simpa using hi
    show (Instr.entryStore t (.map (some r)) (.int k n) v.val).run P w = _
    generalize v.val = u
    simp only [Instr.entryStore, Sem.run_bind, hg, Result.andThen_ok]
    simp [asInt, asIntOf]
    rw [hi]
    simp [hset]
  · exact hk.elim

/-- What a map's entries become where a key is dropped. -/
def dropM (es : List MapEntry) (q : Option (Nat × Value)) : List MapEntry :=
  match q with
  | some p => es.eraseIdx p.1
  | none => es

def mapDelK (P : Program) (t : TypeId) (x y : SV) (h : Hp) (K : Hp → Prop) : Prop :=
  match mapKind P t, x with
  | some m, .raw (.map a) => match keyCells m.2.2.1 y.val with
    | some k => bif keyFit m.2.1 k then ∃ (r : Nat) (es : List MapEntry) (c : Nat) (q : Option (Nat × Value)), a = some r ∧ bk h r = some (.map ⟨es⟩ c) ∧ lookM m.2.2.1 m.2.1 k es 0 = some q ∧
        ∀ h1, h1 = updO h r (.map ⟨dropM es q⟩ c) → K h1 else False
    | none => False
  | _, _ => False

theorem mapDelK_elim {P : Program} {t t2 ty : TypeId} {x y : SV} {h : Hp} {K : Hp → Prop} (hk : mapDelK P t x y h K) {w : World} (hw : w.heap = h) :
    ∃ w', (Builtin.delete_ #[t, t2] ty #[x.val, y.val]).run P w = .ok (.tuple #[]) w' ∧ Same w w' ∧ K w'.heap := by
  unfold mapDelK at hk
  split at hk
  · rename_i m a hm
    obtain ⟨kt, ss, wide, et⟩ := m
    simp only at hk
    split at hk
    · rename_i k hkc
      cases hf : keyFit ss k
      · rw [hf, cond_false] at hk; exact hk.elim
      · rw [hf, cond_true] at hk
        obtain ⟨r, es, c, q, rfl, hb, hq, hK⟩ := hk
        subst hw
        have hu := (mapKind_spec hm).1
        obtain ⟨hc, hfind⟩ := run_find (P := P) (w := w) hm hkc hf
        have hg := run_getObj (P := P) hb (by simp)
        have hfd := hfind es q hq
        have hset := fun o' => run_setObj (P := P) o' hb (by simp)
        refine ⟨{ w with heap := updO w.heap r (.map ⟨dropM es q⟩ c) }, ?_, ⟨rfl, rfl, rfl⟩, hK _ rfl⟩
        show (Builtin.delete_ #[t, t2] ty #[.map (some r), y.val]).run P w = _
        cases q with
        | none =>
          simp [Builtin.delete_, run_underlying hu, hg, hc, hfd, hset, dropM]
        | some p =>
          obtain ⟨j, u⟩ := p
          simp [Builtin.delete_, run_underlying hu, hg, hc, hfd, hset, dropM]
    · exact hk.elim
  · exact hk.elim

def clearK (P : Program) (t : TypeId) (x : SV) (h : Hp) (K : Hp → Prop) : Prop :=
  match P.underlying t, x with
  | some (.map _ _), .raw (.map a) => ∃ (r : Nat) (es : List MapEntry) (c : Nat), a = some r ∧ bk h r = some (.map ⟨es⟩ c) ∧ ∀ h1, h1 = updO h r (.map ⟨[]⟩ c) → K h1
  | some (.slice e), .slice a l _ => match P.info? e with
    | some i => match i.zero with
      | some z => bif oneCells z.cells.toList then (l = 0 → K h) ∧ (0 < l → ∃ (b o : Nat) (T : TypeId) (lst : List Value), a = some ⟨b, o, none⟩ ∧ bk h b = some (blk T lst) ∧ o + l * z.cells.toList.length ≤ lst.length ∧
          ∀ h1, h1 = upd h b T (writeAt lst o (zeros z.cells.toList l)) → K h1) else False
      | none => False
    | none => False
  | _, _ => False

theorem oneCells_zeros {z : List Value} (h : oneCells z = true) (m : Nat) : oneCells (zeros z m) = true := by
  refine List.all_eq_true.2 fun v hv => ?_
  simp only [zeros, List.mem_flatten, List.mem_replicate] at hv
  obtain ⟨l, ⟨_, rfl⟩, hv⟩ := hv
  exact List.all_eq_true.1 h v hv

theorem zeros_len (z : List Value) (m : Nat) : (zeros z m).length = m * z.length := by
  rw [← zeros_eq]; simp

theorem clearK_elim {P : Program} {t ty : TypeId} {x : SV} {h : Hp} {K : Hp → Prop} (hk : clearK P t x h K) {w : World} (hw : w.heap = h) :
    ∃ w', (Builtin.clear_ #[t] ty #[x.val]).run P w = .ok (.tuple #[]) w' ∧ Same w w' ∧ K w'.heap := by
  unfold clearK at hk
  split at hk
  · rename_i kt et a hu
    obtain ⟨r, es, c, rfl, hb, hK⟩ := hk
    subst hw
    have hg := run_getObj (P := P) hb (by simp)
    have hset := fun o' => run_setObj (P := P) o' hb (by simp)
    refine ⟨{ w with heap := updO w.heap r (.map ⟨[]⟩ c) }, ?_, ⟨rfl, rfl, rfl⟩, hK _ rfl⟩
    simp [SV.val, Builtin.clear_, run_underlying hu, hg, hset]
  · rename_i e a l c hu
    split at hk
    · rename_i i hi
      split at hk
      · rename_i z hz
        cases ho : oneCells z.cells.toList
        · rw [ho, cond_false] at hk; exact hk.elim
        · rw [ho, cond_true] at hk
          subst hw
          rcases Nat.eq_zero_or_pos l with rfl | hpos
          · refine ⟨w, ?_, Same.refl w, hk.1 rfl⟩
            cases a <;> simp [SV.val, Builtin.clear_, run_underlying hu]
          · obtain ⟨b, o, T, lst, rfl, hb, hle, hK⟩ := hk.2 hpos
            have hzl : (zeros z.cells.toList l).length = l * z.cells.toList.length := zeros_len _ _
            have hx : o + (zeros z.cells.toList l).length ≤ lst.length := by rw [hzl]; exact hle
            have hst := run_storeCells_at P b o T (zeros z.cells.toList l) 0 ⟨lst⟩ w hb (by simpa using hx) (oneCells_all (oneCells_zeros ho l))
            refine ⟨w.setRow b (lst.take o ++ zeros z.cells.toList l ++ lst.drop (o + (zeros z.cells.toList l).length)).toArray, ?_, setRow_same w b _, ?_⟩
            · obtain ⟨l', rfl⟩ : ∃ l', l = l' + 1 := ⟨l - 1, by omega⟩
              simp only [Nat.add_zero] at hst
              have hzr : (zeroValue e).run P w = .ok z w := by simp [zeroValue, typeInfo, hi, hz]
              simp [SV.val, Builtin.clear_, run_underlying hu, hzr, zeroCells_eq, hst]
            · refine hK _ ?_
              rw [writeAt_eq _ lst _ hx]
              exact setRow_upd w b T lst _ hb
      · exact hk.elim
    · exact hk.elim
  · exact hk.elim

def makeChanK (P : Program) (t : TypeId) (s : SV) (h : Hp) (K : SV → Hp → Prop) : Prop :=
  match s, P.underlying t with
  | .int _ n, some (.chan _ e) => match P.info? e with
    | some i => 0 ≤ n ∧ n ≤ 9223372036854775807 ∧ (i.bytes : Int) * n ≤ 281474976710544 ∧ ∀ h1, h1 = new h (.chan n.toNat ⟨[]⟩ false 0 0 false) → K (.raw (.chan (some (sz h)))) h1
    | none => False
  | _, _ => False

theorem makeChanK_elim {P : Program} {t : TypeId} {s : SV} {h : Hp} {K : SV → Hp → Prop} (hk : makeChanK P t s h K) {w : World} (hw : w.heap = h) :
    ∃ v w', (Instr.makeChan t s.val).run P w = .ok v.val w' ∧ Same w w' ∧ K v w'.heap := by
  unfold makeChanK at hk
  split at hk
  · rename_i k n d e hu
    split at hk
    · rename_i i hi
      obtain ⟨h0, h1, h2, hK⟩ := hk
      refine ⟨.raw (.chan (some (sz h))), w.alloc (.chan n.toNat #[] false 0 0 false), ?_, ⟨rfl, rfl, rfl⟩, hK _ (by rw [← hw]; rfl)⟩
      have hno : ¬ (n < 0 ∨ 9223372036854775807 < n ∨ 281474976710544 < (i.bytes : Int) * n) := by omega
      have hmax : IntKind.max .i64 = 9223372036854775807 := by decide
      simp [Instr.makeChan, SV.val, asInt, asIntOf, run_underlying hu, typeInfo, hi, hmax, sz, hw]
      omega
    · exact hk.elim
  · exact hk.elim

def closeK (x : SV) (h : Hp) (K : Hp → Prop) : Prop :=
  match x with
  | .raw (.chan a) => ∃ (r cap : Nat) (buf : List Value) (s rc : Nat) (tm : Bool), a = some r ∧ bk h r = some (.chan cap ⟨buf⟩ false s rc tm) ∧ ∀ h1, h1 = updO h r (.chan cap ⟨buf⟩ true s rc tm) → K h1
  | _ => False

theorem closeK_elim {P : Program} {ts : Array TypeId} {ty : TypeId} {x : SV} {h : Hp} {K : Hp → Prop} (hk : closeK x h K) {w : World} (hw : w.heap = h) :
    ∃ w', (Builtin.close_ ts ty #[x.val]).run P w = .ok (.tuple #[]) w' ∧ Same w w' ∧ K w'.heap := by
  unfold closeK at hk
  split at hk
  · obtain ⟨r, cap, buf, s, rc, tm, rfl, hb, hK⟩ := hk
    subst hw
    have hg := run_getObj (P := P) hb (by simp)
    have hset := fun o' => run_setObj (P := P) o' hb (by simp)
    refine ⟨{ w with heap := updO w.heap r (.chan cap ⟨buf⟩ true s rc tm) }, ?_, ⟨rfl, rfl, rfl⟩, hK _ rfl⟩
    show (Builtin.close_ ts ty #[.chan (some r)]).run P w = _
    refine Eq.trans (congrArg (fun s => Sem.run P s w) (show Builtin.close_ ts ty #[.chan (some r)] = getObj r >>= _ from rfl)) ?_
    simp only [Sem.run_bind, hg, Result.andThen_ok]
    show (setObj r (.chan cap ⟨buf⟩ true s rc tm) >>= fun _ => pure (Value.tuple #[])).run P w = _
    simp [hset]
  · exact hk.elim

/-! ### calls -/
/-- Which functions are known, and which of them may panic. -/
structure Known where
  ok : Nat → Bool
  pan : Nat → Bool

def callK (P : Program) (calls : Known) (f : FuncId) (ty : TypeId) (args : List Value) (h : Hp) (K : SV → Hp → Prop) (X : Value → Hp → Prop) : Prop :=
  bif calls.ok f then (bif calls.pan f then CallsX P f args h (fun v h1 => exResult (zeroOf P ty) fun r => v = r.val ∧ K r h1) X
    else CallsH P f args h fun v h1 => exResult (zeroOf P ty) fun r => v = r.val ∧ K r h1) else False

def CallsOk (P : Program) (calls : Known) : Prop := ∀ f, calls.ok f = true → ∀ args w, (callFunc f args).run P w = .ok (.enter f args) w

/-! ### all of them -/
def evE (P : Program) (calls : Known) (o : Op) (ty : TypeId) (e : Env) (h : Hp) (K : SV → Hp → Prop) (X : Value → Hp → Prop) : Prop :=
  match o with
  | .store t x y => withOp e x fun x => withOp e y fun y => match x with
    | .ptr b o => storeK P t h b o y fun h1 => K .undef h1
    | _ => False
  | .alloc t => allocK P t h K
  | .box t x => withOp e x fun v => boxK t v h K
  | .buildSlice t n ps => withParts e ps.toList fun vs => litSliceK P t n vs h K
  | .makeSlice t l c => withOp e l fun l => withOp e c fun c => makeK P t h l c K
  | .makeMap _ none => makeMapK h K
  | .makeChan t s => withOp e s fun s => makeChanK P t s h K
  | .mapUpdate t m k x => withOp e m fun m => withOp e k fun k => withOp e x fun x => mapPutK P t m k x h fun h1 => K .undef h1
  | .mapEntry t m k => withOp e m fun m => withOp e k fun k => mapEntK P t m k h K
  | .entryStore _ m s x => withOp e m fun m => withOp e s fun s => withOp e x fun x => entStoreK m s x h fun h1 => K .undef h1
  | .panic x => withOp e x fun x => match x with
    | .raw (.iface t v) => X (.iface t v) h
    | _ => False
  | .call { callee := .value x, args := xs, .. } => withOp e x fun v => match v with
    | .fn (.func f) first captured => withOps e xs.toList fun vs => callK P calls f ty (first ++ vs.map SV.val ++ captured) h K X
    | _ => False
  | .call { callee := .builtin .append, args := ⟨[x, y]⟩, argTypes := ⟨[t, t2]⟩ } => withOp e x fun x => withOp e y fun y => appendK P t t2 x y h K
  | .call { callee := .builtin .copy, args := ⟨[x, y]⟩, argTypes := ⟨[t, _]⟩ } => withOp e x fun x => withOp e y fun y => copyK P t x y h K
  | .call { callee := .builtin .delete, args := ⟨[x, y]⟩, argTypes := ⟨[t, _]⟩ } => withOp e x fun x => withOp e y fun y => mapDelK P t x y h fun h1 => K (.tuple []) h1
  | .call { callee := .builtin .clear, args := ⟨[x]⟩, argTypes := ⟨[t]⟩ } => withOp e x fun x => clearK P t x h fun h1 => K (.tuple []) h1
  | .call { callee := .builtin .close, args := ⟨[x]⟩, .. } => withOp e x fun x => closeK x h fun h1 => K (.tuple []) h1
  | _ => False

/-- What an operation does to the frame and the world, told of its run. -/
theorem wp_of_value {P : Program} {o : Oper} {a : Act} {w w' : World} {v : Value} {next : Act → World → Prop} {Q : Exit → Act → World → Prop}
    (hr : (execOp a.eval o).run P w = .ok (.value v) w') (h : next (a.put o.dst v) w') : o.wp P a w next Q := by
  unfold Oper.wp; rw [hr]; exact h

theorem wp_of_skip {P : Program} {o : Oper} {a : Act} {w w' : World} {next : Act → World → Prop} {Q : Exit → Act → World → Prop}
    (hr : (execOp a.eval o).run P w = .ok .skip w') (h : next (a.put o.dst undef) w') : o.wp P a w next Q := by
  unfold Oper.wp; rw [hr]; exact h

theorem evE_elim {P : Program} {calls : Known} (hcalls : CallsOk P calls) {n : Nat} {a : Act} {e : Env} (hf : Fits n ds lk a e) {o : Oper} {h : Hp} {K : SV → Hp → Prop} {X : Value → Hp → Prop}
    (hk : evE P calls o.op o.type e h K X) {w : World} (hw : w.heap = h) {next : Act → World → Prop} {Q : Exit → Act → World → Prop}
    (hn : ∀ v w', K v w'.heap → Same w w' → next (a.put o.dst v.val) w') (hx : ∀ x w', X x w'.heap → Same w w' → Q (.panic [{ v := x, recovered := false }]) a w') : o.wp P a w next Q := by
  obtain ⟨dst, op, type, pos, after, guard⟩ := o
  simp only at hk
  unfold evE at hk
  split at hk
  · rename_i t x y
    obtain ⟨u, hk, e1⟩ := withOp_elim hf hk
    obtain ⟨v, hk, e2⟩ := withOp_elim hf hk
    split at hk
    · obtain ⟨w', hr, hs, hK⟩ := storeK_elim hk hw
      exact wp_of_skip (by simp [execOp, Instr.storeAt, Instr.sureAddr, e1, e2, show ∀ b o, SV.val (.ptr b o) = .pointer (some ⟨b, o, none⟩) from fun _ _ => rfl, hr]) (hn .undef w' hK hs)
    · exact hk.elim
  · obtain ⟨v, w', hr, hs, hK⟩ := allocK_elim hk hw
    exact wp_of_value (by simp [execOp, hr]) (hn v w' hK hs)
  · obtain ⟨u, hk, e1⟩ := withOp_elim hf hk
    obtain ⟨v, w', hr, hs, hK⟩ := boxK_elim (P := P) hk hw
    exact wp_of_value (by simp [execOp, e1, hr]) (hn v w' hK hs)
  · rename_i t m ps
    obtain ⟨vs, hk, e1⟩ := withParts_elim hf hk
    have hk' : litSliceK P t m (ps.map fun p => (p.1, a.eval p.2)).toList h K := by simpa [e1] using hk
    obtain ⟨v, w', hr, hs, hK⟩ := litSliceK_elim hk' hw
    exact wp_of_value (by simp [execOp, hr]) (hn v w' hK hs)
  · obtain ⟨l, hk, e1⟩ := withOp_elim hf hk
    obtain ⟨c, hk, e2⟩ := withOp_elim hf hk
    obtain ⟨v, w', hr, hs, hK⟩ := makeK_elim hk hw
    exact wp_of_value (by simp [execOp, e1, e2, hr]) (hn v w' hK hs)
  · rename_i t
    obtain ⟨v, w', hr, hs, hK⟩ := makeMapK_elim (P := P) (t := t) hk hw
    exact wp_of_value (by simp [execOp, hr]) (hn v w' hK hs)
  · obtain ⟨s, hk, e1⟩ := withOp_elim hf hk
    obtain ⟨v, w', hr, hs, hK⟩ := makeChanK_elim hk hw
    exact wp_of_value (by simp [execOp, e1, hr]) (hn v w' hK hs)
  · obtain ⟨m, hk, e1⟩ := withOp_elim hf hk
    obtain ⟨k, hk, e2⟩ := withOp_elim hf hk
    obtain ⟨x, hk, e3⟩ := withOp_elim hf hk
    obtain ⟨w', hr, hs, hK⟩ := mapPutK_elim hk hw
    exact wp_of_skip (by simp [execOp, e1, e2, e3, hr]) (hn .undef w' hK hs)
  · obtain ⟨m, hk, e1⟩ := withOp_elim hf hk
    obtain ⟨k, hk, e2⟩ := withOp_elim hf hk
    obtain ⟨v, w', hr, hs, hK⟩ := mapEntK_elim hk hw
    exact wp_of_value (by simp [execOp, e1, e2, hr]) (hn v w' hK hs)
  · rename_i t0 m0 s0 x0
    obtain ⟨m, hk, e1⟩ := withOp_elim hf hk
    obtain ⟨s, hk, e2⟩ := withOp_elim hf hk
    obtain ⟨x, hk, e3⟩ := withOp_elim hf hk
    obtain ⟨w', hr, hs, hK⟩ := entStoreK_elim (P := P) (t := t0) hk hw
    exact wp_of_skip (by simp [execOp, e1, e2, e3, hr]) (hn .undef w' hK hs)
  · rename_i x0
    obtain ⟨x, hk, e1⟩ := withOp_elim hf hk
    split at hk
    · rename_i t v
      unfold Oper.wp
      have hr : (execOp a.eval (⟨dst, .panic x0, type, pos, after, guard⟩ : Oper)).run P w = .halt (.panic (.iface t v)) w := by
        simp only [execOp, e1, SV.val, Instr.panic, goPanic]
        rfl
      rw [hr]
      exact hx _ _ (by rw [hw]; exact hk) (Same.refl w)
    · exact hk.elim
  · rename_i x xs ts
    obtain ⟨u, hk, e1⟩ := withOp_elim hf hk
    split at hk
    · rename_i f first captured
      obtain ⟨vs, hk, e2⟩ := withOps_elim hf hk
      unfold callK at hk
      cases hc : calls.ok f
      · rw [hc, cond_false] at hk; exact hk.elim
      · rw [hc, cond_true] at hk
        have hr : (execOp a.eval (⟨dst, .call ⟨.value x, xs, ts⟩, type, pos, after, guard⟩ : Oper)).run P w = .ok (.enter f ⟨first ++ vs.map SV.val ++ captured⟩) w := by
          have hcf := hcalls f hc
          simp only [execOp, resolve, e1, SV.val, Deferred.ofValue, Sem.run_bind, Sem.run_pure, Result.andThen_ok, invoke, arr_of_map e2]
          rw [hcf]
          simp
        unfold Oper.wp
        rw [hr]
        cases hp : calls.pan f
        · rw [hp, cond_false] at hk
          refine (hk w hw).mono ?_
          rintro en w' ⟨v, rfl, hs, hres⟩
          obtain ⟨r, rfl, hK⟩ := exResult_elim hres
          exact hn r w' hK hs
        · rw [hp, cond_true] at hk
          refine (hk w hw).mono ?_
          rintro en w' (⟨v, rfl, hs, hres⟩ | ⟨v, rfl, hs, hX⟩)
          · obtain ⟨r, rfl, hK⟩ := exResult_elim hres
            exact hn r w' hK hs
          · exact hx v w' hX hs
    · exact hk.elim
  · obtain ⟨x, hk, e1⟩ := withOp_elim hf hk
    obtain ⟨y, hk, e2⟩ := withOp_elim hf hk
    obtain ⟨v, w', hr, hs, hK⟩ := appendK_elim (ty := type) hk hw
    exact wp_of_value (by simp [execOp, resolve, invoke, builtin, e1, e2, hr]) (hn v w' hK hs)
  · rename_i x0 y0 t0 t2
    obtain ⟨x, hk, e1⟩ := withOp_elim hf hk
    obtain ⟨y, hk, e2⟩ := withOp_elim hf hk
    obtain ⟨v, w', hr, hs, hK⟩ := copyK_elim (ty := type) (t2 := t2) hk hw
    exact wp_of_value (by simp [execOp, resolve, invoke, builtin, e1, e2, hr]) (hn v w' hK hs)
  · rename_i x0 y0 t0 t2
    obtain ⟨x, hk, e1⟩ := withOp_elim hf hk
    obtain ⟨y, hk, e2⟩ := withOp_elim hf hk
    obtain ⟨w', hr, hs, hK⟩ := mapDelK_elim (ty := type) (t2 := t2) hk hw
    exact wp_of_value (v := .tuple #[]) (by simp [execOp, resolve, invoke, builtin, e1, e2, hr]) (hn (.tuple []) w' hK hs)
  · obtain ⟨x, hk, e1⟩ := withOp_elim hf hk
    obtain ⟨w', hr, hs, hK⟩ := clearK_elim (ty := type) hk hw
    exact wp_of_value (v := .tuple #[]) (by simp [execOp, resolve, invoke, builtin, e1, hr]) (hn (.tuple []) w' hK hs)
  · rename_i x0 ts
    obtain ⟨x, hk, e1⟩ := withOp_elim hf hk
    obtain ⟨w', hr, hs, hK⟩ := closeK_elim (P := P) (ts := ts) (ty := type) hk hw
    exact wp_of_value (v := .tuple #[]) (by simp [execOp, resolve, invoke, builtin, e1, hr]) (hn (.tuple []) w' hK hs)
  · exact hk.elim
end Go.Wd
