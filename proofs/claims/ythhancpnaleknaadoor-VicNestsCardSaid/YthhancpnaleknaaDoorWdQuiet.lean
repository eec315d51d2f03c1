/-
  The operations that make no memory and write none: what each comes to.
-/
import Derived.Test.YthhancpnaleknaaDoorWdOps
namespace Go.Wd
set_option linter.unusedSimpArgs false
set_option linter.unusedVariables false
open Go Go.RowKit
variable {lk : Lock}

abbrev Fact := Hp → Prop

/-- A quiet operation's own word: the value, and what of the heap it hangs on. -/
def Yields (P : Program) (s : Sem Next) (h : Hp) (v : SV) (fs : List Fact) : Prop :=
  (∀ f ∈ fs, f h) ∧ ∀ w : World, (∀ f ∈ fs, f w.heap) → s.run P w = .ok (.value v.val) w

def isAggD : TypeDesc → Bool
  | .struct _ => true
  | .array _ _ => true
  | _ => false

def readAt (h : Hp) (b o : Nat) (cs : List Value) : Prop := ∀ j, j < cs.length → cellAt h b (o + j) = cs[j]?

def loadCellsK (h : Hp) (b o : Nat) : List Sh → Nat → (List Value → List Fact → Prop) → Prop
  | [], _, K => K [] []
  | s :: r, j, K => exSh s fun v => cellAt h b (o + j) = some v ∧ loadCellsK h b o r (j + 1) fun vs fs => K (v :: vs) ((fun h' => cellAt h' b (o + j) = some v) :: fs)

def loadK (P : Program) (t : TypeId) (h : Hp) (b o : Nat) (K : SV → List Fact → Prop) : Prop :=
  match P.underlying t, P.info? t with
  | some d, some i => bif isAggD d then
      (match i.zero with
      | some (.agg cs) => bif Nat.ble cs.toList.length 40 && Nat.beq cs.toList.length i.size then loadCellsK h b o (cs.toList.map Sh.ofZero) 0 fun vs fs => K (.agg vs) fs
          else ∃ cs : List Value, cs.length = i.size ∧ readAt h b o cs ∧ K (.agg cs) [fun h' => readAt h' b o cs]
      | _ => False)
    else (match i.zero with
      | some z => exSh (Sh.ofZero z) fun v => cellAt h b o = some v ∧ K (.of v) [fun h' => cellAt h' b o = some v]
      | none => False)
  | _, _ => False

theorem cell?_mk (w : World) (b o : Nat) : w.cell? ⟨b, o, none⟩ = cellAt w.heap b o := by
  unfold World.cell? cellAt bk
  cases w.heap[b]? with
  | none => rfl
  | some x => cases x <;> rfl

theorem cell?_add (w : World) (b o j : Nat) : w.cell? ((⟨b, o, none⟩ : Addr).add j) = cellAt w.heap b (o + j) := by
  rw [Addr.add_lit, cell?_mk]

theorem run_load_of {P : Program} {w : World} {a : Addr} {v : Value} {m : Mode} (h : w.cell? a = some v) : (Go.load a m).run P w = .ok v w := by
  simp [h]

theorem run_loadCells_of {P : Program} (w : World) (b o : Nat) : ∀ (vs : List Value) (i : Nat) (acc : Array Value), (∀ j, j < vs.length → cellAt w.heap b (o + (i + j)) = vs[j]?) →
    (loadCellsFrom ⟨b, o, none⟩ i vs.length acc).run P w = .ok ⟨acc.toList ++ vs⟩ w
  | [], i, acc, _ => by simp [loadCellsFrom]
  | v :: r, i, acc, h => by
    have h0 := h 0 (by simp)
    have ih := run_loadCells_of (P := P) w b o r (i + 1) (acc.push v) (fun j hj => by have := h (j + 1) (by simpa using hj); rw [show i + (j + 1) = i + 1 + j by omega] at this; simpa using this)
    have hc : w.cell? ((⟨b, o, none⟩ : Addr).add i) = some v := by rw [cell?_add]; simpa using h0
    simp only [List.length_cons, loadCellsFrom, Sem.run_bind, run_load_of hc, Result.andThen_ok, ih]
    simp

theorem loadCellsK_elim {h : Hp} {b o : Nat} : ∀ {ss : List Sh} {i : Nat} {K : List Value → List Fact → Prop}, loadCellsK h b o ss i K →
    ∃ vs fs, K vs fs ∧ vs.length = ss.length ∧ (∀ f ∈ fs, f h) ∧ ∀ h' : Hp, (∀ f ∈ fs, f h') → ∀ j, j < vs.length → cellAt h' b (o + (i + j)) = vs[j]?
  | [], i, K, hk => ⟨[], [], hk, rfl, by simp, by intro h' _ j hj; simp at hj⟩
  | s :: r, i, K, hk => by
    obtain ⟨v, h0, hk⟩ := exSh_elim hk
    obtain ⟨vs, fs, hK, hl, hf, hr⟩ := loadCellsK_elim hk
    refine ⟨v :: vs, _, hK, by simp [hl], ?_, ?_⟩
    · intro f hf'
      rcases List.mem_cons.1 hf' with rfl | hf'
      · exact h0
      · exact hf f hf'
    · intro h' hf' j hj
      cases j with
      | zero => simpa using hf' _ List.mem_cons_self
      | succ j =>
        have := hr h' (fun f hm => hf' f (List.mem_cons_of_mem _ hm)) j (by simpa using hj)
        rw [show i + (j + 1) = i + 1 + j by omega, this]
        simp

theorem run_loadVar_agg {P : Program} {w : World} {t : TypeId} {d : TypeDesc} {i : TypeInfo} (hu : P.underlying t = some d) (hi : P.info? t = some i) (hd : isAggD d = true)
    (b o : Nat) (vs : List Value) (hl : vs.length = i.size) (h : ∀ j, j < vs.length → cellAt w.heap b (o + j) = vs[j]?) :
    (loadVar t ⟨b, o, none⟩).run P w = .ok (.agg ⟨vs⟩) w := by
  have e : (isAgg t).run P w = .ok true w := by
    rw [run_isAgg hu]; cases d <;> first | rfl | simp [isAggD] at hd
  simp only [loadVar, Sem.run_bind, e, Result.andThen_ok, if_true, run_sizeOf hi, loadCells]
  rw [← hl, run_loadCells_of w b o vs 0 #[] (by simpa using h)]
  simp

theorem run_loadVar_one {P : Program} {w : World} {t : TypeId} {d : TypeDesc} (hu : P.underlying t = some d) (hd : isAggD d = false)
    (b o : Nat) (v : Value) (h : cellAt w.heap b o = some v) : (loadVar t ⟨b, o, none⟩).run P w = .ok v w := by
  have e : (isAgg t).run P w = .ok false w := by
    rw [run_isAgg hu]; cases d <;> first | rfl | simp [isAggD] at hd
  simp only [loadVar, Sem.run_bind, e, Result.andThen_ok, Bool.false_eq_true, if_false]
  exact run_load_of (by rw [cell?_mk]; exact h)

theorem loadK_elim {P : Program} {t : TypeId} {h : Hp} {b o : Nat} {K : SV → List Fact → Prop} (hk : loadK P t h b o K) :
    ∃ v fs, K v fs ∧ (∀ f ∈ fs, f h) ∧ ∀ w : World, (∀ f ∈ fs, f w.heap) → (loadVar t ⟨b, o, none⟩).run P w = .ok v.val w := by
  unfold loadK at hk
  split at hk
  · rename_i d i hu hi
    cases hd : isAggD d
    · simp only [hd, cond_false] at hk
      split at hk
      · rename_i z hz
        obtain ⟨v, hc, hK⟩ := exSh_elim hk
        refine ⟨_, _, hK, by simpa using hc, fun w hw => ?_⟩
        rw [SV.of_val]
        exact run_loadVar_one hu hd b o v (by simpa using hw)
      · exact hk.elim
    · simp only [hd, cond_true] at hk
      split at hk
      · rename_i cs hz
        cases hs : (Nat.ble cs.toList.length 40 && Nat.beq cs.toList.length i.size)
        · simp only [hs, cond_false] at hk
          obtain ⟨vs, hl, hr, hK⟩ := hk
          refine ⟨_, _, hK, by simpa using hr, fun w hw => ?_⟩
          exact run_loadVar_agg hu hi hd b o vs hl (by simpa [readAt] using hw)
        · simp only [hs, cond_true] at hk
          obtain ⟨vs, fs, hK, hl, hf, hr⟩ := loadCellsK_elim hk
          refine ⟨_, _, hK, hf, fun w hw => ?_⟩
          have hs2 : cs.toList.length = i.size := by
            rw [Bool.and_eq_true] at hs
            exact Nat.eq_of_beq_eq_true hs.2
          refine run_loadVar_agg hu hi hd b o vs (by rw [hl, List.length_map, hs2]) ?_
          simpa using hr w.heap hw
      · exact hk.elim
  · exact hk.elim

/-! ### places -/
def fieldOff (P : Program) (s : TypeId) (f : Nat) : Option Nat :=
  match P.underlying s with
  | some (.struct fs) => match fs[f]? with
    | some fl => match P.info? fl.type with
      | some i => bif Nat.beq i.size 0 then none else some fl.offset
      | none => none
    | none => none
  | _ => none

theorem run_fieldAt {P : Program} {s : TypeId} {f n : Nat} (h : fieldOff P s f = some n) (b o : Nat) (w : World) :
    (Instr.fieldAt s (.pointer (some ⟨b, o, none⟩)) f).run P w = .ok (.pointer (some ⟨b, o + n, none⟩)) w := by
  unfold fieldOff at h
  split at h
  · rename_i fs hu
    split at h
    · rename_i fl hf
      split at h
      · rename_i i hi
        cases hz : Nat.beq i.size 0
        · simp only [hz, cond_false, Option.some.injEq] at h
          subst h
          have hz' : i.size ≠ 0 := fun e => by simp [e] at hz
          simp [Instr.fieldAt, run_underlying hu, hf, Instr.sureAddr, fieldPlace, run_sizeOf hi, hz']
          rw [← Addr.add_lit]
        · simp [hz] at h
      · exact absurd h (by simp)
    · exact absurd h (by simp)
  · exact absurd h (by simp)

def indexAddrK (P : Program) (t : TypeId) (x i : SV) (K : SV → List Fact → Prop) : Prop :=
  match i with
  | .int _ n => match P.underlying t with
    | some (.slice e) => match x, P.info? e with
      | .slice a l _, some ie => 0 ≤ n ∧ n < (l : Int) ∧ ∃ b o, a = some ⟨b, o, none⟩ ∧ K (.ptr b (o + n.toNat * ie.size)) []
      | _, _ => False
    | some (.array len e) => match x, P.info? e with
      | .ptr b o, some ie => 0 ≤ n ∧ n < (len : Int) ∧ K (.ptr b (o + n.toNat * ie.size)) []
      | _, _ => False
    | _ => False
  | _ => False

theorem indexAddrK_elim {P : Program} {t : TypeId} {x i : SV} {K : SV → List Fact → Prop} (h : indexAddrK P t x i K) :
    ∃ v, K v [] ∧ Still P (Instr.indexAt t x.val i.val) v := by
  unfold indexAddrK at h
  split at h
  · rename_i k n
    split at h
    · rename_i e hu
      split at h
      · rename_i a l c ie hi
        obtain ⟨h0, h1, b, o, rfl, hK⟩ := h
        refine ⟨_, hK, fun w => ?_⟩
        simp [SV.val, Instr.indexAt, asIntOf, run_underlying hu, h0, h1, run_sizeOf hi, Addr.add_lit]
      · exact h.elim
    · rename_i len e hu
      split at h
      · rename_i b o ie hi
        obtain ⟨h0, h1, hK⟩ := h
        refine ⟨_, hK, fun w => ?_⟩
        simp [SV.val, Instr.indexAt, asIntOf, run_underlying hu, Instr.sureAddr, h0, h1, run_sizeOf hi, Addr.add_lit]
      · exact h.elim
    · exact h.elim
  · exact h.elim

/-! ### parts of values -/
def partK (P : Program) (t : TypeId) (cs : List Value) (o : Nat) (K : SV → List Fact → Prop) : Prop :=
  match P.underlying t, P.info? t with
  | some d, some i => bif isAggD d then K (.agg ((cs.drop o).take i.size)) [] else (match cs[o]? with
    | some v => K (.of v) []
    | none => False)
  | _, _ => False

theorem partK_elim {P : Program} {t : TypeId} {cs : List Value} {o : Nat} {K : SV → List Fact → Prop} (h : partK P t cs o K) :
    ∃ v, K v [] ∧ ∀ w, (part t ⟨cs⟩ o).run P w = .ok v.val w := by
  unfold partK at h
  split at h
  · rename_i d i hu hi
    cases hd : isAggD d
    · simp only [hd, cond_false] at h
      split at h
      · rename_i v hv
        refine ⟨_, h, fun w => ?_⟩
        have e : (isAgg t).run P w = .ok false w := by
          rw [run_isAgg hu]; cases d <;> first | rfl | simp [isAggD] at hd
        simp [part, e, hv, SV.of_val]
      · exact h.elim
    · simp only [hd, cond_true] at h
      refine ⟨_, h, fun w => ?_⟩
      have e : (isAgg t).run P w = .ok true w := by
        rw [run_isAgg hu]; cases d <;> first | rfl | simp [isAggD] at hd
      simp only [part, Sem.run_bind, e, Result.andThen_ok, if_true, run_sizeOf hi, Sem.run_pure, SV.val]
      simp [List.extract_eq_take_drop]
  · exact h.elim

def fieldK (P : Program) (t : TypeId) (x : SV) (f : Nat) (K : SV → List Fact → Prop) : Prop :=
  match x, P.underlying t with
  | .agg cs, some (.struct fs) => match fs[f]? with
    | some fl => partK P fl.type cs fl.offset K
    | none => False
  | _, _ => False

theorem fieldK_elim {P : Program} {t : TypeId} {x : SV} {f : Nat} {K : SV → List Fact → Prop} (h : fieldK P t x f K) :
    ∃ v, K v [] ∧ Still P (Instr.field t x.val f) v := by
  unfold fieldK at h
  split at h
  · rename_i cs fs hu
    split at h
    · rename_i fl hf
      obtain ⟨v, hK, hr⟩ := partK_elim h
      refine ⟨v, hK, fun w => ?_⟩
      simp [SV.val, Instr.field, run_underlying hu, hf, asAgg, hr]
    · exact h.elim
  · exact h.elim

def indexK (P : Program) (t : TypeId) (x i : SV) (K : SV → List Fact → Prop) : Prop :=
  match i with
  | .int _ n => match x, P.underlying t with
    | .str s, some .string => 0 ≤ n ∧ ∃ c : UInt8, s.data.toList[n.toNat]? = some c ∧ K (.int .u8 c.toNat) []
    | .agg cs, some (.array len e) => match P.underlying e, P.info? e with
      | some d, some ie => bif isAggD d then (match ie.zero with
        | some (.agg zs) => bif Nat.ble zs.toList.length 40 then 0 ≤ n ∧ n < (len : Int) ∧ exShs (zs.toList.map Sh.ofZero) fun vs => (cs.drop (n.toNat * ie.size)).take ie.size = vs ∧ K (.agg vs) [] else False
        | _ => False) else (match ie.zero with
        | some z => 0 ≤ n ∧ n < (len : Int) ∧ exSh (Sh.ofZero z) fun v => cs[n.toNat * ie.size]? = some v ∧ K (.of v) []
        | none => False)
      | _, _ => False
    | _, _ => False
  | _ => False

theorem indexK_elim {P : Program} {t : TypeId} {x i : SV} {K : SV → List Fact → Prop} (h : indexK P t x i K) :
    ∃ v, K v [] ∧ Still P (Instr.index t x.val i.val) v := by
  unfold indexK at h
  split at h
  · rename_i k n
    split at h
    · rename_i s hu
      obtain ⟨h0, c, hc, hK⟩ := h
      refine ⟨_, hK, fun w => ?_⟩
      have hc' : s[n.toNat]? = some c := by
        obtain ⟨⟨l⟩⟩ := s
        simp only at hc
        have hlt := (List.getElem?_eq_some_iff.1 hc)
        obtain ⟨hlt, he⟩ := hlt
        simp [getElem?_def]
        refine ⟨by simpa [ByteArray.size] using hlt, ?_⟩
        exact he
      simp [SV.val, Instr.index, asIntOf, run_underlying hu, h0, hc']
    · rename_i cs len e hu
      split at h
      · rename_i d ie hd hi
        cases ha : isAggD d
        · simp only [ha, cond_false] at h
          split at h
          · rename_i z hz
            obtain ⟨h0, h1, h⟩ := h
            obtain ⟨v, hv, hK⟩ := exSh_elim h
            refine ⟨_, hK, fun w => ?_⟩
            have e' : ∀ w, (isAgg e).run P w = .ok false w := by
              intro w; rw [run_isAgg hd]; cases d <;> first | rfl | simp [isAggD] at ha
            rw [SV.of_val]
            simp [SV.val, Instr.index, asIntOf, run_underlying hu, h0, h1, part, e', run_sizeOf hi, hv]
          · exact h.elim
        · simp only [ha, cond_true] at h
          split at h
          · rename_i zs hz
            cases hb : Nat.ble zs.toList.length 40
            · rw [hb, cond_false] at h; exact h.elim
            · rw [hb, cond_true] at h
              obtain ⟨h0, h1, h⟩ := h
              obtain ⟨vs, hv, hK⟩ := exShs_elim h
              refine ⟨_, hK, fun w => ?_⟩
              have e' : ∀ w, (isAgg e).run P w = .ok true w := by
                intro w; rw [run_isAgg hd]; cases d <;> first | rfl | simp [isAggD] at ha
              subst hv
              simp [SV.val, Instr.index, asIntOf, run_underlying hu, h0, h1, part, e', run_sizeOf hi, List.extract_eq_take_drop]
          · exact h.elim
      · exact h.elim
    · exact h.elim
  · exact h.elim

def extractK (x : SV) (i : Nat) (K : SV → List Fact → Prop) : Prop :=
  match x with
  | .tuple vs => match vs[i]? with
    | some v => K (.of v) []
    | none => False
  | _ => False

theorem extractK_elim {P : Program} {x : SV} {i : Nat} {K : SV → List Fact → Prop} (h : extractK x i K) : ∃ v, K v [] ∧ Still P (Instr.extract x.val i) v := by
  unfold extractK at h
  split at h
  · rename_i vs
    split at h
    · rename_i v hv
      exact ⟨_, h, fun w => by rw [SV.of_val]; simp [SV.val, Instr.extract, hv]⟩
    · exact h.elim
  · exact h.elim

/-! ### conversions, signs, slices -/
def unK (op : UnOp) (x : SV) (K : SV → List Fact → Prop) : Prop :=
  match op, x with
  | .not, .tt => K .ff []
  | .not, .ff => K .tt []
  | .not, .bool b => K (.bool (!b)) []
  | .neg, .int k n => K (.int k (k.wrap (0 - n))) []
  | .xor, .int k n => K (.int k (bxorV k (if k.signed then -1 else k.max) n)) []
  | _, _ => False

theorem unK_elim {P : Program} {op : UnOp} {x : SV} {K : SV → List Fact → Prop} (h : unK op x K) : ∃ v, K v [] ∧ Still P (Op.unary op x.val) v := by
  unfold unK at h
  split at h
  · exact ⟨_, h, fun w => by simp [SV.val, Op.unary]⟩
  · exact ⟨_, h, fun w => by simp [SV.val, Op.unary]⟩
  · exact ⟨_, h, fun w => by simp [SV.val, Op.unary]⟩
  · exact ⟨_, h, fun w => by simp [SV.val, Op.unary, Op.intArith]⟩
  · exact ⟨_, h, fun w => by simp [SV.val, Op.unary, Op.intBits, bxorV]⟩
  · exact h.elim

def convK (P : Program) (src dst : TypeId) (x : SV) (K : SV → List Fact → Prop) : Prop :=
  match P.underlying src, P.underlying dst, x with
  | some _, some (.int k), .int _ n => K (.int k (k.wrap n)) []
  | some _, some .string, .str s => K (.str s) []
  | _, _, _ => False

theorem convK_elim {P : Program} {src dst : TypeId} {x : SV} {K : SV → List Fact → Prop} (h : convK P src dst x K) : ∃ v, K v [] ∧ Still P (convert src dst x.val) v := by
  unfold convK at h
  split at h
  · rename_i k k' n hs hd
    exact ⟨_, h, fun w => by simp [SV.val, convert, run_underlying hs, run_underlying hd, Conv.intToInt]⟩
  · rename_i s hs hd
    exact ⟨_, h, fun w => by simp [SV.val, convert, run_underlying hs, run_underlying hd]⟩
  · exact h.elim

def lenK (P : Program) (t : TypeId) (x : SV) (K : SV → List Fact → Prop) : Prop :=
  match P.underlying t, x with
  | some .string, .str s => K (.int .i64 s.size) []
  | some (.array n _), _ => K (.int .i64 n) []
  | some (.slice _), .slice _ n _ => K (.int .i64 n) []
  | some (.pointer e), _ => match P.underlying e with
    | some (.array n _) => K (.int .i64 n) []
    | _ => False
  | _, _ => False

theorem lenK_elim {P : Program} {t ty : TypeId} {x : SV} {K : SV → List Fact → Prop} (h : lenK P t x K) : ∃ v, K v [] ∧ Still P (Builtin.len_ #[t] ty #[x.val]) v := by
  unfold lenK at h
  split at h
  · rename_i hu
    exact ⟨_, h, fun w => by simp [SV.val, Builtin.len_, run_underlying hu, goInt]⟩
  · rename_i n e hu
    exact ⟨_, h, fun w => by simp [SV.val, Builtin.len_, run_underlying hu, goInt]⟩
  · rename_i n hu
    exact ⟨_, h, fun w => by simp [SV.val, Builtin.len_, run_underlying hu, goInt]⟩
  · rename_i e hu
    split at h
    · rename_i n e' hu'
      exact ⟨_, h, fun w => by simp [SV.val, Builtin.len_, run_underlying hu, run_underlying hu', goInt]⟩
    · exact h.elim
  · exact h.elim

def capK (P : Program) (t : TypeId) (x : SV) (K : SV → List Fact → Prop) : Prop :=
  match P.underlying t, x with
  | some (.array n _), _ => K (.int .i64 n) []
  | some (.slice _), .slice _ _ n => K (.int .i64 n) []
  | _, _ => False

theorem capK_elim {P : Program} {t ty : TypeId} {x : SV} {K : SV → List Fact → Prop} (h : capK P t x K) : ∃ v, K v [] ∧ Still P (Builtin.cap_ #[t] ty #[x.val]) v := by
  unfold capK at h
  split at h
  · rename_i n e hu
    exact ⟨_, h, fun w => by simp [SV.val, Builtin.cap_, run_underlying hu, goInt]⟩
  · rename_i n hu
    exact ⟨_, h, fun w => by simp [SV.val, Builtin.cap_, run_underlying hu, goInt]⟩
  · exact h.elim

def maxI (a b : Int) : Int := if b > a then b else a
def minI (a b : Int) : Int := if b < a then b else a

def mostK (f : Int → Int → Int) : List SV → (SV → List Fact → Prop) → Prop
  | [.int k a, .int _ b], K => K (.int k (f a b)) []
  | [.int k a, .int _ b, .int _ c], K => K (.int k (f (f a b) c)) []
  | _, _ => False

theorem maxK_elim {P : Program} {ts : Array TypeId} {ty : TypeId} {xs : List SV} {K : SV → List Fact → Prop} (h : mostK maxI xs K) : ∃ v, K v [] ∧ Still P (Builtin.max_ ts ty ⟨xs.map SV.val⟩) v := by
  unfold mostK at h
  split at h
  · exact ⟨_, h, fun w => by simp [SV.val, Builtin.max_, Builtin.max2, maxI]⟩
  · exact ⟨_, h, fun w => by simp [SV.val, Builtin.max_, Builtin.max2, maxI]⟩
  · exact h.elim

theorem minK_elim {P : Program} {ts : Array TypeId} {ty : TypeId} {xs : List SV} {K : SV → List Fact → Prop} (h : mostK minI xs K) : ∃ v, K v [] ∧ Still P (Builtin.min_ ts ty ⟨xs.map SV.val⟩) v := by
  unfold mostK at h
  split at h
  · exact ⟨_, h, fun w => by simp [SV.val, Builtin.min_, Builtin.min2, minI]⟩
  · exact ⟨_, h, fun w => by simp [SV.val, Builtin.min_, Builtin.min2, minI]; rfl⟩
  · exact h.elim

/-- The bounds of x[lo:hi:mx], each told as a number. -/
def boundOf : Option SV → Option (Option Int)
  | none => some none
  | some (.int _ n) => some (some n)
  | _ => none

def sliceBase (a : Option Addr) (l m s : Nat) : Option Addr := if m = l then a else a.map fun p => p.add (l * s)
def arrBase (b o l m s : Nat) : Option Addr := if m = l then some ⟨b, o, none⟩ else some ⟨b, o + l * s, none⟩

def sliceK (P : Program) (t : TypeId) (x : SV) (lo hi mx : Option SV) (K : SV → List Fact → Prop) : Prop :=
  match boundOf lo, boundOf hi, boundOf mx with
  | some lo, some hi, some mx =>
    match P.underlying t, x with
    | some (.slice e), .slice a l c => match P.info? e with
      | some ie =>
        let l0 : Int := lo.getD 0
        let h0 : Int := hi.getD l
        let m0 : Int := mx.getD c
        (mx.isSome = true → hi.isSome = true) ∧ 0 ≤ l0 ∧ l0 ≤ h0 ∧ h0 ≤ m0 ∧ m0 ≤ (c : Int) ∧
          K (.slice (sliceBase a l0.toNat m0.toNat ie.size) (h0.toNat - l0.toNat) (m0.toNat - l0.toNat)) []
      | none => False
    | some (.array n e), .ptr b o => match P.info? e with
      | some ie =>
        let l0 : Int := lo.getD 0
        let h0 : Int := hi.getD n
        let m0 : Int := mx.getD n
        (mx.isSome = true → hi.isSome = true) ∧ 0 ≤ l0 ∧ l0 ≤ h0 ∧ h0 ≤ m0 ∧ m0 ≤ (n : Int) ∧
          K (.slice (arrBase b o l0.toNat m0.toNat ie.size) (h0.toNat - l0.toNat) (m0.toNat - l0.toNat)) []
      | none => False
    | _, _ => False
  | _, _, _ => False

theorem boundOf_val {x : Option SV} {r : Option Int} (h : boundOf x = some r) : (x.map SV.val = none ∧ r = none) ∨ ∃ k n, x.map SV.val = some (.int k n) ∧ r = some n := by
  unfold boundOf at h
  split at h
  · simp at h; exact .inl ⟨rfl, h.symm⟩
  · rename_i k n; simp at h; exact .inr ⟨k, n, rfl, h.symm⟩
  · exact absurd h (by simp)

theorem run_bound {P : Program} {w : World} (k : IntKind) (i : Int) (y : Nat) (code : BoundsCode) (h0 : 0 ≤ i) (h1 : i ≤ y) : (Instr.sliceBound (.int k i) y code).run P w = .ok i.toNat w := by
  simp [Instr.sliceBound, asIntOf, h0, h1]

theorem run_bounds {P : Program} {w : World} {s : Bool} {len cap : Nat} {lo hi mx : Option Value} {l h m : Option Int}
    (hl : (lo = none ∧ l = none) ∨ ∃ k n, lo = some (.int k n) ∧ l = some n) (hh : (hi = none ∧ h = none) ∨ ∃ k n, hi = some (.int k n) ∧ h = some n)
    (hm : (mx = none ∧ m = none) ∨ ∃ k n, mx = some (.int k n) ∧ m = some n) (hmh : m.isSome = true → h.isSome = true)
    (h0 : 0 ≤ l.getD 0) (h1 : l.getD 0 ≤ h.getD len) (h2 : h.getD len ≤ m.getD cap) (h3 : m.getD cap ≤ (cap : Int)) :
    (Instr.sliceBounds s len cap lo hi mx).run P w = .ok ((l.getD 0).toNat, (h.getD len).toNat, (m.getD cap).toNat) w := by
  rcases hl with ⟨rfl, rfl⟩ | ⟨kl, l, rfl, rfl⟩ <;> rcases hh with ⟨rfl, rfl⟩ | ⟨kh, h, rfl, rfl⟩ <;> rcases hm with ⟨rfl, rfl⟩ | ⟨km, m, rfl, rfl⟩ <;>
    simp only [Option.getD_none, Option.getD_some] at h0 h1 h2 h3 hmh ⊢ <;> try (simp at hmh; done)
  all_goals
    simp only [Instr.sliceBounds, Sem.run_bind, Sem.run_pure, Result.andThen_ok]
    repeat (rw [run_bound _ _ _ _ (by omega) (by omega)]; simp only [Result.andThen_ok, Sem.run_bind, Sem.run_pure])
  all_goals simp

theorem sliceK_elim {P : Program} {t : TypeId} {x : SV} {lo hi mx : Option SV} {K : SV → List Fact → Prop} (h : sliceK P t x lo hi mx K) :
    ∃ v, K v [] ∧ Still P (Instr.sliceAt t x.val (lo.map SV.val) (hi.map SV.val) (mx.map SV.val)) v := by
  unfold sliceK at h
  split at h
  · rename_i lo' hi' mx' hlo hhi hmx
    have e1 := boundOf_val hlo
    have e2 := boundOf_val hhi
    have e3 := boundOf_val hmx
    split at h
    · rename_i e a l c hu
      split at h
      · rename_i ie hi
        obtain ⟨hs, h0, h1, h2, h3, hK⟩ := h
        refine ⟨_, hK, fun w => ?_⟩
        have hb := run_bounds (P := P) (w := w) (s := true) (len := l) (cap := c) e1 e2 e3 hs h0 h1 h2 h3
        simp only [SV.val, Instr.sliceAt, Sem.run_bind, run_underlying hu, Result.andThen_ok, Instr.slice]
        rw [hb]
        simp only [Result.andThen_ok, Sem.run_bind, run_sizeOf hi, Sem.run_pure]
        rfl
      · exact h.elim
    · rename_i n e b o hu
      split at h
      · rename_i ie hi
        obtain ⟨hs, h0, h1, h2, h3, hK⟩ := h
        refine ⟨_, hK, fun w => ?_⟩
        have hb := run_bounds (P := P) (w := w) (s := false) (len := n) (cap := n) e1 e2 e3 hs h0 h1 h2 h3
        simp only [SV.val, Instr.sliceAt, Sem.run_bind, run_underlying hu, Result.andThen_ok, Instr.sureAddr, Sem.run_pure]
        rw [hb]
        simp only [Result.andThen_ok, Sem.run_bind, run_sizeOf hi, Sem.run_pure, arrBase, Addr.add_lit]
        split <;> rfl
      · exact h.elim
    · exact h.elim
  · exact h.elim

/-! ### all of them -/
def withOpt (e : Env) (x : Option Operand) (f : Option SV → Prop) : Prop :=
  match x with
  | none => f none
  | some x => withOp e x fun v => f (some v)

theorem withOpt_elim {n : Nat} {a : Act} {e : Env} (hf : Fits n lk a e) {x : Option Operand} {f : Option SV → Prop} (h : withOpt e x f) : ∃ v, f v ∧ x.map a.eval = v.map SV.val := by
  cases x with
  | none => exact ⟨none, h, rfl⟩
  | some x =>
    obtain ⟨v, h1, e1⟩ := withOp_elim hf h
    exact ⟨some v, h1, by simp [e1]⟩

def withParts (e : Env) : List (Nat × Operand) → (List (Nat × Value) → Prop) → Prop
  | [], f => f []
  | p :: r, f => withOp e p.2 fun v => withParts e r fun vs => f ((p.1, v.val) :: vs)

theorem withParts_elim {n : Nat} {a : Act} {e : Env} (hf : Fits n lk a e) : ∀ {xs : List (Nat × Operand)} {f : List (Nat × Value) → Prop}, withParts e xs f → ∃ vs, f vs ∧ xs.map (fun p => (p.1, a.eval p.2)) = vs
  | [], f, h => ⟨[], h, rfl⟩
  | x :: r, f, h => by
    obtain ⟨v, h1, e1⟩ := withOp_elim hf h
    obtain ⟨vs, h2, e2⟩ := withParts_elim hf h1
    exact ⟨_, h2, by simp [e1, e2]⟩

def nilCheckK (x : SV) (K : SV → List Fact → Prop) : Prop :=
  match x with
  | .ptr b o => K (.ptr b o) []
  | .optr a => ∃ b o, a = some ⟨b, o, none⟩ ∧ K (.ptr b o) []
  | .slice a l c => K (.slice a l c) []
  | .fn (.func f) x y => K (.fn (.func f) x y) []
  | _ => False

def pickK (e : Env) (c : SV) (a b : Operand) (K : SV → List Fact → Prop) : Prop :=
  match c with
  | .tt => withOp e a fun v => K v []
  | .ff => withOp e b fun v => K v []
  | .bool c => (c = true → withOp e a fun v => K v []) ∧ (c = false → withOp e b fun v => K v [])
  | _ => False

/-- Is the operation one of those that make no memory and write none? -/
def isQuiet : Op → Bool
  | .move _ | .assign _ | .pick .. | .nilCheck _ | .load .. | .fieldAddr .. | .field .. | .indexAddr .. | .index .. | .binOp .. | .unOp .. | .convert ..
  | .extract .. | .slice .. | .build .. | .makeFunc .. => true
  | .call { callee := .builtin .len, .. } => true
  | .call { callee := .builtin .cap, .. } => true
  | .call { callee := .builtin .max, .. } => true
  | .call { callee := .builtin .min, .. } => true
  | _ => false

def evQ (P : Program) (o : Op) (e : Env) (h : Hp) (K : SV → List Fact → Prop) : Prop :=
  match o with
  | .move x => withOp e x fun v => K v []
  | .assign x => withOp e x fun v => K v []
  | .pick c a b => withOp e c fun c => pickK e c a b K
  | .nilCheck x => withOp e x fun v => nilCheckK v K
  | .load t x => withOp e x fun v => match v with
    | .ptr b o => loadK P t h b o K
    | _ => False
  | .fieldAddr s x f => withOp e x fun v => match v with
    | .ptr b o => match fieldOff P s f with
      | some n => K (.ptr b (o + n)) []
      | none => False
    | _ => False
  | .field t x f => withOp e x fun v => fieldK P t v f K
  | .indexAddr t x i => withOp e x fun v => withOp e i fun i => indexAddrK P t v i K
  | .index t x i => withOp e x fun v => withOp e i fun i => indexK P t v i K
  | .binOp op t x y _ => withOp e x fun v => withOp e y fun u => binK P op t v u fun r => K r []
  | .unOp op _ x => withOp e x fun v => unK op v K
  | .convert s d x => withOp e x fun v => convK P s d v K
  | .extract x i => withOp e x fun v => extractK v i K
  | .slice t x lo hi mx => withOp e x fun v => withOpt e lo fun lo => withOpt e hi fun hi => withOpt e mx fun mx => sliceK P t v lo hi mx K
  | .build t ps => withParts e ps.toList fun vs => match P.built t vs with
    | some cs => K (.agg cs.toList) []
    | none => False
  | .makeFunc f x y => withOps e x.toList fun xs => withOps e y.toList fun ys => K (.fn f (xs.map SV.val) (ys.map SV.val)) []
  | .call { callee := .builtin .len, args := ⟨[x]⟩, argTypes := ⟨[t]⟩ } => withOp e x fun v => lenK P t v K
  | .call { callee := .builtin .cap, args := ⟨[x]⟩, argTypes := ⟨[t]⟩ } => withOp e x fun v => capK P t v K
  | .call { callee := .builtin .max, args := xs, .. } => withOps e xs.toList fun vs => mostK maxI vs K
  | .call { callee := .builtin .min, args := xs, .. } => withOps e xs.toList fun vs => mostK minI vs K
  | _ => False

theorem yields_still {P : Program} {h : Hp} {s : Sem Value} {v : SV} (hs : Still P s v) : Yields P (do pure (.value (← s))) h v [] :=
  ⟨by simp, fun w _ => by simp [hs w]⟩

theorem arr_of_map {xs : Array Operand} {f : Operand → Value} {vs : List SV} (h : xs.toList.map f = vs.map SV.val) : xs.map f = ⟨vs.map SV.val⟩ := by
  apply Array.ext'
  simpa using h

theorem evQ_elim {P : Program} {n : Nat} {a : Act} {e : Env} (hf : Fits n lk a e) {o : Oper} {h : Hp} {K : SV → List Fact → Prop} (hk : evQ P o.op e h K) :
    ∃ v fs, K v fs ∧ Yields P (execOp a.eval o) h v fs := by
  obtain ⟨dst, op, type, pos, after, guard⟩ := o
  simp only at hk
  unfold evQ at hk
  split at hk
  · obtain ⟨v, hK, e1⟩ := withOp_elim hf hk
    exact ⟨v, _, hK, by simp, fun w _ => by simp [execOp, e1]⟩
  · obtain ⟨v, hK, e1⟩ := withOp_elim hf hk
    exact ⟨v, _, hK, by simp, fun w _ => by simp [execOp, e1]⟩
  · obtain ⟨c, hK, e1⟩ := withOp_elim hf hk
    unfold pickK at hK
    split at hK
    · obtain ⟨v, hK, e2⟩ := withOp_elim hf hK
      exact ⟨v, _, hK, by simp, fun w _ => by simp [execOp, e1, e2, SV.val, asBool]⟩
    · obtain ⟨v, hK, e2⟩ := withOp_elim hf hK
      exact ⟨v, _, hK, by simp, fun w _ => by simp [execOp, e1, e2, SV.val, asBool]⟩
    · rename_i c
      cases c with
      | true =>
        obtain ⟨v, hK, e2⟩ := withOp_elim hf (hK.1 rfl)
        exact ⟨v, _, hK, by simp, fun w _ => by simp [execOp, e1, e2, SV.val, asBool]⟩
      | false =>
        obtain ⟨v, hK, e2⟩ := withOp_elim hf (hK.2 rfl)
        exact ⟨v, _, hK, by simp, fun w _ => by simp [execOp, e1, e2, SV.val, asBool]⟩
    · exact hK.elim
  · obtain ⟨v, hK, e1⟩ := withOp_elim hf hk
    unfold nilCheckK at hK
    split at hK
    · exact ⟨_, _, hK, by simp, fun w _ => by simp [execOp, e1, SV.val]⟩
    · obtain ⟨b, o, rfl, hK⟩ := hK
      exact ⟨_, _, hK, by simp, fun w _ => by simp [execOp, e1, SV.val]⟩
    · exact ⟨_, _, hK, by simp, fun w _ => by simp [execOp, e1, SV.val]⟩
    · exact ⟨_, _, hK, by simp, fun w _ => by simp [execOp, e1, SV.val]⟩
    · exact hK.elim
  · obtain ⟨v, hK, e1⟩ := withOp_elim hf hk
    split at hK
    · obtain ⟨v, fs, hK, h1, h2⟩ := loadK_elim hK
      exact ⟨v, fs, hK, h1, fun w hw => by simp [execOp, e1, SV.val, Instr.loadAt, Instr.sureAddr, h2 w hw]⟩
    · exact hK.elim
  · obtain ⟨v, hK, e1⟩ := withOp_elim hf hk
    split at hK
    · split at hK
      · rename_i m hm
        refine ⟨_, _, hK, by simp, fun w _ => ?_⟩
        have := run_fieldAt hm
        simp [execOp, e1, SV.val, this]
      · exact hK.elim
    · exact hK.elim
  · obtain ⟨v, hK, e1⟩ := withOp_elim hf hk
    obtain ⟨r, hK, hs⟩ := fieldK_elim hK
    exact ⟨r, _, hK, by simp only [execOp, e1]; exact yields_still hs⟩
  · obtain ⟨v, hK, e1⟩ := withOp_elim hf hk
    obtain ⟨i, hK, e2⟩ := withOp_elim hf hK
    obtain ⟨r, hK, hs⟩ := indexAddrK_elim hK
    exact ⟨r, _, hK, by simp only [execOp, e1, e2]; exact yields_still hs⟩
  · obtain ⟨v, hK, e1⟩ := withOp_elim hf hk
    obtain ⟨i, hK, e2⟩ := withOp_elim hf hK
    obtain ⟨r, hK, hs⟩ := indexK_elim hK
    exact ⟨r, _, hK, by simp only [execOp, e1, e2]; exact yields_still hs⟩
  · rename_i op t x y yt
    obtain ⟨v, hK, e1⟩ := withOp_elim hf hk
    obtain ⟨i, hK, e2⟩ := withOp_elim hf hK
    obtain ⟨r, hK, hs⟩ := run_bin hK x y
    exact ⟨r, _, hK, by simp only [execOp, e1, e2]; exact yields_still hs⟩
  · obtain ⟨v, hK, e1⟩ := withOp_elim hf hk
    obtain ⟨r, hK, hs⟩ := unK_elim hK
    exact ⟨r, _, hK, by simp only [execOp, e1]; exact yields_still hs⟩
  · obtain ⟨v, hK, e1⟩ := withOp_elim hf hk
    obtain ⟨r, hK, hs⟩ := convK_elim hK
    exact ⟨r, _, hK, by simp only [execOp, e1]; exact yields_still hs⟩
  · obtain ⟨v, hK, e1⟩ := withOp_elim hf hk
    obtain ⟨r, hK, hs⟩ := extractK_elim hK
    exact ⟨r, _, hK, by simp only [execOp, e1]; exact yields_still hs⟩
  · obtain ⟨v, hK, e1⟩ := withOp_elim hf hk
    obtain ⟨lo, hK, e2⟩ := withOpt_elim hf hK
    obtain ⟨hi, hK, e3⟩ := withOpt_elim hf hK
    obtain ⟨mx, hK, e4⟩ := withOpt_elim hf hK
    obtain ⟨r, hK, hs⟩ := sliceK_elim hK
    exact ⟨r, _, hK, by simp only [execOp, e1, e2, e3, e4]; exact yields_still hs⟩
  · rename_i t ps
    obtain ⟨vs, hK, e1⟩ := withParts_elim hf hk
    split at hK
    · rename_i cs hb
      refine ⟨_, _, hK, by simp, fun w _ => ?_⟩
      have hb' : P.built t ((ps.map fun p => (p.1, a.eval p.2)).toList) = some cs := by simpa [e1] using hb
      have := run_build w t _ _ hb'
      simp [execOp, this, SV.val]
    · exact hK.elim
  · obtain ⟨xs, hK, e1⟩ := withOps_elim hf hk
    obtain ⟨ys, hK, e2⟩ := withOps_elim hf hK
    refine ⟨_, _, hK, by simp, fun w _ => ?_⟩
    simp [execOp, Instr.makeFunc, SV.val, arr_of_map e1, arr_of_map e2]
  · rename_i x t
    obtain ⟨v, hK, e1⟩ := withOp_elim hf hk
    obtain ⟨r, hK, hs⟩ := lenK_elim (ty := type) hK
    refine ⟨_, _, hK, by simp, fun w _ => ?_⟩
    have := hs w
    simp [execOp, resolve, invoke, builtin, e1, this]
  · rename_i x t
    obtain ⟨v, hK, e1⟩ := withOp_elim hf hk
    obtain ⟨r, hK, hs⟩ := capK_elim (ty := type) hK
    refine ⟨_, _, hK, by simp, fun w _ => ?_⟩
    have := hs w
    simp [execOp, resolve, invoke, builtin, e1, this]
  · rename_i xs ts
    obtain ⟨vs, hK, e1⟩ := withOps_elim hf hk
    obtain ⟨r, hK, hs⟩ := maxK_elim (P := P) (ts := ts) (ty := type) hK
    refine ⟨_, _, hK, by simp, fun w _ => ?_⟩
    have := hs w
    simp [execOp, resolve, invoke, builtin, arr_of_map e1, this]
  · rename_i xs ts
    obtain ⟨vs, hK, e1⟩ := withOps_elim hf hk
    obtain ⟨r, hK, hs⟩ := minK_elim (P := P) (ts := ts) (ty := type) hK
    refine ⟨_, _, hK, by simp, fun w _ => ?_⟩
    have := hs w
    simp [execOp, resolve, invoke, builtin, arr_of_map e1, this]
  · exact hk.elim
end Go.Wd
