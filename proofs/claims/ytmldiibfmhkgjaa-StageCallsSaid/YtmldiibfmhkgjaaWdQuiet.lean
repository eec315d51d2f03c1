/-
  The operations that make no memory and write none: what each comes to.
-/
import Derived.Test.YtmldiibfmhkgjaaWdOps
namespace Go.Wd
set_option linter.unusedSimpArgs false
set_option linter.unusedVariables false
open Go Go.RowKit
variable {lk : Lock} {ds : List Deferred}

abbrev Fact := Hp → Prop

/-- A quiet operation's own word: the value, and what of the heap it hangs on. -/
def Yields (P : Program) (s : Sem Next) (h : Hp) (v : SV) (fs : List Fact) : Prop :=
  (∀ f ∈ fs, f h) ∧ ∀ w : World, (∀ f ∈ fs, f w.heap) → s.run P w = .ok (.value v.val) w

def isAggD : TypeDesc → Bool
  | .struct _ => true
  | .array _ _ => true
  | _ => false

def readAt (h : Hp) (b o : Nat) (cs : List Value) : Prop := ∀ j, j < cs.length → cellAt h b (o + j) = cs[j]?

def loadCellsK (h : Hp) (b o : Nat) : List Sh → Nat → (List Value → List Fact → Prop) → Prop
  | [], _, K => K [] []
  | s :: r, j, K => exSh s fun v => cellAt h b (o + j) = some v ∧ loadCellsK h b o r (j + 1) fun vs fs => K (v :: vs) ((fun h' => cellAt h' b (o + j) = some v) :: fs)

def loadK (P : Program) (t : TypeId) (h : Hp) (b o : Nat) (K : SV → List Fact → Prop) : Prop :=
  match P.underlying t, P.info? t with
  | some d, some i => bif isAggD d then
      (match i.zero with
      | some (.agg cs) => bif Nat.ble cs.toList.length 40 && Nat.beq cs.toList.length i.size then loadCellsK h b o (cs.toList.map Sh.ofZero) 0 fun vs fs => K (.agg vs) fs
          else ∃ cs : List Value, cs.length = i.size ∧ readAt h b o cs ∧ K (.agg cs) [fun h' => readAt h' b o cs]
      | _ => False)
    else (match i.zero with
      | some z => exSh (Sh.ofZero z) fun v => cellAt h b o = some v ∧ K (.of v) [fun h' => cellAt h' b o = some v]
      | none => False)
  | _, _ => False

theorem cell?_mk (w : World) (b o : Nat) : w.cell? ⟨b, o, none⟩ = cellAt w.heap b o := by
  unfold World.cell? cellAt bk
  cases w.heap[b]? with
  | none => rfl
  | some x => cases x <;> rfl

theorem cell?_add (w : World) (b o j : Nat) : w.cell? ((⟨b, o, none⟩ : Addr).add j) = cellAt w.heap b (o + j) := by
  rw [Addr.add_lit, cell?_mk]

theorem run_load_of {P : Program} {w : World} {a : Addr} {v : Value} {m : Mode} (h : w.cell? a = some v) : (Go.load a m).run P w = .ok v w := by
  simp [h]

theorem run_loadCells_of {P : Program} (w : World) (b o : Nat) : ∀ (vs : List Value) (i : Nat) (acc : Array Value), (∀ j, j < vs.length → cellAt w.heap b (o + (i + j)) = vs[j]?) →
    (loadCellsFrom ⟨b, o, none⟩ i vs.length acc).run P w = .ok ⟨acc.toList ++ vs⟩ w
  | [], i, acc, _ => by simp [loadCellsFrom]
  | v :: r, i, acc, h => by
    have h0 := h 0 (by simp)
    have ih := run_loadCells_of (P := P) w b o r (i + 1) (acc.push v) (fun j hj => by have := h (j + 1) (by simpa using hj); rw [show i + (j + 1) = i + 1 + j by omega] at this; simpa using this)
    have hc : w.cell? ((⟨b, o, none⟩ : Addr).add i) = some v := by rw [cell?_add]; simpa using h0
    simp only [List.length_cons, loadCellsFrom, Sem.run_bind, run_load_of hc, Result.andThen_ok, ih]
    simp

theorem loadCellsK_elim {h : Hp} {b o : Nat} : ∀ {ss : List Sh} {i : Nat} {K : List Value → List Fact → Prop}, loadCellsK h b o ss i K →
    ∃ vs fs, K vs fs ∧ vs.length = ss.length ∧ (∀ f ∈ fs, f h) ∧ ∀ h' : Hp, (∀ f ∈ fs, f h') → ∀ j, j < vs.length → cellAt h' b (o + (i + j)) = vs[j]?
  | [], i, K, hk => ⟨[], [], hk, rfl, by simp, by intro h' _ j hj; simp at hj⟩
  | s :: r, i, K, hk => by
    obtain ⟨v, h0, hk⟩ := exSh_elim hk
    obtain ⟨vs, fs, hK, hl, hf, hr⟩ := loadCellsK_elim hk
    refine ⟨v :: vs, _, hK, by simp [hl], ?_, ?_⟩
    · intro f hf'
      rcases List.mem_cons.1 hf' with rfl | hf'
      · exact h0
      · exact hf f hf'
    · intro h' hf' j hj
      cases j with
      | zero => simpa using hf' _ List.mem_cons_self
      | succ j =>
        have := hr h' (fun f hm => hf' f (List.mem_cons_of_mem _ hm)) j (by simpa using hj)
        rw [show i + (j + 1) = i + 1 + j by omega, this]
        simp

theorem run_loadVar_agg {P : Program} {w : World} {t : TypeId} {d : TypeDesc} {i : TypeInfo} (hu : P.underlying t = some d) (hi : P.info? t = some i) (hd : isAggD d = true)
    (b o : Nat) (vs : List Value) (hl : vs.length = i.size) (h : ∀ j, j < vs.length → cellAt w.heap b (o + j) = vs[j]?) :
    (loadVar t ⟨b, o, none⟩).run P w = .ok (.agg ⟨vs⟩) w := by
  have e : (isAgg t).run P w = .ok true w := by
    rw [run_isAgg hu]; cases d <;> first | rfl | simp [isAggD] at hd
  simp only [loadVar, Sem.run_bind, e, Result.andThen_ok, if_true, run_sizeOf hi, loadCells]
  rw [← hl, run_loadCells_of w b o vs 0 #[] (by simpa using h)]
  simp

theorem run_loadVar_one {P : Program} {w : World} {t : TypeId} {d : TypeDesc} (hu : P.underlying t = some d) (hd : isAggD d = false)
    (b o : Nat) (v : Value) (h : cellAt w.heap b o = some v) : (loadVar t ⟨b, o, none⟩).run P w = .ok v w := by
  have e : (isAgg t).run P w = .ok false w := by
    rw [run_isAgg hu]; cases d <;> first | rfl | simp [isAggD] at hd
  simp only [loadVar, Sem.run_bind, e, Result.andThen_ok, Bool.false_eq_true, if_false]
  exact run_load_of (by rw [cell?_mk]; exact h)

theorem loadK_elim {P : Program} {t : TypeId} {h : Hp} {b o : Nat} {K : SV → List Fact → Prop} (hk : loadK P t h b o K) :
    ∃ v fs, K v fs ∧ (∀ f ∈ fs, f h) ∧ ∀ w : World, (∀ f ∈ fs, f w.heap) → (loadVar t ⟨b, o, none⟩).run P w = .ok v.val w := by
  unfold loadK at hk
  split at hk
  · rename_i d i hu hi
    cases hd : isAggD d
    · simp only [hd, cond_false] at hk
      split at hk
      · rename_i z hz
        obtain ⟨v, hc, hK⟩ := exSh_elim hk
        refine ⟨_, _, hK, by simpa using hc, fun w hw => ?_⟩
        rw [SV.of_val]
        exact run_loadVar_one hu hd b o v (by simpa using hw)
      · exact hk.elim
    · simp only [hd, cond_true] at hk
      split at hk
      · rename_i cs hz
        cases hs : (Nat.ble cs.toList.length 40 && Nat.beq cs.toList.length i.size)
        · simp only [hs, cond_false] at hk
          obtain ⟨vs, hl, hr, hK⟩ := hk
          refine ⟨_, _, hK, by simpa using hr, fun w hw => ?_⟩
          exact run_loadVar_agg hu hi hd b o vs hl (by simpa [readAt] using hw)
        · simp only [hs, cond_true] at hk
          obtain ⟨vs, fs, hK, hl, hf, hr⟩ := loadCellsK_elim hk
          refine ⟨_, _, hK, hf, fun w hw => ?_⟩
          have hs2 : cs.toList.length = i.size := by
            rw [Bool.and_eq_true] at hs
            exact Nat.eq_of_beq_eq_true hs.2
          refine run_loadVar_agg hu hi hd b o vs (by rw [hl, List.length_map, hs2]) ?_
          simpa using hr w.heap hw
      · exact hk.elim
  · exact hk.elim

/-! ### places -/
def fieldOff (P : Program) (s : TypeId) (f : Nat) : Option Nat :=
  match P.underlying s with
  | some (.struct fs) => match fs[f]? with
    | some fl => match P.info? fl.type with
      | some i => bif Nat.beq i.size 0 then none else some fl.offset
      | none => none
    | none => none
  | _ => none

theorem run_fieldAt {P : Program} {s : TypeId} {f n : Nat} (h : fieldOff P s f = some n) (b o : Nat) (w : World) :
    (Instr.fieldAt s (.pointer (some ⟨b, o, none⟩)) f).run P w = .ok (.pointer (some ⟨b, o + n, none⟩)) w := by
  unfold fieldOff at h
  split at h
  · rename_i fs hu
    split at h
    · rename_i fl hf
      split at h
      · rename_i i hi
        cases hz : Nat.beq i.size 0
        · simp only [hz, cond_false, Option.some.injEq] at h
          subst h
          have hz' : i.size ≠ 0 := fun e => by simp [e] at hz
          simp [Instr.fieldAt, run_underlying hu, hf, Instr.sureAddr, fieldPlace, run_sizeOf hi, hz']
          rw [← Addr.add_lit]
        · simp [hz] at h
      · exact absurd h (by simp)
    · exact absurd h (by simp)
  · exact absurd h (by simp)

def indexAddrK (P : Program) (t : TypeId) (x i : SV) (K : SV → List Fact → Prop) : Prop :=
  match i with
  | .int _ n => match P.underlying t with
    | some (.slice e) => match x, P.info? e with
      | .slice a l _, some ie => 0 ≤ n ∧ n < (l : Int) ∧ ∃ b o, a = some ⟨b, o, none⟩ ∧ K (.ptr b (o + n.toNat * ie.size)) []
      | _, _ => False
    | some (.array len e) => match x, P.info? e with
      | .ptr b o, some ie => 0 ≤ n ∧ n < (len : Int) ∧ K (.ptr b (o + n.toNat * ie.size)) []
      | _, _ => False
    | _ => False
  | _ => False

theorem indexAddrK_elim {P : Program} {t : TypeId} {x i : SV} {K : SV → List Fact → Prop} (h : indexAddrK P t x i K) :
    ∃ v, K v [] ∧ Still P (Instr.indexAt t x.val i.val) v := by
  unfold indexAddrK at h
  split at h
  · rename_i k n
    split at h
    · rename_i e hu
      split at h
      · rename_i a l c ie hi
        obtain ⟨h0, h1, b, o, rfl, hK⟩ := h
        refine ⟨_, hK, fun w => ?_⟩
        simp [SV.val, Instr.indexAt, asIntOf, run_underlying hu, h0, h1, run_sizeOf hi, Addr.add_lit]
      · exact h.elim
    · rename_i len e hu
      split at h
      · rename_i b o ie hi
        obtain ⟨h0, h1, hK⟩ := h
        refine ⟨_, hK, fun w => ?_⟩
        simp [SV.val, Instr.indexAt, asIntOf, run_underlying hu, Instr.sureAddr, h0, h1, run_sizeOf hi, Addr.add_lit]
      · exact h.elim
    · exact h.elim
  · exact h.elim

/-! ### parts of values -/
def partK (P : Program) (t : TypeId) (cs : List Value) (o : Nat) (K : SV → List Fact → Prop) : Prop :=
  match P.underlying t, P.info? t with
  | some d, some i => bif isAggD d then K (.agg ((cs.drop o).take i.size)) [] else (match cs[o]? with
    | some v => K (.of v) []
    | none => False)
  | _, _ => False

theorem partK_elim {P : Program} {t : TypeId} {cs : List Value} {o : Nat} {K : SV → List Fact → Prop} (h : partK P t cs o K) :
    ∃ v, K v [] ∧ ∀ w, (part t ⟨cs⟩ o).run P w = .ok v.val w := by
  unfold partK at h
  split at h
  · rename_i d i hu hi
    cases hd : isAggD d
    · simp only [hd, cond_false] at h
      split at h
      · rename_i v hv
        refine ⟨_, h, fun w => ?_⟩
        have e : (isAgg t).run P w = .ok false w := by
          rw [run_isAgg hu]; cases d <;> first | rfl | simp [isAggD] at hd
        simp [part, e, hv, SV.of_val]
      · exact h.elim
    · simp only [hd, cond_true] at h
      refine ⟨_, h, fun w => ?_⟩
      have e : (isAgg t).run P w = .ok true w := by
        rw [run_isAgg hu]; cases d <;> first | rfl | simp [isAggD] at hd
      simp only [part, Sem.run_bind, e, Result.andThen_ok, if_true, run_sizeOf hi, Sem.run_pure, SV.val]
      simp [List.extract_eq_take_drop]
  · exact h.elim

def fieldK (P : Program) (t : TypeId) (x : SV) (f : Nat) (K : SV → List Fact → Prop) : Prop :=
  match x, P.underlying t with
  | .agg cs, some (.struct fs) => match fs[f]? with
    | some fl => partK P fl.type cs fl.offset K
    | none => False
  | _, _ => False

theorem fieldK_elim {P : Program} {t : TypeId} {x : SV} {f : Nat} {K : SV → List Fact → Prop} (h : fieldK P t x f K) :
    ∃ v, K v [] ∧ Still P (Instr.field t x.val f) v := by
  unfold fieldK at h
  split at h
  · rename_i cs fs hu
    split at h
    · rename_i fl hf
      obtain ⟨v, hK, hr⟩ := partK_elim h
      refine ⟨v, hK, fun w => ?_⟩
      simp [SV.val, Instr.field, run_underlying hu, hf, asAgg, hr]
    · exact h.elim
  · exact h.elim

def indexK (P : Program) (t : TypeId) (x i : SV) (K : SV → List Fact → Prop) : Prop :=
  match i with
  | .int _ n => match x, P.underlying t with
    | .str s, some .string => 0 ≤ n ∧ ∃ c : UInt8, s.data.toList[n.toNat]? = some c ∧ K (.int .u8 c.toNat) []
    | .agg cs, some (.array len e) => match P.underlying e, P.info? e with
      | some d, some ie => bif isAggD d then (match ie.zero with
        | some (.agg zs) => bif Nat.ble zs.toList.length 40 then 0 ≤ n ∧ n < (len : Int) ∧ exShs (zs.toList.map Sh.ofZero) fun vs => (cs.drop (n.toNat * ie.size)).take ie.size = vs ∧ K (.agg vs) [] else False
        | _ => False) else (match ie.zero with
        | some z => 0 ≤ n ∧ n < (len : Int) ∧ exSh (Sh.ofZero z) fun v => cs[n.toNat * ie.size]? = some v ∧ K (.of v) []
        | none => False)
      | _, _ => False
    | _, _ => False
  | _ => False

theorem indexK_elim {P : Program} {t : TypeId} {x i : SV} {K : SV → List Fact → Prop} (h : indexK P t x i K) :
    ∃ v, K v [] ∧ Still P (Instr.index t x.val i.val) v := by
  unfold indexK at h
  split at h
  · rename_i k n
    split at h
    · rename_i s hu
      obtain ⟨h0, c, hc, hK⟩ := h
      refine ⟨_, hK, fun w => ?_⟩
      have hc' : s[n.toNat]? = some c := by
        obtain ⟨⟨l⟩⟩ := s
        simp only at hc
        have hlt := (List.getElem?_eq_some_iff.1 hc)
        obtain ⟨hlt, he⟩ := hlt
        simp [getElem?_def]
        refine ⟨by simpa [ByteArray.size] using hlt, ?_⟩
        exact he
      simp [SV.val, Instr.index, asIntOf, run_underlying hu, h0, hc']
    · rename_i cs len e hu
      split at h
      · rename_i d ie hd hi
        cases ha : isAggD d
        · simp only [ha, cond_false] at h
          split at h
          · rename_i z hz
            obtain ⟨h0, h1, h⟩ := h
            obtain ⟨v, hv, hK⟩ := exSh_elim h
            refine ⟨_, hK, fun w => ?_⟩
            have e' : ∀ w, (isAgg e).run P w = .ok false w := by
              intro w; rw [run_isAgg hd]; cases d <;> first | rfl | simp [isAggD] at ha
            rw [SV.of_val]
            simp [SV.val, Instr.index, asIntOf, run_underlying hu, h0, h1, part, e', run_sizeOf hi, hv]
          · exact h.elim
        · simp only [ha, cond_true] at h
          split at h
          · rename_i zs hz
            cases hb : Nat.ble zs.toList.length 40
            · rw [hb, cond_false] at h; exact h.elim
            · rw [hb, cond_true] at h
              obtain ⟨h0, h1, h⟩ := h
              obtain ⟨vs, hv, hK⟩ := exShs_elim h
              refine ⟨_, hK, fun w => ?_⟩
              have e' : ∀ w, (isAgg e).run P w = .ok true w := by
                intro w; rw [run_isAgg hd]; cases d <;> first | rfl | simp [isAggD] at ha
              subst hv
              simp [SV.val, Instr.index, asIntOf, run_underlying hu, h0, h1, part, e', run_sizeOf hi, List.extract_eq_take_drop]
          · exact h.elim
      · exact h.elim
    · exact h.elim
  · exact h.elim

def extractK (x : SV) (i : Nat) (K : SV → List Fact → Prop) : Prop :=
  match x with
  | .tuple vs => match vs[i]? with
    | some v => K (.of v) []
    | none => False
  | _ => False

theorem extractK_elim {P : Program} {x : SV} {i : Nat} {K : SV → List Fact → Prop} (h : extractK x i K) : ∃ v, K v [] ∧ Still P (Instr.extract x.val i) v := by
  unfold extractK at h
  split at h
  · rename_i vs
    split at h
    · rename_i v hv
      exact ⟨_, h, fun w => by rw [SV.of_val]; simp [SV.val, Instr.extract, hv]⟩
    · exact h.elim
  · exact h.elim

/-! ### conversions, signs, slices -/
def unK (op : UnOp) (x : SV) (K : SV → List Fact → Prop) : Prop :=
  match op, x with
  | .not, .tt => K .ff []
  | .not, .ff => K .tt []
  | .not, .bool b => K (.bool (!b)) []
  | .neg, .int k n => K (.int k (k.wrap (0 - n))) []
  | .xor, .int k n => K (.int k (bxorV k (if k.signed then -1 else k.max) n)) []
  | _, _ => False

theorem unK_elim {P : Program} {op : UnOp} {x : SV} {K : SV → List Fact → Prop} (h : unK op x K) : ∃ v, K v [] ∧ Still P (Op.unary op x.val) v := by
  unfold unK at h
  split at h
  · exact ⟨_, h, fun w => by simp [SV.val, Op.unary]⟩
  · exact ⟨_, h, fun w => by simp [SV.val, Op.unary]⟩
  · exact ⟨_, h, fun w => by simp [SV.val, Op.unary]⟩
  · exact ⟨_, h, fun w => by simp [SV.val, Op.unary, Op.intArith]⟩
  · exact ⟨_, h, fun w => by simp [SV.val, Op.unary, Op.intBits, bxorV]⟩
  · exact h.elim

def convK (P : Program) (src dst : TypeId) (x : SV) (K : SV → List Fact → Prop) : Prop :=
  match P.underlying src, P.underlying dst, x with
  | some _, some (.int k), .int _ n => K (.int k (k.wrap n)) []
  | some _, some .string, .str s => K (.str s) []
  | _, _, _ => False

theorem convK_elim {P : Program} {src dst : TypeId} {x : SV} {K : SV → List Fact → Prop} (h : convK P src dst x K) : ∃ v, K v [] ∧ Still P (convert src dst x.val) v := by
  unfold convK at h
  split at h
  · rename_i k k' n hs hd
    exact ⟨_, h, fun w => by simp [SV.val, convert, run_underlying hs, run_underlying hd, Conv.intToInt]⟩
  · rename_i s hs hd
    exact ⟨_, h, fun w => by simp [SV.val, convert, run_underlying hs, run_underlying hd]⟩
  · exact h.elim

/-- How many letters a channel holds. -/
def chanLenIs (h : Hp) (a : Option Nat) (n : Nat) : Prop :=
  match a with
  | none => n = 0
  | some r => ∃ (cap : Nat) (buf : List Value) (cl : Bool) (s rc : Nat), bk h r = some (.chan cap ⟨buf⟩ cl s rc false) ∧ n = buf.length

def mapLenIs (h : Hp) (a : Option Nat) (n : Nat) : Prop :=
  match a with
  | none => n = 0
  | some r => ∃ (es : List MapEntry) (c : Nat), bk h r = some (.map ⟨es⟩ c) ∧ n = es.length

theorem run_getObj {P : Program} {w : World} {r : Nat} {o : Obj} (hb : bk w.heap r = some o) (hc : ∀ c t f, o ≠ .cells c t f) : (getObj r).run P w = .ok o w := by
  have hb' : w.heap[r]? = some o := hb
  cases o with
  | cells c t f => exact absurd rfl (hc c t f)
  | _ => simp [getObj, Sem.run, hb']

def lenK (P : Program) (t : TypeId) (x : SV) (h : Hp) (K : SV → List Fact → Prop) : Prop :=
  match P.underlying t, x with
  | some .string, .str s => K (.int .i64 s.size) []
  | some (.array n _), _ => K (.int .i64 n) []
  | some (.slice _), .slice _ n _ => K (.int .i64 n) []
  | some (.pointer e), _ => match P.underlying e with
    | some (.array n _) => K (.int .i64 n) []
    | _ => False
  | some (.chan _ _), .raw (.chan a) => ∃ n : Nat, chanLenIs h a n ∧ K (.int .i64 n) [fun h' => chanLenIs h' a n]
  | some (.map _ _), .raw (.map a) => ∃ n : Nat, mapLenIs h a n ∧ K (.int .i64 n) [fun h' => mapLenIs h' a n]
  | _, _ => False

theorem lenK_elim {P : Program} {t ty : TypeId} {x : SV} {h : Hp} {K : SV → List Fact → Prop} (hk : lenK P t x h K) : ∃ v fs, K v fs ∧ (∀ f ∈ fs, f h) ∧ ∀ w : World, (∀ f ∈ fs, f w.heap) → (Builtin.len_ #[t] ty #[x.val]).run P w = .ok v.val w := by
  unfold lenK at hk
  split at hk
  · rename_i hu
    exact ⟨_, _, hk, by simp, fun w _ => by simp [SV.val, Builtin.len_, run_underlying hu, goInt]⟩
  · rename_i n e hu
    exact ⟨_, _, hk, by simp, fun w _ => by simp [SV.val, Builtin.len_, run_underlying hu, goInt]⟩
  · rename_i n hu
    exact ⟨_, _, hk, by simp, fun w _ => by simp [SV.val, Builtin.len_, run_underlying hu, goInt]⟩
  · rename_i e hu
    split at hk
    · rename_i n e' hu'
      exact ⟨_, _, hk, by simp, fun w _ => by simp [SV.val, Builtin.len_, run_underlying hu, run_underlying hu', goInt]⟩
    · exact hk.elim
  · rename_i d e a hu
    obtain ⟨n, hn, hK⟩ := hk
    refine ⟨_, _, hK, by simpa using hn, fun w hw => ?_⟩
    have hw : chanLenIs w.heap a n := by simpa using hw
    cases a with
    | none =>
      have : n = 0 := hw
      subst this
      simp [SV.val, Builtin.len_, run_underlying hu, goInt]
    | some r =>
      obtain ⟨cap, buf, cl, s, rc, hb, rfl⟩ := hw
      have := run_getObj (P := P) hb (by simp)
      simp [SV.val, Builtin.len_, run_underlying hu, goInt, this]
  · rename_i k e a hu
    obtain ⟨n, hn, hK⟩ := hk
    refine ⟨_, _, hK, by simpa using hn, fun w hw => ?_⟩
    have hw : mapLenIs w.heap a n := by simpa using hw
    cases a with
    | none =>
      have : n = 0 := hw
      subst this
      simp [SV.val, Builtin.len_, run_underlying hu, goInt]
    | some r =>
      obtain ⟨es, c, hb, rfl⟩ := hw
      have := run_getObj (P := P) hb (by simp)
      simp [SV.val, Builtin.len_, run_underlying hu, goInt, this]
  · exact hk.elim

/-! ### interfaces -/
def makeIfaceK (P : Program) (t : TypeId) (x : SV) (K : SV → List Fact → Prop) : Prop :=
  match P.underlying t with
  | some (.interface _) => False
  | some _ => K (.raw (.iface t x.val)) []
  | none => False

theorem makeIfaceK_elim {P : Program} {t : TypeId} {x : SV} {K : SV → List Fact → Prop} (h : makeIfaceK P t x K) : ∃ v, K v [] ∧ Still P (Instr.makeInterface t x.val) v := by
  unfold makeIfaceK at h
  split at h
  · exact h.elim
  · rename_i d hd hu
    refine ⟨_, h, fun w => ?_⟩
    simp only [Instr.makeInterface, Sem.run_bind, run_underlying hu, Result.andThen_ok]
    cases d <;> first | rfl | exact absurd rfl (hd _)
  · exact h.elim

def assertK (P : Program) (t : TypeId) (ok : Bool) (x : SV) (K : SV → List Fact → Prop) : Prop :=
  match P.underlying t with
  | some (.interface _) => False
  | some _ => match x with
    | .raw (.iface u v) => bif Nat.beq u t then (bif ok then K (.tuple [v, .bool true]) [] else K (.of v) []) else False
    | _ => False
  | none => False

theorem assertK_elim {P : Program} {t xt : TypeId} {ok : Bool} {x : SV} {K : SV → List Fact → Prop} (h : assertK P t ok x K) : ∃ v, K v [] ∧ Still P (Instr.typeAssert x.val xt t ok) v := by
  unfold assertK at h
  split at h
  · exact h.elim
  · rename_i d hd hu
    split at h
    · rename_i u v
      cases hb : Nat.beq u t
      · rw [hb, cond_false] at h; exact h.elim
      · rw [hb, cond_true] at h
        obtain rfl := Nat.eq_of_beq_eq_true hb
        have key : ∀ w : World, (Instr.typeAssert (.iface u v) xt u ok).run P w = .ok (if ok then .tuple #[v, .bool true] else v) w := by
          intro w
          simp only [Instr.typeAssert, Sem.run_bind, run_underlying hu, Result.andThen_ok]
          cases d <;> first | (simp; done) | exact absurd rfl (hd _)
        cases ok
        · rw [cond_false] at h
          exact ⟨_, h, fun w => by rw [SV.of_val]; simp [SV.val, key]⟩
        · rw [cond_true] at h
          exact ⟨_, h, fun w => by simp [SV.val, key]⟩
    · exact h.elim
  · exact h.elim

/-! ### maps -/
/-- The cells of a key: of a struct all of them, else the one. -/
def keyCells (wide : Bool) (v : Value) : Option (List Value) :=
  match v with
  | .agg cs => bif wide then some cs.toList else none
  | .tuple _ => none
  | v => bif wide then none else some [v]

/-- The entry of a key: its place and its value. -/
def lookM (wide : Bool) (ss : List Sh) (k : List Value) : List MapEntry → Nat → Option (Option (Nat × Value))
  | [], _ => some none
  | e :: es, i => match keyCells wide e.key with
    | some cs => match eqCells ss k cs with
      | some true => some (some (i, e.val))
      | some false => lookM wide ss k es (i + 1)
      | none => none
    | none => none

/-- Of a map's type: the kinds of a key's cells, whether it is a struct's, and the elements' type. -/
def mapKind (P : Program) (t : TypeId) : Option (TypeId × List Sh × Bool × TypeId) :=
  match P.underlying t with
  | some (.map kt et) => match flatEq P 8 kt, P.underlying kt with
    | some ss, some (.struct _) => some (kt, ss, true, et)
    | some ss, some _ => some (kt, ss, false, et)
    | _, _ => none
  | _ => none

theorem run_checkKey_flat (P : Program) (em : Bool) : ∀ (d : Nat) (t : TypeId) (n : List Sh) (xs : List Value) (w : World) (d' : Nat), d ≤ d' →
    flatEq P d t = some n → xs.length = n.length → (∀ x ∈ xs, (∀ u v, x ≠ .iface u v) ∧ x ≠ .nilIface) → (Instr.checkKey em d' t (wholeOf P t xs)).run P w = .ok () w := by
  intro d
  induction d with
  | zero => intro t n xs w d' _ h; simp [flatEq] at h
  | succ d ih =>
    intro t n xs w d' hd h hl hx
    obtain ⟨d', rfl⟩ : ∃ m, d' = m + 1 := ⟨d' - 1, by omega⟩
    have hd' : d ≤ d' := by omega
    by_cases hu : ∃ fs, P.underlying t = some (.struct fs)
    · obtain ⟨fs, hu⟩ := hu
      obtain ⟨hs, hff, _, _, _⟩ := flatEq_struct h hu
      simp only [wholeOf, hu, Instr.checkKey, Sem.run_bind, run_underlying hu, Result.andThen_ok]
      rw [← Array.forIn_toList]
      have key : ∀ (l : List Field) (i : Nat) (n : List Sh), flatFields (flatEq P d) l i = some n → i + n.length ≤ xs.length →
          (Sem.run P (forIn l PUnit.unit fun f __s => if f.name ≠ "_" then do
              let __do_lift ← part f.type ⟨xs⟩ f.offset
              Instr.checkKey em d' f.type __do_lift
              pure (ForInStep.yield PUnit.unit) else pure (ForInStep.yield PUnit.unit)) w) = .ok PUnit.unit w := by
        intro l
        induction l with
        | nil => intro i n _ _; simp
        | cons f l ihl =>
          intro i n hn hlen
          simp only [flatFields] at hn
          cases hc : ((f.name != "_") && Nat.beq f.offset i)
          · rw [hc, cond_false] at hn; cases hn
          · rw [hc, cond_true] at hn
            rw [Bool.and_eq_true] at hc
            have hoff := Nat.eq_of_beq_eq_true hc.2
            have hname : f.name ≠ "_" := by simpa using hc.1
            split at hn
            · rename_i m hm
              cases he : m.isEmpty
              · rw [he, cond_false] at hn
                split at hn
                · rename_i m2 hm2
                  simp only [Option.some.injEq] at hn
                  subst hn
                  rw [List.length_append] at hlen
                  rw [List.forIn_cons, if_pos hname]
                  simp only [Sem.run_bind]
                  rw [run_part w hm xs f.offset (by rw [hoff]; omega)]
                  simp only [Result.andThen_ok]
                  rw [ih f.type m _ w d' hd' hm (by rw [List.length_take, List.length_drop, hoff]; omega) (fun x hxx => hx x (List.mem_of_mem_drop (List.mem_of_mem_take hxx)))]
                  simp only [Result.andThen_ok, Sem.run_pure]
                  exact ihl (i + m.length) m2 hm2 (by omega)
                · cases hn
              · rw [he, cond_true] at hn; cases hn
            · cases hn
      have hk0 := key fs.toList 0 n hff (by omega)
      simp at hk0 ⊢
      simp [hk0]
    · have hu' : ∀ fs, P.underlying t ≠ some (.struct fs) := fun fs e => hu ⟨fs, e⟩
      have h1 := flatEq_one h hu'
      rcases h1 with ⟨k, hk, hn⟩ | ⟨hk, hn⟩ | ⟨hk, hn⟩ <;>
      · subst hn
        obtain ⟨x, rfl⟩ : ∃ x, xs = [x] := by
          match xs, hl with
          | [x], _ => exact ⟨x, rfl⟩
        simp [wholeOf, hk, Instr.checkKey, run_underlying hk]

def keyFit : List Sh → List Value → Bool
  | [], [] => true
  | s :: ss, v :: vs => (match s, v with
    | .int _, .int _ _ => true
    | .bool, .bool _ => true
    | .str, .string _ => true
    | _, _ => false) && keyFit ss vs
  | _, _ => false

theorem keyFit_tame : ∀ {s : List Sh} {a : List Value}, keyFit s a = true → a.length = s.length ∧ ∀ y ∈ a, (∀ u v, y ≠ .iface u v) ∧ y ≠ .nilIface
  | [], [], _ => by simp
  | s :: ss, v :: vs, h => by
    simp only [keyFit, Bool.and_eq_true] at h
    have ih := keyFit_tame h.2
    refine ⟨by simp [ih.1], fun y hy => ?_⟩
    rcases List.mem_cons.1 hy with rfl | hy
    · have h1 := h.1
      cases s <;> cases y <;> simp at h1 ⊢
    · exact ih.2 y hy
  | [], _ :: _, h => by simp [keyFit] at h
  | _ :: _, [], h => by simp [keyFit] at h

theorem keyCells_wide {v : Value} {cs : List Value} (h : keyCells true v = some cs) : v = .agg ⟨cs⟩ := by
  cases v <;> simp [keyCells] at h
  subst h; rfl
theorem keyCells_one {v : Value} {cs : List Value} (h : keyCells false v = some cs) : cs = [v] := by
  cases v <;> simp [keyCells] at h <;> exact h.symm

theorem run_findAsking {P : Program} {w : World} {kt : TypeId} {ss : List Sh} {fs : Array Field} (he : flatEq P 8 kt = some ss) (hu : P.underlying kt = some (.struct fs)) {k : List Value} :
    ∀ (es : List MapEntry) (i : Nat) (q : Option (Nat × Value)), lookM true ss k es i = some q → (Instr.findAsking kt (.agg ⟨k⟩) es i).run P w = .ok q w
  | [], i, q, h => by simp [lookM] at h; subst h; rfl
  | e :: es, i, q, h => by
    simp only [lookM] at h
    split at h
    · rename_i cs hcs
      have hk := keyCells_wide hcs
      have hq : ∀ b, eqCells ss k cs = some b → (Op.equal kt (.agg ⟨k⟩) e.key).run P w = .ok b w := by
        intro b hb
        have := run_equalIn_flat P 8 kt ss k cs b w 10000 (by decide) he hb
        rw [wholeOf_struct hu, wholeOf_struct hu] at this
        rw [hk]; exact this
      split at h
      · rename_i hb
        simp only [Option.some.injEq] at h
        subst h
        simp [Instr.findAsking, hq _ hb]
      · rename_i hb
        have ih := run_findAsking (w := w) he hu es (i + 1) q h
        simp [Instr.findAsking, hq _ hb, ih]
      · cases h
    · cases h

theorem run_findNow {d : TypeDesc} {s : Sh} (hs : (∃ k, d = .int k ∧ s = .int k) ∨ (d = .bool ∧ s = .bool) ∨ (d = .string ∧ s = .str)) {x : Value} :
    ∀ (es : List MapEntry) (i : Nat) (q : Option (Nat × Value)), lookM false [s] [x] es i = some q → Instr.findNow d x es i = some q
  | [], i, q, h => by simp [lookM] at h; subst h; rfl
  | e :: es, i, q, h => by
    simp only [lookM] at h
    split at h
    · rename_i cs hcs
      obtain rfl := keyCells_one hcs
      have hq : ∀ b, eqCells [s] [x] [e.key] = some b → Instr.sameNow d x e.key = some b := by
        intro b hb
        simp only [eqCells] at hb
        split at hb
        · rename_i c hc
          simp only [Bool.and_true, Option.some.injEq] at hb
          subst hb
          rcases hs with ⟨k, rfl, rfl⟩ | ⟨rfl, rfl⟩ | ⟨rfl, rfl⟩
          · cases x <;> generalize e.key = y at hc ⊢ <;> cases y <;> simp [eqCell] at hc <;> simp [Instr.sameNow, hc]
          · cases x <;> generalize e.key = y at hc ⊢ <;> cases y <;> simp [eqCell] at hc <;> simp [Instr.sameNow, hc]
          · cases x <;> generalize e.key = y at hc ⊢ <;> cases y <;> simp [eqCell] at hc <;> simp [Instr.sameNow, hc]
        · cases hb
      split at h
      · rename_i hb
        simp only [Option.some.injEq] at h
        subst h
        simp [Instr.findNow, hq _ hb]
      · rename_i hb
        have ih := run_findNow hs es (i + 1) q h
        simp [Instr.findNow, hq _ hb, ih]
      · cases h
    · cases h

theorem mapKind_spec {P : Program} {t kt et : TypeId} {ss : List Sh} {wide : Bool} (h : mapKind P t = some (kt, ss, wide, et)) :
    P.underlying t = some (.map kt et) ∧ flatEq P 8 kt = some ss ∧ ((wide = true ∧ ∃ fs, P.underlying kt = some (.struct fs)) ∨ (wide = false ∧ ∃ d, P.underlying kt = some d ∧ ∀ fs, d ≠ .struct fs)) := by
  unfold mapKind at h
  split at h
  · rename_i kt' et' hu
    split at h
    · rename_i ss' fs he hk
      simp only [Option.some.injEq, Prod.mk.injEq] at h
      obtain ⟨rfl, rfl, rfl, rfl⟩ := h
      exact ⟨hu, he, .inl ⟨rfl, fs, hk⟩⟩
    · rename_i ss' d hd he hk
      simp only [Option.some.injEq, Prod.mk.injEq] at h
      obtain ⟨rfl, rfl, rfl, rfl⟩ := h
      exact ⟨hu, he, .inr ⟨rfl, d, hk, fun fs e => hd fs e⟩⟩
    · cases h
  · cases h

/-- A key is looked for. -/
theorem run_find {P : Program} {w : World} {t kt et : TypeId} {ss : List Sh} {wide : Bool} (h : mapKind P t = some (kt, ss, wide, et)) {v : Value} {k : List Value} (hk : keyCells wide v = some k) (hf : keyFit ss k = true) :
    (∀ em, (Instr.checkKey em 10000 kt v).run P w = .ok () w) ∧ ∀ (es : List MapEntry) (q : Option (Nat × Value)), lookM wide ss k es 0 = some q → (Instr.findKey kt v es).run P w = .ok q w := by
  obtain ⟨_, he, hw⟩ := mapKind_spec h
  obtain ⟨hl, htame⟩ := keyFit_tame hf
  rcases hw with ⟨rfl, fs, hu⟩ | ⟨rfl, d, hu, hd⟩
  · obtain rfl := keyCells_wide hk
    refine ⟨fun em => ?_, fun es q hq => ?_⟩
    · have := run_checkKey_flat P em 8 kt ss k w 10000 (by decide) he hl htame
      rw [wholeOf_struct hu] at this; exact this
    · have ha := run_findAsking (w := w) he hu es 0 q hq
      cases es with
      | nil =>
        simp [lookM] at hq; subst hq
        simp [Instr.findKey, run_underlying hu, Instr.findNow]
      | cons e es =>
        simp [Instr.findKey, run_underlying hu, Instr.findNow, Instr.sameNow, ha]
  · obtain rfl := keyCells_one hk
    have h1 := flatEq_one he (fun fs e => hd fs (Option.some.inj (hu.symm.trans e)))
    have hs : ∃ s, ss = [s] ∧ ((∃ k, d = .int k ∧ s = .int k) ∨ (d = .bool ∧ s = .bool) ∨ (d = .string ∧ s = .str)) := by
      rcases h1 with ⟨k, hk, rfl⟩ | ⟨hk, rfl⟩ | ⟨hk, rfl⟩
      · exact ⟨_, rfl, .inl ⟨k, Option.some.inj (hu.symm.trans hk), rfl⟩⟩
      · exact ⟨_, rfl, .inr (.inl ⟨Option.some.inj (hu.symm.trans hk), rfl⟩)⟩
      · exact ⟨_, rfl, .inr (.inr ⟨Option.some.inj (hu.symm.trans hk), rfl⟩)⟩
    obtain ⟨s, rfl, hs⟩ := hs
    refine ⟨fun em => ?_, fun es q hq => ?_⟩
    · have := run_checkKey_flat P em 8 kt [s] [v] w 10000 (by decide) he hl htame
      have hwv : wholeOf P kt [v] = v := by
        rcases hs with ⟨k, rfl, _⟩ | ⟨rfl, _⟩ | ⟨rfl, _⟩ <;> simp [wholeOf, hu]
      rw [hwv] at this; exact this
    · have := run_findNow hs es 0 q hq
      simp [Instr.findKey, run_underlying hu, this]

def lookIs (wide : Bool) (ss : List Sh) (h : Hp) (a : Option Nat) (k : List Value) (res : Option Value) : Prop :=
  match a with
  | none => res = none
  | some r => ∃ (es : List MapEntry) (c : Nat) (q : Option (Nat × Value)), bk h r = some (.map ⟨es⟩ c) ∧ lookM wide ss k es 0 = some q ∧ res = q.map (·.2)

def lookK (P : Program) (t : TypeId) (x y : SV) (ok : Bool) (h : Hp) (K : SV → List Fact → Prop) : Prop :=
  match mapKind P t, x with
  | some m, .raw (.map a) => match keyCells m.2.2.1 y.val, P.info? m.2.2.2 with
    | some k, some ie => match ie.zero with
      | some z => bif keyFit m.2.1 k then ∃ res : Option Value, lookIs m.2.2.1 m.2.1 h a k res ∧ exZero z fun v => v.val = res.getD z ∧ (bif ok then K (.tuple [v.val, .bool res.isSome]) [fun h' => lookIs m.2.2.1 m.2.1 h' a k res] else K v [fun h' => lookIs m.2.2.1 m.2.1 h' a k res]) else False
      | none => False
    | _, _ => False
  | _, _ => False

theorem lookK_elim {P : Program} {t : TypeId} {x y : SV} {ok : Bool} {h : Hp} {K : SV → List Fact → Prop} (hk : lookK P t x y ok h K) :
    ∃ v fs, K v fs ∧ (∀ f ∈ fs, f h) ∧ ∀ w : World, (∀ f ∈ fs, f w.heap) → (Instr.lookup t x.val y.val ok).run P w = .ok v.val w := by
  unfold lookK at hk
  split at hk
  · rename_i m a hm
    obtain ⟨kt, ss, wide, et⟩ := m
    simp only at hk
    split at hk
    · rename_i k ie hkc hie
      split at hk
      · rename_i z hz
        cases hf : keyFit ss k
        · rw [hf, cond_false] at hk; exact hk.elim
        · rw [hf, cond_true] at hk
          obtain ⟨res, hres, hk⟩ := hk
          obtain ⟨v, hv, hk⟩ := exZero_elim hk
          have hu := (mapKind_spec hm).1
          have hzr : ∀ w : World, (zeroValue et).run P w = .ok z w := fun w => by simp [zeroValue, typeInfo, hie, hz]
          have key : ∀ w : World, lookIs wide ss w.heap a k res → (Instr.lookup t (.map a) y.val ok).run P w = .ok (if ok then .tuple #[v.val, .bool res.isSome] else v.val) w := by
            intro w hw
            obtain ⟨hc, hfind⟩ := run_find (P := P) (w := w) hm hkc hf
            cases a with
            | none =>
              have hr : res = none := hw
              subst hr
              have hfd := hfind [] none rfl
              simp only [Instr.lookup, Sem.run_bind, run_underlying hu, Result.andThen_ok, Sem.run_pure, hc]
              rw [hfd]
              simp only [Result.andThen_ok, Sem.run_bind, hzr, Sem.run_pure]
              rw [hv]; simp
            | some r =>
              obtain ⟨es, c, q, hb, hq, rfl⟩ := hw
              have hg := run_getObj (P := P) hb (by simp)
              have hfd := hfind es q hq
              simp only [Instr.lookup, Sem.run_bind, run_underlying hu, Result.andThen_ok, hg, Sem.run_pure, hc, hfd]
              cases q with
              | none =>
                simp only [Sem.run_bind, hzr, Result.andThen_ok, Sem.run_pure]
                rw [hv]; simp
              | some p =>
                simp only [Sem.run_pure, Result.andThen_ok]
                rw [hv]; simp
          cases ok
          · rw [cond_false] at hk
            exact ⟨_, _, hk, by simpa using hres, fun w hw => by have := key w (by simpa using hw); simpa [SV.val] using this⟩
          · rw [cond_true] at hk
            exact ⟨_, _, hk, by simpa using hres, fun w hw => by have := key w (by simpa using hw); simpa [SV.val] using this⟩
      · exact hk.elim
    · exact hk.elim
  · exact hk.elim

def capK (P : Program) (t : TypeId) (x : SV) (K : SV → List Fact → Prop) : Prop :=
  match P.underlying t, x with
  | some (.array n _), _ => K (.int .i64 n) []
  | some (.slice _), .slice _ _ n => K (.int .i64 n) []
  | _, _ => False

theorem capK_elim {P : Program} {t ty : TypeId} {x : SV} {K : SV → List Fact → Prop} (h : capK P t x K) : ∃ v, K v [] ∧ Still P (Builtin.cap_ #[t] ty #[x.val]) v := by
  unfold capK at h
  split at h
  · rename_i n e hu
    exact ⟨_, h, fun w => by simp [SV.val, Builtin.cap_, run_underlying hu, goInt]⟩
  · rename_i n hu
    exact ⟨_, h, fun w => by simp [SV.val, Builtin.cap_, run_underlying hu, goInt]⟩
  · exact h.elim

def maxI (a b : Int) : Int := if b > a then b else a
def minI (a b : Int) : Int := if b < a then b else a

def mostK (f : Int → Int → Int) : List SV → (SV → List Fact → Prop) → Prop
  | [.int k a, .int _ b], K => K (.int k (f a b)) []
  | [.int k a, .int _ b, .int _ c], K => K (.int k (f (f a b) c)) []
  | _, _ => False

theorem maxK_elim {P : Program} {ts : Array TypeId} {ty : TypeId} {xs : List SV} {K : SV → List Fact → Prop} (h : mostK maxI xs K) : ∃ v, K v [] ∧ Still P (Builtin.max_ ts ty ⟨xs.map SV.val⟩) v := by
  unfold mostK at h
  split at h
  · exact ⟨_, h, fun w => by simp [SV.val, Builtin.max_, Builtin.max2, maxI]⟩
  · exact ⟨_, h, fun w => by simp [SV.val, Builtin.max_, Builtin.max2, maxI]⟩
  · exact h.elim

theorem minK_elim {P : Program} {ts : Array TypeId} {ty : TypeId} {xs : List SV} {K : SV → List Fact → Prop} (h : mostK minI xs K) : ∃ v, K v [] ∧ Still P (Builtin.min_ ts ty ⟨xs.map SV.val⟩) v := by
  unfold mostK at h
  split at h
  · exact ⟨_, h, fun w => by simp [SV.val, Builtin.min_, Builtin.min2, minI]⟩
  · exact ⟨_, h, fun w => by simp [SV.val, Builtin.min_, Builtin.min2, minI]; rfl⟩
  · exact h.elim

/-- The bounds of x[lo:hi:mx], each told as a number. -/
def boundOf : Option SV → Option (Option Int)
  | none => some none
  | some (.int _ n) => some (some n)
  | _ => none

def sliceBase (a : Option Addr) (l m s : Nat) : Option Addr := if m = l then a else a.map fun p => p.add (l * s)
def arrBase (b o l m s : Nat) : Option Addr := if m = l then some ⟨b, o, none⟩ else some ⟨b, o + l * s, none⟩

def sliceK (P : Program) (t : TypeId) (x : SV) (lo hi mx : Option SV) (K : SV → List Fact → Prop) : Prop :=
  match boundOf lo, boundOf hi, boundOf mx with
  | some lo, some hi, some mx =>
    match P.underlying t, x with
    | some (.slice e), .slice a l c => match P.info? e with
      | some ie =>
        let l0 : Int := lo.getD 0
        let h0 : Int := hi.getD l
        let m0 : Int := mx.getD c
        (mx.isSome = true → hi.isSome = true) ∧ 0 ≤ l0 ∧ l0 ≤ h0 ∧ h0 ≤ m0 ∧ m0 ≤ (c : Int) ∧
          K (.slice (sliceBase a l0.toNat m0.toNat ie.size) (h0.toNat - l0.toNat) (m0.toNat - l0.toNat)) []
      | none => False
    | some (.array n e), .ptr b o => match P.info? e with
      | some ie =>
        let l0 : Int := lo.getD 0
        let h0 : Int := hi.getD n
        let m0 : Int := mx.getD n
        (mx.isSome = true → hi.isSome = true) ∧ 0 ≤ l0 ∧ l0 ≤ h0 ∧ h0 ≤ m0 ∧ m0 ≤ (n : Int) ∧
          K (.slice (arrBase b o l0.toNat m0.toNat ie.size) (h0.toNat - l0.toNat) (m0.toNat - l0.toNat)) []
      | none => False
    | _, _ => False
  | _, _, _ => False

theorem boundOf_val {x : Option SV} {r : Option Int} (h : boundOf x = some r) : (x.map SV.val = none ∧ r = none) ∨ ∃ k n, x.map SV.val = some (.int k n) ∧ r = some n := by
  unfold boundOf at h
  split at h
  · simp at h; exact .inl ⟨rfl, h.symm⟩
  · rename_i k n; simp at h; exact .inr ⟨k, n, rfl, h.symm⟩
  · exact absurd h (by simp)

theorem run_bound {P : Program} {w : World} (k : IntKind) (i : Int) (y : Nat) (code : BoundsCode) (h0 : 0 ≤ i) (h1 : i ≤ y) : (Instr.sliceBound (.int k i) y code).run P w = .ok i.toNat w := by
  simp [Instr.sliceBound, asIntOf, h0, h1]

theorem run_bounds {P : Program} {w : World} {s : Bool} {len cap : Nat} {lo hi mx : Option Value} {l h m : Option Int}
    (hl : (lo = none ∧ l = none) ∨ ∃ k n, lo = some (.int k n) ∧ l = some n) (hh : (hi = none ∧ h = none) ∨ ∃ k n, hi = some (.int k n) ∧ h = some n)
    (hm : (mx = none ∧ m = none) ∨ ∃ k n, mx = some (.int k n) ∧ m = some n) (hmh : m.isSome = true → h.isSome = true)
    (h0 : 0 ≤ l.getD 0) (h1 : l.getD 0 ≤ h.getD len) (h2 : h.getD len ≤ m.getD cap) (h3 : m.getD cap ≤ (cap : Int)) :
    (Instr.sliceBounds s len cap lo hi mx).run P w = .ok ((l.getD 0).toNat, (h.getD len).toNat, (m.getD cap).toNat) w := by
  rcases hl with ⟨rfl, rfl⟩ | ⟨kl, l, rfl, rfl⟩ <;> rcases hh with ⟨rfl, rfl⟩ | ⟨kh, h, rfl, rfl⟩ <;> rcases hm with ⟨rfl, rfl⟩ | ⟨km, m, rfl, rfl⟩ <;>
    simp only [Option.getD_none, Option.getD_some] at h0 h1 h2 h3 hmh ⊢ <;> try (simp at hmh; done)
  all_goals
    simp only [Instr.sliceBounds, Sem.run_bind, Sem.run_pure, Result.andThen_ok]
    repeat (rw [run_bound _ _ _ _ (by omega) (by omega)]; simp only [Result.andThen_ok, Sem.run_bind, Sem.run_pure])
  all_goals simp

theorem sliceK_elim {P : Program} {t : TypeId} {x : SV} {lo hi mx : Option SV} {K : SV → List Fact → Prop} (h : sliceK P t x lo hi mx K) :
    ∃ v, K v [] ∧ Still P (Instr.sliceAt t x.val (lo.map SV.val) (hi.map SV.val) (mx.map SV.val)) v := by
  unfold sliceK at h
  split at h
  · rename_i lo' hi' mx' hlo hhi hmx
    have e1 := boundOf_val hlo
    have e2 := boundOf_val hhi
    have e3 := boundOf_val hmx
    split at h
    · rename_i e a l c hu
      split at h
      · rename_i ie hi
        obtain ⟨hs, h0, h1, h2, h3, hK⟩ := h
        refine ⟨_, hK, fun w => ?_⟩
        have hb := run_bounds (P := P) (w := w) (s := true) (len := l) (cap := c) e1 e2 e3 hs h0 h1 h2 h3
        simp only [SV.val, Instr.sliceAt, Sem.run_bind, run_underlying hu, Result.andThen_ok, Instr.slice]
        rw [hb]
        simp only [Result.andThen_ok, Sem.run_bind, run_sizeOf hi, Sem.run_pure]
        rfl
      · exact h.elim
    · rename_i n e b o hu
      split at h
      · rename_i ie hi
        obtain ⟨hs, h0, h1, h2, h3, hK⟩ := h
        refine ⟨_, hK, fun w => ?_⟩
        have hb := run_bounds (P := P) (w := w) (s := false) (len := n) (cap := n) e1 e2 e3 hs h0 h1 h2 h3
        simp only [SV.val, Instr.sliceAt, Sem.run_bind, run_underlying hu, Result.andThen_ok, Instr.sureAddr, Sem.run_pure]
        rw [hb]
        simp only [Result.andThen_ok, Sem.run_bind, run_sizeOf hi, Sem.run_pure, arrBase, Addr.add_lit]
        split <;> rfl
      · exact h.elim
    · exact h.elim
  · exact h.elim

/-! ### all of them -/
def withOpt (e : Env) (x : Option Operand) (f : Option SV → Prop) : Prop :=
  match x with
  | none => f none
  | some x => withOp e x fun v => f (some v)

theorem withOpt_elim {n : Nat} {a : Act} {e : Env} (hf : Fits n ds lk a e) {x : Option Operand} {f : Option SV → Prop} (h : withOpt e x f) : ∃ v, f v ∧ x.map a.eval = v.map SV.val := by
  cases x with
  | none => exact ⟨none, h, rfl⟩
  | some x =>
    obtain ⟨v, h1, e1⟩ := withOp_elim hf h
    exact ⟨some v, h1, by simp [e1]⟩

def withParts (e : Env) : List (Nat × Operand) → (List (Nat × Value) → Prop) → Prop
  | [], f => f []
  | p :: r, f => withOp e p.2 fun v => withParts e r fun vs => f ((p.1, v.val) :: vs)

theorem withParts_elim {n : Nat} {a : Act} {e : Env} (hf : Fits n ds lk a e) : ∀ {xs : List (Nat × Operand)} {f : List (Nat × Value) → Prop}, withParts e xs f → ∃ vs, f vs ∧ xs.map (fun p => (p.1, a.eval p.2)) = vs
  | [], f, h => ⟨[], h, rfl⟩
  | x :: r, f, h => by
    obtain ⟨v, h1, e1⟩ := withOp_elim hf h
    obtain ⟨vs, h2, e2⟩ := withParts_elim hf h1
    exact ⟨_, h2, by simp [e1, e2]⟩

def nilCheckK (x : SV) (K : SV → List Fact → Prop) : Prop :=
  match x with
  | .ptr b o => K (.ptr b o) []
  | .optr a => ∃ b o, a = some ⟨b, o, none⟩ ∧ K (.ptr b o) []
  | .slice a l c => K (.slice a l c) []
  | .fn (.func f) x y => K (.fn (.func f) x y) []
  | _ => False

def pickK (e : Env) (c : SV) (a b : Operand) (K : SV → List Fact → Prop) : Prop :=
  match c with
  | .tt => withOp e a fun v => K v []
  | .ff => withOp e b fun v => K v []
  | .bool c => (c = true → withOp e a fun v => K v []) ∧ (c = false → withOp e b fun v => K v [])
  | _ => False

/-- Is the operation one of those that make no memory and write none? -/
def isQuiet : Op → Bool
  | .move _ | .assign _ | .pick .. | .nilCheck _ | .load .. | .fieldAddr .. | .field .. | .indexAddr .. | .index .. | .binOp .. | .unOp .. | .convert ..
  | .extract .. | .slice .. | .build .. | .makeFunc .. | .makeInterface .. | .typeAssert .. | .lookup .. => true
  | .call { callee := .builtin .len, .. } => true
  | .call { callee := .builtin .cap, .. } => true
  | .call { callee := .builtin .max, .. } => true
  | .call { callee := .builtin .min, .. } => true
  | _ => false

def evQ (P : Program) (o : Op) (e : Env) (h : Hp) (K : SV → List Fact → Prop) : Prop :=
  match o with
  | .move x => withOp e x fun v => K v []
  | .assign x => withOp e x fun v => K v []
  | .pick c a b => withOp e c fun c => pickK e c a b K
  | .nilCheck x => withOp e x fun v => nilCheckK v K
  | .load t x => withOp e x fun v => match v with
    | .ptr b o => loadK P t h b o K
    | _ => False
  | .fieldAddr s x f => withOp e x fun v => match v with
    | .ptr b o => match fieldOff P s f with
      | some n => K (.ptr b (o + n)) []
      | none => False
    | _ => False
  | .field t x f => withOp e x fun v => fieldK P t v f K
  | .indexAddr t x i => withOp e x fun v => withOp e i fun i => indexAddrK P t v i K
  | .index t x i => withOp e x fun v => withOp e i fun i => indexK P t v i K
  | .binOp op t x y _ => withOp e x fun v => withOp e y fun u => binK P op t v u fun r => K r []
  | .unOp op _ x => withOp e x fun v => unK op v K
  | .convert s d x => withOp e x fun v => convK P s d v K
  | .extract x i => withOp e x fun v => extractK v i K
  | .slice t x lo hi mx => withOp e x fun v => withOpt e lo fun lo => withOpt e hi fun hi => withOpt e mx fun mx => sliceK P t v lo hi mx K
  | .build t ps => withParts e ps.toList fun vs => match P.built t vs with
    | some cs => K (.agg cs.toList) []
    | none => False
  | .makeFunc f x y => withOps e x.toList fun xs => withOps e y.toList fun ys => K (.fn f (xs.map SV.val) (ys.map SV.val)) []
  | .makeInterface t x => withOp e x fun v => makeIfaceK P t v K
  | .typeAssert x _ t ok => withOp e x fun v => assertK P t ok v K
  | .lookup t x y ok => withOp e x fun v => withOp e y fun u => lookK P t v u ok h K
  | .call { callee := .builtin .len, args := ⟨[x]⟩, argTypes := ⟨[t]⟩ } => withOp e x fun v => lenK P t v h K
  | .call { callee := .builtin .cap, args := ⟨[x]⟩, argTypes := ⟨[t]⟩ } => withOp e x fun v => capK P t v K
  | .call { callee := .builtin .max, args := xs, .. } => withOps e xs.toList fun vs => mostK maxI vs K
  | .call { callee := .builtin .min, args := xs, .. } => withOps e xs.toList fun vs => mostK minI vs K
  | _ => False

theorem yields_still {P : Program} {h : Hp} {s : Sem Value} {v : SV} (hs : Still P s v) : Yields P (do pure (.value (← s))) h v [] :=
  ⟨by simp, fun w _ => by simp [hs w]⟩

theorem arr_of_map {xs : Array Operand} {f : Operand → Value} {vs : List SV} (h : xs.toList.map f = vs.map SV.val) : xs.map f = ⟨vs.map SV.val⟩ := by
  apply Array.ext'
  simpa using h

theorem evQ_elim {P : Program} {n : Nat} {a : Act} {e : Env} (hf : Fits n ds lk a e) {o : Oper} {h : Hp} {K : SV → List Fact → Prop} (hk : evQ P o.op e h K) :
    ∃ v fs, K v fs ∧ Yields P (execOp a.eval o) h v fs := by
  obtain ⟨dst, op, type, pos, after, guard⟩ := o
  simp only at hk
  unfold evQ at hk
  split at hk
  · obtain ⟨v, hK, e1⟩ := withOp_elim hf hk
    exact ⟨v, _, hK, by simp, fun w _ => by simp [execOp, e1]⟩
  · obtain ⟨v, hK, e1⟩ := withOp_elim hf hk
    exact ⟨v, _, hK, by simp, fun w _ => by simp [execOp, e1]⟩
  · obtain ⟨c, hK, e1⟩ := withOp_elim hf hk
    unfold pickK at hK
    split at hK
    · obtain ⟨v, hK, e2⟩ := withOp_elim hf hK
      exact ⟨v, _, hK, by simp, fun w _ => by simp [execOp, e1, e2, SV.val, asBool]⟩
    · obtain ⟨v, hK, e2⟩ := withOp_elim hf hK
      exact ⟨v, _, hK, by simp, fun w _ => by simp [execOp, e1, e2, SV.val, asBool]⟩
    · rename_i c
      cases c with
      | true =>
        obtain ⟨v, hK, e2⟩ := withOp_elim hf (hK.1 rfl)
        exact ⟨v, _, hK, by simp, fun w _ => by simp [execOp, e1, e2, SV.val, asBool]⟩
      | false =>
        obtain ⟨v, hK, e2⟩ := withOp_elim hf (hK.2 rfl)
        exact ⟨v, _, hK, by simp, fun w _ => by simp [execOp, e1, e2, SV.val, asBool]⟩
    · exact hK.elim
  · obtain ⟨v, hK, e1⟩ := withOp_elim hf hk
    unfold nilCheckK at hK
    split at hK
    · exact ⟨_, _, hK, by simp, fun w _ => by simp [execOp, e1, SV.val]⟩
    · obtain ⟨b, o, rfl, hK⟩ := hK
      exact ⟨_, _, hK, by simp, fun w _ => by simp [execOp, e1, SV.val]⟩
    · exact ⟨_, _, hK, by simp, fun w _ => by simp [execOp, e1, SV.val]⟩
    · exact ⟨_, _, hK, by simp, fun w _ => by simp [execOp, e1, SV.val]⟩
    · exact hK.elim
  · obtain ⟨v, hK, e1⟩ := withOp_elim hf hk
    split at hK
    · obtain ⟨v, fs, hK, h1, h2⟩ := loadK_elim hK
      exact ⟨v, fs, hK, h1, fun w hw => by simp [execOp, e1, SV.val, Instr.loadAt, Instr.sureAddr, h2 w hw]⟩
    · exact hK.elim
  · obtain ⟨v, hK, e1⟩ := withOp_elim hf hk
    split at hK
    · split at hK
      · rename_i m hm
        refine ⟨_, _, hK, by simp, fun w _ => ?_⟩
        have := run_fieldAt hm
        simp [execOp, e1, SV.val, this]
      · exact hK.elim
    · exact hK.elim
  · obtain ⟨v, hK, e1⟩ := withOp_elim hf hk
    obtain ⟨r, hK, hs⟩ := fieldK_elim hK
    exact ⟨r, _, hK, by simp only [execOp, e1]; exact yields_still hs⟩
  · obtain ⟨v, hK, e1⟩ := withOp_elim hf hk
    obtain ⟨i, hK, e2⟩ := withOp_elim hf hK
    obtain ⟨r, hK, hs⟩ := indexAddrK_elim hK
    exact ⟨r, _, hK, by simp only [execOp, e1, e2]; exact yields_still hs⟩
  · obtain ⟨v, hK, e1⟩ := withOp_elim hf hk
    obtain ⟨i, hK, e2⟩ := withOp_elim hf hK
    obtain ⟨r, hK, hs⟩ := indexK_elim hK
    exact ⟨r, _, hK, by simp only [execOp, e1, e2]; exact yields_still hs⟩
  · rename_i op t x y yt
    obtain ⟨v, hK, e1⟩ := withOp_elim hf hk
    obtain ⟨i, hK, e2⟩ := withOp_elim hf hK
    obtain ⟨r, hK, hs⟩ := run_bin hK x y
    exact ⟨r, _, hK, by simp only [execOp, e1, e2]; exact yields_still hs⟩
  · obtain ⟨v, hK, e1⟩ := withOp_elim hf hk
    obtain ⟨r, hK, hs⟩ := unK_elim hK
    exact ⟨r, _, hK, by simp only [execOp, e1]; exact yields_still hs⟩
  · obtain ⟨v, hK, e1⟩ := withOp_elim hf hk
    obtain ⟨r, hK, hs⟩ := convK_elim hK
    exact ⟨r, _, hK, by simp only [execOp, e1]; exact yields_still hs⟩
  · obtain ⟨v, hK, e1⟩ := withOp_elim hf hk
    obtain ⟨r, hK, hs⟩ := extractK_elim hK
    exact ⟨r, _, hK, by simp only [execOp, e1]; exact yields_still hs⟩
  · obtain ⟨v, hK, e1⟩ := withOp_elim hf hk
    obtain ⟨lo, hK, e2⟩ := withOpt_elim hf hK
    obtain ⟨hi, hK, e3⟩ := withOpt_elim hf hK
    obtain ⟨mx, hK, e4⟩ := withOpt_elim hf hK
    obtain ⟨r, hK, hs⟩ := sliceK_elim hK
    exact ⟨r, _, hK, by simp only [execOp, e1, e2, e3, e4]; exact yields_still hs⟩
  · rename_i t ps
    obtain ⟨vs, hK, e1⟩ := withParts_elim hf hk
    split at hK
    · rename_i cs hb
      refine ⟨_, _, hK, by simp, fun w _ => ?_⟩
      have hb' : P.built t ((ps.map fun p => (p.1, a.eval p.2)).toList) = some cs := by simpa [e1] using hb
      have := run_build w t _ _ hb'
      simp [execOp, this, SV.val]
    · exact hK.elim
  · obtain ⟨xs, hK, e1⟩ := withOps_elim hf hk
    obtain ⟨ys, hK, e2⟩ := withOps_elim hf hK
    refine ⟨_, _, hK, by simp, fun w _ => ?_⟩
    simp [execOp, Instr.makeFunc, SV.val, arr_of_map e1, arr_of_map e2]
  · obtain ⟨v, hK, e1⟩ := withOp_elim hf hk
    obtain ⟨r, hK, hs⟩ := makeIfaceK_elim hK
    exact ⟨r, _, hK, by simp only [execOp, e1]; exact yields_still hs⟩
  · rename_i x xt t ok
    obtain ⟨v, hK, e1⟩ := withOp_elim hf hk
    obtain ⟨r, hK, hs⟩ := assertK_elim (xt := xt) hK
    exact ⟨r, _, hK, by simp only [execOp, e1]; exact yields_still hs⟩
  · obtain ⟨v, hK, e1⟩ := withOp_elim hf hk
    obtain ⟨u, hK, e2⟩ := withOp_elim hf hK
    obtain ⟨r, fs, hK, h1, hs⟩ := lookK_elim hK
    exact ⟨r, fs, hK, h1, fun w hw => by simp [execOp, e1, e2, hs w hw]⟩
  · rename_i x t
    obtain ⟨v, hK, e1⟩ := withOp_elim hf hk
    obtain ⟨r, fs, hK, h1, hs⟩ := lenK_elim (ty := type) hK
    refine ⟨_, fs, hK, h1, fun w hw => ?_⟩
    have := hs w hw
    simp [execOp, resolve, invoke, builtin, e1, this]
  · rename_i x t
    obtain ⟨v, hK, e1⟩ := withOp_elim hf hk
    obtain ⟨r, hK, hs⟩ := capK_elim (ty := type) hK
    refine ⟨_, _, hK, by simp, fun w _ => ?_⟩
    have := hs w
    simp [execOp, resolve, invoke, builtin, e1, this]
  · rename_i xs ts
    obtain ⟨vs, hK, e1⟩ := withOps_elim hf hk
    obtain ⟨r, hK, hs⟩ := maxK_elim (P := P) (ts := ts) (ty := type) hK
    refine ⟨_, _, hK, by simp, fun w _ => ?_⟩
    have := hs w
    simp [execOp, resolve, invoke, builtin, arr_of_map e1, this]
  · rename_i xs ts
    obtain ⟨vs, hK, e1⟩ := withOps_elim hf hk
    obtain ⟨r, hK, hs⟩ := minK_elim (P := P) (ts := ts) (ty := type) hK
    refine ⟨_, _, hK, by simp, fun w _ => ?_⟩
    have := hs w
    simp [execOp, resolve, invoke, builtin, arr_of_map e1, this]
  · exact hk.elim
end Go.Wd
