/-
  A way of reading a loaded function as a plain proposition over heaps.  Generic over the program.
-/
import Derived.WalkKit
import Derived.WalkLawsBesides
import Derived.OrdersHeld
import Derived.Defers
import Derived.Recover
import Derived.MapKept
import Derived.Deep.Quiet
namespace Go.Wd
open Go Go.RowKit

/-! ## Heaps -/
abbrev Hp := Array Obj

/-- What stands in a block. (A word of its own, so that no rule on arrays meddles.) -/
def bk (h : Hp) (b : Nat) : Option Obj := h[b]?

def cellAt (h : Hp) (b o : Nat) : Option Value :=
  match bk h b with
  | some (.cells c _ _) => c[o]?
  | _ => none

abbrev blk (T : TypeId) (l : List Value) : Obj := .cells ⟨l⟩ T (0, 0)

def sz (h : Hp) : Nat := h.size
def new (h : Hp) (o : Obj) : Hp := h.push o
def upd (h : Hp) (b : Nat) (T : TypeId) (l : List Value) : Hp := h.setIfInBounds b (blk T l)

def writeAt (l : List Value) (o : Nat) : List Value → List Value
  | [] => l
  | v :: vs => writeAt (l.set o v) (o + 1) vs

/-- Two worlds that differ in their heap and in what has been drawn alone. -/
structure Same (w w' : World) : Prop where
  os : w'.os = w.os
  tape : w'.tape = w.tape
  output : w'.output = w.output

theorem Same.refl (w : World) : Same w w := ⟨rfl, rfl, rfl⟩
theorem Same.trans {a b c : World} (h : Same a b) (k : Same b c) : Same a c :=
  ⟨k.os.trans h.os, k.tape.trans h.tape, k.output.trans h.output⟩

/-! ## Values that are known in part -/
inductive SV where
  | undef
  | tt | ff
  | bool (b : Bool)
  | int (k : IntKind) (n : Int)
  | str (s : ByteArray)
  | nil
  | ptr (b o : Nat)
  | optr (a : Option Addr)
  | slice (a : Option Addr) (l c : Nat)
  | agg (cs : List Value)
  | tuple (vs : List Value)
  | fn (f : Fn) (first captured : List Value)
  | raw (v : Value)

def SV.val : SV → Value
  | .undef => Go.undef
  | .tt => .bool true
  | .ff => .bool false
  | .bool b => .bool b
  | .int k n => .int k n
  | .str s => .string s
  | .nil => .pointer none
  | .ptr b o => .pointer (some ⟨b, o, none⟩)
  | .optr a => .pointer a
  | .slice a l c => .slice a l c
  | .agg cs => .agg ⟨cs⟩
  | .tuple vs => .tuple ⟨vs⟩
  | .fn f x y => .func f ⟨x⟩ ⟨y⟩
  | .raw v => v

/-- A value as it is read: nothing is asked of what stands within. -/
def SV.of : Value → SV
  | .bool b => .bool b
  | .int k n => .int k n
  | .string s => .str s
  | .pointer a => .optr a
  | .slice a l c => .slice a l c
  | .agg cs => .agg cs.toList
  | .tuple vs => .tuple vs.toList
  | .func f x y => .fn f x.toList y.toList
  | v => .raw v

/-- A constant of the text: true, false and nil are known. -/
def SV.lit : Value → SV
  | .bool true => .tt
  | .bool false => .ff
  | .pointer none => .nil
  | v => .of v

theorem SV.of_val (v : Value) : (SV.of v).val = v := by cases v <;> rfl
theorem SV.lit_val (v : Value) : (SV.lit v).val = v := by
  unfold SV.lit; split
  · rfl
  · rfl
  · rfl
  · exact SV.of_val v

/-! ## Frames that are known in part -/
abbrev Env := List (Nat × SV)

def Env.find : Env → Nat → Option SV
  | [], _ => none
  | (j, v) :: r, i => bif Nat.beq i j then some v else Env.find r i

def Env.putAt (e : Env) (d : Nat) (v : SV) : Env := (d, v) :: e

/-- Slots that must keep what they hold. -/
abbrev Lock := List (Nat × Value)

variable {lk : Lock} {ds : List Deferred}

structure Fits (n : Nat) (ds : List Deferred) (lk : Lock) (a : Act) (e : Env) : Prop where
  size : a.tmps.size = n
  kept : ∀ p ∈ lk, a.tmps[p.1]? = some p.2
  defers : a.defers = ds
  slot : ∀ i v, Env.find e i = some v → a.tmps[i]? = some v.val

theorem Fits.put {n : Nat} {a : Act} {e : Env} (h : Fits n ds lk a e) {d : Nat} (hd : d < n) (hk : ∀ p ∈ lk, p.1 ≠ d) (v : SV) : Fits n ds lk (a.put (some d) v.val) (e.putAt d v) := by
  refine ⟨by simp [Act.put, h.size], fun p hp => ?_, by simp [Act.put, h.defers], fun i u hf => ?_⟩
  · have h1 := hk p hp
    have h2 := h.kept p hp
    simp only [Act.put, Array.getElem?_setIfInBounds]
    rw [if_neg (fun e => h1 e.symm)]
    exact h2
  simp only [Env.putAt, Env.find] at hf
  by_cases hi : i = d
  · subst hi
    simp at hf
    subst hf
    simp [Act.put, h.size, hd]
  · have : Nat.beq i d = false := by
      cases hb : Nat.beq i d
      · rfl
      · exact absurd (Nat.eq_of_beq_eq_true hb) hi
    simp [this] at hf
    have := h.slot i u hf
    simp only [Act.put, Array.getElem?_setIfInBounds]
    rw [if_neg (fun e => hi e.symm)]
    exact this

theorem Fits.putNone {n : Nat} {a : Act} {e : Env} (h : Fits n ds lk a e) (v : Value) : Fits n ds lk (a.put none v) e := h

/-- The value of an operand, if it is known. -/
def withOp (e : Env) (x : Operand) (f : SV → Prop) : Prop :=
  match x with
  | .tmp t => match Env.find e t with
    | some v => f v
    | none => False
  | .const v => f (SV.lit v)
  | .global g => f (.ptr g 0)
  | .func g => f (.fn (.func g) [] [])

theorem withOp_elim {n : Nat} {a : Act} {e : Env} (hf : Fits n ds lk a e) {x : Operand} {f : SV → Prop} (h : withOp e x f) : ∃ v, f v ∧ a.eval x = v.val := by
  cases x with
  | tmp t =>
    simp only [withOp] at h
    split at h
    · rename_i v hv
      refine ⟨v, h, ?_⟩
      have := hf.slot t v hv
      simp [Act.eval, Array.getD_eq_getD_getElem?, this]
    · exact h.elim
  | const v => exact ⟨_, h, by simp [Act.eval, SV.lit_val]⟩
  | global g => exact ⟨_, h, rfl⟩
  | func g => exact ⟨_, h, rfl⟩

def withOps (e : Env) : List Operand → (List SV → Prop) → Prop
  | [], f => f []
  | x :: r, f => withOp e x fun v => withOps e r fun vs => f (v :: vs)

theorem withOps_elim {n : Nat} {a : Act} {e : Env} (hf : Fits n ds lk a e) : ∀ {xs : List Operand} {f : List SV → Prop}, withOps e xs f → ∃ vs, f vs ∧ xs.map a.eval = vs.map SV.val
  | [], f, h => ⟨[], h, rfl⟩
  | x :: r, f, h => by
    obtain ⟨v, h1, e1⟩ := withOp_elim hf h
    obtain ⟨vs, h2, e2⟩ := withOps_elim hf h1
    exact ⟨v :: vs, h2, by simp [e1, e2]⟩

/-! ## What a reading tells -/
/-- The kind of one cell, read off the zero value of its type. -/
inductive Sh where
  | bool | int (k : IntKind) | str | ptr | slice | map | chan | raw
  /-- an address that is known -/
  | addr

def Sh.ofZero : Value → Sh
  | .bool _ => .bool
  | .int k _ => .int k
  | .string _ => .str
  | .pointer _ => .ptr
  | .slice _ _ _ => .slice
  | .map _ => .map
  | .chan _ => .chan
  | _ => .raw

def exSh : Sh → (Value → Prop) → Prop
  | .bool, K => ∃ b : Bool, K (.bool b)
  | .int k, K => ∃ n : Int, K (.int k n)
  | .str, K => ∃ s : ByteArray, K (.string s)
  | .ptr, K => ∃ a : Option Addr, K (.pointer a)
  | .slice, K => ∃ (a : Option Addr) (l c : Nat), K (.slice a l c)
  | .map, K => ∃ r : Option Nat, K (.map r)
  | .chan, K => ∃ r : Option Nat, K (.chan r)
  | .raw, K => ∃ v : Value, K v
  | .addr, K => ∃ b o : Nat, K (.pointer (some ⟨b, o, none⟩))

theorem exSh_elim {s : Sh} {K : Value → Prop} (h : exSh s K) : ∃ v, K v := by
  cases s with
  | bool => obtain ⟨b, h⟩ := h; exact ⟨_, h⟩
  | int k => obtain ⟨b, h⟩ := h; exact ⟨_, h⟩
  | str => obtain ⟨b, h⟩ := h; exact ⟨_, h⟩
  | ptr => obtain ⟨b, h⟩ := h; exact ⟨_, h⟩
  | slice => obtain ⟨a, l, c, h⟩ := h; exact ⟨_, h⟩
  | map => obtain ⟨b, h⟩ := h; exact ⟨_, h⟩
  | chan => obtain ⟨b, h⟩ := h; exact ⟨_, h⟩
  | raw => exact h
  | addr => obtain ⟨b, o, h⟩ := h; exact ⟨_, h⟩

def exShs : List Sh → (List Value → Prop) → Prop
  | [], K => K []
  | s :: r, K => exSh s fun v => exShs r fun vs => K (v :: vs)

theorem exShs_elim : ∀ {ss : List Sh} {K : List Value → Prop}, exShs ss K → ∃ vs, K vs
  | [], _, h => ⟨[], h⟩
  | _ :: _, _, h => by
    obtain ⟨v, h⟩ := exSh_elim h
    obtain ⟨vs, h⟩ := exShs_elim h
    exact ⟨v :: vs, h⟩

/-- A value of the type whose zero value is given: told in parts. Aggregates of more than 40 cells stay whole. -/
def exZero (z : Value) (K : SV → Prop) : Prop :=
  match z with
  | .agg cs => if cs.toList.length ≤ 40 then exShs (cs.toList.map Sh.ofZero) fun vs => K (.agg vs) else ∃ vs : List Value, vs.length = cs.toList.length ∧ K (.agg vs)
  | v => exSh (Sh.ofZero v) fun v => K (.of v)

theorem exZero_elim {z : Value} {K : SV → Prop} (h : exZero z K) : ∃ v, K v := by
  unfold exZero at h
  split at h
  · split at h
    · obtain ⟨vs, h⟩ := exShs_elim h; exact ⟨_, h⟩
    · obtain ⟨vs, _, h⟩ := h; exact ⟨_, h⟩
  · obtain ⟨v, h⟩ := exSh_elim h; exact ⟨_, h⟩

def exZeros : List Value → (List Value → Prop) → Prop
  | [], K => K []
  | z :: r, K => exZero z fun v => exZeros r fun vs => K (v.val :: vs)

theorem exZeros_elim : ∀ {zs : List Value} {K : List Value → Prop}, exZeros zs K → ∃ vs, K vs
  | [], _, h => ⟨[], h⟩
  | _ :: _, _, h => by
    obtain ⟨v, h⟩ := exZero_elim h
    obtain ⟨vs, h⟩ := exZeros_elim h
    exact ⟨v.val :: vs, h⟩

/-- What a call hands back: by the zero value of its result's type (a tuple's: each part). -/
def exResult (z : Value) (K : SV → Prop) : Prop :=
  match z with
  | .tuple zs => exZeros zs.toList fun vs => K (.tuple vs)
  | z => exZero z K

theorem exResult_elim {z : Value} {K : SV → Prop} (h : exResult z K) : ∃ v, K v := by
  unfold exResult at h
  split at h
  · obtain ⟨vs, h⟩ := exZeros_elim h; exact ⟨_, h⟩
  · exact exZero_elim h

def zeroOf (P : Program) (t : TypeId) : Value := match P.info? t with
  | some i => match i.zero with
    | some z => z
    | none => .nilIface
  | none => .nilIface

end Go.Wd
