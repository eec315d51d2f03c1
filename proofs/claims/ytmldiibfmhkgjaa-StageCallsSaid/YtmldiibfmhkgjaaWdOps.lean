/-
  The operations that make no memory and write none, read as propositions.
-/
import Derived.Test.YtmldiibfmhkgjaaWdCore
namespace Go.Wd
open Go Go.RowKit

/-! ## Numbers -/
def bandV (k : IntKind) (a b : Int) : Int := k.wrap (BitVec.ofInt k.bits a &&& BitVec.ofInt k.bits b).toNat
def borV (k : IntKind) (a b : Int) : Int := k.wrap (BitVec.ofInt k.bits a ||| BitVec.ofInt k.bits b).toNat
def bxorV (k : IntKind) (a b : Int) : Int := k.wrap (BitVec.ofInt k.bits a ^^^ BitVec.ofInt k.bits b).toNat
def bnotV (k : IntKind) (a b : Int) : Int := k.wrap (BitVec.ofInt k.bits a &&& ~~~ BitVec.ofInt k.bits b).toNat
def shlV (k : IntKind) (a n : Int) : Int := k.wrap (a * 2 ^ (min n.toNat k.bits))
def shrV (k : IntKind) (a n : Int) : Int := a.fdiv (2 ^ (min n.toNat k.bits))

def numK (op : BinOp) (k : IntKind) (a b : Int) (K : SV → Prop) : Prop :=
  match op with
  | .add => K (.int k (k.wrap (a + b)))
  | .sub => K (.int k (k.wrap (a - b)))
  | .mul => K (.int k (k.wrap (a * b)))
  | .quo => b ≠ 0 ∧ K (.int k (k.wrap (a.tdiv b)))
  | .rem => b ≠ 0 ∧ K (.int k (a.tmod b))
  | .and => K (.int k (bandV k a b))
  | .or => K (.int k (borV k a b))
  | .xor => K (.int k (bxorV k a b))
  | .andNot => K (.int k (bnotV k a b))
  | .shl => 0 ≤ b ∧ K (.int k (shlV k a b))
  | .shr => 0 ≤ b ∧ K (.int k (shrV k a b))
  | .eql => K (.bool (a == b))
  | .neq => K (.bool (a != b))
  | .lss => K (.bool (decide (a < b)))
  | .leq => K (.bool (decide (a ≤ b)))
  | .gtr => K (.bool (decide (a > b)))
  | .geq => K (.bool (decide (a ≥ b)))

def isShift : BinOp → Bool
  | .shl | .shr => true
  | _ => false

/-- Is it '==' (true), '!=' (false), or another one? -/
def eqlOf : BinOp → Option Bool
  | .eql => some true
  | .neq => some false
  | _ => none

def notIf (yes : Bool) (b : Bool) : Bool := bif yes then b else !b

/-- Cells that are compared one by one: numbers, bools and strings. -/
def eqCell : Sh → Value → Value → Option Bool
  | .int _, .int k a, .int k' b => if k = k' then some (a == b) else none
  | .bool, .bool a, .bool b => some (a == b)
  | .str, .string a, .string b => some (a == b)
  | _, _, _ => none

def eqCells : List Sh → List Value → List Value → Option Bool
  | [], [], [] => some true
  | s :: ss, a :: r, b :: q => match eqCell s a b with
    | some x => match eqCells ss r q with
      | some y => some (x && y)
      | none => none
    | none => none
  | _, _, _ => none

/-- The fields of a struct one after the other, each of cells that are compared one by one, none of them blank. -/
def flatFields (rec : TypeId → Option (List Sh)) : List Field → Nat → Option (List Sh)
  | [], _ => some []
  | f :: r, i => bif (f.name != "_") && Nat.beq f.offset i then (match rec f.type with
    | some n => bif n.isEmpty then none else (match flatFields rec r (i + n.length) with
      | some m => some (n ++ m)
      | none => none)
    | none => none) else none

/-- The kinds of the cells of a type whose values are compared cell by cell. -/
def flatEq (P : Program) : Nat → TypeId → Option (List Sh)
  | 0, _ => none
  | d + 1, t => match P.underlying t with
    | some (.int k) => bif Nat.beq (P.cellsOf t) 1 then some [.int k] else none
    | some .bool => bif Nat.beq (P.cellsOf t) 1 then some [.bool] else none
    | some .string => bif Nat.beq (P.cellsOf t) 1 then some [.str] else none
    | some (.struct fs) => bif P.stoodInHeld t then none else (match flatFields (flatEq P d) fs.toList 0, P.info? t with
      | some n, some i => bif Nat.beq i.size n.length then some n else none
      | _, _ => none)
    | _ => none

def flatStruct (P : Program) (t : TypeId) : Option (List Sh) :=
  match P.underlying t with
  | some (.struct _) => bif P.eqGuardType P.depth t then none else flatEq P 8 t
  | _ => none

/-- An array of numbers: how many, of what kind. -/
def flatArr (P : Program) (t : TypeId) : Option (Nat × IntKind) :=
  match P.underlying t with
  | some (.array n e) => match P.underlying e, P.info? e with
    | some (.int k), some i => bif !P.eqGuardType P.depth t && Nat.beq i.size 1 then some (n, k) else none
    | _, _ => none
  | _ => none

def binK (P : Program) (op : BinOp) (t : TypeId) (x y : SV) (K : SV → Prop) : Prop :=
  match x, y with
  | .int k a, .int k' b => bif isShift op then numK op k a b K else if k = k' then numK op k a b K else False
  | .str a, .str b => match eqlOf op with
    | some yes => K (.bool (notIf yes (a.toList == b.toList)))
    | none => match op with
      | .add => a.size + b.size < 2 ^ 63 ∧ K (.str (a ++ b))
      | _ => False
  | .nil, .nil => match eqlOf op, P.underlying t with
    | some yes, some (.pointer _) => K (bif yes then .tt else .ff)
    | _, _ => False
  | .optr a, .nil => match eqlOf op, P.underlying t with
    | some yes, some (.pointer _) => K (.bool (notIf yes a.isNone))
    | _, _ => False
  | .nil, .optr a => match eqlOf op, P.underlying t with
    | some yes, some (.pointer _) => K (.bool (notIf yes a.isNone))
    | _, _ => False
  | .ptr _ _, .nil => match eqlOf op, P.underlying t with
    | some yes, some (.pointer _) => K (bif yes then .ff else .tt)
    | _, _ => False
  | .nil, .ptr _ _ => match eqlOf op, P.underlying t with
    | some yes, some (.pointer _) => K (bif yes then .ff else .tt)
    | _, _ => False
  | .bool a, .bool b => match eqlOf op, P.underlying t with
    | some yes, some .bool => K (.bool (notIf yes (a == b)))
    | _, _ => False
  | .tt, .bool b => match eqlOf op, P.underlying t with
    | some yes, some .bool => K (.bool (notIf yes b))
    | _, _ => False
  | .bool a, .tt => match eqlOf op, P.underlying t with
    | some yes, some .bool => K (.bool (notIf yes a))
    | _, _ => False
  | .bool a, .ff => match eqlOf op, P.underlying t with
    | some yes, some .bool => K (.bool (notIf yes (!a)))
    | _, _ => False
  | .slice a _ _, .slice none _ _ => match eqlOf op, P.underlying t with
    | some yes, some (.slice _) => K (.bool (notIf yes a.isNone))
    | _, _ => False
  | .raw a, .raw b => match eqlOf op, P.underlying t with
    | some yes, some (.interface ms) => match a, b with
      | .nilIface, .nilIface => bif ms.isEmpty then K (bif yes then .tt else .ff) else False
      | .iface _ _, .nilIface => K (bif yes then .ff else .tt)
      | _, _ => False
    | some yes, some (.chan _ _) => match a, b with
      | .chan r, .chan none => K (.bool (notIf yes r.isNone))
      | _, _ => False
    | _, _ => False
  | .agg xs, .agg ys => match eqlOf op with
    | some yes => match flatStruct P t with
      | some ss => match eqCells ss xs ys with
        | some b => K (.bool (notIf yes b))
        | none => False
      | none => match flatArr P t with
        | some nk => ∃ us vs : List Int, us.length = nk.1 ∧ vs.length = nk.1 ∧ xs = us.map (Value.int nk.2) ∧ ys = vs.map (Value.int nk.2) ∧ K (.bool (notIf yes (us == vs)))
        | none => False
    | none => False
  | _, _ => False

theorem run_num {P : Program} {w : World} {op : BinOp} {k k' : IntKind} {a b : Int} {K : SV → Prop} (hk : isShift op = true ∨ k = k') (h : numK op k a b K) (t : TypeId) :
    ∃ v, K v ∧ (binOp op t (.int k a) (.int k' b)).run P w = .ok v.val w := by
  cases op <;> simp only [numK] at h <;> simp [isShift] at hk <;> try subst hk
  case add => exact ⟨_, h, by simp [binOp, Op.intArith, SV.val]⟩
  case sub => exact ⟨_, h, by simp [binOp, Op.intArith, SV.val]⟩
  case mul => exact ⟨_, h, by simp [binOp, Op.intArith, SV.val]⟩
  case quo => exact ⟨_, h.2, by simp [binOp, Op.intDiv, SV.val, h.1]⟩
  case rem => exact ⟨_, h.2, by simp [binOp, Op.intDiv, SV.val, h.1]⟩
  case and => exact ⟨_, h, by simp [binOp, Op.intBits, SV.val, bandV]⟩
  case or => exact ⟨_, h, by simp [binOp, Op.intBits, SV.val, borV]⟩
  case xor => exact ⟨_, h, by simp [binOp, Op.intBits, SV.val, bxorV]⟩
  case andNot => exact ⟨_, h, by simp [binOp, Op.intBits, SV.val, bnotV]⟩
  case shl => exact ⟨_, h.2, by have := h.1; simp [binOp, Op.shift, SV.val, shlV]; intro; omega⟩
  case shr => exact ⟨_, h.2, by have := h.1; simp [binOp, Op.shift, SV.val, shrV]; intro; omega⟩
  case eql => exact ⟨_, h, by simp [binOp, Op.intCmp, SV.val]⟩
  case neq => exact ⟨_, h, by simp [binOp, Op.intCmp, SV.val]⟩
  case lss => exact ⟨_, h, by simp [binOp, Op.intCmp, SV.val]⟩
  case leq => exact ⟨_, h, by simp [binOp, Op.intCmp, SV.val]⟩
  case gtr => exact ⟨_, h, by simp [binOp, Op.intCmp, SV.val]⟩
  case geq => exact ⟨_, h, by simp [binOp, Op.intCmp, SV.val]⟩

/-! ## Cells that are compared one by one -/
/-- A value that takes these cells: of a struct's or an array's type all of them, else the one. -/
def wholeOf (P : Program) (t : TypeId) (l : List Value) : Value :=
  match P.underlying t with
  | some (.struct _) => .agg ⟨l⟩
  | some (.array _ _) => .agg ⟨l⟩
  | _ => l.headD .nilIface

theorem eqCells_append : ∀ {s t : List Sh} {a b : List Value} {x : Bool}, eqCells (s ++ t) a b = some x →
    ∃ y z, eqCells s (a.take s.length) (b.take s.length) = some y ∧ eqCells t (a.drop s.length) (b.drop s.length) = some z ∧ x = (y && z)
  | [], t, a, b, x, h => ⟨true, x, rfl, by simpa using h, by simp⟩
  | s :: ss, t, a, b, x, h => by
    match a, b, h with
    | u :: a, v :: b, h =>
      simp only [List.cons_append, eqCells] at h
      split at h
      · rename_i y hy
        split at h
        · rename_i z hz
          obtain ⟨p, q, h1, h2, h3⟩ := eqCells_append hz
          refine ⟨y && p, q, by simp [eqCells, hy, h1], by simpa using h2, ?_⟩
          have := Option.some.inj h
          subst h3
          rw [← this, Bool.and_assoc]
        · exact absurd h (by simp)
      · exact absurd h (by simp)
    | [], _, h => simp [eqCells] at h
    | _ :: _, [], h => simp [eqCells] at h

theorem eqCells_len : ∀ {s : List Sh} {a b : List Value} {x : Bool}, eqCells s a b = some x → a.length = s.length ∧ b.length = s.length
  | [], [], [], _, _ => ⟨rfl, rfl⟩
  | s :: ss, u :: a, v :: b, x, h => by
    simp only [eqCells] at h
    split at h
    · split at h
      · rename_i z hz
        have := eqCells_len hz
        simp [this.1, this.2]
      · exact absurd h (by simp)
    · exact absurd h (by simp)
  | [], _ :: _, _, _, h => by simp [eqCells] at h
  | [], [], _ :: _, _, h => by simp [eqCells] at h
  | _ :: _, [], _, _, h => by simp [eqCells] at h
  | _ :: _, _ :: _, [], _, h => by simp [eqCells] at h

theorem run_isAgg {P : Program} {t : TypeId} {d : TypeDesc} (h : P.underlying t = some d) (w : World) :
    (isAgg t).run P w = .ok (match d with | .struct _ => true | .array _ _ => true | _ => false) w := by
  simp only [isAgg, Sem.run_bind, run_underlying h, Result.andThen_ok]
  cases d <;> rfl

theorem run_sizeOf {P : Program} {t : TypeId} {i : TypeInfo} (h : P.info? t = some i) (w : World) : (Go.sizeOf t).run P w = .ok i.size w := by
  simp [Go.sizeOf, typeInfo, h]

theorem flatEq_struct {P : Program} {d : Nat} {t : TypeId} {n : List Sh} {fs : Array Field} (h : flatEq P (d + 1) t = some n) (hu : P.underlying t = some (.struct fs)) :
    P.stoodInHeld t = false ∧ flatFields (flatEq P d) fs.toList 0 = some n ∧ ∃ i, P.info? t = some i ∧ i.size = n.length := by
  simp only [flatEq, hu] at h
  cases hs : P.stoodInHeld t
  · simp only [hs, cond_false] at h
    split at h
    · rename_i m i h1 h2
      cases hb : Nat.beq i.size m.length
      · simp [hb] at h
      · simp only [hb, cond_true, Option.some.injEq] at h
        subst h
        exact ⟨rfl, h1, i, h2, Nat.eq_of_beq_eq_true hb⟩
    · exact absurd h (by simp)
  · simp [hs] at h

theorem flatEq_one {P : Program} {d : Nat} {t : TypeId} {n : List Sh} (h : flatEq P (d + 1) t = some n) (hu : ∀ fs, P.underlying t ≠ some (.struct fs)) :
    (∃ k, P.underlying t = some (.int k) ∧ n = [.int k]) ∨ (P.underlying t = some .bool ∧ n = [.bool]) ∨ (P.underlying t = some .string ∧ n = [.str]) := by
  simp only [flatEq] at h
  split at h
  · rename_i k hk
    cases hc : Nat.beq (P.cellsOf t) 1
    · rw [hc, cond_false] at h; cases h
    · rw [hc, cond_true] at h; exact .inl ⟨k, hk, by simpa using h.symm⟩
  · rename_i hk
    cases hc : Nat.beq (P.cellsOf t) 1
    · rw [hc, cond_false] at h; cases h
    · rw [hc, cond_true] at h; exact .inr (.inl ⟨hk, by simpa using h.symm⟩)
  · rename_i hk
    cases hc : Nat.beq (P.cellsOf t) 1
    · rw [hc, cond_false] at h; cases h
    · rw [hc, cond_true] at h; exact .inr (.inr ⟨hk, by simpa using h.symm⟩)
  · rename_i fs hk; exact absurd hk (hu fs)
  · exact absurd h (by simp)

theorem flatEq_size {P : Program} {d : Nat} {t : TypeId} {n : List Sh} (h : flatEq P d t = some n) : P.cellsOf t = n.length := by
  cases d with
  | zero => simp [flatEq] at h
  | succ d =>
    simp only [flatEq] at h
    split at h
    · cases hc : Nat.beq (P.cellsOf t) 1
      · rw [hc, cond_false] at h; cases h
      · rw [hc, cond_true] at h; cases h; exact Nat.eq_of_beq_eq_true hc
    · cases hc : Nat.beq (P.cellsOf t) 1
      · rw [hc, cond_false] at h; cases h
      · rw [hc, cond_true] at h; cases h; exact Nat.eq_of_beq_eq_true hc
    · cases hc : Nat.beq (P.cellsOf t) 1
      · rw [hc, cond_false] at h; cases h
      · rw [hc, cond_true] at h; cases h; exact Nat.eq_of_beq_eq_true hc
    · rename_i fs hu
      obtain ⟨_, _, i, hi, hn⟩ := flatEq_struct (by simp only [flatEq, hu]; exact h) hu
      simp [Program.cellsOf, hi, hn]
    · cases h

theorem run_part {P : Program} (w : World) {d : Nat} {t : TypeId} {n : List Sh} (h : flatEq P d t = some n) (l : List Value) (o : Nat) (ho : o + n.length ≤ l.length) :
    (part t ⟨l⟩ o).run P w = .ok (wholeOf P t ((l.drop o).take n.length)) w := by
  cases d with
  | zero => simp [flatEq] at h
  | succ d =>
    by_cases hu : ∃ fs, P.underlying t = some (.struct fs)
    · obtain ⟨fs, hu⟩ := hu
      obtain ⟨_, _, i, hi, hn⟩ := flatEq_struct h hu
      simp only [part, Sem.run_bind, run_isAgg hu, Result.andThen_ok, if_true, run_sizeOf hi, Sem.run_pure, wholeOf, hu]
      rw [← hn]
      simp [List.extract_eq_take_drop]
    · have hu' : ∀ fs, P.underlying t ≠ some (.struct fs) := fun fs e => hu ⟨fs, e⟩
      have h1 := flatEq_one h hu'
      rcases h1 with ⟨k, hk, rfl⟩ | ⟨hk, rfl⟩ | ⟨hk, rfl⟩ <;>
      · simp only [List.length_singleton] at ho
        have e : (l.drop o).take 1 = [l[o]'(by omega)] := by
          rw [List.drop_eq_getElem_cons (by omega)]; rfl
        have e2 : l[o]? = some (l[o]'(by omega)) := List.getElem?_eq_getElem _
        simp only [part, Sem.run_bind, run_isAgg hk, Result.andThen_ok, wholeOf, hk, List.length_singleton, e]
        simp [e2]

theorem run_equalIn_flat (P : Program) : ∀ (d : Nat) (t : TypeId) (n : List Sh) (xs ys : List Value) (b : Bool) (w : World) (d' : Nat), d ≤ d' →
    flatEq P d t = some n → eqCells n xs ys = some b → (Op.equalIn d' t (wholeOf P t xs) (wholeOf P t ys)).run P w = .ok b w := by
  intro d
  induction d with
  | zero => intro t n xs ys b w d' _ h; simp [flatEq] at h
  | succ d ih =>
    intro t n xs ys b w d' hd h hb
    obtain ⟨d', rfl⟩ : ∃ m, d' = m + 1 := ⟨d' - 1, by omega⟩
    have hd' : d ≤ d' := by omega
    by_cases hu : ∃ fs, P.underlying t = some (.struct fs)
    · obtain ⟨fs, hu⟩ := hu
      obtain ⟨hs, hff, _, _, _⟩ := flatEq_struct h hu
      have hfo : P.fieldsOf t = fs := by simp [Program.fieldsOf, hu]
      simp only [wholeOf, hu]
      rw [run_equalIn_struct w d' t ⟨xs⟩ ⟨ys⟩ (by rw [hfo]; exact hu) hs, hfo]
      clear hfo hu hs h
      have key : ∀ (l : List Field) (i : Nat) (n : List Sh) (b : Bool), flatFields (flatEq P d) l i = some n → eqCells n (xs.drop i) (ys.drop i) = some b → (Op.eqFields d' ⟨xs⟩ ⟨ys⟩ l).run P w = .ok b w := by
        intro l
        induction l with
        | nil =>
          intro i n b hf hb
          simp only [flatFields, Option.some.injEq] at hf
          subst hf
          have hl := eqCells_len hb
          have h1 : xs.drop i = [] := List.length_eq_zero_iff.1 hl.1
          have h2 : ys.drop i = [] := List.length_eq_zero_iff.1 hl.2
          rw [h1, h2] at hb
          simp [eqCells] at hb
          subst hb
          rfl
        | cons f r ihr =>
          intro i n b hf hb
          simp only [flatFields] at hf
          cases hc : ((f.name != "_") && Nat.beq f.offset i)
          · simp [hc] at hf
          · simp only [hc, cond_true] at hf
            rw [Bool.and_eq_true] at hc
            obtain ⟨hc1, hc2⟩ := hc
            have hoff := Nat.eq_of_beq_eq_true hc2
            have hnm : f.name ≠ "_" := by simpa using hc1
            cases hm : flatEq P d f.type with
            | none => simp [hm] at hf
            | some m =>
              simp only [hm] at hf
              cases hz : m.isEmpty
              case true => simp [hz] at hf
              simp only [hz, cond_false] at hf
              have hz' : m.length ≠ 0 := by intro e; rw [List.length_eq_zero_iff] at e; subst e; simp at hz
              cases hm2 : flatFields (flatEq P d) r (i + m.length) with
              | none => simp [hm2] at hf
              | some m2 =>
                simp only [hm2, Option.some.injEq] at hf
                subst hf
                have hl := eqCells_len hb
                simp only [List.length_drop, List.length_append] at hl
                obtain ⟨y, z, h1, h2, rfl⟩ := eqCells_append hb
                rw [List.drop_drop, List.drop_drop] at h2
                simp only [Op.eqFields, hnm, ne_eq, not_false_eq_true, if_true, Sem.run_bind]
                rw [hoff, run_part w hm xs i (by omega)]
                simp only [Result.andThen_ok]
                rw [run_part w hm ys i (by omega)]
                simp only [Result.andThen_ok]
                rw [ih f.type m _ _ y w d' hd' hm h1]
                simp only [Result.andThen_ok]
                cases y
                · simp
                · simp only [Bool.not_true, Bool.false_eq_true, if_false, Bool.true_and]
                  exact ihr (i + m.length) m2 z hm2 h2
      exact key _ 0 n b hff (by simpa using hb)
    · have hu' : ∀ fs, P.underlying t ≠ some (.struct fs) := fun fs e => hu ⟨fs, e⟩
      have h1 := flatEq_one h hu'
      have one : ∀ s : Sh, n = [s] → ∃ x y, xs = [x] ∧ ys = [y] ∧ eqCell s x y = some b := by
        rintro s rfl
        have hl := eqCells_len hb
        match xs, ys, hl, hb with
        | [x], [y], _, hb =>
          refine ⟨x, y, rfl, rfl, ?_⟩
          simp only [eqCells] at hb
          split at hb
          · rename_i c hc
            simp at hb
            rw [hc, hb]
          · exact absurd hb (by simp)
      rcases h1 with ⟨k, hk, hn⟩ | ⟨hk, hn⟩ | ⟨hk, hn⟩
      · obtain ⟨x, y, rfl, rfl, hc⟩ := one _ hn
        cases x <;> cases y <;> simp [eqCell] at hc
        simp only [wholeOf, hk, List.headD_cons]
        simp [Op.equalIn, run_underlying hk, hc.1, hc.2]
      · obtain ⟨x, y, rfl, rfl, hc⟩ := one _ hn
        cases x <;> cases y <;> simp [eqCell] at hc
        simp only [wholeOf, hk, List.headD_cons]
        simp [Op.equalIn, run_underlying hk, hc]
      · obtain ⟨x, y, rfl, rfl, hc⟩ := one _ hn
        cases x <;> cases y <;> simp [eqCell] at hc
        simp only [wholeOf, hk, List.headD_cons]
        simp [Op.equalIn, run_underlying hk, hc]

theorem wholeOf_struct {P : Program} {t : TypeId} {fs : Array Field} (h : P.underlying t = some (.struct fs)) (l : List Value) : wholeOf P t l = .agg ⟨l⟩ := by
  simp [wholeOf, h]

def guarded (op : BinOp) (t : TypeId) (x y : Operand) (a b : Value) : Sem Value := do eqGuard op t x y a b; binOp op t a b

theorem eqGuard_tame (op : BinOp) (t : TypeId) (x y : Operand) (a b : Value) (h1 : ∀ cs, a ≠ .agg cs) (h2 : a ≠ .nilIface) : eqGuard op t x y a b = pure () := by
  cases op <;> cases a <;> first | rfl | exact absurd rfl (h1 _) | exact absurd rfl h2

theorem guarded_tame {P : Program} (op : BinOp) (t : TypeId) (x y : Operand) (a b : Value) (w : World) (h1 : ∀ cs, a ≠ .agg cs) (h2 : a ≠ .nilIface) :
    (guarded op t x y a b).run P w = (binOp op t a b).run P w := by
  simp [guarded, eqGuard_tame op t x y a b h1 h2]

/-- A value that is told by its kind alone, at every world. -/
def Still (P : Program) (s : Sem Value) (v : SV) : Prop := ∀ w, s.run P w = .ok v.val w

theorem eql_cases {op : BinOp} {yes : Bool} (h : eqlOf op = some yes) : (op = .eql ∧ yes = true) ∨ (op = .neq ∧ yes = false) := by
  cases op <;> simp [eqlOf] at h <;> subst h <;> simp

theorem run_eqOf {P : Program} {op : BinOp} {yes : Bool} (h : eqlOf op = some yes) {t : TypeId} {a b : Value} {r : Bool} {w : World}
    (hb : ∀ op', binOp op' t a b = (match op' with
      | .eql => (do pure (.bool (← Op.equal t a b)) : Sem Value)
      | .neq => (do pure (.bool (!(← Op.equal t a b))) : Sem Value)
      | _ => binOp op' t a b)) (he : (Op.equal t a b).run P w = .ok r w) :
    (binOp op t a b).run P w = .ok (.bool (notIf yes r)) w := by
  rcases eql_cases h with ⟨rfl, rfl⟩ | ⟨rfl, rfl⟩
  · rw [hb]; simp [he, notIf]
  · rw [hb]; simp [he, notIf]

section eqs
variable {P : Program} (d : Nat) {t : TypeId} (w : World)
theorem eq_nil_r {e : TypeId} (hu : P.underlying t = some (.pointer e)) (a : Option Addr) : (Op.equalIn (d + 1) t (.pointer a) (.pointer none)).run P w = .ok a.isNone w := by
  cases a <;> simp [Op.equalIn, run_underlying hu]
theorem eq_nil_l {e : TypeId} (hu : P.underlying t = some (.pointer e)) (a : Option Addr) : (Op.equalIn (d + 1) t (.pointer none) (.pointer a)).run P w = .ok a.isNone w := by
  cases a <;> simp [Op.equalIn, run_underlying hu]
theorem eq_bool (hu : P.underlying t = some .bool) (a b : Bool) : (Op.equalIn (d + 1) t (.bool a) (.bool b)).run P w = .ok (a == b) w := by
  simp [Op.equalIn, run_underlying hu]
theorem eq_slice {e : TypeId} (hu : P.underlying t = some (.slice e)) (a : Option Addr) (l c m n : Nat) : (Op.equalIn (d + 1) t (.slice a l c) (.slice none m n)).run P w = .ok a.isNone w := by
  cases a <;> simp [Op.equalIn, run_underlying hu]
theorem eq_ifn {ms : Array (String × TypeId)} (hu : P.underlying t = some (.interface ms)) : (Op.equalIn (d + 1) t .nilIface .nilIface).run P w = .ok true w := by
  simp [Op.equalIn, run_underlying hu]
theorem eq_if {ms : Array (String × TypeId)} (hu : P.underlying t = some (.interface ms)) (u : TypeId) (v : Value) : (Op.equalIn (d + 1) t (.iface u v) .nilIface).run P w = .ok false w := by
  simp [Op.equalIn, run_underlying hu]
theorem eq_guardn {ms : Array (String × TypeId)} (hu : P.underlying t = some (.interface ms)) : (Op.eqGuardIn (d + 1) t .nilIface .nilIface).run P w = .ok (!ms.isEmpty) w := by
  simp [Op.eqGuardIn, run_underlying hu]
end eqs
theorem eq_chan {P : Program} (d : Nat) {t : TypeId} (w : World) {dir : ChanDir} {e : TypeId} (hu : P.underlying t = some (.chan dir e)) (r : Option Nat) : (Op.equalIn (d + 1) t (.chan r) (.chan none)).run P w = .ok r.isNone w := by
  cases r <;> simp [Op.equalIn, run_underlying hu]
theorem maxDepth_def : Op.maxDepth = 9999 + 1 := rfl
theorem equal_def (t : TypeId) (x y : Value) : Op.equal t x y = Op.equalIn (9999 + 1) t x y := rfl

theorem run_equalIn_array {P : Program} (d : Nat) {t elem len : Nat} {k : IntKind} (hu : P.underlying t = some (.array len elem)) (hue : P.underlying elem = some (.int k)) (he : flatEq P 1 elem = some [.int k]) {i : TypeInfo} (hi : P.info? elem = some i) (as bs : List Int) (ha : as.length = len) (hb : bs.length = len) (w : World) :
    (Op.equalIn (d + 2) t (.agg ⟨as.map (Value.int k)⟩) (.agg ⟨bs.map (Value.int k)⟩)).run P w = .ok (as == bs) w := by
  have hsz : i.size = 1 := by have := flatEq_size he; simpa [Program.cellsOf, hi] using this
  have hs : (Go.sizeOf elem).run P w = .ok 1 w := by rw [run_sizeOf hi, hsz]
  have hp : ∀ (l : List Int) (j : Nat) (x : Int), l[j]? = some x → (part elem ⟨l.map (Value.int k)⟩ (j * 1)).run P w = .ok (.int k x) w := by
    intro l j x hx
    have hj := (List.getElem?_eq_some_iff.1 hx).1
    rw [run_part w he (l.map (Value.int k)) (j * 1) (by simp; omega)]
    have e : ((l.map (Value.int k)).drop (j * 1)).take [Sh.int k].length = [.int k x] := by
      rw [Nat.mul_one, List.drop_eq_getElem_cons (by simpa using hj)]
      have : l[j] = x := by rw [List.getElem?_eq_getElem hj] at hx; cases hx; rfl
      simp [this]
    rw [e]
    simp [wholeOf, hue]
  rw [Op.equalIn.eq_def]
  simp only [Sem.run_bind, run_underlying hu, Result.andThen_ok, hs]
  simp only [Std.Legacy.Range.forIn_eq_forIn_range', Std.Legacy.Range.size, Nat.sub_zero, Nat.add_one_sub_one, Nat.div_one]
  have key : ∀ (m j : Nat), j + m = len → (Sem.run P
          (forIn (List.range' j m) ((none : Option Bool), ()) fun i __s => do
            let __do_lift ← part elem { toList := List.map (Value.int k) as } (i * 1)
            let __do_lift_1 ← part elem { toList := List.map (Value.int k) bs } (i * 1)
            let __do_lift ← Op.equalIn (d + 1) elem __do_lift __do_lift_1
            if (!__do_lift) = true then pure (ForInStep.done (some false, ())) else pure (ForInStep.yield (none, ()))) w) = .ok (if as.drop j = bs.drop j then (none, ()) else (some false, ())) w := by
    intro m
    induction m with
    | zero =>
      intro j hj
      rw [List.drop_eq_nil_of_le (by omega), List.drop_eq_nil_of_le (by omega)]
      simp
    | succ m ih =>
      intro j hj
      have h1 : as[j]? = some as[j] := List.getElem?_eq_getElem (by omega)
      have h2 : bs[j]? = some bs[j] := List.getElem?_eq_getElem (by omega)
      have heq : (Op.equalIn (d + 1) elem (.int k as[j]) (.int k bs[j])).run P w = .ok (as[j] == bs[j]) w := by
        simp [Op.equalIn, run_underlying hue]
      rw [List.range'_succ, List.forIn_cons]
      simp only [Sem.run_bind, hp _ _ _ h1, hp _ _ _ h2, Result.andThen_ok, heq]
      rw [List.drop_eq_getElem_cons (l := as) (by omega), List.drop_eq_getElem_cons (l := bs) (by omega)]
      by_cases hx : as[j] = bs[j]
      · simp only [hx, beq_self_eq_true, Bool.not_true, Bool.false_eq_true, if_false, Sem.run_pure, Result.andThen_ok, List.cons.injEq, true_and]
        exact ih (j + 1) (by omega)
      · have : (as[j] == bs[j]) = false := by simpa using hx
        simp only [this, Bool.not_false, if_true, Sem.run_pure, Result.andThen_ok, List.cons.injEq, hx, false_and, if_false]
  rw [key len 0 (by omega)]
  simp only [Result.andThen_ok, List.drop_zero]
  by_cases hx : as = bs
  · simp [hx]
  · simp [hx]

theorem run_bin {P : Program} {op : BinOp} {t : TypeId} {x y : SV} {K : SV → Prop} (h : binK P op t x y K) (ox oy : Operand) :
    ∃ v, K v ∧ Still P (guarded op t ox oy x.val y.val) v := by
  unfold binK at h
  split at h
  · -- numbers
    rename_i k a k' b
    cases hs : isShift op
    · simp only [hs, cond_false] at h
      split at h
      · rename_i hk
        cases op <;> simp only [numK] at h <;> simp [isShift] at hs
        case quo => exact ⟨_, h.2, fun w => by rw [guarded_tame _ _ _ _ _ _ _ (by simp [SV.val]) (by simp [SV.val])]; subst hk; simp [SV.val, binOp, Op.intDiv, h.1]⟩
        case rem => exact ⟨_, h.2, fun w => by rw [guarded_tame _ _ _ _ _ _ _ (by simp [SV.val]) (by simp [SV.val])]; subst hk; simp [SV.val, binOp, Op.intDiv, h.1]⟩
        all_goals exact ⟨_, h, fun w => by rw [guarded_tame _ _ _ _ _ _ _ (by simp [SV.val]) (by simp [SV.val])]; subst hk; simp [SV.val, binOp, Op.intArith, Op.intBits, Op.intCmp, bandV, borV, bxorV, bnotV]⟩
      · exact h.elim
    · simp only [hs, cond_true] at h
      cases op <;> simp only [numK] at h <;> simp [isShift] at hs
      all_goals
        refine ⟨_, h.2, fun w => ?_⟩
        rw [guarded_tame _ _ _ _ _ _ _ (by simp [SV.val]) (by simp [SV.val])]
        have := h.1
        simp [SV.val, binOp, Op.shift, shlV, shrV]
        intro; omega
  · -- strings
    rename_i a b
    split at h
    · rename_i yes he
      refine ⟨_, h, fun w => ?_⟩
      rw [guarded_tame _ _ _ _ _ _ _ (by simp [SV.val]) (by simp [SV.val])]
      rcases eql_cases he with ⟨rfl, rfl⟩ | ⟨rfl, rfl⟩ <;> simp [SV.val, binOp, Op.stringOp, notIf]
    · split at h
      · refine ⟨_, h.2, fun w => ?_⟩
        rw [guarded_tame _ _ _ _ _ _ _ (by simp [SV.val]) (by simp [SV.val])]
        have := h.1
        simp [SV.val, binOp, Op.stringOp]
        omega
      · exact h.elim
  case h_3 =>
    split at h
    · rename_i yes e he hu
      refine ⟨_, h, fun w => ?_⟩
      rw [guarded_tame _ _ _ _ _ _ _ (by simp [SV.val]) (by simp [SV.val])]
      rw [run_eqOf he (r := true) (by intro op; cases op <;> rfl) (by simp only [SV.val, equal_def]; exact eq_nil_r _ _ hu none)]
      cases yes <;> rfl
    · exact h.elim
  case h_4 a =>
    split at h
    · rename_i yes e he hu
      refine ⟨_, h, fun w => ?_⟩
      rw [guarded_tame _ _ _ _ _ _ _ (by simp [SV.val]) (by simp [SV.val])]
      rw [run_eqOf he (r := a.isNone) (by intro op; cases op <;> rfl) (by simp only [SV.val, equal_def]; exact eq_nil_r _ _ hu a)]
      rfl
    · exact h.elim
  case h_5 a =>
    split at h
    · rename_i yes e he hu
      refine ⟨_, h, fun w => ?_⟩
      rw [guarded_tame _ _ _ _ _ _ _ (by simp [SV.val]) (by simp [SV.val])]
      rw [run_eqOf he (r := a.isNone) (by intro op; cases op <;> rfl) (by simp only [SV.val, equal_def]; exact eq_nil_l _ _ hu a)]
      rfl
    · exact h.elim
  case h_6 =>
    split at h
    · rename_i yes e he hu
      refine ⟨_, h, fun w => ?_⟩
      rw [guarded_tame _ _ _ _ _ _ _ (by simp [SV.val]) (by simp [SV.val])]
      rw [run_eqOf he (r := false) (by intro op; cases op <;> rfl) (by simp only [SV.val, equal_def]; exact eq_nil_r _ _ hu (some _))]
      cases yes <;> rfl
    · exact h.elim
  case h_7 =>
    split at h
    · rename_i yes e he hu
      refine ⟨_, h, fun w => ?_⟩
      rw [guarded_tame _ _ _ _ _ _ _ (by simp [SV.val]) (by simp [SV.val])]
      rw [run_eqOf he (r := false) (by intro op; cases op <;> rfl) (by simp only [SV.val, equal_def]; exact eq_nil_l _ _ hu (some _))]
      cases yes <;> rfl
    · exact h.elim
  case h_8 a b =>
    split at h
    · rename_i yes he hu
      refine ⟨_, h, fun w => ?_⟩
      rw [guarded_tame _ _ _ _ _ _ _ (by simp [SV.val]) (by simp [SV.val])]
      rw [run_eqOf he (r := (a == b)) (by intro op; cases op <;> rfl) (by simp only [SV.val, equal_def]; exact eq_bool _ _ hu a b)]
      rfl
    · exact h.elim
  case h_9 b =>
    split at h
    · rename_i yes he hu
      refine ⟨_, h, fun w => ?_⟩
      rw [guarded_tame _ _ _ _ _ _ _ (by simp [SV.val]) (by simp [SV.val])]
      rw [run_eqOf he (r := b) (by intro op; cases op <;> rfl) (by simp only [SV.val, equal_def]; rw [eq_bool _ _ hu]; simp)]
      rfl
    · exact h.elim
  case h_10 a =>
    split at h
    · rename_i yes he hu
      refine ⟨_, h, fun w => ?_⟩
      rw [guarded_tame _ _ _ _ _ _ _ (by simp [SV.val]) (by simp [SV.val])]
      rw [run_eqOf he (r := a) (by intro op; cases op <;> rfl) (by simp only [SV.val, equal_def]; rw [eq_bool _ _ hu]; simp)]
      rfl
    · exact h.elim
  case h_11 a =>
    split at h
    · rename_i yes he hu
      refine ⟨_, h, fun w => ?_⟩
      rw [guarded_tame _ _ _ _ _ _ _ (by simp [SV.val]) (by simp [SV.val])]
      rw [run_eqOf he (r := !a) (by intro op; cases op <;> rfl) (by simp only [SV.val, equal_def]; rw [eq_bool _ _ hu]; simp)]
      rfl
    · exact h.elim
  case h_12 a _ _ _ _ =>
    split at h
    · rename_i yes e he hu
      refine ⟨_, h, fun w => ?_⟩
      rw [guarded_tame _ _ _ _ _ _ _ (by simp [SV.val]) (by simp [SV.val])]
      rw [run_eqOf he (r := a.isNone) (by intro op; cases op <;> rfl) (by simp only [SV.val, equal_def]; exact eq_slice _ _ hu a _ _ _ _)]
      rfl
    · exact h.elim
  case h_13 xa xb =>
    split at h
    · rename_i yes ms he hu
      split at h
      · cases hm : ms.isEmpty
        · rw [hm, cond_false] at h; exact h.elim
        · rw [hm, cond_true] at h
          refine ⟨_, h, fun w => ?_⟩
          have hg : (eqGuard op t ox oy .nilIface .nilIface).run P w = .ok () w := by
            have hgd := eq_guardn 9999 w hu
            rw [hm] at hgd
            rcases eql_cases he with ⟨rfl, rfl⟩ | ⟨rfl, rfl⟩ <;> cases ox <;> cases oy <;> first
              | rfl
              | (simp only [eqGuard, maxDepth_def]; simp [hgd])
          simp only [SV.val, guarded, Sem.run_bind, hg, Result.andThen_ok]
          rw [run_eqOf he (r := true) (by intro op; cases op <;> rfl) (by simp only [equal_def]; exact eq_ifn _ _ hu)]
          cases yes <;> rfl
      · refine ⟨_, h, fun w => ?_⟩
        rw [guarded_tame _ _ _ _ _ _ _ (by simp [SV.val]) (by simp [SV.val])]
        simp only [SV.val]
        rw [run_eqOf he (r := false) (by intro op; cases op <;> rfl) (by simp only [equal_def]; exact eq_if _ _ hu _ _)]
        cases yes <;> rfl
      · exact h.elim
    · rename_i yes d e he hu
      split at h
      · rename_i r
        refine ⟨_, h, fun w => ?_⟩
        rw [guarded_tame _ _ _ _ _ _ _ (by simp [SV.val]) (by simp [SV.val])]
        simp only [SV.val]
        rw [run_eqOf he (r := r.isNone) (by intro op; cases op <;> rfl) (by simp only [equal_def]; exact eq_chan _ _ hu r)]
      · exact h.elim
    · exact h.elim
  case h_14 xs ys =>
    split at h
    · rename_i yes he
      split at h
      · rename_i ss hss
        split at h
        · rename_i b hb
          refine ⟨_, h, fun w => ?_⟩
          simp only [flatStruct] at hss
          split at hss
          · rename_i fs hu
            cases hg : P.eqGuardType P.depth t
            · simp only [hg, cond_false] at hss
              have hrun := run_equalIn_flat P 8 t ss xs ys b w 10000 (by decide) hss hb
              rw [wholeOf_struct hu, wholeOf_struct hu] at hrun
              simp only [SV.val, guarded, Sem.run_bind]
              rw [run_eqGuard_agg w op t ox oy _ _ hg]
              simp only [Result.andThen_ok]
              rw [run_eqOf he (r := b) (by intro op; cases op <;> rfl) hrun]
            · simp [hg] at hss
          · exact absurd hss (by simp)
        · exact h.elim
      · split at h
        · rename_i nk hfa
          obtain ⟨us, vs, hu1, hv1, rfl, rfl, h⟩ := h
          refine ⟨_, h, fun w => ?_⟩
          simp only [flatArr] at hfa
          split at hfa
          · rename_i n el hu
            split at hfa
            · rename_i k i hue hi
              cases hc : (!P.eqGuardType P.depth t && Nat.beq i.size 1)
              · simp [hc] at hfa
              · simp only [hc, cond_true, Option.some.injEq] at hfa
                subst hfa
                rw [Bool.and_eq_true] at hc
                have hg : P.eqGuardType P.depth t = false := by simpa using hc.1
                have hsz := Nat.eq_of_beq_eq_true hc.2
                have he1 : flatEq P 1 el = some [.int k] := by simp [flatEq, hue, Program.cellsOf, hi, hsz]
                have hrun : (Op.equalIn (9998 + 2) t (.agg ⟨us.map (Value.int k)⟩) (.agg ⟨vs.map (Value.int k)⟩)).run P w = .ok (us == vs) w := run_equalIn_array 9998 hu hue he1 hi us vs hu1 hv1 w
                simp only [SV.val, guarded, Sem.run_bind]
                rw [run_eqGuard_agg w op t ox oy _ _ hg]
                simp only [Result.andThen_ok]
                rw [run_eqOf he (r := (us == vs)) (by intro op; cases op <;> rfl) hrun]
            · exact absurd hfa (by simp)
          · exact absurd hfa (by simp)
        · exact h.elim
    · exact h.elim
  case h_15 => exact h.elim
end Go.Wd
