/-
  Code, bodies and calls as propositions.
-/
import Derived.Test.YtmldiibfmhkgjaaWdRegion
namespace Go.Wd
set_option linter.unusedSimpArgs false
set_option linter.unusedVariables false
open Go Go.RowKit
variable {lk : Lock} {ds : List Deferred}

/-! ## Rows of values of given kinds -/
/-- Functions of values of given kinds. -/
def Cur (A : Type) : List Sh → Type
  | [] => A
  | .bool :: r => Bool → Cur A r
  | .int _ :: r => Int → Cur A r
  | .str :: r => ByteArray → Cur A r
  | .ptr :: r => Option Addr → Cur A r
  | .slice :: r => Option Addr → Nat → Nat → Cur A r
  | .map :: r => Option Nat → Cur A r
  | .chan :: r => Option Nat → Cur A r
  | .raw :: r => Value → Cur A r
  | .addr :: r => Nat → Nat → Cur A r

def app {A : Type} (d : A) : (ss : List Sh) → Cur A ss → List Value → A
  | [], f, vs => match vs with
    | [] => f
    | _ => d
  | .bool :: r, f, vs => match vs with
    | .bool b :: vs => app d r (f b) vs
    | _ => d
  | .int k :: r, f, vs => match vs with
    | .int k' n :: vs => if k = k' then app d r (f n) vs else d
    | _ => d
  | .str :: r, f, vs => match vs with
    | .string s :: vs => app d r (f s) vs
    | _ => d
  | .ptr :: r, f, vs => match vs with
    | .pointer a :: vs => app d r (f a) vs
    | _ => d
  | .slice :: r, f, vs => match vs with
    | .slice a l c :: vs => app d r (f a l c) vs
    | _ => d
  | .map :: r, f, vs => match vs with
    | .map a :: vs => app d r (f a) vs
    | _ => d
  | .chan :: r, f, vs => match vs with
    | .chan a :: vs => app d r (f a) vs
    | _ => d
  | .raw :: r, f, vs => match vs with
    | v :: vs => app d r (f v) vs
    | _ => d
  | .addr :: r, f, vs => match vs with
    | .pointer (some ⟨b, o, none⟩) :: vs => app d r (f b o) vs
    | _ => d

def allSh : Sh → (Value → Prop) → Prop
  | .bool, K => ∀ b : Bool, K (.bool b)
  | .int k, K => ∀ n : Int, K (.int k n)
  | .str, K => ∀ s : ByteArray, K (.string s)
  | .ptr, K => ∀ a : Option Addr, K (.pointer a)
  | .slice, K => ∀ (a : Option Addr) (l c : Nat), K (.slice a l c)
  | .map, K => ∀ r : Option Nat, K (.map r)
  | .chan, K => ∀ r : Option Nat, K (.chan r)
  | .raw, K => ∀ v : Value, K v
  | .addr, K => ∀ b o : Nat, K (.pointer (some ⟨b, o, none⟩))

def allShs : List Sh → (List Value → Prop) → Prop
  | [], K => K []
  | s :: r, K => allSh s fun v => allShs r fun vs => K (v :: vs)

/-- Rows that fit the kinds. -/
def fitSh : Sh → Value → Prop
  | .bool, .bool _ => True
  | .int k, .int k' _ => k = k'
  | .str, .string _ => True
  | .ptr, .pointer _ => True
  | .slice, .slice _ _ _ => True
  | .map, .map _ => True
  | .chan, .chan _ => True
  | .raw, _ => True
  | .addr, .pointer (some ⟨_, _, none⟩) => True
  | _, _ => False

def fitShs : List Sh → List Value → Prop
  | [], [] => True
  | s :: r, v :: vs => fitSh s v ∧ fitShs r vs
  | _, _ => False

theorem allSh_at {s : Sh} {K : Value → Prop} (h : allSh s K) {v : Value} (hv : fitSh s v) : K v := by
  cases s
  case addr =>
    match v, hv with
    | .pointer (some ⟨b, o, none⟩), _ => exact h b o
  all_goals cases v <;> simp only [fitSh] at hv <;> first | exact h _ | (subst hv; exact h _) | exact h _ _ _

theorem allShs_at : ∀ {ss : List Sh} {K : List Value → Prop}, allShs ss K → ∀ {vs : List Value}, fitShs ss vs → K vs
  | [], K, h, [], _ => h
  | s :: r, K, h, v :: vs, hv => allShs_at (allSh_at h hv.1) hv.2
  | [], _, _, _ :: _, hv => hv.elim
  | _ :: _, _, _, [], hv => hv.elim

theorem fit_of_app : ∀ {ss : List Sh} {f : Cur (Hp → Prop) ss} {vs : List Value} {h : Hp}, app (fun _ => False) ss f vs h → fitShs ss vs := by
  intro ss
  induction ss with
  | nil =>
    intro f vs h ha
    cases vs with
    | nil => trivial
    | cons v vs => exact ha.elim
  | cons s r ih =>
    intro f vs h ha
    cases vs with
    | nil => cases s <;> exact ha.elim
    | cons v vs =>
      cases s with
      | bool =>
        cases v with
        | bool b => exact ⟨trivial, ih (show app (fun _ => False) r (f b) vs h from ha)⟩
        | _ => exact ha.elim
      | int k =>
        cases v with
        | int k' n =>
          have ha2 : (if k = k' then app (fun _ => False) r (f n) vs else fun _ => False) h := ha
          by_cases hk : k = k'
          · rw [if_pos hk] at ha2
            exact ⟨hk, ih ha2⟩
          · rw [if_neg hk] at ha2
            exact ha2.elim
        | _ => exact ha.elim
      | str =>
        cases v with
        | string b => exact ⟨trivial, ih (show app (fun _ => False) r (f b) vs h from ha)⟩
        | _ => exact ha.elim
      | ptr =>
        cases v with
        | pointer b => exact ⟨trivial, ih (show app (fun _ => False) r (f b) vs h from ha)⟩
        | _ => exact ha.elim
      | slice =>
        cases v with
        | slice a l c => exact ⟨trivial, ih (show app (fun _ => False) r (f a l c) vs h from ha)⟩
        | _ => exact ha.elim
      | map =>
        cases v with
        | map b => exact ⟨trivial, ih (show app (fun _ => False) r (f b) vs h from ha)⟩
        | _ => exact ha.elim
      | chan =>
        cases v with
        | chan b => exact ⟨trivial, ih (show app (fun _ => False) r (f b) vs h from ha)⟩
        | _ => exact ha.elim
      | raw => exact ⟨by cases v <;> trivial, ih (show app (fun _ => False) r (f v) vs h from ha)⟩
      | addr =>
        match v, ha with
        | .pointer (some ⟨b, o, none⟩), ha => exact ⟨trivial, ih (show app (fun _ => False) r (f b o) vs h from ha)⟩
        | .pointer (some ⟨b, o, some q⟩), ha => exact ha.elim
        | .pointer none, ha => exact ha.elim
        | .bool _, ha => exact ha.elim
        | .int _ _, ha => exact ha.elim
        | .float _ _, ha => exact ha.elim
        | .complex _ _ _, ha => exact ha.elim
        | .string _, ha => exact ha.elim
        | .slice _ _ _, ha => exact ha.elim
        | .map _, ha => exact ha.elim
        | .chan _, ha => exact ha.elim
        | .func _ _ _, ha => exact ha.elim
        | .nilFunc, ha => exact ha.elim
        | .iface _ _, ha => exact ha.elim
        | .nilIface, ha => exact ha.elim
        | .agg _, ha => exact ha.elim
        | .tuple _, ha => exact ha.elim

/-! ## Slots that a loop or a meeting of ways keeps -/
/-- The kinds of one slot's cells. -/
inductive GSh where
  | one (s : Sh)
  | many (l : List Sh)

def GSh.cells : GSh → List Sh
  | .one s => [s]
  | .many l => l

def cellsOf (vary : List (Nat × GSh)) : List Sh := vary.flatMap fun p => p.2.cells

def pickOne : GSh → SV → Option (List Value)
  | .one _, v => some [v.val]
  | .many l, .agg cs => bif Nat.beq cs.length l.length then some cs else none
  | .many _, _ => none

def pickCells (e : Env) : List (Nat × GSh) → Option (List Value)
  | [] => some []
  | (s, g) :: r => match Env.find e s with
    | some v => match pickOne g v, pickCells e r with
      | some cs, some rest => some (cs ++ rest)
      | _, _ => none
    | none => none

/-- What is known of a value of a kind. -/
def svOf (s : Sh) (v : Value) : SV :=
  match s with
  | .addr => match v with
    | .pointer (some ⟨b, o, none⟩) => .ptr b o
    | v => .of v
  | _ => .of v
theorem svOf_val (s : Sh) (v : Value) : (svOf s v).val = v := by
  unfold svOf
  split
  · split
    · rfl
    · exact SV.of_val _
  · exact SV.of_val _

def envOf : List (Nat × GSh) → List Value → Env
  | [], _ => []
  | (s, .one k) :: r, v :: vs => (s, svOf k v) :: envOf r vs
  | (_, .one _) :: _, [] => []
  | (s, .many l) :: r, vs => (s, .agg (vs.take l.length)) :: envOf r (vs.drop l.length)

def pickFixed (e : Env) : List Nat → Option Env
  | [] => some []
  | s :: r => match Env.find e s, pickFixed e r with
    | some v, some rest => some ((s, v) :: rest)
    | _, _ => none

theorem pickFixed_fits {n : Nat} {a : Act} {e : Env} (hf : Fits n ds lk a e) : ∀ {l : List Nat} {e' : Env}, pickFixed e l = some e' → ∀ i v, Env.find e' i = some v → a.tmps[i]? = some v.val
  | [], e', h, i, v, hv => by simp [pickFixed] at h; subst h; simp [Env.find] at hv
  | s :: r, e', h, i, v, hv => by
    simp only [pickFixed] at h
    split at h
    · rename_i u rest hu hr
      simp only [Option.some.injEq] at h
      subst h
      simp only [Env.find] at hv
      cases hb : Nat.beq i s
      · rw [hb, cond_false] at hv; exact pickFixed_fits hf hr i v hv
      · rw [hb, cond_true] at hv
        obtain rfl := Nat.eq_of_beq_eq_true hb
        cases hv
        exact hf.slot _ _ hu
    · exact absurd h (by simp)

/-- What stands in the slots of a frame, cell by cell. -/
def usOf (a : Act) : List (Nat × GSh) → List Value
  | [] => []
  | (s, .one _) :: r => a.tmps.getD s undef :: usOf a r
  | (s, .many _) :: r => (a.tmps.getD s undef).cells.toList ++ usOf a r

theorem pickCells_us {n : Nat} {a : Act} {e : Env} (hf : Fits n ds lk a e) : ∀ {vary : List (Nat × GSh)} {us : List Value}, pickCells e vary = some us →
    us = usOf a vary ∧ ∀ i v, Env.find (envOf vary us) i = some v → a.tmps[i]? = some v.val
  | [], us, h => by
    simp [pickCells] at h
    subst h
    exact ⟨rfl, fun i v hv => by simp [envOf, Env.find] at hv⟩
  | (s, g) :: r, us, h => by
    simp only [pickCells] at h
    split at h
    · rename_i v hv
      have hs := hf.slot s v hv
      split at h
      · rename_i cs rest hc hr
        simp only [Option.some.injEq] at h
        subst h
        obtain ⟨h1, h2⟩ := pickCells_us hf hr
        cases g with
        | one k =>
          simp only [pickOne, Option.some.injEq] at hc
          subst hc
          refine ⟨by simp [usOf, h1, Array.getD_eq_getD_getElem?, hs], fun i x hx => ?_⟩
          simp only [List.cons_append, List.nil_append, envOf, Env.find] at hx
          cases hb : Nat.beq i s
          · rw [hb, cond_false] at hx; exact h2 i x hx
          · rw [hb, cond_true] at hx
            obtain rfl := Nat.eq_of_beq_eq_true hb
            cases hx
            rw [svOf_val]; exact hs
        | many l =>
          cases v <;> simp only [pickOne] at hc <;> try (exact absurd hc (by simp))
          rename_i cs'
          cases hb0 : Nat.beq cs'.length l.length
          · rw [hb0, cond_false] at hc; exact absurd hc (by simp)
          · rw [hb0, cond_true] at hc
            simp only [Option.some.injEq] at hc
            subst hc
            have hl := Nat.eq_of_beq_eq_true hb0
            refine ⟨by simp [usOf, h1, Array.getD_eq_getD_getElem?, hs, SV.val, Value.cells], fun i x hx => ?_⟩
            simp only [envOf, Env.find] at hx
            rw [← hl, List.take_left, List.drop_left] at hx
            cases hb : Nat.beq i s
            · rw [hb, cond_false] at hx; exact h2 i x hx
            · rw [hb, cond_true] at hx
              obtain rfl := Nat.eq_of_beq_eq_true hb
              cases hx
              exact hs
      · exact absurd h (by simp)
    · exact absurd h (by simp)

theorem find_append : ∀ {e e' : Env} {i : Nat} {v : SV}, Env.find (e ++ e') i = some v → Env.find e i = some v ∨ Env.find e' i = some v
  | [], e', i, v, h => .inr h
  | (s, u) :: r, e', i, v, h => by
    simp only [List.cons_append, Env.find] at h ⊢
    cases hb : Nat.beq i s
    · rw [hb, cond_false] at h; rw [cond_false]; exact find_append h
    · rw [hb, cond_true] at h; rw [cond_true]; exact .inl h

/-- What the reader of a function is told besides its text: for each loop and each meeting of ways (by the number of its first region) the slots that stay and those that vary; for each region that draws its order, an order. -/
structure Hints where
  loops : List (Nat × List Nat × List (Nat × GSh))
  cuts : List (Nat × List Nat × List (Nat × GSh))
  orders : List (Nat × List Nat × Plan)

def assoc {A : Type} : List (Nat × A) → Nat → Option A
  | [], _ => none
  | (j, a) :: r, i => bif Nat.beq i j then some a else assoc r i

def firstRegion : Code → Option Nat
  | .region id _ _ => some id
  | .seq x y => match firstRegion x with
    | some i => some i
    | none => firstRegion y
  | .cond _ x y => match firstRegion x with
    | some i => some i
    | none => firstRegion y
  | .block _ c => firstRegion c
  | .loop c => firstRegion c
  | .scope c => firstRegion c
  | _ => none

/-! ### the check of an order -/
def precOf (masks : List Nat) (i j : Nat) : Bool := Nat.testBit (masks.getD j 0) i

def maskStep (masks : List Nat) (s : Nat) (e : Edge) : Nat := bif Region.binds .any e then s ||| (2 ^ e.on ||| masks.getD e.on 0) else s

def maskOk (masks : List Nat) : List Oper → Nat → Bool
  | [], _ => true
  | o :: r, j => Nat.beq (masks.getD j 0) (o.after.toList.foldl (maskStep masks) 0) && (o.after.toList.all fun e => !(Region.binds .any e) || Nat.blt e.on j) && maskOk masks r (j + 1)

def pairB (ops : Array Oper) (masks : List Nat) (i j : Nat) : Bool :=
  !(Nat.beq i j) && (!(isEff ops i) || precOf masks i j) && (precOf masks i j || (match ops[i]?, ops[j]? with
    | some oi, some oj => oi.apart ops oj
    | _, _ => false))

def pairsB (ops : Array Oper) (masks : List Nat) : List Nat → Bool
  | [] => true
  | i :: r => r.all (pairB ops masks i) && pairsB ops masks r

def nodupB : List Nat → Bool
  | [] => true
  | i :: r => !(r.contains i) && nodupB r

def planB (ops : Array Oper) (masks : List Nat) : Plan → Bool
  | .leaf l => pairsB ops masks l
  | .one l i p => l.all (fun x => !(isEff ops x)) && isEff ops i && pairsB ops masks l && l.all (fun x => (i :: p.all).all (pairB ops masks x)) && p.all.all (precOf masks i) && !(p.all.contains i) && planB ops masks p
  | .fork l i p j q => l.all (fun x => !(isEff ops x)) && isEff ops i && isEff ops j && pairsB ops masks l && l.all (fun x => (i :: p.all).all (pairB ops masks x)) &&
      p.all.all (fun x => Nat.beq x j || precOf masks i x || precOf masks j x) && (i :: p.all).all (fun x => (j :: q.all).contains x) && (j :: q.all).all (fun x => (i :: p.all).contains x) &&
      !(p.all.contains i) && !(q.all.contains j) && Nat.beq p.all.length q.all.length && planB ops masks p && planB ops masks q

def orderOk (P : Program) (ops : Array Oper) (masks : List Nat) (plan : Plan) : Bool :=
  Region.noSelect ops && maskOk masks ops.toList 0 && Nat.beq plan.all.length ops.size && plan.all.all (fun i => Nat.blt i ops.size) && (List.range ops.size).all (fun i => plan.all.contains i) && planB ops masks plan

theorem mask_testBit (masks : List Nat) : ∀ (l : List Edge) (s i : Nat), Nat.testBit (l.foldl (maskStep masks) s) i = true →
    Nat.testBit s i = true ∨ ∃ e ∈ l, Region.binds .any e = true ∧ (i = e.on ∨ precOf masks i e.on = true)
  | [], s, i, h => .inl h
  | e :: l, s, i, h => by
    simp only [List.foldl_cons] at h
    rcases mask_testBit masks l _ i h with h | ⟨e', he, hh⟩
    · unfold maskStep at h
      cases hb : Region.binds .any e
      · rw [hb, cond_false] at h; exact .inl h
      · rw [hb, cond_true] at h
        rw [Nat.testBit_or, Nat.testBit_or] at h
        simp only [Bool.or_eq_true] at h
        rcases h with h | h | h
        · exact .inl h
        · rw [Nat.testBit_two_pow] at h
          exact .inr ⟨e, List.mem_cons_self, hb, .inl (by simpa using h.symm : e.on = i).symm⟩
        · exact .inr ⟨e, List.mem_cons_self, hb, .inr h⟩
    · exact .inr ⟨e', List.mem_cons_of_mem _ he, hh⟩

theorem maskOk_spec (masks : List Nat) : ∀ (l : List Oper) (k : Nat), maskOk masks l k = true → ∀ j o, l[j]? = some o →
    (∀ e ∈ o.after, Region.binds .any e = true → e.on < k + j) ∧ ∀ i, precOf masks i (k + j) = true → ∃ e ∈ o.after, Region.binds .any e = true ∧ (i = e.on ∨ precOf masks i e.on = true)
  | [], k, _, j, o, ho => by simp at ho
  | x :: l, k, h, j, o, ho => by
    simp only [maskOk, Bool.and_eq_true] at h
    obtain ⟨⟨h1, h2⟩, h3⟩ := h
    cases j with
    | zero =>
      simp only [List.getElem?_cons_zero, Option.some.injEq] at ho
      subst ho
      refine ⟨fun e he hb => ?_, fun i hi => ?_⟩
      · have := List.all_eq_true.1 h2 e (by simpa using he)
        rw [hb] at this
        simp [Nat.blt] at this
        omega
      · have hm := Nat.eq_of_beq_eq_true h1
        unfold precOf at hi
        rw [Nat.add_zero, hm] at hi
        rcases mask_testBit masks _ _ i hi with h | ⟨e, he, hh⟩
        · simp at h
        · exact ⟨e, by simpa using he, hh⟩
    | succ j =>
      have := maskOk_spec masks l (k + 1) h3 j o (by simpa using ho)
      rw [show k + (j + 1) = k + 1 + j by omega]
      exact this

theorem pairB_spec {ops : Array Oper} {masks : List Nat} {i j : Nat} (this : pairB ops masks i j = true) : Pair ops (precOf masks) i j := by
  simp only [pairB, Bool.and_eq_true, Bool.or_eq_true, Bool.not_eq_true'] at this
  obtain ⟨⟨h1, h2⟩, h3⟩ := this
  refine ⟨fun e => by subst e; simp at h1, fun he => ?_, fun hp oi oj hoi hoj => ?_⟩
  · rcases h2 with h2 | h2
    · rw [he] at h2; cases h2
    · exact h2
  · rcases h3 with h3 | h3
    · rw [hp] at h3; cases h3
    · rw [hoi, hoj] at h3; exact h3

theorem pairsB_spec {ops : Array Oper} {masks : List Nat} : ∀ {l : List Nat}, pairsB ops masks l = true → l.Pairwise (Pair ops (precOf masks))
  | [], _ => List.Pairwise.nil
  | i :: r, h => by
    simp only [pairsB, Bool.and_eq_true] at h
    exact List.pairwise_cons.2 ⟨fun j hj => pairB_spec (List.all_eq_true.1 h.1 j hj), pairsB_spec h.2⟩

theorem planB_spec {ops : Array Oper} {masks : List Nat} : ∀ {p : Plan}, planB ops masks p = true → PlanOk ops (precOf masks) p
  | .leaf l, h => pairsB_spec h
  | .one l i p, h => by
    simp only [planB, Bool.and_eq_true, Bool.not_eq_true'] at h
    obtain ⟨⟨⟨⟨⟨⟨h1, h2⟩, h3⟩, h4⟩, h5⟩, h6⟩, h7⟩ := h
    refine ⟨fun x hx => by have := List.all_eq_true.1 h1 x hx; simpa using this, h2, pairsB_spec h3, fun x hx y hy => pairB_spec (List.all_eq_true.1 (List.all_eq_true.1 h4 x hx) y hy), fun x hx => List.all_eq_true.1 h5 x hx, ?_, planB_spec h7⟩
    intro hh
    rw [List.contains_iff_mem.2 hh] at h6; cases h6
  | .fork l i p j q, h => by
    simp only [planB, Bool.and_eq_true, Bool.not_eq_true'] at h
    obtain ⟨⟨⟨⟨⟨⟨⟨⟨⟨⟨⟨⟨h1, h2⟩, h3⟩, h4⟩, h5⟩, h6⟩, h7⟩, h8⟩, h9⟩, h10⟩, h11⟩, h12⟩, h13⟩ := h
    refine ⟨fun x hx => by have := List.all_eq_true.1 h1 x hx; simpa using this, h2, h3, pairsB_spec h4, fun x hx y hy => pairB_spec (List.all_eq_true.1 (List.all_eq_true.1 h5 x hx) y hy), fun x hx => ?_, fun x => ⟨fun hx => ?_, fun hx => ?_⟩, ?_, ?_, Nat.eq_of_beq_eq_true h11, planB_spec h12, planB_spec h13⟩
    · have := List.all_eq_true.1 h6 x hx
      simp only [Bool.or_eq_true] at this
      rcases this with (e | e) | e
      · exact .inl (Nat.eq_of_beq_eq_true e)
      · exact .inr (.inl e)
      · exact .inr (.inr e)
    · exact List.contains_iff_mem.1 (List.all_eq_true.1 h7 x hx)
    · exact List.contains_iff_mem.1 (List.all_eq_true.1 h8 x hx)
    · intro hh
      rw [List.contains_iff_mem.2 hh] at h9; cases h9
    · intro hh
      rw [List.contains_iff_mem.2 hh] at h10; cases h10

/-- No operation's own slot is locked. -/
def freeDst (lk : Lock) (ops : List Oper) : Bool := ops.all fun o => match o.dst with
  | some d => !(locked lk d)
  | none => true

/-- What a region that draws its order owes where a call in it panics: nothing that hangs on a slot that is not locked. -/
def panicsAs (n : Nat) (ds : List Deferred) (lk : Lock) (w0 : World) (X : Value → Hp → Prop) (Q : Exit → Act → World → Prop) : Exit → Act → World → Prop
  | .normal, a, w => Q .normal a w
  | .panic c, a, w => ∃ x, c = [{ v := x, recovered := false }] ∧ X x w.heap ∧ Fits n ds lk a [] ∧ Same w0 w
  | _, _, _ => False

theorem Fits.unput {n : Nat} {a : Act} {dst : Option Tmp} {v : Value} (hd : ∀ d, dst = some d → locked lk d = false) (h : Fits n ds lk (a.put dst v) []) : Fits n ds lk a [] := by
  cases dst with
  | none => exact h
  | some d =>
    have hl := hd d rfl
    refine ⟨by simpa [Act.put] using h.size, fun p hp => ?_, by simpa [Act.put] using h.defers, fun i v hv => by simp [Env.find] at hv⟩
    have h1 := h.kept p hp
    have h2 := locked_ne hl p hp
    simp only [Act.put, Array.getElem?_setIfInBounds] at h1
    rw [if_neg (fun e => h2 e.symm)] at h1
    exact h1

theorem wp_drawn {P : Program} {ops : Array Oper} {masks : List Nat} {order : Plan} (hm : P.follows .mixedOrders = true) (hok : orderOk P ops masks order = true) {Q : Exit → Act → World → Prop} {id : Nat} {a : Act} {w w0 : World} {n : Nat} {X : Value → Hp → Prop}
    (hfree : freeDst lk ops.toList = true) (hX : ∀ x a w, X x w.heap → Fits n ds lk a [] → Same w0 w → Q (.panic [{ v := x, recovered := false }]) a w)
    (h : sP P ops (panicsAs n ds lk w0 X Q) true (precOf masks) order [] a { w with drawn := w.drawn + 1 }) : (Code.region id ops true).wp P Q a w := by
  simp only [orderOk, Bool.and_eq_true] at hok
  obtain ⟨⟨⟨⟨⟨h1, h2⟩, h3⟩, h4⟩, h5⟩, h6⟩ := hok
  refine wp_mono (wp_region_any hm (Q := panicsAs n ds lk w0 X Q) ?_) ?_
  · refine wpAny_of_sP (drawn := true) (prec := precOf masks) (fun j o cs b ho => Region.noSelect_spec h1 j o cs b ho) rfl ?_ ?_ _ _ order [] a _ (by simp) ?_ ?_ (Nat.eq_of_beq_eq_true h3) (planB_spec h6) h
    · rintro i oi hoi c a w v ⟨x, e, hx, hf, hs⟩
      refine ⟨x, e, hx, hf.unput fun d hd => ?_, hs⟩
      have := List.all_eq_true.1 hfree oi (by simpa using List.mem_of_getElem? (l := ops.toList) (by simpa using hoi))
      rw [hd] at this
      simpa using this
    · have hs := maskOk_spec masks ops.toList 0 h2
      refine ⟨fun j o ho e he hb => ?_, fun i j o ho hp => ?_⟩
      · have := (hs j o (by simpa using ho)).1 e he hb; omega
      · exact (hs j o (by simpa using ho)).2 i (by simpa using hp)
    · intro k o ho hk
      exfalso
      simp [Array.getD_eq_getD_getElem?, Array.getElem?_replicate] at hk
      have hlt := (Array.getElem?_eq_some_iff.1 ho).1
      simp [hlt] at hk
    · intro i
      constructor
      · intro hi
        have := List.all_eq_true.1 h4 i hi
        have hlt : i < ops.size := by simp [Nat.blt] at this; omega
        exact ⟨hlt, by simp [Array.getD_eq_getD_getElem?, hlt]⟩
      · rintro ⟨hi, _⟩
        have := List.all_eq_true.1 h5 i (List.mem_range.2 hi)
        simpa using this
  · intro e a w hq
    cases e with
    | normal => exact hq
    | panic c =>
      obtain ⟨x, rfl, hx, hf, hs⟩ := hq
      exact hX x a w hx hf hs
    | _ => exact hq.elim
end Go.Wd
