/-
  A region of operations: one order serves for every order that its edges allow.
-/
import Derived.Test.YtmldiibfmhkgjaaWdEff
namespace Go.Wd
set_option linter.unusedSimpArgs false
set_option linter.unusedVariables false
open Go Go.RowKit
variable {lk : Lock} {ds : List Deferred}

section
variable (P : Program) (ops : Array Oper) (Q : Exit → Act → World → Prop) (drawn : Bool) (prec : Nat → Nat → Bool) (B : List (Nat × Fact) → Act → World → Prop)

def Held (F : List (Nat × Fact)) (i : Nat) (w : World) : Prop := ∀ p ∈ F, prec p.1 i = false → p.2 w.heap

def Holds (fs : List Fact) (w : World) : Prop := ∀ f ∈ fs, f w.heap

def isEff (i : Nat) : Bool := match ops[i]? with
  | some o => !isQuiet o.op
  | none => false

/-- What is left of a region, in one order: the quiet operations yield, the others come one by one and leave alone what was read besides. -/
def sG : List Nat → List (Nat × Fact) → Act → World → Prop
  | [], F, a, w => B F a w
  | i :: r, F, a, w => ∃ o, ops[i]? = some o ∧
      ((∃ v fs, Holds fs w ∧ YieldsIf P ops (Holds fs) o v a ∧ sG r (F ++ fs.map fun f => (i, f)) (a.put o.dst v) w) ∨
       (isEff ops i = true ∧ wpOp P ops Q i (fun a' w' => (drawn = true → Held prec F i w') ∧ sG r F a' w') a w))
end

/-- The end of a region: what is owed behind it. -/
def endQ (Q : Exit → Act → World → Prop) : List (Nat × Fact) → Act → World → Prop := fun _ a w => Q .normal a w
def BMono (B : List (Nat × Fact) → Act → World → Prop) : Prop := ∀ F F' a w, (∀ p ∈ F, p ∈ F') → B F' a w → B F a w
theorem endQ_mono (Q : Exit → Act → World → Prop) : BMono (endQ Q) := fun _ _ _ _ _ h => h

section
variable {P : Program} {ops : Array Oper} {Q : Exit → Act → World → Prop} {drawn : Bool} {prec : Nat → Nat → Bool} {B : List (Nat × Fact) → Act → World → Prop}

theorem sG_mono (hB : BMono B) : ∀ (r : List Nat) (F F' : List (Nat × Fact)) (a : Act) (w : World), (∀ p ∈ F, p ∈ F') → sG P ops Q drawn prec B r F' a w → sG P ops Q drawn prec B r F a w
  | [], F, F', a, w, hF, h => hB F F' a w hF h
  | i :: r, F, F', a, w, hF, ⟨o, ho, h⟩ => by
    refine ⟨o, ho, ?_⟩
    rcases h with ⟨v, fs, h1, h2, h3⟩ | ⟨he, h⟩
    · refine .inl ⟨v, fs, h1, h2, sG_mono hB r _ _ _ _ (fun p hp => ?_) h3⟩
      rcases List.mem_append.1 hp with hp | hp
      · exact List.mem_append.2 (.inl (hF p hp))
      · exact List.mem_append.2 (.inr hp)
    · exact .inr ⟨he, wpOp_mono (fun a' w' ⟨h1, h2⟩ => ⟨fun hd p hp => h1 hd p (hF p hp), sG_mono hB r _ _ _ _ hF h2⟩) h⟩

/-- In the order itself it is what the machine does. -/
theorem wpOps_of_sG : ∀ (r : List Nat) (F : List (Nat × Fact)) (a : Act) (w : World), sG P ops Q drawn prec (endQ Q) r F a w → wpOps P ops Q r a w
  | [], _, _, _, h => by simpa [wpOps, sG, endQ] using h
  | i :: r, F, a, w, ⟨o, ho, h⟩ => by
    rw [wpOps_cons]
    rcases h with ⟨v, fs, h1, h2, h3⟩ | ⟨he, h⟩
    · exact h2.wpOp ho h1 (wpOps_of_sG r _ _ _ h3)
    · exact wpOp_mono (fun a' w' ⟨_, h2⟩ => wpOps_of_sG r _ _ _ h2) h

/-- What two operations that come in either order owe each other. -/
def Pair (ops : Array Oper) (prec : Nat → Nat → Bool) (i j : Nat) : Prop :=
  i ≠ j ∧ (isEff ops i = true → prec i j = true) ∧ (prec i j = false → ∀ oi oj, ops[i]? = some oi → ops[j]? = some oj → oi.apart ops oj = true)

def NoSelect (ops : Array Oper) : Prop := ∀ (j : Nat) (o : Oper) cs b, ops[j]? = some o → o.op ≠ .select cs b

theorem apart_symm {x y : Oper} (h : x.apart ops y = true) : y.apart ops x = true := by
  obtain ⟨h1, h2, h3⟩ := Oper.apart_spec h
  unfold Oper.apart
  cases hx : x.dst <;> cases hy : y.dst <;> simp_all
  exact fun e => h2 e.symm

/-- A quiet operation whose turn may have come is taken first. -/
theorem sG_front (hB : BMono B) (hns : NoSelect ops) {j : Nat} (hj : isEff ops j = false) {r : List Nat} : ∀ (L : List Nat) (F : List (Nat × Fact)) (a : Act) (w : World),
    (∀ i ∈ L, isEff ops i = false) → (∀ i ∈ L, ∀ oi oj, ops[i]? = some oi → ops[j]? = some oj → oi.apart ops oj = true) →
    sG P ops Q drawn prec B (L ++ j :: r) F a w →
    ∃ o v fs, ops[j]? = some o ∧ Holds fs w ∧ YieldsIf P ops (Holds fs) o v a ∧ sG P ops Q drawn prec B (L ++ r) F (a.put o.dst v) w
  | [], F, a, w, _, _, ⟨o, ho, h⟩ => by
    rcases h with ⟨v, fs, h1, h2, h3⟩ | ⟨he, h⟩
    · exact ⟨o, v, fs, ho, h1, h2, sG_mono hB _ _ _ _ _ (fun p hp => List.mem_append.2 (.inl hp)) h3⟩
    · rw [hj] at he; cases he
  | i :: L, F, a, w, hL, hap, ⟨oi, hoi, h⟩ => by
    rcases h with ⟨v, fs, h1, h2, h3⟩ | ⟨he, h⟩
    · obtain ⟨oj, u, gs, hoj, g1, g2, g3⟩ := sG_front hB hns hj L _ _ _ (fun k hk => hL k (List.mem_cons_of_mem _ hk)) (fun k hk => hap k (List.mem_cons_of_mem _ hk)) h3
      have hapij := hap i List.mem_cons_self oi oj hoi hoj
      obtain ⟨q1, q2, q3⟩ := Oper.apart_spec hapij
      have hsi : ∀ cs b, oi.op ≠ .select cs b := fun cs b => hns i oi cs b hoi
      have hsj : ∀ cs b, oj.op ≠ .select cs b := fun cs b => hns j oj cs b hoj
      have yj : YieldsIf P ops (Holds gs) oj u a := by
        refine g2.of_same ?_ ?_
        · rw [execOp_put oj hsj a oi.dst v q1]
        · rw [wanted_put oj a oi.dst v q1]
      have yi : YieldsIf P ops (Holds fs) oi v (a.put oj.dst u) := by
        refine h2.of_same ?_ ?_
        · rw [execOp_put oi hsi a oj.dst u q3]
        · rw [wanted_put oi a oj.dst u q3]
      refine ⟨oj, u, gs, hoj, g1, yj, oi, hoi, .inl ⟨v, fs, h1, yi, ?_⟩⟩
      rw [← Act.put_comm a v u q2]
      exact g3
    · rw [hL i List.mem_cons_self] at he; cases he

/-- An operation with an effect may come ahead of quiet ones that do not wait for it. -/
theorem sG_delay (hB : BMono B) (hns : NoSelect ops) (hdr : drawn = true) (hQ : ∀ (i : Nat) (oi : Oper), ops[i]? = some oi → ∀ c a w v, Q (.panic c) (a.put oi.dst v) w → Q (.panic c) a w) {j : Nat} {r : List Nat} : ∀ (L : List Nat) (F G : List (Nat × Fact)) (a : Act) (w : World),
    (∀ i ∈ L, isEff ops i = false) → (∀ i ∈ L, prec i j = false ∧ ∀ oi oj, ops[i]? = some oi → ops[j]? = some oj → oi.apart ops oj = true) →
    (∀ p ∈ G, p ∈ F ∧ prec p.1 j = false ∧ p.2 w.heap) → sG P ops Q drawn prec B (L ++ j :: r) F a w →
    wpOp P ops Q j (fun a' w' => (∀ p ∈ G, p.2 w'.heap) ∧ sG P ops Q drawn prec B (L ++ r) F a' w') a w
  | [], F, G, a, w, _, _, hG, ⟨o, ho, h⟩ => by
    rcases h with ⟨v, fs, h1, h2, h3⟩ | ⟨he, h⟩
    · exact h2.wpOp ho h1 ⟨fun p hp => (hG p hp).2.2, sG_mono hB _ _ _ _ _ (fun p hp => List.mem_append.2 (.inl hp)) h3⟩
    · exact wpOp_mono (fun a' w' ⟨k1, k2⟩ => ⟨fun p hp => k1 hdr p (hG p hp).1 (hG p hp).2.1, k2⟩) h
  | i :: L, F, G, a, w, hL, hap, hG, ⟨oi, hoi, h⟩ => by
    rcases h with ⟨v, fs, h1, h2, h3⟩ | ⟨he, h⟩
    · have hij := hap i List.mem_cons_self
      have ih := sG_delay hB hns hdr hQ L (F ++ fs.map fun f => (i, f)) (G ++ fs.map fun f => (i, f)) (a.put oi.dst v) w
        (fun k hk => hL k (List.mem_cons_of_mem _ hk)) (fun k hk => hap k (List.mem_cons_of_mem _ hk))
        (by
          intro p hp
          rcases List.mem_append.1 hp with hp | hp
          · exact ⟨List.mem_append.2 (.inl (hG p hp).1), (hG p hp).2⟩
          · obtain ⟨f, hf, rfl⟩ := List.mem_map.1 hp
            exact ⟨List.mem_append.2 (.inr hp), hij.1, h1 f hf⟩) h3
      have hsi : ∀ cs b, oi.op ≠ .select cs b := fun cs b => hns i oi cs b hoi
      cases hoj : ops[j]? with
      | none =>
        unfold wpOp at ih ⊢
        simp only [hoj] at ih ⊢
        refine ⟨fun p hp => ih.1 p (List.mem_append.2 (.inl hp)), oi, hoi, .inl ⟨v, fs, fun f hf => ih.1 _ (List.mem_append.2 (.inr (List.mem_map.2 ⟨f, hf, rfl⟩))), h2, ih.2⟩⟩
      | some oj =>
        have hsj : ∀ cs b, oj.op ≠ .select cs b := fun cs b => hns j oj cs b hoj
        have key := wpOp_putIf (P := P) (Q := Q) (S := Holds fs) hoj (hij.2 oi oj hoi hoj) hsi hsj (fun c a w h => hQ i oi hoi c a w v h) h2 ih
        refine wpOp_mono (fun a' w' ⟨y, k1, k2⟩ => ?_) key
        exact ⟨fun p hp => k1 p (List.mem_append.2 (.inl hp)), oi, hoi, .inl ⟨v, fs, fun f hf => k1 _ (List.mem_append.2 (.inr (List.mem_map.2 ⟨f, hf, rfl⟩))), y, k2⟩⟩
    · rw [hL i List.mem_cons_self] at he; cases he

/-- Every operation that has come up, all that it waited for has come up before it. -/
def Closed (ops : Array Oper) (listed : Array Bool) : Prop :=
  ∀ k o, ops[k]? = some o → listed.getD k true = true → ∀ e ∈ o.after, Region.binds .any e = true → listed.getD e.on false = true

structure PrecOk (ops : Array Oper) (prec : Nat → Nat → Bool) : Prop where
  back : ∀ j o, ops[j]? = some o → ∀ e ∈ o.after, Region.binds .any e = true → e.on < j
  step : ∀ i j o, ops[j]? = some o → prec i j = true → ∃ e ∈ o.after, Region.binds .any e = true ∧ (i = e.on ∨ prec i e.on = true)

theorem listed_of_prec {listed : Array Bool} (hp : PrecOk ops prec) (hc : Closed ops listed) (hsz : listed.size = ops.size) : ∀ (j : Nat) (i : Nat) (o : Oper), ops[j]? = some o →
    (∀ e ∈ o.after, Region.binds .any e = true → listed.getD e.on false = true) → prec i j = true → listed.getD i false = true := by
  intro j
  induction j using Nat.strongRecOn with
  | _ j ih =>
    intro i o ho hr hpr
    obtain ⟨e, he, hb, h⟩ := hp.step i j o ho hpr
    have hl := hr e he hb
    rcases h with rfl | h
    · exact hl
    · have hlt := hp.back j o ho e he hb
      have hjs : j < ops.size := (Array.getElem?_eq_some_iff.1 ho).1
      have ho' : ops[e.on]? = some (ops[e.on]'(by omega)) := Array.getElem?_eq_getElem _
      refine ih e.on hlt i _ ho' ?_ h
      refine hc e.on _ ho' ?_
      simp only [Array.getD_eq_getD_getElem?] at hl ⊢
      rw [Array.getElem?_eq_getElem (by omega)] at hl ⊢
      simpa using hl

theorem mem_ready {listed : Array Bool} {j : Nat} : j ∈ Region.ready .any ops listed ↔ j < ops.size ∧ listed.getD j true = false ∧ ∃ o, ops[j]? = some o ∧ ∀ e ∈ o.after, Region.binds .any e = true → listed.getD e.on false = true := by
  unfold Region.ready
  simp only [List.mem_filter, List.mem_range, Bool.and_eq_true, Bool.not_eq_true']
  constructor
  · rintro ⟨h1, h2, h3⟩
    have ho : ops[j]? = some (ops[j]'h1) := Array.getElem?_eq_getElem _
    refine ⟨h1, h2, _, ho, ?_⟩
    rw [ho] at h3
    simp only [Option.map_some, Option.getD_some] at h3
    intro e he hb
    have := Array.all_eq_true_iff_forall_mem.1 h3 e he
    simpa [hb] using this
  · rintro ⟨h1, h2, o, ho, h3⟩
    refine ⟨h1, h2, ?_⟩
    rw [ho]
    simp only [Option.map_some, Option.getD_some]
    refine Array.all_eq_true_iff_forall_mem.2 fun e he => ?_
    cases hb : Region.binds .any e
    · simp
    · simp [h3 e he hb]

theorem wpAny_of_sG (hns : NoSelect ops) (hdr : drawn = true) (hQ : ∀ (i : Nat) (oi : Oper), ops[i]? = some oi → ∀ c a w v, Q (.panic c) (a.put oi.dst v) w → Q (.panic c) a w) (hp : PrecOk ops prec) : ∀ (fuel : Nat) (listed : Array Bool) (r : List Nat) (F : List (Nat × Fact)) (a : Act) (w : World),
    listed.size = ops.size → Closed ops listed → (∀ i, i ∈ r ↔ i < ops.size ∧ listed.getD i true = false) → r.length = fuel → r.Pairwise (Pair ops prec) →
    sG P ops Q drawn prec (endQ Q) r F a w → wpAny P .any ops Q fuel listed a w := by
  intro fuel
  induction fuel with
  | zero =>
    intro listed r F a w hsz hc hr hl _ h
    obtain rfl := List.eq_nil_of_length_eq_zero hl
    refine ⟨?_, h⟩
    apply List.eq_nil_iff_forall_not_mem.2
    intro j hj
    obtain ⟨h1, h2, _⟩ := mem_ready.1 hj
    exact List.not_mem_nil ((hr j).2 ⟨h1, h2⟩)
  | succ fuel ih =>
    intro listed r F a w hsz hc hr hl hpw h
    refine ⟨fun hnone => ?_, fun j hj => ?_⟩
    · -- the least that is left is ready
      exfalso
      obtain ⟨m, hm, hmin⟩ : ∃ m ∈ r, ∀ k ∈ r, m ≤ k := by
        have : r ≠ [] := by intro e; subst e; simp at hl
        obtain ⟨m, hm⟩ := List.exists_mem_of_ne_nil r this
        have key : ∀ n, ∀ m ∈ r, m = n → ∃ m ∈ r, ∀ k ∈ r, m ≤ k := by
          intro n
          induction n using Nat.strongRecOn with
          | _ n ih2 =>
            rintro m hm rfl
            by_cases hx : ∀ k ∈ r, m ≤ k
            · exact ⟨m, hm, hx⟩
            · obtain ⟨k, hx⟩ := Classical.not_forall.1 hx
              obtain ⟨hk, hlt⟩ := Classical.not_imp.1 hx
              exact ih2 k (Nat.lt_of_not_le hlt) k hk rfl
        exact key m m hm rfl
      obtain ⟨h1, h2⟩ := (hr m).1 hm
      have ho : ops[m]? = some (ops[m]'h1) := Array.getElem?_eq_getElem _
      have : m ∈ Region.ready .any ops listed := mem_ready.2 ⟨h1, h2, _, ho, fun e he hb => by
        have hlt := hp.back m _ ho e he hb
        have hnot : e.on ∉ r := fun hin => by have := hmin _ hin; omega
        have hne : ¬ (e.on < ops.size ∧ listed.getD e.on true = false) := fun hh => hnot ((hr e.on).2 hh)
        have hlt2 : e.on < listed.size := by omega
        simp only [Array.getD_eq_getD_getElem?, Array.getElem?_eq_getElem hlt2, Option.getD_some] at hne ⊢
        cases hv : listed[e.on]
        · exact absurd ⟨by omega, hv⟩ hne
        · rfl⟩
      rw [hnone] at this
      exact List.not_mem_nil this
    · obtain ⟨h1, h2, o, ho, hrd⟩ := mem_ready.1 hj
      have hjr : j ∈ r := (hr j).2 ⟨h1, h2⟩
      obtain ⟨A, B, rfl⟩ := List.append_of_mem hjr
      have hpw' := List.pairwise_append.1 hpw
      have hA : ∀ i ∈ A, Pair ops prec i j := fun i hi => hpw'.2.2 i hi j List.mem_cons_self
      have hnp : ∀ i ∈ A, prec i j = false := by
        intro i hi
        cases hpr : prec i j
        · rfl
        · have hin := (hr i).1 (List.mem_append.2 (.inl hi))
          have hlist := listed_of_prec hp hc hsz j i o ho hrd hpr
          have hlt2 : i < listed.size := by omega
          simp only [Array.getD_eq_getD_getElem?, Array.getElem?_eq_getElem hlt2, Option.getD_some] at hlist hin
          rw [hlist] at hin
          exact absurd hin.2 (by simp)
      have hAq : ∀ i ∈ A, isEff ops i = false := by
        intro i hi
        cases he : isEff ops i
        · rfl
        · have := (hA i hi).2.1 he; rw [hnp i hi] at this; cases this
      have hap : ∀ i ∈ A, ∀ oi oj, ops[i]? = some oi → ops[j]? = some oj → oi.apart ops oj = true := fun i hi => (hA i hi).2.2 (hnp i hi)
      have next : ∀ a' w', sG P ops Q drawn prec (endQ Q) (A ++ B) F a' w' → wpAny P .any ops Q fuel (listed.setIfInBounds j true) a' w' := by
        intro a' w' hs
        have hjl : j < listed.size := by omega
        refine ih _ (A ++ B) F a' w' (by simp [hsz]) ?_ ?_ (by simp at hl ⊢; omega) ?_ hs
        · intro k o' ho' hk e he hb
          have hke : listed.getD e.on false = true := by
            by_cases hkj : k = j
            · subst hkj
              rw [ho] at ho'
              cases ho'
              exact hrd e he hb
            · refine hc k o' ho' ?_ e he hb
              simp only [Array.getD_eq_getD_getElem?, Array.getElem?_setIfInBounds] at hk ⊢
              rw [if_neg (fun q => hkj q.symm)] at hk
              exact hk
          simp only [Array.getD_eq_getD_getElem?, Array.getElem?_setIfInBounds] at hke ⊢
          split
          · simp [hjl]
          · exact hke
        · intro i
          have hri := hr i
          have hnd : ∀ i ∈ A ++ B, i ≠ j := by
            intro i hi e
            rcases List.mem_append.1 hi with hi | hi
            · exact (hA i hi).1 e
            · have := (List.pairwise_cons.1 hpw'.2.1).1 i hi
              exact this.1 e.symm
          simp only [Array.getD_eq_getD_getElem?, Array.getElem?_setIfInBounds]
          constructor
          · intro hi
            have hne := hnd i hi
            have hin := hri.1 ((List.mem_append.1 hi).elim (fun hi => List.mem_append.2 (.inl hi)) (fun hi => List.mem_append.2 (.inr (List.mem_cons_of_mem _ hi))))
            rw [if_neg (fun q => hne q.symm)]
            simpa [Array.getD_eq_getD_getElem?] using hin
          · rintro ⟨hi1, hi2⟩
            by_cases hij : j = i
            · subst hij
              rw [if_pos rfl, if_pos hjl] at hi2
              simp at hi2
            · rw [if_neg hij] at hi2
              have hin := hri.2 ⟨hi1, by simpa [Array.getD_eq_getD_getElem?] using hi2⟩
              rcases List.mem_append.1 hin with hi | hi
              · exact List.mem_append.2 (.inl hi)
              · rcases List.mem_cons.1 hi with rfl | hi
                · exact absurd rfl hij
                · exact List.mem_append.2 (.inr hi)
        · refine List.pairwise_append.2 ⟨hpw'.1, (List.pairwise_cons.1 hpw'.2.1).2, fun x hx y hy => hpw'.2.2 x hx y (List.mem_cons_of_mem _ hy)⟩
      cases he : isEff ops j
      · obtain ⟨oj, v, fs, hoj, g1, g2, g3⟩ := sG_front (endQ_mono Q) hns he A F a w hAq hap h
        exact g2.wpOp hoj g1 (next _ _ g3)
      · have hd := sG_delay (endQ_mono Q) hns hdr hQ A F [] a w hAq (fun i hi => ⟨hnp i hi, hap i hi⟩) (by simp) h
        exact wpOp_mono (fun a' w' hh => next _ _ hh.2) hd
end


/-! ## Plans: where two operations with an effect come in either order -/
inductive Plan where
  | leaf (l : List Nat)
  | one (l : List Nat) (i : Nat) (p : Plan)
  | fork (l : List Nat) (i : Nat) (p : Plan) (j : Nat) (q : Plan)

def Plan.all : Plan → List Nat
  | .leaf l => l
  | .one l i p => l ++ i :: p.all
  | .fork l i p _ _ => l ++ i :: p.all

def Plan.pre (m : List Nat) : Plan → Plan
  | .leaf l => .leaf (m ++ l)
  | .one l i p => .one (m ++ l) i p
  | .fork l i p j q => .fork (m ++ l) i p j q

theorem Plan.all_pre (m : List Nat) (p : Plan) : (p.pre m).all = m ++ p.all := by
  cases p <;> simp [Plan.pre, Plan.all]

section
variable (P : Program) (ops : Array Oper) (Q : Exit → Act → World → Prop) (drawn : Bool) (prec : Nat → Nat → Bool)
def sP : Plan → List (Nat × Fact) → Act → World → Prop
  | .leaf l => sG P ops Q drawn prec (endQ Q) l
  | .one l i p => sG P ops Q drawn prec (sG P ops Q drawn prec (sP p) [i]) l
  | .fork l i p j q => sG P ops Q drawn prec (fun F a w => sG P ops Q drawn prec (sP p) [i] F a w ∧ sG P ops Q drawn prec (sP q) [j] F a w) l
end

section
variable {P : Program} {ops : Array Oper} {Q : Exit → Act → World → Prop} {drawn : Bool} {prec : Nat → Nat → Bool}
theorem sG_base {B B' : List (Nat × Fact) → Act → World → Prop} (hB : ∀ F a w, B F a w → B' F a w) : ∀ (l : List Nat) (F : List (Nat × Fact)) (a : Act) (w : World), sG P ops Q drawn prec B l F a w → sG P ops Q drawn prec B' l F a w
  | [], F, a, w, h => hB F a w h
  | i :: r, F, a, w, ⟨o, ho, h⟩ => by
    refine ⟨o, ho, ?_⟩
    rcases h with ⟨v, fs, h1, h2, h3⟩ | ⟨he, h⟩
    · exact .inl ⟨v, fs, h1, h2, sG_base hB r _ _ _ h3⟩
    · exact .inr ⟨he, wpOp_mono (fun a' w' ⟨h1, h2⟩ => ⟨h1, sG_base hB r _ _ _ h2⟩) h⟩
theorem sG_append {B : List (Nat × Fact) → Act → World → Prop} {r : List Nat} : ∀ (l : List Nat) (F : List (Nat × Fact)) (a : Act) (w : World), sG P ops Q drawn prec (sG P ops Q drawn prec B r) l F a w ↔ sG P ops Q drawn prec B (l ++ r) F a w
  | [], F, a, w => Iff.rfl
  | i :: l, F, a, w => by
    constructor
    · rintro ⟨o, ho, h⟩
      refine ⟨o, ho, ?_⟩
      rcases h with ⟨v, fs, h1, h2, h3⟩ | ⟨he, h⟩
      · exact .inl ⟨v, fs, h1, h2, (sG_append l _ _ _).1 h3⟩
      · exact .inr ⟨he, wpOp_mono (fun a' w' ⟨h1, h2⟩ => ⟨h1, (sG_append l _ _ _).1 h2⟩) h⟩
    · rintro ⟨o, ho, h⟩
      refine ⟨o, ho, ?_⟩
      rcases h with ⟨v, fs, h1, h2, h3⟩ | ⟨he, h⟩
      · exact .inl ⟨v, fs, h1, h2, (sG_append l _ _ _).2 h3⟩
      · exact .inr ⟨he, wpOp_mono (fun a' w' ⟨h1, h2⟩ => ⟨h1, (sG_append l _ _ _).2 h2⟩) h⟩
theorem sP_mono : ∀ (p : Plan), BMono (sP P ops Q drawn prec p)
  | .leaf l => fun F F' a w hF h => sG_mono (endQ_mono Q) l F F' a w hF h
  | .one l i p => fun F F' a w hF h => sG_mono (fun F F' a w hF h => sG_mono (sP_mono p) [i] F F' a w hF h) l F F' a w hF h
  | .fork l i p j q => fun F F' a w hF h => sG_mono (fun F F' a w hF h => ⟨sG_mono (sP_mono p) [i] F F' a w hF h.1, sG_mono (sP_mono q) [j] F F' a w hF h.2⟩) l F F' a w hF h
theorem sP_pre (m : List Nat) (p : Plan) (F : List (Nat × Fact)) (a : Act) (w : World) : sG P ops Q drawn prec (sP P ops Q drawn prec p) m F a w ↔ sP P ops Q drawn prec (p.pre m) F a w := by
  cases p <;> exact sG_append m F a w

/-- What a plan owes besides: each operation once, and what is told of those that come in either order. -/
def PlanOk (ops : Array Oper) (prec : Nat → Nat → Bool) : Plan → Prop
  | .leaf l => l.Pairwise (Pair ops prec)
  | .one l i p => (∀ x ∈ l, isEff ops x = false) ∧ isEff ops i = true ∧ l.Pairwise (Pair ops prec) ∧ (∀ x ∈ l, ∀ y ∈ i :: p.all, Pair ops prec x y) ∧ (∀ x ∈ p.all, prec i x = true) ∧ i ∉ p.all ∧ PlanOk ops prec p
  | .fork l i p j q => (∀ x ∈ l, isEff ops x = false) ∧ isEff ops i = true ∧ isEff ops j = true ∧ l.Pairwise (Pair ops prec) ∧ (∀ x ∈ l, ∀ y ∈ i :: p.all, Pair ops prec x y) ∧
      (∀ x ∈ p.all, x = j ∨ prec i x = true ∨ prec j x = true) ∧ (∀ x, x ∈ i :: p.all ↔ x ∈ j :: q.all) ∧ i ∉ p.all ∧ j ∉ q.all ∧ p.all.length = q.all.length ∧ PlanOk ops prec p ∧ PlanOk ops prec q

theorem PlanOk.pre {m : List Nat} : ∀ {p : Plan}, PlanOk ops prec p → (∀ x ∈ m, isEff ops x = false) → m.Pairwise (Pair ops prec) → (∀ x ∈ m, ∀ y ∈ p.all, Pair ops prec x y) → PlanOk ops prec (p.pre m)
  | .leaf l, h, h1, h2, h3 => List.pairwise_append.2 ⟨h2, h, fun x hx y hy => h3 x hx y hy⟩
  | .one l i p, ⟨a1, a2, a3, a4, a5, a6, a7⟩, h1, h2, h3 => by
    refine ⟨fun x hx => (List.mem_append.1 hx).elim (h1 x) (a1 x), a2, List.pairwise_append.2 ⟨h2, a3, fun x hx y hy => h3 x hx y (List.mem_append.2 (.inl hy))⟩, fun x hx y hy => ?_, a5, a6, a7⟩
    rcases List.mem_append.1 hx with hx | hx
    · exact h3 x hx y (List.mem_append.2 (.inr hy))
    · exact a4 x hx y hy
  | .fork l i p j q, ⟨a1, a2, a3, a4, a5, a6, a7, a8, a9, b1, b2, b3⟩, h1, h2, h3 => by
    refine ⟨fun x hx => (List.mem_append.1 hx).elim (h1 x) (a1 x), a2, a3, List.pairwise_append.2 ⟨h2, a4, fun x hx y hy => h3 x hx y (List.mem_append.2 (.inl hy))⟩, fun x hx y hy => ?_, a6, a7, a8, a9, b1, b2, b3⟩
    rcases List.mem_append.1 hx with hx | hx
    · exact h3 x hx y (List.mem_append.2 (.inr hy))
    · exact a5 x hx y hy

theorem Pair.sub {l : List Nat} (h : l.Pairwise (Pair ops prec)) {A B : List Nat} {j : Nat} (e : l = A ++ j :: B) : (A ++ B).Pairwise (Pair ops prec) := by
  subst e
  have := List.pairwise_append.1 h
  exact List.pairwise_append.2 ⟨this.1, (List.pairwise_cons.1 this.2.1).2, fun x hx y hy => this.2.2 x hx y (List.mem_cons_of_mem _ hy)⟩

/-- The least operation that is left is ready. -/
theorem ready_ne {listed : Array Bool} {r : List Nat} (hp : PrecOk ops prec) (hsz : listed.size = ops.size) (hr : ∀ i, i ∈ r ↔ i < ops.size ∧ listed.getD i true = false) (hne : r ≠ []) (hnone : Region.ready .any ops listed = []) : False := by
  obtain ⟨m, hm, hmin⟩ : ∃ m ∈ r, ∀ k ∈ r, m ≤ k := by
    obtain ⟨m, hm⟩ := List.exists_mem_of_ne_nil r hne
    have key : ∀ n, ∀ m ∈ r, m = n → ∃ m ∈ r, ∀ k ∈ r, m ≤ k := by
      intro n
      induction n using Nat.strongRecOn with
      | _ n ih2 =>
        rintro m hm rfl
        by_cases hx : ∀ k ∈ r, m ≤ k
        · exact ⟨m, hm, hx⟩
        · obtain ⟨k, hx⟩ := Classical.not_forall.1 hx
          obtain ⟨hk, hlt⟩ := Classical.not_imp.1 hx
          exact ih2 k (Nat.lt_of_not_le hlt) k hk rfl
    exact key m m hm rfl
  obtain ⟨h1, h2⟩ := (hr m).1 hm
  have ho : ops[m]? = some (ops[m]'h1) := Array.getElem?_eq_getElem _
  have : m ∈ Region.ready .any ops listed := mem_ready.2 ⟨h1, h2, _, ho, fun e he hb => by
    have hlt := hp.back m _ ho e he hb
    have hnot : e.on ∉ r := fun hin => by have := hmin _ hin; omega
    have hne : ¬ (e.on < ops.size ∧ listed.getD e.on true = false) := fun hh => hnot ((hr e.on).2 hh)
    have hlt2 : e.on < listed.size := by omega
    simp only [Array.getD_eq_getD_getElem?, Array.getElem?_eq_getElem hlt2, Option.getD_some] at hne ⊢
    cases hv : listed[e.on]
    · exact absurd ⟨by omega, hv⟩ hne
    · rfl⟩
  rw [hnone] at this
  exact List.not_mem_nil this

theorem closed_set {listed : Array Bool} {j : Nat} {o : Oper} (hsz : listed.size = ops.size) (hc : Closed ops listed) (h1 : j < ops.size) (ho : ops[j]? = some o)
    (hrd : ∀ e ∈ o.after, Region.binds .any e = true → listed.getD e.on false = true) : Closed ops (listed.setIfInBounds j true) := by
  intro k o' ho' hk e he hb
  have hjl : j < listed.size := by omega
  have hke : listed.getD e.on false = true := by
    by_cases hkj : k = j
    · subst hkj
      rw [ho] at ho'
      cases ho'
      exact hrd e he hb
    · refine hc k o' ho' ?_ e he hb
      simp only [Array.getD_eq_getD_getElem?, Array.getElem?_setIfInBounds] at hk ⊢
      rw [if_neg (fun q => hkj q.symm)] at hk
      exact hk
  simp only [Array.getD_eq_getD_getElem?, Array.getElem?_setIfInBounds] at hke ⊢
  split
  · simp [hjl]
  · exact hke

theorem mem_set {listed : Array Bool} {j : Nat} {r s : List Nat} (hsz : listed.size = ops.size) (h1 : j < ops.size) (hr : ∀ i, i ∈ r ↔ i < ops.size ∧ listed.getD i true = false)
    (hs : ∀ i, i ∈ s ↔ i ∈ r ∧ i ≠ j) (i : Nat) : i ∈ s ↔ i < ops.size ∧ (listed.setIfInBounds j true).getD i true = false := by
  have hjl : j < listed.size := by omega
  rw [hs, hr]
  simp only [Array.getD_eq_getD_getElem?, Array.getElem?_setIfInBounds]
  by_cases hij : j = i
  · subst hij
    simp [hjl]
  · rw [if_neg hij]
    constructor
    · rintro ⟨h, _⟩; exact h
    · intro h; exact ⟨h, fun e => hij e.symm⟩

theorem wpAny_of_sP (hns : NoSelect ops) (hdr : drawn = true) (hQ : ∀ (i : Nat) (oi : Oper), ops[i]? = some oi → ∀ c a w v, Q (.panic c) (a.put oi.dst v) w → Q (.panic c) a w) (hp : PrecOk ops prec) :
    ∀ (fuel : Nat) (listed : Array Bool) (p : Plan) (F : List (Nat × Fact)) (a : Act) (w : World),
    listed.size = ops.size → Closed ops listed → (∀ i, i ∈ p.all ↔ i < ops.size ∧ listed.getD i true = false) → p.all.length = fuel → PlanOk ops prec p →
    sP P ops Q drawn prec p F a w → wpAny P .any ops Q fuel listed a w := by
  intro fuel
  induction fuel with
  | zero =>
    intro listed p F a w hsz hc hr hl hok h
    cases p with
    | leaf l => exact wpAny_of_sG hns hdr hQ hp 0 listed l F a w hsz hc hr hl hok h
    | one l i p => simp [Plan.all] at hl
    | fork l i p j q => simp [Plan.all] at hl
  | succ fuel ih =>
    intro listed p F a w hsz hc hr hl hok h
    -- what is not ready: what waits for one that is left
    have waits : ∀ {i x : Nat} {o : Oper}, i ∈ p.all → ops[x]? = some o → (∀ e ∈ o.after, Region.binds .any e = true → listed.getD e.on false = true) → prec i x = true → False := by
      intro i x o hi ho hrd hpr
      have hlist := listed_of_prec hp hc hsz x i o ho hrd hpr
      have hin := (hr i).1 hi
      have hlt2 : i < listed.size := by omega
      simp only [Array.getD_eq_getD_getElem?, Array.getElem?_eq_getElem hlt2, Option.getD_some] at hlist hin
      rw [hlist] at hin
      exact absurd hin.2 (by simp)
    -- quiet ones that lie ahead, an effect behind
    have quietAt : ∀ {B : List (Nat × Fact) → Act → World → Prop} {l : List Nat} {x : Nat} {o : Oper}, BMono B → (∀ y ∈ l, isEff ops y = false) → l.Pairwise (Pair ops prec) → (∀ y ∈ l, y ∈ p.all) → ops[x]? = some o → (∀ e ∈ o.after, Region.binds .any e = true → listed.getD e.on false = true) → x ∈ l →
        sG P ops Q drawn prec B l F a w → ∃ A C, l = A ++ x :: C ∧ ∃ o v fs, ops[x]? = some o ∧ Holds fs w ∧ YieldsIf P ops (Holds fs) o v a ∧ sG P ops Q drawn prec B (A ++ C) F (a.put o.dst v) w := by
      intro B l x o hB hq hpw hin ho hrd hx hs
      obtain ⟨A, C, rfl⟩ := List.append_of_mem hx
      have hpw' := List.pairwise_append.1 hpw
      refine ⟨A, C, rfl, sG_front hB hns (hq x hx) A F a w (fun y hy => hq y (List.mem_append.2 (.inl hy))) (fun y hy => ?_) hs⟩
      have hpair := hpw'.2.2 y hy x List.mem_cons_self
      refine hpair.2.2 ?_
      cases hpr : prec y x
      · rfl
      · exact (waits (hin y (List.mem_append.2 (.inl hy))) ho hrd hpr).elim
    have effAt : ∀ {B : List (Nat × Fact) → Act → World → Prop} {l : List Nat} {x : Nat} {o : Oper}, BMono B → (∀ y ∈ l, isEff ops y = false) → (∀ y ∈ l, Pair ops prec y x) → (∀ y ∈ l, y ∈ p.all) → ops[x]? = some o → (∀ e ∈ o.after, Region.binds .any e = true → listed.getD e.on false = true) →
        sG P ops Q drawn prec (sG P ops Q drawn prec B [x]) l F a w → wpOp P ops Q x (fun a' w' => sG P ops Q drawn prec B l F a' w') a w := by
      intro B l x o hB hq hpw hin ho hrd hs
      rw [sG_append] at hs
      have := sG_delay hB hns hdr hQ l F [] a w hq (fun y hy => ?_) (by simp) hs
      · exact wpOp_mono (fun a' w' hh => by simpa using hh.2) this
      · have hpr : prec y x = false := by
          cases hpr : prec y x
          · rfl
          · exact (waits (hin y hy) ho hrd hpr).elim
        exact ⟨hpr, (hpw y hy).2.2 hpr⟩
    cases p with
    | leaf l => exact wpAny_of_sG hns hdr hQ hp (fuel + 1) listed l F a w hsz hc hr hl hok h
    | one l i p =>
      obtain ⟨a1, a2, a3, a4, a5, a6, a7⟩ := hok
      refine ⟨fun hnone => (ready_ne hp hsz hr (by simp [Plan.all]) hnone).elim, fun x hx => ?_⟩
      obtain ⟨h1, h2, o, ho, hrd⟩ := mem_ready.1 hx
      have hxr : x ∈ l ++ i :: p.all := (hr x).2 ⟨h1, h2⟩
      have hil : i ∉ l := fun hh => by have := a1 i hh; rw [a2] at this; cases this
      rcases List.mem_append.1 hxr with hxl | hxr
      · obtain ⟨A, C, rfl, o2, v, fs, ho2, g1, g2, g3⟩ := quietAt (l := l) (fun F F' a w hF h => sG_mono (sP_mono p) [i] F F' a w hF h) a1 a3 (fun y hy => List.mem_append.2 (.inl hy)) ho hrd hxl h
        have hxx : x ∉ A ++ C := by
          have := List.pairwise_append.1 a3
          intro hh
          rcases List.mem_append.1 hh with hh | hh
          · exact (this.2.2 x hh x List.mem_cons_self).1 rfl
          · exact ((List.pairwise_cons.1 this.2.1).1 x hh).1 rfl
        have hxi : x ∉ i :: p.all := fun hh => (a4 x hxl x hh).1 rfl
        refine g2.wpOp ho2 g1 (ih _ (.one (A ++ C) i p) F _ w (by simp [hsz]) (closed_set hsz hc h1 ho hrd) (mem_set hsz h1 hr fun y => ?_) (by simp [Plan.all] at hl ⊢; omega)
          ⟨fun y hy => a1 y (by simp at hy ⊢; rcases hy with hy | hy; exact .inl hy; exact .inr (.inr hy)), a2, Pair.sub a3 rfl, fun y hy => a4 y (by simp at hy ⊢; rcases hy with hy | hy; exact .inl hy; exact .inr (.inr hy)), a5, a6, a7⟩ g3)
        simp only [Plan.all, List.mem_append, List.mem_cons] at hxx hxi ⊢
        constructor
        · rintro ((h | h) | h | h)
          · exact ⟨.inl (.inl h), fun e => hxx (by rw [← e]; exact .inl h)⟩
          · exact ⟨.inl (.inr (.inr h)), fun e => hxx (by rw [← e]; exact .inr h)⟩
          · exact ⟨.inr (.inl h), fun e => hxi (by rw [← e]; exact .inl h)⟩
          · exact ⟨.inr (.inr h), fun e => hxi (by rw [← e]; exact .inr h)⟩
        · rintro ⟨(h | h | h) | h | h, hne⟩
          · exact .inl (.inl h)
          · exact absurd h hne
          · exact .inl (.inr h)
          · exact .inr (.inl h)
          · exact .inr (.inr h)
      · rcases List.mem_cons.1 hxr with rfl | hxp
        · have he := effAt (l := l) (sP_mono p) a1 (fun y hy => a4 y hy x List.mem_cons_self) (fun y hy => List.mem_append.2 (.inl hy)) ho hrd h
          refine wpOp_mono (fun a' w' hh => ?_) he
          refine ih _ (p.pre l) F a' w' (by simp [hsz]) (closed_set hsz hc h1 ho hrd) (mem_set hsz h1 hr fun y => ?_) (by rw [Plan.all_pre]; simp [Plan.all] at hl ⊢; omega)
            (a7.pre a1 a3 fun y hy z hz => a4 y hy z (List.mem_cons_of_mem _ hz)) ((sP_pre l p F a' w').1 hh)
          rw [Plan.all_pre]
          simp only [Plan.all, List.mem_append, List.mem_cons]
          constructor
          · rintro (h | h)
            · exact ⟨.inl h, fun e => hil (by rw [← e]; exact h)⟩
            · exact ⟨.inr (.inr h), fun e => a6 (by rw [← e]; exact h)⟩
          · rintro ⟨h | h | h, hne⟩
            · exact .inl h
            · exact absurd h hne
            · exact .inr h
        · exact (waits (i := i) (List.mem_append.2 (.inr List.mem_cons_self)) ho hrd (a5 x hxp)).elim
    | fork l i p j q =>
      obtain ⟨a1, a2, a3, a4, a5, a6, a7, a8, a9, b1, b2, b3⟩ := hok
      have hq5 : ∀ x ∈ l, ∀ y ∈ j :: q.all, Pair ops prec x y := fun x hx y hy => a5 x hx y ((a7 y).2 hy)
      have hjp : j ∈ i :: p.all := (a7 j).2 List.mem_cons_self
      have hrq : ∀ x, x ∈ l ++ j :: q.all ↔ x < ops.size ∧ listed.getD x true = false := fun x => by
        rw [← hr x]
        simp only [Plan.all, List.mem_append]
        rw [a7 x]
      refine ⟨fun hnone => (ready_ne hp hsz hr (by simp [Plan.all]) hnone).elim, fun x hx => ?_⟩
      obtain ⟨h1, h2, o, ho, hrd⟩ := mem_ready.1 hx
      have hxr : x ∈ l ++ i :: p.all := (hr x).2 ⟨h1, h2⟩
      have hil : i ∉ l := fun hh => by have := a1 i hh; rw [a2] at this; cases this
      have hjl : j ∉ l := fun hh => by have := a1 j hh; rw [a3] at this; cases this
      rcases List.mem_append.1 hxr with hxl | hxr
      · obtain ⟨A, C, rfl, o2, v, fs, ho2, g1, g2, g3⟩ := quietAt (l := l) (fun F F' a w hF h => ⟨sG_mono (sP_mono p) [i] F F' a w hF h.1, sG_mono (sP_mono q) [j] F F' a w hF h.2⟩) a1 a4 (fun y hy => List.mem_append.2 (.inl hy)) ho hrd hxl h
        have hxx : x ∉ A ++ C := by
          have := List.pairwise_append.1 a4
          intro hh
          rcases List.mem_append.1 hh with hh | hh
          · exact (this.2.2 x hh x List.mem_cons_self).1 rfl
          · exact ((List.pairwise_cons.1 this.2.1).1 x hh).1 rfl
        have hxi : x ∉ i :: p.all := fun hh => (a5 x hxl x hh).1 rfl
        refine g2.wpOp ho2 g1 (ih _ (.fork (A ++ C) i p j q) F _ w (by simp [hsz]) (closed_set hsz hc h1 ho hrd) (mem_set hsz h1 hr fun y => ?_) (by simp [Plan.all] at hl ⊢; omega)
          ⟨fun y hy => a1 y (by simp at hy ⊢; rcases hy with hy | hy; exact .inl hy; exact .inr (.inr hy)), a2, a3, Pair.sub a4 rfl, fun y hy => a5 y (by simp at hy ⊢; rcases hy with hy | hy; exact .inl hy; exact .inr (.inr hy)), a6, a7, a8, a9, b1, b2, b3⟩ g3)
        simp only [Plan.all, List.mem_append, List.mem_cons] at hxx hxi ⊢
        constructor
        · rintro ((h | h) | h | h)
          · exact ⟨.inl (.inl h), fun e => hxx (by rw [← e]; exact .inl h)⟩
          · exact ⟨.inl (.inr (.inr h)), fun e => hxx (by rw [← e]; exact .inr h)⟩
          · exact ⟨.inr (.inl h), fun e => hxi (by rw [← e]; exact .inl h)⟩
          · exact ⟨.inr (.inr h), fun e => hxi (by rw [← e]; exact .inr h)⟩
        · rintro ⟨(h | h | h) | h | h, hne⟩
          · exact .inl (.inl h)
          · exact absurd h hne
          · exact .inl (.inr h)
          · exact .inr (.inl h)
          · exact .inr (.inr h)
      · by_cases hxi : x = i
        · subst hxi
          have he := effAt (l := l) (sP_mono p) a1 (fun y hy => a5 y hy x List.mem_cons_self) (fun y hy => List.mem_append.2 (.inl hy)) ho hrd (sG_base (fun F a w hh => hh.1) l F a w h)
          refine wpOp_mono (fun a' w' hh => ?_) he
          refine ih _ (p.pre l) F a' w' (by simp [hsz]) (closed_set hsz hc h1 ho hrd) (mem_set hsz h1 hr fun y => ?_) (by rw [Plan.all_pre]; simp [Plan.all] at hl ⊢; omega)
            (b2.pre a1 a4 fun y hy z hz => a5 y hy z (List.mem_cons_of_mem _ hz)) ((sP_pre l p F a' w').1 hh)
          rw [Plan.all_pre]
          simp only [Plan.all, List.mem_append, List.mem_cons]
          constructor
          · rintro (h | h)
            · exact ⟨.inl h, fun e => hil (by rw [← e]; exact h)⟩
            · exact ⟨.inr (.inr h), fun e => a8 (by rw [← e]; exact h)⟩
          · rintro ⟨h | h | h, hne⟩
            · exact .inl h
            · exact absurd h hne
            · exact .inr h
        · by_cases hxj : x = j
          · subst hxj
            have hjp' : x ∈ p.all := (List.mem_cons.1 hjp).resolve_left hxi
            have he := effAt (l := l) (sP_mono q) a1 (fun y hy => hq5 y hy x List.mem_cons_self) (fun y hy => List.mem_append.2 (.inl hy)) ho hrd (sG_base (fun F a w hh => hh.2) l F a w h)
            refine wpOp_mono (fun a' w' hh => ?_) he
            refine ih _ (q.pre l) F a' w' (by simp [hsz]) (closed_set hsz hc h1 ho hrd) (mem_set hsz h1 hrq fun y => ?_) (by rw [Plan.all_pre]; simp [Plan.all] at hl ⊢; omega)
              (b3.pre a1 a4 fun y hy z hz => hq5 y hy z (List.mem_cons_of_mem _ hz)) ((sP_pre l q F a' w').1 hh)
            rw [Plan.all_pre]
            simp only [List.mem_append, List.mem_cons]
            constructor
            · rintro (h | h)
              · exact ⟨.inl h, fun e => hjl (by rw [← e]; exact h)⟩
              · exact ⟨.inr (.inr h), fun e => a9 (by rw [← e]; exact h)⟩
            · rintro ⟨h | h | h, hne⟩
              · exact .inl h
              · exact absurd h hne
              · exact .inr h
          · have hxp : x ∈ p.all := (List.mem_cons.1 hxr).resolve_left hxi
            rcases a6 x hxp with e | e | e
            · exact absurd e hxj
            · exact (waits (i := i) (List.mem_append.2 (.inr List.mem_cons_self)) ho hrd e).elim
            · refine (waits (i := j) (List.mem_append.2 (.inr ?_)) ho hrd e).elim
              exact hjp
end

/-! ## The region as a proposition -/
def locked : Lock → Nat → Bool
  | [], _ => false
  | p :: r, d => Nat.beq p.1 d || locked r d

theorem locked_ne : ∀ {lk : Lock} {d : Nat}, locked lk d = false → ∀ p ∈ lk, p.1 ≠ d
  | [], _, _, p, hp => by cases hp
  | q :: r, d, h, p, hp => by
    simp only [locked, Bool.or_eq_false_iff] at h
    rcases List.mem_cons.1 hp with rfl | hp
    · intro e
      rw [e] at h
      simp at h
    · exact locked_ne h.2 p hp

def putK (n : Nat) (lk : Lock) (e : Env) (dst : Option Tmp) (v : SV) (K : Env → Prop) : Prop :=
  match dst with
  | none => K e
  | some d => bif Nat.blt d n && !(locked lk d) then K (e.putAt d v) else False

theorem putK_elim {n : Nat} {a : Act} {e : Env} (hf : Fits n ds lk a e) {dst : Option Tmp} {v : SV} {K : Env → Prop} (h : putK n lk e dst v K) : ∃ e', K e' ∧ Fits n ds lk (a.put dst v.val) e' := by
  cases dst with
  | none => exact ⟨e, h, hf⟩
  | some d =>
    simp only [putK] at h
    cases hb : (Nat.blt d n && !(locked lk d))
    · rw [hb, cond_false] at h; exact h.elim
    · rw [hb, cond_true] at h
      rw [Bool.and_eq_true] at hb
      exact ⟨_, h, hf.put (by have := hb.1; simp [Nat.blt] at this; omega) (locked_ne (by simpa using hb.2)) v⟩

def dstOf (ops : Array Oper) (j : Nat) : Option Nat :=
  match ops[j]? with
  | some o => o.dst
  | none => none

/-- Is the operation carried out? A test that is not known parts the way. -/
def guardK (ops : Array Oper) (e : Env) (g : Option (Nat × Bool)) (run skip : Env → Prop) : Prop :=
  match g with
  | none => run e
  | some (j, want) => match dstOf ops j with
    | none => False
    | some d => match Env.find e d with
      | some .tt => bif want then run e else skip e
      | some .ff => bif want then skip e else run e
      | some .undef => skip e
      | some (.bool b) => (b = true → bif want then run (e.putAt d .tt) else skip (e.putAt d .tt)) ∧ (b = false → bif want then skip (e.putAt d .ff) else run (e.putAt d .ff))
      | _ => False

theorem Fits.know {n : Nat} {a : Act} {e : Env} (hf : Fits n ds lk a e) {d : Nat} {u v : SV} (h : Env.find e d = some u) (hv : v.val = u.val) : Fits n ds lk a (e.putAt d v) := by
  refine ⟨hf.size, hf.kept, hf.defers, fun i x hx => ?_⟩
  simp only [Env.putAt, Env.find] at hx
  cases hb : Nat.beq i d
  · rw [hb, cond_false] at hx
    exact hf.slot i x hx
  · rw [hb, cond_true] at hx
    obtain rfl := Nat.eq_of_beq_eq_true hb
    cases hx
    rw [hv]
    exact hf.slot _ u h

theorem guardK_elim {ops : Array Oper} {n : Nat} {a : Act} {e : Env} (hf : Fits n ds lk a e) {o : Oper} {run skip : Env → Prop} (h : guardK ops e o.guard run skip) :
    ∃ e', Fits n ds lk a e' ∧ ((run e' ∧ Region.wanted o (yielded ops a.tmps) = true) ∨ (skip e' ∧ Region.wanted o (yielded ops a.tmps) = false)) := by
  unfold guardK at h
  unfold Region.wanted
  split at h
  · rename_i hg
    exact ⟨e, hf, .inl ⟨h, by rw [hg]⟩⟩
  · rename_i j want hg
    rw [hg]
    simp only
    split at h
    · exact h.elim
    · rename_i d hd
      have hy : ∀ (b : Bool) (u : SV), Env.find e d = some u → u.val = .bool b → yielded ops a.tmps j = some b := by
        intro b u hu hv
        have hs := hf.slot d u hu
        have hb : (ops[j]?).bind (·.dst) = some d := by
          unfold dstOf at hd
          split at hd
          · rename_i o' ho'; rw [ho']; exact hd
          · exact absurd hd (by simp)
        unfold yielded
        rw [hb]
        simp only [Option.bind_some, hs, hv]
      split at h
      · rename_i hu
        have := hy true _ hu rfl
        refine ⟨e, hf, ?_⟩
        rw [this]
        cases want
        · exact .inr ⟨h, rfl⟩
        · exact .inl ⟨h, rfl⟩
      · rename_i hu
        have := hy false _ hu rfl
        refine ⟨e, hf, ?_⟩
        rw [this]
        cases want
        · exact .inl ⟨h, rfl⟩
        · exact .inr ⟨h, rfl⟩
      · rename_i hu
        have : yielded ops a.tmps j = none := by
          have hs := hf.slot d _ hu
          have hb : (ops[j]?).bind (·.dst) = some d := by
            unfold dstOf at hd
            split at hd
            · rename_i o' ho'; rw [ho']; exact hd
            · exact absurd hd (by simp)
          unfold yielded
          rw [hb]
          simp only [Option.bind_some, hs, SV.val, undef]
        refine ⟨e, hf, ?_⟩
        rw [this]
        exact .inr ⟨h, by cases want <;> rfl⟩
      · rename_i b hu
        have := hy b _ hu rfl
        rw [this]
        cases b
        · refine ⟨_, hf.know hu (v := .ff) rfl, ?_⟩
          have := h.2 rfl
          cases want
          · exact .inl ⟨this, rfl⟩
          · exact .inr ⟨this, rfl⟩
        · refine ⟨_, hf.know hu (v := .tt) rfl, ?_⟩
          have := h.1 rfl
          cases want
          · exact .inr ⟨this, rfl⟩
          · exact .inl ⟨this, rfl⟩
      · exact h.elim

/-- What was read and is not yet waited for must read so still. -/
def heldK (prec : Nat → Nat → Bool) (i : Nat) (h : Hp) : List (Nat × Fact) → Prop → Prop
  | [], K => K
  | (j, f) :: r, K => bif prec j i then heldK prec i h r K else f h ∧ heldK prec i h r K

theorem heldK_elim {prec : Nat → Nat → Bool} {i : Nat} {h : Hp} : ∀ {F : List (Nat × Fact)} {K : Prop}, heldK prec i h F K → K ∧ ∀ p ∈ F, prec p.1 i = false → p.2 h
  | [], K, hk => ⟨hk, by simp⟩
  | (j, f) :: r, K, hk => by
    simp only [heldK] at hk
    cases hp : prec j i
    · rw [hp, cond_false] at hk
      obtain ⟨h1, h2⟩ := heldK_elim hk.2
      refine ⟨h1, fun p hm hpp => ?_⟩
      rcases List.mem_cons.1 hm with rfl | hm
      · exact hk.1
      · exact h2 p hm hpp
    · rw [hp, cond_true] at hk
      obtain ⟨h1, h2⟩ := heldK_elim hk
      refine ⟨h1, fun p hm hpp => ?_⟩
      rcases List.mem_cons.1 hm with rfl | hm
      · rw [hp] at hpp; cases hpp
      · exact h2 p hm hpp

def evList (P : Program) (calls : Known) (n : Nat) (lk : Lock) (ops : Array Oper) (drawn : Bool) (prec : Nat → Nat → Bool) (X : Value → Hp → Prop) : List Nat → List (Nat × Fact) → Env → Hp → (List (Nat × Fact) → Env → Hp → Prop) → Prop
  | [], F, e, h, K => K F e h
  | i :: r, F, e, h, K => match ops[i]? with
    | none => False
    | some o => guardK ops e o.guard
      (fun e => bif isQuiet o.op then evQ P o.op e h fun v fs => putK n lk e o.dst v fun e => evList P calls n lk ops drawn prec X r (bif drawn then F ++ fs.map (fun f => (i, f)) else F) e h K
        else evE P calls o.op o.type e h (fun v h1 => bif drawn then heldK prec i h1 F (putK n lk e o.dst v fun e => evList P calls n lk ops drawn prec X r F e h1 K) else putK n lk e o.dst v fun e => evList P calls n lk ops drawn prec X r F e h1 K) X)
      (fun e => putK n lk e o.dst .undef fun e => evList P calls n lk ops drawn prec X r F e h K)

theorem Fits.bare {n : Nat} {a : Act} {e : Env} (h : Fits n ds lk a e) : Fits n ds lk a [] := ⟨h.size, h.kept, h.defers, fun i v hv => by simp [Env.find] at hv⟩

/-- What an operation's fact-keeping list is read against. -/
theorem evList_elim {P : Program} {calls : Known} (hcalls : CallsOk P calls) {n : Nat} {ops : Array Oper} {drawn : Bool} {prec : Nat → Nat → Bool} {X : Value → Hp → Prop} {Q : Exit → Act → World → Prop} {B : List (Nat × Fact) → Act → World → Prop} {K : List (Nat × Fact) → Env → Hp → Prop} {w0 : World}
    (hK : ∀ F G e a w, (drawn = true → G = F) → K F e w.heap → Fits n ds lk a e → Same w0 w → B G a w) (hX : ∀ x a w, X x w.heap → Fits n ds lk a [] → Same w0 w → Q (.panic [{ v := x, recovered := false }]) a w) :
    ∀ (r : List Nat) (F G : List (Nat × Fact)) (e : Env) (a : Act) (w : World), (drawn = true → G = F) → Fits n ds lk a e → Same w0 w →
    evList P calls n lk ops drawn prec X r F e w.heap K → sG P ops Q drawn prec B r G a w
  | [], F, G, e, a, w, hG, hf, hs, h => hK F G e a w hG h hf hs
  | i :: r, F, G, e, a, w, hG, hf, hs, h => by
    simp only [evList] at h
    split at h
    · exact h.elim
    · rename_i o ho
      refine ⟨o, ho, ?_⟩
      obtain ⟨e1, hf1, h⟩ := guardK_elim hf h
      rcases h with ⟨h, hw⟩ | ⟨h, hw⟩
      · cases hq : isQuiet o.op
        · rw [hq, cond_false] at h
          refine .inr ⟨by simp [isEff, ho, hq], ?_⟩
          unfold wpOp
          simp only [ho, hw, if_true]
          refine .inl (evE_elim hcalls hf1 h rfl ?_ ?_)
          · intro v w' hk hs'
            have key : Held prec F i w' ∨ drawn = false := by
              cases drawn
              · exact .inr rfl
              · rw [cond_true] at hk
                exact .inl (heldK_elim hk).2
            have hk2 : putK n lk e1 o.dst v fun e => evList P calls n lk ops drawn prec X r F e w'.heap K := by
              cases drawn
              · rw [cond_false] at hk; exact hk
              · rw [cond_true] at hk; exact (heldK_elim hk).1
            obtain ⟨e2, hk2, hf2⟩ := putK_elim hf1 hk2
            refine ⟨fun hd => ?_, evList_elim hcalls hK hX r F G e2 _ w' hG hf2 (hs.trans hs') hk2⟩
            rw [hG hd]
            rcases key with k | k
            · exact k
            · rw [k] at hd; cases hd
          · intro x w' hx hs'
            exact hX x a w' hx hf1.bare (hs.trans hs')
        · rw [hq, cond_true] at h
          obtain ⟨v, fs, hk, hy1, hy2⟩ := evQ_elim hf1 h
          obtain ⟨e2, hk, hf2⟩ := putK_elim hf1 hk
          refine .inl ⟨v.val, fs, hy1, .inl ⟨hw, fun w hw => hy2 w hw⟩, ?_⟩
          refine evList_elim hcalls hK hX r _ _ e2 _ w ?_ hf2 hs hk
          intro hd
          rw [hG hd, hd, cond_true]
      · obtain ⟨e2, hk, hf2⟩ := putK_elim hf1 h
        refine .inl ⟨undef, [], by simp [Holds], .inr ⟨hw, rfl⟩, ?_⟩
        refine evList_elim hcalls hK hX r F _ e2 _ w ?_ hf2 hs hk
        intro hd
        rw [hG hd]
        simp

/-- A plan, read. -/
def evPlan (P : Program) (calls : Known) (n : Nat) (lk : Lock) (ops : Array Oper) (prec : Nat → Nat → Bool) (X : Value → Hp → Prop) : Plan → List (Nat × Fact) → Env → Hp → (Env → Hp → Prop) → Prop
  | .leaf l, F, e, h, K => evList P calls n lk ops true prec X l F e h fun _ e h => K e h
  | .one l i p, F, e, h, K => evList P calls n lk ops true prec X l F e h fun F e h => evList P calls n lk ops true prec X [i] F e h fun F e h => evPlan P calls n lk ops prec X p F e h K
  | .fork l i p j q, F, e, h, K => evList P calls n lk ops true prec X l F e h fun F e h =>
      (evList P calls n lk ops true prec X [i] F e h fun F e h => evPlan P calls n lk ops prec X p F e h K) ∧
      (evList P calls n lk ops true prec X [j] F e h fun F e h => evPlan P calls n lk ops prec X q F e h K)

theorem evPlan_elim {P : Program} {calls : Known} (hcalls : CallsOk P calls) {n : Nat} {ops : Array Oper} {prec : Nat → Nat → Bool} {X : Value → Hp → Prop} {Q : Exit → Act → World → Prop} {K : Env → Hp → Prop} {w0 : World}
    (hK : ∀ e a w, K e w.heap → Fits n ds lk a e → Same w0 w → Q .normal a w) (hX : ∀ x a w, X x w.heap → Fits n ds lk a [] → Same w0 w → Q (.panic [{ v := x, recovered := false }]) a w) :
    ∀ (p : Plan) (F : List (Nat × Fact)) (e : Env) (a : Act) (w : World), Fits n ds lk a e → Same w0 w → evPlan P calls n lk ops prec X p F e w.heap K → sP P ops Q true prec p F a w
  | .leaf l, F, e, a, w, hf, hs, h => evList_elim hcalls (fun F G e a w _ hk hf hs => hK e a w hk hf hs) hX l F F e a w (fun _ => rfl) hf hs h
  | .one l i p, F, e, a, w, hf, hs, h =>
    evList_elim hcalls (fun F G e a w hG hk hf hs => by
      have e1 := hG rfl; subst e1
      exact evList_elim hcalls (fun F G e a w hG hk hf hs => by
        have e1 := hG rfl; subst e1
        exact evPlan_elim hcalls hK hX p _ e a w hf hs hk) hX [i] _ _ e a w (fun _ => rfl) hf hs hk) hX l F F e a w (fun _ => rfl) hf hs h
  | .fork l i p j q, F, e, a, w, hf, hs, h =>
    evList_elim hcalls (fun F G e a w hG hk hf hs => by
      have e1 := hG rfl; subst e1
      exact ⟨evList_elim hcalls (fun F G e a w hG hk hf hs => by
        have e1 := hG rfl; subst e1
        exact evPlan_elim hcalls hK hX p _ e a w hf hs hk) hX [i] _ _ e a w (fun _ => rfl) hf hs hk.1,
       evList_elim hcalls (fun F G e a w hG hk hf hs => by
        have e1 := hG rfl; subst e1
        exact evPlan_elim hcalls hK hX q _ e a w hf hs hk) hX [j] _ _ e a w (fun _ => rfl) hf hs hk.2⟩) hX l F F e a w (fun _ => rfl) hf hs h
end Go.Wd
