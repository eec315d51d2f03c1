/-
  Bodies as propositions: what is owed for a call.
-/
import Derived.Test.YtmldiibfmhkgjaaWdComm
namespace Go.Wd
set_option linter.unusedSimpArgs false
set_option linter.unusedVariables false
open Go Go.RowKit
variable {ds : List Deferred}

def lockOf : Env → Lock
  | [] => []
  | (s, v) :: r => (s, v.val) :: lockOf r

def hintOf {A : Type} (l : List (Nat × A)) (c : Code) : Option A :=
  match firstRegion c with
  | some i => assoc l i
  | none => none

def cutK (e : Env) (vary : List (Nat × GSh)) (I : Cur (Hp → Prop) (cellsOf vary)) (h : Hp) : Prop :=
  match pickCells e vary with
  | some us => app (fun _ => False) (cellsOf vary) I us h
  | none => False

def roundK (e : Env) (vary : List (Nat × GSh)) (I : Cur (Hp → Prop) (cellsOf vary)) (μ : Cur (Hp → Nat) (cellsOf vary)) (m : Nat) (h : Hp) : Prop :=
  match pickCells e vary with
  | some us => app (fun _ => False) (cellsOf vary) I us h ∧ app (fun _ => 0) (cellsOf vary) μ us h < m
  | none => False

def evCode (P : Program) (calls : Known) (n : Nat) (hs : Hints) : Code → Lock → Env → Hp → (Exit → Env → Hp → Prop) → Prop
  | .skip, _, e, h, K => K .normal e h
  | .region id ops draw, lk, e, h, K => bif draw then (match assoc hs.orders id with
      | some mo => bif orderOk P ops mo.1 mo.2 && P.follows .mixedOrders && freeDst lk ops.toList then evPlan P calls n lk ops (precOf mo.1) (fun x h => K (.panic [{ v := x, recovered := false }]) [] h) mo.2 [] e h (fun e h => K .normal e h) else False
      | none => False)
    else match commHead ops with
      | some o => commK P o.op e h fun v h1 => putK n lk e o.dst v fun e => evList P calls n lk ops false (fun _ _ => false) (fun x h => K (.panic [{ v := x, recovered := false }]) [] h) (List.range ops.size).tail [] e h1 (fun _ e h => K .normal e h)
      | none => evList P calls n lk ops false (fun _ _ => false) (fun x h => K (.panic [{ v := x, recovered := false }]) [] h) (List.range ops.size) [] e h (fun _ e h => K .normal e h)
  | .seq x y, lk, e, h, K => match hintOf hs.cuts y with
    | none => evCode P calls n hs x lk e h fun ex e1 h1 => match ex with
      | .normal => evCode P calls n hs y lk e1 h1 K
      | ex => K ex e1 h1
    | some fv => match pickFixed e fv.1 with
      | none => False
      | some fe => ∃ I : Cur (Hp → Prop) (cellsOf fv.2),
          evCode P calls n hs x (lockOf fe ++ lk) e h (fun ex e1 h1 => match ex with
            | .normal => cutK e1 fv.2 I h1
            | ex => K ex e1 h1) ∧
          allShs (cellsOf fv.2) fun us => ∀ h1, app (fun _ => False) (cellsOf fv.2) I us h1 → evCode P calls n hs y lk (fe ++ envOf fv.2 us) h1 K
  | .cond c x y, lk, e, h, K => withOp e c fun v => match v with
    | .tt => evCode P calls n hs x lk e h K
    | .ff => evCode P calls n hs y lk e h K
    | .bool b => (b = true → evCode P calls n hs x lk e h K) ∧ (b = false → evCode P calls n hs y lk e h K)
    | _ => False
  | .block id c, lk, e, h, K => evCode P calls n hs c lk e h fun ex e1 h1 => match ex with
    | .exit id' => bif Nat.beq id' id then K .normal e1 h1 else K (.exit id') e1 h1
    | ex => K ex e1 h1
  | .loop c, lk, e, h, K => match hintOf hs.loops c with
    | none => False
    | some fv => match pickFixed e fv.1, pickCells e fv.2 with
      | some fe, some us0 => ∃ (I : Cur (Hp → Prop) (cellsOf fv.2)) (μ : Cur (Hp → Nat) (cellsOf fv.2)), app (fun _ => False) (cellsOf fv.2) I us0 h ∧
          allShs (cellsOf fv.2) fun us => ∀ h1, app (fun _ => False) (cellsOf fv.2) I us h1 →
            evCode P calls n hs c (lockOf fe ++ lk) (fe ++ envOf fv.2 us) h1 fun ex e2 h2 => match ex with
              | .normal => roundK e2 fv.2 I μ (app (fun _ => 0) (cellsOf fv.2) μ us h1) h2
              | ex => K ex e2 h2
      | _, _ => False
  | .exit id, _, e, h, K => K (.exit id) e h
  | .ret, _, e, h, K => K .ret e h
  | .scope c, lk, e, h, K => evCode P calls n hs c lk e h fun ex e1 h1 => match ex with
    | .goto _ => False
    | ex => K ex e1 h1
  | .label _, _, e, h, K => K .normal e h
  | _, _, _, _, _ => False

theorem Fits.weaken {n : Nat} {lk lk' : Lock} {a : Act} {e : Env} (h : Fits n ds (lk' ++ lk) a e) : Fits n ds lk a e :=
  ⟨h.size, fun p hp => h.kept p (List.mem_append.2 (.inr hp)), h.defers, h.slot⟩

theorem pickFixed_mem {n : Nat} {lk : Lock} {a : Act} {e : Env} (hf : Fits n ds lk a e) : ∀ {l : List Nat} {fe : Env}, pickFixed e l = some fe → ∀ p ∈ lockOf fe, a.tmps[p.1]? = some p.2
  | [], fe, h, p, hp => by simp [pickFixed] at h; subst h; simp [lockOf] at hp
  | s :: r, fe, h, p, hp => by
    simp only [pickFixed] at h
    split at h
    · rename_i u rest hu hr
      simp only [Option.some.injEq] at h
      subst h
      simp only [lockOf] at hp
      rcases List.mem_cons.1 hp with rfl | hp
      · exact hf.slot _ _ hu
      · exact pickFixed_mem hf hr p hp
    · exact absurd h (by simp)

theorem find_lock : ∀ {fe : Env} {i : Nat} {v : SV}, Env.find fe i = some v → (i, v.val) ∈ lockOf fe
  | [], i, v, h => by simp [Env.find] at h
  | (s, u) :: r, i, v, h => by
    simp only [Env.find] at h
    simp only [lockOf]
    cases hb : Nat.beq i s
    · rw [hb, cond_false] at h; exact List.mem_cons_of_mem _ (find_lock h)
    · rw [hb, cond_true] at h
      obtain rfl := Nat.eq_of_beq_eq_true hb
      cases h
      exact List.mem_cons_self

/-- Behind a piece of code: what stayed, and what is picked anew. -/
theorem Fits.anew {n : Nat} {lk : Lock} {a : Act} {e fe : Env} (hf : Fits n ds (lockOf fe ++ lk) a e) {vary : List (Nat × GSh)} {us : List Value} (h : pickCells e vary = some us) :
    us = usOf a vary ∧ Fits n ds (lockOf fe ++ lk) a (fe ++ envOf vary us) := by
  obtain ⟨h1, h2⟩ := pickCells_us hf h
  refine ⟨h1, hf.size, hf.kept, hf.defers, fun i v hv => ?_⟩
  rcases find_append hv with hv | hv
  · exact hf.kept _ (List.mem_append.2 (.inl (find_lock hv)))
  · exact h2 i v hv

theorem Fits.lockIn {n : Nat} {lk : Lock} {a : Act} {e fe : Env} (hf : Fits n ds lk a e) {l : List Nat} (h : pickFixed e l = some fe) : Fits n ds (lockOf fe ++ lk) a e :=
  ⟨hf.size, fun p hp => (List.mem_append.1 hp).elim (pickFixed_mem hf h p) (hf.kept p), hf.defers, hf.slot⟩

theorem evCode_elim {P : Program} {calls : Known} (hcalls : CallsOk P calls) {n : Nat} {hs : Hints} : ∀ (c : Code) (lk : Lock) (e : Env) (K : Exit → Env → Hp → Prop) (a : Act) (w : World) (w0 : World) (Q : Exit → Act → World → Prop),
    Fits n ds lk a e → Same w0 w → evCode P calls n hs c lk e w.heap K → (∀ ex e1 a1 w1, K ex e1 w1.heap → Fits n ds lk a1 e1 → Same w0 w1 → Q ex a1 w1) → c.wp P Q a w := by
  intro c
  induction c with
  | skip => intro lk e K a w w0 Q hf hs h hQ; exact wp_skip (hQ _ _ _ _ h hf hs)
  | exit id => intro lk e K a w w0 Q hf hs h hQ; exact wp_exit (hQ _ _ _ _ h hf hs)
  | ret => intro lk e K a w w0 Q hf hs h hQ; exact wp_ret (hQ _ _ _ _ h hf hs)
  | rangeFunc => intro lk e K a w w0 Q hf hs h hQ; exact h.elim
  | scope c ih =>
    intro lk e K a w w0 Q hf hs h hQ
    simp only [evCode] at h
    refine wp_scope_straight (ih lk e _ a w w0 _ hf hs h ?_)
    intro ex e1 a1 w1 hk hf1 hs1
    cases ex with
    | goto l => exact hk.elim
    | _ => exact hQ _ _ _ _ hk hf1 hs1
  | label => intro lk e K a w w0 Q hf hs h hQ; exact wp_label (hQ _ _ _ _ h hf hs)
  | goto => intro lk e K a w w0 Q hf hs h hQ; exact h.elim
  | refuse => intro lk e K a w w0 Q hf hs h hQ; exact h.elim
  | region id ops draw =>
    intro lk e K a w w0 Q hf hs' h hQ
    cases draw with
    | false =>
      simp only [evCode, cond_false] at h
      split at h
      · rename_i o ho
        obtain ⟨h0, hg⟩ := commHead_spec ho
        obtain ⟨cases, blocking, shape, v, w', hr, hst, hsw, v', e', h⟩ := commK_elim hf h rfl
        subst e'
        obtain ⟨e2, h, hf2⟩ := putK_elim hf h
        refine wp_region_comm h0 hg hr hst (wpOps_of_sG (drawn := false) (prec := fun _ _ => false) _ [] _ w' ?_)
        exact evList_elim hcalls (B := endQ Q) (w0 := w0) (fun F G e a w _ hk hf hs => hQ _ _ _ _ hk hf hs) (fun x a w hk hf hs => hQ _ _ _ _ hk hf hs) _ [] [] e2 _ w' (fun _ => rfl) hf2 (hs'.trans hsw) h
      · refine wp_region (wpOps_of_sG (drawn := false) (prec := fun _ _ => false) _ [] a w ?_)
        exact evList_elim hcalls (B := endQ Q) (w0 := w0) (fun F G e a w _ hk hf hs => hQ _ _ _ _ hk hf hs) (fun x a w hk hf hs => hQ _ _ _ _ hk hf hs) _ [] [] e a w (fun _ => rfl) hf hs' h
    | true =>
      simp only [evCode, cond_true] at h
      split at h
      · rename_i mo hmo
        cases hok : (orderOk P ops mo.1 mo.2 && P.follows .mixedOrders && freeDst lk ops.toList)
        · rw [hok, cond_false] at h; exact h.elim
        · rw [hok, cond_true] at h
          rw [Bool.and_eq_true, Bool.and_eq_true] at hok
          refine wp_drawn (n := n) (ds := ds) (w0 := w0) (X := fun x h => K (.panic [{ v := x, recovered := false }]) [] h) hok.1.2 hok.1.1 hok.2 (fun x a w hk hf hs => hQ _ _ _ _ hk hf hs) ?_
          exact evPlan_elim hcalls (Q := panicsAs n ds lk w0 (fun x h => K (.panic [{ v := x, recovered := false }]) [] h) Q) (w0 := w0) (n := n) (lk := lk) (K := fun e h => K .normal e h)
            (fun e a w hk hf hs => hQ _ _ _ _ hk hf hs) (fun x a w hk hf hs => ⟨x, rfl, hk, hf, hs⟩) mo.2 [] e a { w with drawn := w.drawn + 1 } hf ⟨hs'.os, hs'.tape, hs'.output⟩ h
      · exact h.elim
  | seq x y ihx ihy =>
    intro lk e K a w w0 Q hf hs' h hQ
    simp only [evCode] at h
    split at h
    · refine wp_seq (ihx lk e _ a w w0 _ hf hs' h ?_)
      intro ex e1 a1 w1 hk hf1 hs1
      cases ex with
      | normal => exact ihy lk e1 K a1 w1 w0 Q hf1 hs1 hk hQ
      | _ => exact hQ _ _ _ _ hk hf1 hs1
    · rename_i fv hfv
      split at h
      · exact h.elim
      · rename_i fe hfe
        obtain ⟨I, hx, hy⟩ := h
        refine wp_seq (ihx (lockOf fe ++ lk) e _ a w w0 _ (hf.lockIn hfe) hs' hx ?_)
        intro ex e1 a1 w1 hk hf1 hs1
        cases ex with
        | normal =>
          simp only [cutK] at hk
          split at hk
          · rename_i us hus
            obtain ⟨_, hf2⟩ := hf1.anew hus
            exact ihy lk _ K a1 w1 w0 Q hf2.weaken hs1 (allShs_at hy (fit_of_app hk) _ hk) hQ
          · exact hk.elim
        | _ => exact hQ _ _ _ _ hk hf1.weaken hs1
  | cond c x y ihx ihy =>
    intro lk e K a w w0 Q hf hs' h hQ
    simp only [evCode] at h
    obtain ⟨v, h, he⟩ := withOp_elim hf h
    split at h
    · exact wp_cond_true he (ihx lk e K a w w0 Q hf hs' h hQ)
    · exact wp_cond_false he (ihy lk e K a w w0 Q hf hs' h hQ)
    · rename_i b
      exact wp_cond_split (t := b) he (fun hb => ihx lk e K a w w0 Q hf hs' (h.1 hb) hQ) (fun hb => ihy lk e K a w w0 Q hf hs' (h.2 hb) hQ)
    · exact h.elim
  | block id c ih =>
    intro lk e K a w w0 Q hf hs' h hQ
    simp only [evCode] at h
    refine wp_block (ih lk e _ a w w0 _ hf hs' h ?_)
    intro ex e1 a1 w1 hk hf1 hs1
    cases ex with
    | exit id' =>
      simp only [Exit.inBlock]
      cases hb : Nat.beq id' id
      · simp only [hb, cond_false] at hk
        rw [if_neg (fun e => by subst e; simp at hb)]
        exact hQ _ _ _ _ hk hf1 hs1
      · simp only [hb, cond_true] at hk
        rw [if_pos (Nat.eq_of_beq_eq_true hb)]
        exact hQ _ _ _ _ hk hf1 hs1
    | _ => exact hQ _ _ _ _ hk hf1 hs1
  | loop c ih =>
    intro lk e K a w w0 Q hf hs' h hQ
    simp only [evCode] at h
    split at h
    · exact h.elim
    · rename_i fv hfv
      split at h
      · rename_i fe us0 hfe hus
        obtain ⟨I, μ, h0, hr⟩ := h
        obtain ⟨hu0, hf0⟩ := (hf.lockIn hfe).anew hus
        refine wp_loop (fun a w => Fits n ds (lockOf fe ++ lk) a (fe ++ envOf fv.2 (usOf a fv.2)) ∧ app (fun _ => False) (cellsOf fv.2) I (usOf a fv.2) w.heap ∧ Same w0 w)
          (fun a w => app (fun _ => 0) (cellsOf fv.2) μ (usOf a fv.2) w.heap) ⟨by rw [← hu0]; exact hf0, by rw [← hu0]; exact h0, hs'⟩ ?_
        rintro a w ⟨hf1, hI, hs1⟩
        have hev := allShs_at hr (fit_of_app hI) _ hI
        refine ih _ _ _ a w w0 _ hf1 hs1 hev ?_
        intro ex e2 a2 w2 hk hf2 hs2
        cases ex with
        | normal =>
          simp only [roundK] at hk
          split at hk
          · rename_i us hus2
            obtain ⟨hu, hf3⟩ := hf2.anew hus2
            subst hu
            exact ⟨⟨hf3, hk.1, hs2⟩, hk.2⟩
          · exact hk.elim
        | _ => exact hQ _ _ _ _ hk hf2.weaken hs2
      · exact h.elim

/-! ## Bodies -/
def resK (P : Program) (e : Env) (h : Hp) : List ResultVar → (List Value → Prop) → Prop
  | [], K => K []
  | .tmp t :: r, K => match Env.find e t with
    | some v => resK P e h r fun vs => K (v.val :: vs)
    | none => False
  | .cell b t :: r, K => match Env.find e b with
    | some (.ptr b o) => loadK P t h b o fun v _ => resK P e h r fun vs => K (v.val :: vs)
    | _ => False

def oneOf : List Value → Value
  | [v] => v
  | vs => .tuple ⟨vs⟩

def retK (P : Program) (fn : Func) (e : Env) (h : Hp) (R : Value → Hp → Prop) : Prop := resK P e h fn.results.toList fun vs => R (oneOf vs) h

def argEnv : Nat → List SV → Env
  | _, [] => []
  | i, v :: r => (i, v) :: argEnv (i + 1) r

def resOne (a : Act) : ResultVar → Sem Value
  | .tmp t => pure (a.tmps.getD t undef)
  | .cell b t => do loadVar t (← asAddr (a.tmps.getD b undef))

theorem resK_run {n : Nat} {lk : Lock} {a : Act} {e : Env} (hf : Fits n ds lk a e) (P : Program) (w : World) : ∀ {l : List ResultVar} {K : List Value → Prop}, resK P e w.heap l K →
    ∃ vs, K vs ∧ (l.mapM (resOne a)).run P w = .ok vs w
  | [], K, h => ⟨[], h, rfl⟩
  | .cell b t :: r, K, h => by
    simp only [resK] at h
    split at h
    · rename_i bb o hv
      have hs := hf.slot b _ hv
      obtain ⟨v, fs, hk, hfs, hload⟩ := loadK_elim h
      obtain ⟨vs, hK, hr⟩ := resK_run hf P w hk
      refine ⟨v.val :: vs, hK, ?_⟩
      have h1 : (resOne a (.cell b t)).run P w = .ok v.val w := by
        simp only [resOne, Array.getD_eq_getD_getElem?, hs, Option.getD_some, SV.val, asAddr, Sem.run_bind, Sem.run_pure, Result.andThen_ok]
        exact hload w hfs
      simp only [List.mapM_cons, Sem.run_bind, h1, hr, Result.andThen_ok, Sem.run_pure]
    · exact h.elim
  | .tmp t :: r, K, h => by
    simp only [resK] at h
    split at h
    · rename_i v hv
      obtain ⟨vs, hK, hr⟩ := resK_run hf P w h
      have hs := hf.slot t v hv
      have h1 : (resOne a (.tmp t)).run P w = .ok v.val w := by simp [resOne, Array.getD_eq_getD_getElem?, hs]
      exact ⟨v.val :: vs, hK, by simp only [List.mapM_cons, Sem.run_bind, h1, hr, Result.andThen_ok, Sem.run_pure]⟩
    · exact h.elim

theorem results_eq (fn : Func) (a : Act) : results fn a.tmps = (do
    let vs ← fn.results.mapM (resOne a)
    pure (if h : vs.size = 1 then vs[0] else .tuple vs)) := by
  unfold results
  congr 1

theorem retK_elim {n : Nat} {lk : Lock} {a : Act} {e : Env} (hf : Fits n ds lk a e) {P : Program} {fn : Func} {w : World} {R : Value → Hp → Prop} (h : retK P fn e w.heap R) :
    ∃ v, (results fn a.tmps).run P w = .ok v w ∧ R v w.heap := by
  unfold retK at h
  obtain ⟨vs, hR, hr⟩ := resK_run hf P w h
  refine ⟨_, ?_, hR⟩
  rw [results_eq]
  obtain ⟨l, hl⟩ : ∃ l, fn.results = ⟨l⟩ := ⟨fn.results.toList, rfl⟩
  rw [hl] at hr ⊢
  have e1 : ((⟨l⟩ : Array ResultVar).mapM (resOne a)) = List.toArray <$> l.mapM (resOne a) := by
    rw [Array.mapM_eq_mapM_toList]
  rw [e1]
  simp only [Sem.run_bind, Sem.run_map, hr, Result.andThen_ok, Sem.run_pure]
  match vs with
  | [] => rfl
  | [v] => rfl
  | v :: u :: r => simp [oneOf]

theorem argEnv_find : ∀ (args : List SV) (k i : Nat) (v : SV), Env.find (argEnv k args) i = some v → k ≤ i ∧ args[i - k]? = some v
  | [], k, i, v, h => by simp [argEnv, Env.find] at h
  | x :: r, k, i, v, h => by
    simp only [argEnv, Env.find] at h
    cases hb : Nat.beq i k
    · rw [hb, cond_false] at h
      obtain ⟨h1, h2⟩ := argEnv_find r (k + 1) i v h
      refine ⟨by omega, ?_⟩
      rw [show i - k = (i - (k + 1)) + 1 by omega]
      simpa using h2
    · rw [hb, cond_true] at h
      obtain rfl := Nat.eq_of_beq_eq_true hb
      cases h
      exact ⟨Nat.le_refl _, by simp⟩

/-- What is owed for a call that returns (R) or panics for the first time (X). -/
def evBodyX (P : Program) (calls : Known) (hs : Hints) (fn : Func) (args : List SV) (h : Hp) (R X : Value → Hp → Prop) : Prop :=
  match fn.body with
  | some c => bif Nat.ble args.length fn.ntmps then evCode P calls fn.ntmps hs c [] (argEnv 0 args) h fun ex e h1 => match ex with
      | .normal => retK P fn e h1 R
      | .ret => retK P fn e h1 R
      | .panic [⟨x, false, false⟩] => X x h1
      | _ => False
    else False
  | none => False

theorem Fits.start {fn : Func} {args : List SV} (hle : args.length ≤ fn.ntmps) :
    Fits fn.ntmps [] [] { tmps := (⟨args.map SV.val⟩ : Array Value) ++ Array.replicate (fn.ntmps - (⟨args.map SV.val⟩ : Array Value).size) undef, defers := [] } (argEnv 0 args) := by
  refine ⟨by simp; omega, by simp, rfl, fun i v hv => ?_⟩
  obtain ⟨_, h2⟩ := argEnv_find args 0 i v hv
  have hlt : i < args.length := by have := (List.getElem?_eq_some_iff.1 h2).1; omega
  simp only [Nat.sub_zero] at h2
  rw [Array.getElem?_append_left (by simpa using hlt)]
  simp [h2]

theorem callsX_of_body {P : Program} {calls : Known} (hcalls : CallsOk P calls) {hs : Hints} {f : FuncId} {fn : Func} (hfn : P.funcs[f]? = some fn) {args : List SV} {h : Hp} {R X : Value → Hp → Prop}
    (hb : evBodyX P calls hs fn args h R X) : CallsX P f (args.map SV.val) h R X := by
  intro w hw
  subst hw
  unfold evBodyX at hb
  split at hb
  · rename_i c hc
    cases hl : Nat.ble args.length fn.ntmps
    · rw [hl, cond_false] at hb; exact hb.elim
    · rw [hl, cond_true] at hb
      have hle := Nat.le_of_ble_eq_true hl
      refine calls_of_wp hfn hc ?_
      refine evCode_elim (ds := []) hcalls c [] (argEnv 0 args) _ _ w w _ (Fits.start hle) (Same.refl w) hb ?_
      intro ex e1 a1 w1 hk hf1 hs1
      split at hk
      · obtain ⟨v, hr, hR⟩ := retK_elim hf1 (P := P) hk
        exact ⟨hf1.defers, v, hr, .inl ⟨v, rfl, hs1, hR⟩⟩
      · obtain ⟨v, hr, hR⟩ := retK_elim hf1 (P := P) hk
        exact ⟨hf1.defers, v, hr, .inl ⟨v, rfl, hs1, hR⟩⟩
      · rename_i x
        exact ⟨hf1.defers, .inr ⟨x, rfl, hs1, hk⟩⟩
      · exact hk.elim
  · exact hb.elim

/-- What is owed for a call that returns. -/
def evBody (P : Program) (calls : Known) (hs : Hints) (fn : Func) (args : List SV) (h : Hp) (R : Value → Hp → Prop) : Prop :=
  evBodyX P calls hs fn args h R fun _ _ => False

/-- **A body that is well as a proposition is a call that returns.** -/
theorem calls_of_body {P : Program} {calls : Known} (hcalls : CallsOk P calls) {hs : Hints} {f : FuncId} {fn : Func} (hfn : P.funcs[f]? = some fn) {args : List SV} {h : Hp} {R : Value → Hp → Prop}
    (hb : evBody P calls hs fn args h R) : CallsH P f (args.map SV.val) h R := by
  intro w hw
  refine (callsX_of_body hcalls hfn hb w hw).mono ?_
  rintro e w' (h | ⟨x, _, _, hf⟩)
  · exact h
  · exact hf.elim

/-! ## Deferred calls -/
/-- How a caller stands while it leaves: it returns (none), or it panics with a value, which is not yet or already recovered. -/
def modeOf (x : Option Value) (rec : Bool) : FrameMode :=
  match x with
  | none => .returning
  | some v => .panicking [{ v, recovered := rec }]

/-- A deferred call, of which the caller returns, or panics; it recovers what is panicked, and returns. -/
def CallsDH (P : Program) (f : FuncId) (args : List Value) (x : Option Value) (h : Hp) (D : Hp → Prop) : Prop :=
  ∀ w : World, w.heap = h → CallsD P f ⟨args⟩ (modeOf x false) w fun e u' w' => ∃ v, e = .returned v ∧ u' = modeOf x true ∧ Same w w' ∧ D w'.heap

theorem CallsDH.mono {P : Program} {f : FuncId} {args : List Value} {x : Option Value} {h : Hp} {D D' : Hp → Prop} (hc : CallsDH P f args x h D) (hd : ∀ h', D h' → D' h') : CallsDH P f args x h D' :=
  fun w hw => (hc w hw).mono fun e u' w' ⟨v, e1, e2, s, d⟩ => ⟨v, e1, e2, s, hd _ d⟩

/-- A piece of code whose first operation is the call of recover, told of what that yields. -/
def evRec (P : Program) (calls : Known) (n : Nat) (hs : Hints) : Code → SV → Env → Hp → (Exit → Env → Hp → Prop) → Prop
  | .region _ ops false, x, e, h, K => match ops[0]? with
    | some o => match o.op, o.guard with
      | .call { callee := .builtin .recover, args := ⟨[]⟩, .. }, none => putK n [] e o.dst x fun e => evList P calls n [] ops false (fun _ _ => false) (fun _ _ => False) (List.range' 1 (ops.size - 1)) [] e h (fun _ e h => K .normal e h)
      | _, _ => False
    | none => False
  | .seq a b, x, e, h, K => evRec P calls n hs a x e h fun ex e1 h1 => match ex with
      | .normal => evCode P calls n hs b [] e1 h1 K
      | ex => K ex e1 h1
  | _, _, _, _, _ => False

theorem wpOpsS_of_wpOps {P : Program} {ops : Array Oper} {cs : List Frame} {Q : Exit → Act → World → Prop} (hno : ∀ a w, ¬ Q .outgrown a w) : ∀ (l : List Nat) (a : Act) (w : World),
    wpOps P ops Q l a w → wpOpsS P ops (fun e a cs' w => cs' = cs ∧ Q e a w) l a cs w
  | [], a, w, h => ⟨rfl, h⟩
  | i :: r, a, w, h => by
    simp only [wpOps] at h
    simp only [wpOpsS]
    cases ho : ops[i]? with
    | none => simp only [ho] at h; exact wpOpsS_of_wpOps hno r a w h
    | some o =>
      simp only [ho] at h
      simp only
      by_cases hw : Region.wanted o (yielded ops a.tmps) = true
      · simp only [hw, if_true] at h ⊢
        rcases h with h | ⟨_, a0, w0, hq⟩
        · unfold Oper.wp at h
          generalize (execOp a.eval o).run P w = r' at h
          cases r' with
          | ok nx w' =>
            cases nx <;> simp only [Oper.upon] at h ⊢
            case value v => exact wpOpsS_of_wpOps hno r _ _ h
            case skip => exact wpOpsS_of_wpOps hno r _ _ h
            case defer d => exact wpOpsS_of_wpOps hno r _ _ h
            case enter f args =>
              refine Calls.mono h fun e w'' he => ?_
              cases e with
              | returned v => exact wpOpsS_of_wpOps hno r _ _ he
              | panicked c => exact ⟨by first | trivial | rfl, he⟩
              | outgrown =>
                obtain ⟨a0, w0, hq⟩ := he
                exact (hno _ _ hq).elim
            case row row args => exact Rows.mono h fun v w'' he => wpOpsS_of_wpOps hno r _ _ he
          | halt x w' =>
            cases x <;> simp only [Oper.upon] at h ⊢
            case panic v => exact ⟨by first | trivial | rfl, h⟩
        · exact (hno _ _ hq).elim
      · simp only [hw, if_false, Bool.false_eq_true] at h ⊢
        exact wpOpsS_of_wpOps hno r _ _ h

theorem evRec_elim {P : Program} {calls : Known} (hcalls : CallsOk P calls) {n : Nat} {hs : Hints} {x : SV} {cs cs1 : List Frame} (hrec : recoverD cs = some (x.val, cs1) ∨ (recoverD cs = none ∧ x.val = .nilIface ∧ cs1 = cs)) :
    ∀ (c : Code) (e : Env) (K : Exit → Env → Hp → Prop) (a : Act) (w : World) (w0 : World) (Q : Exit → Act → World → Prop), (∀ a w, ¬ Q .outgrown a w) →
    Fits n [] [] a e → Same w0 w → evRec P calls n hs c x e w.heap K → (∀ ex e1 a1 w1, K ex e1 w1.heap → Fits n [] [] a1 e1 → Same w0 w1 → Q ex a1 w1) → c.wpS P (fun ex a1 cs' w1 => cs' = cs1 ∧ Q ex a1 w1) a cs w := by
  intro c
  induction c with
  | region id ops draw =>
    intro e K a w w0 Q hno hf hsm h hQ
    cases draw with
    | true => exact h.elim
    | false =>
      simp only [evRec] at h
      split at h
      · rename_i o ho
        split at h
        · rename_i ats hop hg
          obtain ⟨e1, h, hf1⟩ := putK_elim hf h
          refine wpS_region ?_
          have hsz : 0 < ops.size := (Array.getElem?_eq_some_iff.1 ho).1
          have hr : List.range ops.size = 0 :: List.range' 1 (ops.size - 1) := by
            rw [List.range_eq_range', show ops.size = (ops.size - 1) + 1 by omega, List.range'_succ]; simp
          rw [hr]
          simp only [wpOpsS, ho]
          have hw : Region.wanted o (yielded ops a.tmps) = true := by unfold Region.wanted; rw [hg]
          have hx : (execOp a.eval o).run P w = .ok .recover w := by
            obtain ⟨dst, op, type, pos, after, guard⟩ := o
            simp only at hop
            subst hop
            simp [execOp, resolve, invoke, builtin]
          simp only [hw, if_true, hx]
          have hl := evList_elim (ds := []) (lk := []) hcalls (w0 := w0) (Q := Q) (B := endQ Q) (K := fun _ e h => K .normal e h) (fun F G e a w _ hk hf hs => hQ _ _ _ _ hk hf hs) (fun x a w hk hf hs => hk.elim) (List.range' 1 (ops.size - 1)) [] [] e1 (a.put o.dst x.val) w (fun _ => rfl) hf1 hsm h
          have hl2 := wpOpsS_of_wpOps (cs := cs1) hno _ _ _ (wpOps_of_sG (drawn := false) (prec := fun _ _ => false) _ [] _ w hl)
          rcases hrec with hrec | ⟨hrec, hv, rfl⟩
          · rw [hrec]; exact hl2
          · rw [hrec]
            simp only
            rw [hv] at hl2; exact hl2
        · exact h.elim
      · exact h.elim
  | seq x' y ihx ihy =>
    intro e K a w w0 Q hno hf hsm h hQ
    simp only [evRec] at h
    refine wpS_seq ?_
    have := ihx e _ a w w0 (Exit.then (y.wp P Q) Q) (fun a w => hno a w) hf hsm h ?_
    · intro b k hb hr
      obtain ⟨ex, a1, cs', w1, ⟨rfl, hq⟩, harr⟩ := this b k hb hr
      refine ⟨ex, a1, cs', w1, ?_, harr⟩
      cases ex with
      | normal => exact wpS_of_wp (wp_mono hq fun e a w q => ⟨rfl, q⟩)
      | _ => exact ⟨rfl, hq⟩
    · intro ex e1 a1 w1 hk hf1 hs1
      cases ex with
      | normal => exact evCode_elim hcalls y [] e1 K a1 w1 w0 Q hf1 hs1 hk hQ
      | _ => exact hQ _ _ _ _ hk hf1 hs1
  | _ => intro e K a w w0 Q hno hf hsm h hQ; exact h.elim

/-- What is owed for a deferred call whose body begins by recover. -/
def evBodyR (P : Program) (calls : Known) (hs : Hints) (fn : Func) (args : List SV) (x : SV) (h : Hp) (D : Hp → Prop) : Prop :=
  match fn.body with
  | some c => bif Nat.ble args.length fn.ntmps then evRec P calls fn.ntmps hs c x (argEnv 0 args) h fun ex e h1 => match ex with
      | .normal => retK P fn e h1 fun _ h => D h
      | .ret => retK P fn e h1 fun _ h => D h
      | _ => False
    else False
  | none => False

/-- What recover yields. -/
def recOf (x : Option Value) : SV := match x with
  | none => .raw .nilIface
  | some v => .raw v

theorem callsD_of_body {P : Program} {calls : Known} (hcalls : CallsOk P calls) {hs : Hints} {f : FuncId} {fn : Func} (hfn : P.funcs[f]? = some fn) {args : List SV} {x : Option Value} {h : Hp} {D : Hp → Prop}
    (hb : evBodyR P calls hs fn args (recOf x) h D) : CallsDH P f (args.map SV.val) x h D := by
  intro w hw
  subst hw
  unfold evBodyR at hb
  split at hb
  · rename_i c hc
    cases hl : Nat.ble args.length fn.ntmps
    · rw [hl, cond_false] at hb; exact hb.elim
    · rw [hl, cond_true] at hb
      have hle := Nat.le_of_ble_eq_true hl
      refine callsD_of_wpS hfn hc ?_
      intro c₀ cs hu
      have key := evRec_elim (cs := c₀ :: cs) (cs1 := { c₀ with mode := modeOf x true } :: cs) hcalls (x := recOf x) ?_ c (argEnv 0 args) _ _ w w
        (fun ex a1 w1 => match ex with | .normal | .ret => a1.defers = [] ∧ ∃ v, (results fn a1.tmps).run P w1 = .ok v w1 ∧ Same w w1 ∧ D w1.heap | _ => False) (fun a w h => h) (Fits.start hle) (Same.refl w) hb ?_
      · intro b k hb hr
        obtain ⟨ex, a1, cs', w1, ⟨rfl, hq⟩, harr⟩ := key b k hb hr
        refine ⟨ex, a1, _, w1, ?_, harr⟩
        cases ex with
        | normal =>
          obtain ⟨h1, v, h2, h3, h4⟩ := hq
          exact ⟨h1, _, rfl, v, h2, v, rfl, rfl, h3, h4⟩
        | ret =>
          obtain ⟨h1, v, h2, h3, h4⟩ := hq
          exact ⟨h1, _, rfl, v, h2, v, rfl, rfl, h3, h4⟩
        | _ => exact hq.elim
      · cases x with
        | none =>
          refine .inr ⟨?_, rfl, ?_⟩
          · simp only [recoverD]
            rw [hu]; rfl
          · cases c₀; simp only [modeOf] at hu ⊢; subst hu; rfl
        | some v =>
          refine .inl ?_
          simp only [recoverD]
          rw [hu]; rfl
      · intro ex e1 a1 w1 hk hf1 hs1
        split at hk
        · obtain ⟨v, hr, hR⟩ := retK_elim hf1 (P := P) hk
          exact ⟨hf1.defers, v, hr, hs1, hR⟩
        · obtain ⟨v, hr, hR⟩ := retK_elim hf1 (P := P) hk
          exact ⟨hf1.defers, v, hr, hs1, hR⟩
        · exact hk.elim
  · exact hb.elim

/-- What a region defers by its last operation: a function that is known. -/
def deferOf (ops : Array Oper) : Option (Operand × List Operand) :=
  match ops[ops.size - 1]? with
  | some ⟨none, .defer { callee := .value x, args := xs, .. }, _, _, _, none⟩ => some (x, xs.toList)
  | _ => none

def deferAt : Code → Option (Array Oper × Operand × List Operand)
  | .region _ ops false => match deferOf ops with
    | some d => some (ops, d.1, d.2)
    | none => none
  | _ => none

def isDefer : Op → Bool
  | .defer _ => true
  | _ => false

def hasDefer : Code → Bool
  | .region _ ops _ => ops.toList.any fun o => isDefer o.op
  | .seq x y => hasDefer x || hasDefer y
  | .cond _ x y => hasDefer x || hasDefer y
  | .block _ c => hasDefer c
  | .loop c => hasDefer c
  | .scope c => hasDefer c
  | _ => false

def resSlots : List ResultVar → List Nat
  | [] => []
  | .cell b _ :: r => b :: resSlots r
  | .tmp _ :: r => resSlots r

/-- The deferred calls one after the other, and then the results. -/
def leaveK (P : Program) (calls : Known) (fn : Func) (R : Value → Hp → Prop) : List (FuncId × List Value) → Option Value → Env → Hp → Prop
  | [], none, e, h => retK P fn e h R
  | [], some _, _, _ => False
  | (f, args) :: r, x, e, h => bif calls.ok f then CallsDH P f args x h fun h1 => leaveK P calls fn R r none e h1 else False

def leaveBy (P : Program) (calls : Known) (fn : Func) (R : Value → Hp → Prop) (fs : List (FuncId × List Value)) (pe : Env) (ex : Exit) (e : Env) (h : Hp) : Prop :=
  match ex with
  | .normal => leaveK P calls fn R fs none e h
  | .ret => leaveK P calls fn R fs none e h
  | .panic [⟨x, false, false⟩] => leaveK P calls fn R fs (some x) pe h
  | _ => False

/-- A body in whose first steps calls are deferred. -/
def evTop (P : Program) (calls : Known) (hs : Hints) (fn : Func) (R : Value → Hp → Prop) : Code → List (FuncId × List Value) → Lock → Env → Env → Hp → Prop
  | .seq x y, fs, lk, pe, e, h => bif hasDefer (.seq x y) then (match deferAt x with
      | some d => evList P calls fn.ntmps lk d.1 false (fun _ _ => false) (fun _ _ => False) (List.range (d.1.size - 1)) [] e h fun _ e1 h1 =>
          withOp e1 d.2.1 fun v => match v with
            | .fn (.func f) first captured => withOps e1 d.2.2 fun vs => match pickFixed e1 (resSlots fn.results.toList) with
              | some fe => evTop P calls hs fn R y ((f, first ++ vs.map SV.val ++ captured) :: fs) (lockOf fe ++ lk) fe e1 h1
              | none => False
            | _ => False
      | none => evCode P calls fn.ntmps hs x lk e h fun ex e1 h1 => match ex with
        | .normal => evTop P calls hs fn R y fs lk pe e1 h1
        | ex => leaveBy P calls fn R fs pe ex e1 h1)
    else evCode P calls fn.ntmps hs (.seq x y) lk e h fun ex e1 h1 => leaveBy P calls fn R fs pe ex e1 h1
  | c, fs, lk, pe, e, h => evCode P calls fn.ntmps hs c lk e h fun ex e1 h1 => leaveBy P calls fn R fs pe ex e1 h1

def evBodyD (P : Program) (calls : Known) (hs : Hints) (fn : Func) (args : List SV) (h : Hp) (R : Value → Hp → Prop) : Prop :=
  match fn.body with
  | some c => bif Nat.ble args.length fn.ntmps then evTop P calls hs fn R c [] [] [] (argEnv 0 args) h else False
  | none => False

/-- The calls that a frame has deferred. -/
def Defs : List Deferred → List (FuncId × List Value) → Prop
  | [], [] => True
  | d :: ds, p :: fs => (∃ (cap : List Value) (as : List Value), d = { target := .fn (.func p.1) ⟨cap⟩, args := ⟨as⟩ } ∧ p.2 = as ++ cap) ∧ Defs ds fs
  | _, _ => False

theorem leaveK_elim {P : Program} {calls : Known} (hcalls : CallsOk P calls) {fn : Func} {R : Value → Hp → Prop} {w0 : World} {n : Nat} {lk : Lock} {ds0 : List Deferred} {a : Act} {e : Env} (hf : Fits n ds0 lk a e) :
    ∀ (fs : List (FuncId × List Value)) (ds : List Deferred) (x : Option Value) (w : World), Defs ds fs → Same w0 w → leaveK P calls fn R fs x e w.heap →
      Leaves P fn a.tmps (fun en w' => ∃ v, en = .returned v ∧ Same w0 w' ∧ R v w'.heap) ds (modeOf x false) w
  | [], [], none, w, _, hs, h => by
    obtain ⟨v, hr, hR⟩ := retK_elim hf (P := P) h
    exact ⟨v, hr, v, rfl, hs, hR⟩
  | [], [], some _, w, _, hs, h => h.elim
  | (f, args) :: r, d :: ds, x, w, hd, hs, h => by
    obtain ⟨⟨cap, as, rfl, e1⟩, hd⟩ := hd
    simp only at e1
    subst e1
    simp only [leaveK] at h
    cases hc : calls.ok f
    · rw [hc, cond_false] at h; exact h.elim
    · rw [hc, cond_true] at h
      refine leaves_cons (by cases x <;> simp [modeOf]) (f := f) (args := ⟨as ++ cap⟩) ?_ ?_
      · have := hcalls f hc ⟨as ++ cap⟩ w
        simp only [invoke]
        simpa using this
      · refine (h w rfl).mono ?_
        rintro en u' w' ⟨v, rfl, rfl, hs', hk⟩
        have ih := leaveK_elim hcalls hf r ds none w' hd (hs.trans hs') hk
        have hset : settle (modeOf x true) = modeOf none false := by
          cases x <;> rfl
        simp only [hset]
        exact ih
  | [], _ :: _, _, _, hd, _, _ => hd.elim
  | _ :: _, [], _, _, hd, _, _ => hd.elim

theorem wpOps_append {P : Program} {ops : Array Oper} {Q : Exit → Act → World → Prop} {r : List Nat} : ∀ (l : List Nat) (a : Act) (w : World),
    wpOps P ops (Exit.then (wpOps P ops Q r) Q) l a w → wpOps P ops Q (l ++ r) a w
  | [], a, w, h => h
  | i :: l, a, w, h => by
    simp only [wpOps, List.cons_append] at h ⊢
    cases ho : ops[i]? with
    | none => simp only [ho] at h; exact wpOps_append l a w h
    | some o =>
      simp only [ho] at h
      simp only
      by_cases hw : Region.wanted o (yielded ops a.tmps) = true
      · simp only [hw, if_true] at h ⊢
        rcases h with h | ⟨hasks, a0, w0, hq⟩
        · refine .inl ?_
          unfold Oper.wp at h ⊢
          generalize (execOp a.eval o).run P w = r' at h ⊢
          cases r' with
          | ok nx w' =>
            cases nx <;> simp only [Oper.upon] at h ⊢
            case value v => exact wpOps_append l _ _ h
            case skip => exact wpOps_append l _ _ h
            case defer d => exact wpOps_append l _ _ h
            case enter f args =>
              refine Calls.mono h fun e w'' he => ?_
              cases e with
              | returned v => exact wpOps_append l _ _ he
              | panicked c => exact he
              | outgrown =>
                obtain ⟨a0, w0, hq⟩ := he
                exact ⟨a0, w0, hq⟩
            case row row args => exact Rows.mono h fun v w'' he => wpOps_append l _ _ he
          | halt x w' =>
            cases x <;> simp only [Oper.upon] at h ⊢
            case panic v => exact h
        · exact .inr ⟨hasks, a0, w0, hq⟩
      · simp only [hw, if_false, Bool.false_eq_true] at h ⊢
        exact wpOps_append l _ _ h

theorem leaveBy_elim {P : Program} {calls : Known} (hcalls : CallsOk P calls) {fn : Func} {R : Value → Hp → Prop} {w0 : World} {n : Nat} {lk : Lock} {ds : List Deferred} {fs : List (FuncId × List Value)} {pe : Env} (hd : Defs ds fs)
    (hpe : ∀ a, Fits n ds lk a [] → Fits n ds lk a pe) {ex : Exit} {e : Env} {a : Act} {w : World} (h : leaveBy P calls fn R fs pe ex e w.heap) (hf : Fits n ds lk a e) (hs : Same w0 w) :
    bodyPostD P fn (fun en w' => ∃ v, en = .returned v ∧ Same w0 w' ∧ R v w'.heap) ex a w := by
  unfold leaveBy at h
  split at h
  · have := leaveK_elim hcalls hf fs ds none w hd hs h
    rw [← hf.defers] at this; exact this
  · have := leaveK_elim hcalls hf fs ds none w hd hs h
    rw [← hf.defers] at this; exact this
  · rename_i x
    have := leaveK_elim hcalls (hpe a hf.bare) fs ds (some x) w hd hs h
    rw [← hf.defers] at this; exact this
  · exact h.elim

theorem deferOf_spec {ops : Array Oper} {x : Operand} {xs : List Operand} (h : deferOf ops = some (x, xs)) :
    ∃ o : Oper, ops[ops.size - 1]? = some o ∧ o.dst = none ∧ o.guard = none ∧ ∃ (as : Array Operand) (ts : Array TypeId), o.op = .defer ⟨.value x, as, ts⟩ ∧ as.toList = xs := by
  unfold deferOf at h
  split at h
  · rename_i x' as ts ty pos after ho
    simp only [Option.some.injEq, Prod.mk.injEq] at h
    obtain ⟨rfl, rfl⟩ := h
    exact ⟨_, ho, rfl, rfl, as, ts, rfl, rfl⟩
  · cases h

theorem evTop_elim {P : Program} {calls : Known} (hcalls : CallsOk P calls) {hs : Hints} {fn : Func} {R : Value → Hp → Prop} {w0 : World} : ∀ (c : Code) (fs : List (FuncId × List Value)) (ds : List Deferred) (lk : Lock) (pe e : Env) (a : Act) (w : World),
    Defs ds fs → (∀ a, Fits fn.ntmps ds lk a [] → Fits fn.ntmps ds lk a pe) → Fits fn.ntmps ds lk a e → Same w0 w → evTop P calls hs fn R c fs lk pe e w.heap →
    c.wp P (bodyPostD P fn fun en w' => ∃ v, en = .returned v ∧ Same w0 w' ∧ R v w'.heap) a w := by
  intro c
  have plain : ∀ (c : Code) (fs : List (FuncId × List Value)) (ds : List Deferred) (lk : Lock) (pe e : Env) (a : Act) (w : World),
      Defs ds fs → (∀ a, Fits fn.ntmps ds lk a [] → Fits fn.ntmps ds lk a pe) → Fits fn.ntmps ds lk a e → Same w0 w → (evCode P calls fn.ntmps hs c lk e w.heap fun ex e1 h1 => leaveBy P calls fn R fs pe ex e1 h1) →
      c.wp P (bodyPostD P fn fun en w' => ∃ v, en = .returned v ∧ Same w0 w' ∧ R v w'.heap) a w := by
    intro c fs ds lk pe e a w hd hpe hf hsm h
    exact evCode_elim hcalls c lk e _ a w w0 _ hf hsm h fun ex e1 a1 w1 hk hf1 hs1 => leaveBy_elim hcalls hd hpe hk hf1 hs1
  induction c with
  | seq x y ihx ihy =>
    intro fs ds lk pe e a w hd hpe hf hsm h
    simp only [evTop] at h
    cases hh : hasDefer (.seq x y)
    · rw [hh, cond_false] at h
      exact plain _ fs ds lk pe e a w hd hpe hf hsm h
    · rw [hh, cond_true] at h
      split at h
      · rename_i d hda
        obtain ⟨ops, ox, oxs⟩ := d
        simp only at h
        have hx : ∃ id, x = .region id ops false ∧ deferOf ops = some (ox, oxs) := by
          cases x <;> simp only [deferAt] at hda <;> try (cases hda; done)
          rename_i id ops' draw
          cases draw
          · simp only at hda
            split at hda
            · rename_i d' hd'
              simp only [Option.some.injEq, Prod.mk.injEq] at hda
              obtain ⟨rfl, rfl, rfl⟩ := hda
              exact ⟨id, rfl, hd'⟩
            · cases hda
          · cases hda
        obtain ⟨id, rfl, hdo⟩ := hx
        obtain ⟨o, ho, hdst, hg, as, ts, hop, rfl⟩ := deferOf_spec hdo
        refine wp_seq (wp_region ?_)
        have hsz : 0 < ops.size := by have := (Array.getElem?_eq_some_iff.1 ho).1; omega
        have hr : List.range ops.size = List.range (ops.size - 1) ++ [ops.size - 1] := by
          rw [← List.range_succ]; congr 1; omega
        rw [hr]
        refine wpOps_append _ _ _ (wpOps_of_sG (drawn := false) (prec := fun _ _ => false) _ [] a w ?_)
        refine evList_elim hcalls (w0 := w0) ?_ (fun x a w hk _ _ => hk.elim) _ [] [] e a w (fun _ => rfl) hf hsm h
        intro F1 G1 e1 a1 w1 _ hk hf1 hs1
        obtain ⟨v, hk, ev⟩ := withOp_elim hf1 hk
        split at hk
        · rename_i f first captured
          obtain ⟨vs, hk, evs⟩ := withOps_elim hf1 hk
          split at hk
          · rename_i fe hfe
            have hw : Region.wanted o (yielded ops a1.tmps) = true := by unfold Region.wanted; rw [hg]
            simp only [endQ, Exit.then, wpOps, ho, hw, if_true]
            refine .inl ?_
            have hrun : (execOp a1.eval o).run P w1 = .ok (.defer { target := .fn (.func f) ⟨captured⟩, args := ⟨first ++ vs.map SV.val⟩ }) w1 := by
              obtain ⟨dst, op, type, pos, after, guard⟩ := o
              simp only at hop
              subst hop
              simp [execOp, resolve, ev, SV.val, Deferred.ofValue, arr_of_map evs]
            unfold Oper.wp
            rw [hrun]
            simp only [Oper.upon, hdst, Act.put]
            have hf2 : Fits fn.ntmps ({ target := .fn (.func f) ⟨captured⟩, args := ⟨first ++ vs.map SV.val⟩ } :: ds) (lockOf fe ++ lk) { tmps := a1.tmps, defers := { target := .fn (.func f) ⟨captured⟩, args := ⟨first ++ vs.map SV.val⟩ } :: a1.defers } e1 := by
              have hl := hf1.lockIn hfe
              exact ⟨hl.size, hl.kept, by rw [hf1.defers], hl.slot⟩
            refine ihy ((f, first ++ vs.map SV.val ++ captured) :: fs) ({ target := .fn (.func f) ⟨captured⟩, args := ⟨first ++ vs.map SV.val⟩ } :: ds) (lockOf fe ++ lk) fe e1 _ w1 ⟨⟨captured, first ++ vs.map SV.val, rfl, rfl⟩, hd⟩ ?_ hf2 hs1 hk
            intro a2 hf3
            exact ⟨hf3.size, hf3.kept, hf3.defers, fun i u hu => hf3.kept _ (List.mem_append.2 (.inl (find_lock hu)))⟩
          · exact hk.elim
        · exact hk.elim
      · refine wp_seq (evCode_elim hcalls x lk e _ a w w0 _ hf hsm h ?_)
        intro ex e1 a1 w1 hk hf1 hs1
        cases ex with
        | normal => exact ihy fs ds lk pe e1 a1 w1 hd hpe hf1 hs1 hk
        | exit i => exact leaveBy_elim hcalls hd hpe hk hf1 hs1
        | goto l => exact leaveBy_elim hcalls hd hpe hk hf1 hs1
        | ret => exact leaveBy_elim hcalls hd hpe hk hf1 hs1
        | panic c => exact leaveBy_elim hcalls hd hpe hk hf1 hs1
        | outgrown => exact leaveBy_elim hcalls hd hpe hk hf1 hs1
  | _ => intro fs ds lk pe e a w hd hpe hf hsm h; exact plain _ fs ds lk pe e a w hd hpe hf hsm h

/-- **A body that defers, and is well as a proposition, is a call that returns.** -/
theorem calls_of_bodyD {P : Program} {calls : Known} (hcalls : CallsOk P calls) {hs : Hints} {f : FuncId} {fn : Func} (hfn : P.funcs[f]? = some fn) {args : List SV} {h : Hp} {R : Value → Hp → Prop}
    (hb : evBodyD P calls hs fn args h R) : CallsH P f (args.map SV.val) h R := by
  intro w hw
  subst hw
  unfold evBodyD at hb
  split at hb
  · rename_i c hc
    cases hl : Nat.ble args.length fn.ntmps
    · rw [hl, cond_false] at hb; exact hb.elim
    · rw [hl, cond_true] at hb
      have hle := Nat.le_of_ble_eq_true hl
      refine calls_of_wp_defers hfn hc ?_
      exact evTop_elim hcalls c [] [] [] [] _ _ w trivial (fun a h => h) (Fits.start hle) (Same.refl w) hb
  · exact hb.elim
end Go.Wd
