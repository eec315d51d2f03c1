/-
  Bodies as propositions: what is owed for a call.
-/
import Derived.Test.YthhancpnaleknaaDoorWdCode
namespace Go.Wd
set_option linter.unusedSimpArgs false
set_option linter.unusedVariables false
open Go Go.RowKit

def lockOf : Env → Lock
  | [] => []
  | (s, v) :: r => (s, v.val) :: lockOf r

def hintOf {A : Type} (l : List (Nat × A)) (c : Code) : Option A :=
  match firstRegion c with
  | some i => assoc l i
  | none => none

def cutK (e : Env) (vary : List (Nat × GSh)) (I : Cur (Hp → Prop) (cellsOf vary)) (h : Hp) : Prop :=
  match pickCells e vary with
  | some us => app (fun _ => False) (cellsOf vary) I us h
  | none => False

def roundK (e : Env) (vary : List (Nat × GSh)) (I : Cur (Hp → Prop) (cellsOf vary)) (μ : Cur (Hp → Nat) (cellsOf vary)) (m : Nat) (h : Hp) : Prop :=
  match pickCells e vary with
  | some us => app (fun _ => False) (cellsOf vary) I us h ∧ app (fun _ => 0) (cellsOf vary) μ us h < m
  | none => False

def evCode (P : Program) (calls : Nat → Bool) (n : Nat) (hs : Hints) : Code → Lock → Env → Hp → (Exit → Env → Hp → Prop) → Prop
  | .skip, _, e, h, K => K .normal e h
  | .region id ops draw, lk, e, h, K => bif draw then (match assoc hs.orders id with
      | some mo => bif orderOk P ops mo.1 mo.2 && P.follows .mixedOrders then evList P calls n lk ops true (precOf mo.1) mo.2 [] e h (fun e h => K .normal e h) else False
      | none => False)
    else evList P calls n lk ops false (fun _ _ => false) (List.range ops.size) [] e h (fun e h => K .normal e h)
  | .seq x y, lk, e, h, K => match hintOf hs.cuts y with
    | none => evCode P calls n hs x lk e h fun ex e1 h1 => match ex with
      | .normal => evCode P calls n hs y lk e1 h1 K
      | ex => K ex e1 h1
    | some fv => match pickFixed e fv.1 with
      | none => False
      | some fe => ∃ I : Cur (Hp → Prop) (cellsOf fv.2),
          evCode P calls n hs x (lockOf fe ++ lk) e h (fun ex e1 h1 => match ex with
            | .normal => cutK e1 fv.2 I h1
            | ex => K ex e1 h1) ∧
          allShs (cellsOf fv.2) fun us => ∀ h1, app (fun _ => False) (cellsOf fv.2) I us h1 → evCode P calls n hs y lk (fe ++ envOf fv.2 us) h1 K
  | .cond c x y, lk, e, h, K => withOp e c fun v => match v with
    | .tt => evCode P calls n hs x lk e h K
    | .ff => evCode P calls n hs y lk e h K
    | .bool b => (b = true → evCode P calls n hs x lk e h K) ∧ (b = false → evCode P calls n hs y lk e h K)
    | _ => False
  | .block id c, lk, e, h, K => evCode P calls n hs c lk e h fun ex e1 h1 => match ex with
    | .exit id' => bif Nat.beq id' id then K .normal e1 h1 else K (.exit id') e1 h1
    | ex => K ex e1 h1
  | .loop c, lk, e, h, K => match hintOf hs.loops c with
    | none => False
    | some fv => match pickFixed e fv.1, pickCells e fv.2 with
      | some fe, some us0 => ∃ (I : Cur (Hp → Prop) (cellsOf fv.2)) (μ : Cur (Hp → Nat) (cellsOf fv.2)), app (fun _ => False) (cellsOf fv.2) I us0 h ∧
          allShs (cellsOf fv.2) fun us => ∀ h1, app (fun _ => False) (cellsOf fv.2) I us h1 →
            evCode P calls n hs c (lockOf fe ++ lk) (fe ++ envOf fv.2 us) h1 fun ex e2 h2 => match ex with
              | .normal => roundK e2 fv.2 I μ (app (fun _ => 0) (cellsOf fv.2) μ us h1) h2
              | ex => K ex e2 h2
      | _, _ => False
  | .exit id, _, e, h, K => K (.exit id) e h
  | .ret, _, e, h, K => K .ret e h
  | .scope c, lk, e, h, K => evCode P calls n hs c lk e h fun ex e1 h1 => match ex with
    | .goto _ => False
    | ex => K ex e1 h1
  | .label _, _, e, h, K => K .normal e h
  | _, _, _, _, _ => False

theorem Fits.weaken {n : Nat} {lk lk' : Lock} {a : Act} {e : Env} (h : Fits n (lk' ++ lk) a e) : Fits n lk a e :=
  ⟨h.size, fun p hp => h.kept p (List.mem_append.2 (.inr hp)), h.defers, h.slot⟩

theorem pickFixed_mem {n : Nat} {lk : Lock} {a : Act} {e : Env} (hf : Fits n lk a e) : ∀ {l : List Nat} {fe : Env}, pickFixed e l = some fe → ∀ p ∈ lockOf fe, a.tmps[p.1]? = some p.2
  | [], fe, h, p, hp => by simp [pickFixed] at h; subst h; simp [lockOf] at hp
  | s :: r, fe, h, p, hp => by
    simp only [pickFixed] at h
    split at h
    · rename_i u rest hu hr
      simp only [Option.some.injEq] at h
      subst h
      simp only [lockOf] at hp
      rcases List.mem_cons.1 hp with rfl | hp
      · exact hf.slot _ _ hu
      · exact pickFixed_mem hf hr p hp
    · exact absurd h (by simp)

theorem find_lock : ∀ {fe : Env} {i : Nat} {v : SV}, Env.find fe i = some v → (i, v.val) ∈ lockOf fe
  | [], i, v, h => by simp [Env.find] at h
  | (s, u) :: r, i, v, h => by
    simp only [Env.find] at h
    simp only [lockOf]
    cases hb : Nat.beq i s
    · rw [hb, cond_false] at h; exact List.mem_cons_of_mem _ (find_lock h)
    · rw [hb, cond_true] at h
      obtain rfl := Nat.eq_of_beq_eq_true hb
      cases h
      exact List.mem_cons_self

/-- Behind a piece of code: what stayed, and what is picked anew. -/
theorem Fits.anew {n : Nat} {lk : Lock} {a : Act} {e fe : Env} (hf : Fits n (lockOf fe ++ lk) a e) {vary : List (Nat × GSh)} {us : List Value} (h : pickCells e vary = some us) :
    us = usOf a vary ∧ Fits n (lockOf fe ++ lk) a (fe ++ envOf vary us) := by
  obtain ⟨h1, h2⟩ := pickCells_us hf h
  refine ⟨h1, hf.size, hf.kept, hf.defers, fun i v hv => ?_⟩
  rcases find_append hv with hv | hv
  · exact hf.kept _ (List.mem_append.2 (.inl (find_lock hv)))
  · exact h2 i v hv

theorem Fits.lockIn {n : Nat} {lk : Lock} {a : Act} {e fe : Env} (hf : Fits n lk a e) {l : List Nat} (h : pickFixed e l = some fe) : Fits n (lockOf fe ++ lk) a e :=
  ⟨hf.size, fun p hp => (List.mem_append.1 hp).elim (pickFixed_mem hf h p) (hf.kept p), hf.defers, hf.slot⟩

theorem evCode_elim {P : Program} {calls : Nat → Bool} (hcalls : CallsOk P calls) {n : Nat} {hs : Hints} : ∀ (c : Code) (lk : Lock) (e : Env) (K : Exit → Env → Hp → Prop) (a : Act) (w : World) (w0 : World) (Q : Exit → Act → World → Prop),
    Fits n lk a e → Same w0 w → evCode P calls n hs c lk e w.heap K → (∀ ex e1 a1 w1, K ex e1 w1.heap → Fits n lk a1 e1 → Same w0 w1 → Q ex a1 w1) → c.wp P Q a w := by
  intro c
  induction c with
  | skip => intro lk e K a w w0 Q hf hs h hQ; exact wp_skip (hQ _ _ _ _ h hf hs)
  | exit id => intro lk e K a w w0 Q hf hs h hQ; exact wp_exit (hQ _ _ _ _ h hf hs)
  | ret => intro lk e K a w w0 Q hf hs h hQ; exact wp_ret (hQ _ _ _ _ h hf hs)
  | rangeFunc => intro lk e K a w w0 Q hf hs h hQ; exact h.elim
  | scope c ih =>
    intro lk e K a w w0 Q hf hs h hQ
    simp only [evCode] at h
    refine wp_scope_straight (ih lk e _ a w w0 _ hf hs h ?_)
    intro ex e1 a1 w1 hk hf1 hs1
    cases ex with
    | goto l => exact hk.elim
    | _ => exact hQ _ _ _ _ hk hf1 hs1
  | label => intro lk e K a w w0 Q hf hs h hQ; exact wp_label (hQ _ _ _ _ h hf hs)
  | goto => intro lk e K a w w0 Q hf hs h hQ; exact h.elim
  | refuse => intro lk e K a w w0 Q hf hs h hQ; exact h.elim
  | region id ops draw =>
    intro lk e K a w w0 Q hf hs' h hQ
    cases draw with
    | false =>
      simp only [evCode, cond_false] at h
      refine wp_region (wpOps_of_sG (drawn := false) (prec := fun _ _ => false) _ [] a w ?_)
      exact evList_elim hcalls (w0 := w0) (fun e a w hk hf hs => hQ _ _ _ _ hk hf hs) _ [] [] e a w (fun _ => rfl) hf hs' h
    | true =>
      simp only [evCode, cond_true] at h
      split at h
      · rename_i mo hmo
        cases hok : (orderOk P ops mo.1 mo.2 && P.follows .mixedOrders)
        · rw [hok, cond_false] at h; exact h.elim
        · rw [hok, cond_true] at h
          rw [Bool.and_eq_true] at hok
          refine wp_drawn hok.2 hok.1 ?_
          exact evList_elim hcalls (Q := fun e a w => match e with | .normal => Q .normal a w | _ => False) (w0 := w0) (n := n) (lk := lk) (K := fun e h => K .normal e h)
            (fun e a w hk hf hs => hQ _ _ _ _ hk hf hs) mo.2 [] [] e a { w with drawn := w.drawn + 1 } (fun _ => rfl) hf ⟨hs'.os, hs'.tape, hs'.output⟩ h
      · exact h.elim
  | seq x y ihx ihy =>
    intro lk e K a w w0 Q hf hs' h hQ
    simp only [evCode] at h
    split at h
    · refine wp_seq (ihx lk e _ a w w0 _ hf hs' h ?_)
      intro ex e1 a1 w1 hk hf1 hs1
      cases ex with
      | normal => exact ihy lk e1 K a1 w1 w0 Q hf1 hs1 hk hQ
      | _ => exact hQ _ _ _ _ hk hf1 hs1
    · rename_i fv hfv
      split at h
      · exact h.elim
      · rename_i fe hfe
        obtain ⟨I, hx, hy⟩ := h
        refine wp_seq (ihx (lockOf fe ++ lk) e _ a w w0 _ (hf.lockIn hfe) hs' hx ?_)
        intro ex e1 a1 w1 hk hf1 hs1
        cases ex with
        | normal =>
          simp only [cutK] at hk
          split at hk
          · rename_i us hus
            obtain ⟨_, hf2⟩ := hf1.anew hus
            exact ihy lk _ K a1 w1 w0 Q hf2.weaken hs1 (allShs_at hy (fit_of_app hk) _ hk) hQ
          · exact hk.elim
        | _ => exact hQ _ _ _ _ hk hf1.weaken hs1
  | cond c x y ihx ihy =>
    intro lk e K a w w0 Q hf hs' h hQ
    simp only [evCode] at h
    obtain ⟨v, h, he⟩ := withOp_elim hf h
    split at h
    · exact wp_cond_true he (ihx lk e K a w w0 Q hf hs' h hQ)
    · exact wp_cond_false he (ihy lk e K a w w0 Q hf hs' h hQ)
    · rename_i b
      exact wp_cond_split (t := b) he (fun hb => ihx lk e K a w w0 Q hf hs' (h.1 hb) hQ) (fun hb => ihy lk e K a w w0 Q hf hs' (h.2 hb) hQ)
    · exact h.elim
  | block id c ih =>
    intro lk e K a w w0 Q hf hs' h hQ
    simp only [evCode] at h
    refine wp_block (ih lk e _ a w w0 _ hf hs' h ?_)
    intro ex e1 a1 w1 hk hf1 hs1
    cases ex with
    | exit id' =>
      simp only [Exit.inBlock]
      cases hb : Nat.beq id' id
      · simp only [hb, cond_false] at hk
        rw [if_neg (fun e => by subst e; simp at hb)]
        exact hQ _ _ _ _ hk hf1 hs1
      · simp only [hb, cond_true] at hk
        rw [if_pos (Nat.eq_of_beq_eq_true hb)]
        exact hQ _ _ _ _ hk hf1 hs1
    | _ => exact hQ _ _ _ _ hk hf1 hs1
  | loop c ih =>
    intro lk e K a w w0 Q hf hs' h hQ
    simp only [evCode] at h
    split at h
    · exact h.elim
    · rename_i fv hfv
      split at h
      · rename_i fe us0 hfe hus
        obtain ⟨I, μ, h0, hr⟩ := h
        obtain ⟨hu0, hf0⟩ := (hf.lockIn hfe).anew hus
        refine wp_loop (fun a w => Fits n (lockOf fe ++ lk) a (fe ++ envOf fv.2 (usOf a fv.2)) ∧ app (fun _ => False) (cellsOf fv.2) I (usOf a fv.2) w.heap ∧ Same w0 w)
          (fun a w => app (fun _ => 0) (cellsOf fv.2) μ (usOf a fv.2) w.heap) ⟨by rw [← hu0]; exact hf0, by rw [← hu0]; exact h0, hs'⟩ ?_
        rintro a w ⟨hf1, hI, hs1⟩
        have hev := allShs_at hr (fit_of_app hI) _ hI
        refine ih _ _ _ a w w0 _ hf1 hs1 hev ?_
        intro ex e2 a2 w2 hk hf2 hs2
        cases ex with
        | normal =>
          simp only [roundK] at hk
          split at hk
          · rename_i us hus2
            obtain ⟨hu, hf3⟩ := hf2.anew hus2
            subst hu
            exact ⟨⟨hf3, hk.1, hs2⟩, hk.2⟩
          · exact hk.elim
        | _ => exact hQ _ _ _ _ hk hf2.weaken hs2
      · exact h.elim

/-! ## Bodies -/
def resK (P : Program) (e : Env) (h : Hp) : List ResultVar → (List Value → Prop) → Prop
  | [], K => K []
  | .tmp t :: r, K => match Env.find e t with
    | some v => resK P e h r fun vs => K (v.val :: vs)
    | none => False
  | .cell b t :: r, K => match Env.find e b with
    | some (.ptr b o) => loadK P t h b o fun v _ => resK P e h r fun vs => K (v.val :: vs)
    | _ => False

def oneOf : List Value → Value
  | [v] => v
  | vs => .tuple ⟨vs⟩

def retK (P : Program) (fn : Func) (e : Env) (h : Hp) (R : Value → Hp → Prop) : Prop := resK P e h fn.results.toList fun vs => R (oneOf vs) h

def argEnv : Nat → List SV → Env
  | _, [] => []
  | i, v :: r => (i, v) :: argEnv (i + 1) r

def evBody (P : Program) (calls : Nat → Bool) (hs : Hints) (fn : Func) (args : List SV) (h : Hp) (R : Value → Hp → Prop) : Prop :=
  match fn.body with
  | some c => bif Nat.ble args.length fn.ntmps then evCode P calls fn.ntmps hs c [] (argEnv 0 args) h fun ex e h1 => match ex with
      | .normal => retK P fn e h1 R
      | .ret => retK P fn e h1 R
      | _ => False
    else False
  | none => False

def resOne (a : Act) : ResultVar → Sem Value
  | .tmp t => pure (a.tmps.getD t undef)
  | .cell b t => do loadVar t (← asAddr (a.tmps.getD b undef))

theorem resK_run {n : Nat} {lk : Lock} {a : Act} {e : Env} (hf : Fits n lk a e) (P : Program) (w : World) : ∀ {l : List ResultVar} {K : List Value → Prop}, resK P e w.heap l K →
    ∃ vs, K vs ∧ (l.mapM (resOne a)).run P w = .ok vs w
  | [], K, h => ⟨[], h, rfl⟩
  | .cell b t :: r, K, h => by
    simp only [resK] at h
    split at h
    · rename_i bb o hv
      have hs := hf.slot b _ hv
      obtain ⟨v, fs, hk, hfs, hload⟩ := loadK_elim h
      obtain ⟨vs, hK, hr⟩ := resK_run hf P w hk
      refine ⟨v.val :: vs, hK, ?_⟩
      have h1 : (resOne a (.cell b t)).run P w = .ok v.val w := by
        simp only [resOne, Array.getD_eq_getD_getElem?, hs, Option.getD_some, SV.val, asAddr, Sem.run_bind, Sem.run_pure, Result.andThen_ok]
        exact hload w hfs
      simp only [List.mapM_cons, Sem.run_bind, h1, hr, Result.andThen_ok, Sem.run_pure]
    · exact h.elim
  | .tmp t :: r, K, h => by
    simp only [resK] at h
    split at h
    · rename_i v hv
      obtain ⟨vs, hK, hr⟩ := resK_run hf P w h
      have hs := hf.slot t v hv
      have h1 : (resOne a (.tmp t)).run P w = .ok v.val w := by simp [resOne, Array.getD_eq_getD_getElem?, hs]
      exact ⟨v.val :: vs, hK, by simp only [List.mapM_cons, Sem.run_bind, h1, hr, Result.andThen_ok, Sem.run_pure]⟩
    · exact h.elim

theorem results_eq (fn : Func) (a : Act) : results fn a.tmps = (do
    let vs ← fn.results.mapM (resOne a)
    pure (if h : vs.size = 1 then vs[0] else .tuple vs)) := by
  unfold results
  congr 1

theorem retK_elim {n : Nat} {lk : Lock} {a : Act} {e : Env} (hf : Fits n lk a e) {P : Program} {fn : Func} {w : World} {R : Value → Hp → Prop} (h : retK P fn e w.heap R) :
    ∃ v, (results fn a.tmps).run P w = .ok v w ∧ R v w.heap := by
  unfold retK at h
  obtain ⟨vs, hR, hr⟩ := resK_run hf P w h
  refine ⟨_, ?_, hR⟩
  rw [results_eq]
  obtain ⟨l, hl⟩ : ∃ l, fn.results = ⟨l⟩ := ⟨fn.results.toList, rfl⟩
  rw [hl] at hr ⊢
  have e1 : ((⟨l⟩ : Array ResultVar).mapM (resOne a)) = List.toArray <$> l.mapM (resOne a) := by
    rw [Array.mapM_eq_mapM_toList]
  rw [e1]
  simp only [Sem.run_bind, Sem.run_map, hr, Result.andThen_ok, Sem.run_pure]
  match vs with
  | [] => rfl
  | [v] => rfl
  | v :: u :: r => simp [oneOf]

theorem argEnv_find : ∀ (args : List SV) (k i : Nat) (v : SV), Env.find (argEnv k args) i = some v → k ≤ i ∧ args[i - k]? = some v
  | [], k, i, v, h => by simp [argEnv, Env.find] at h
  | x :: r, k, i, v, h => by
    simp only [argEnv, Env.find] at h
    cases hb : Nat.beq i k
    · rw [hb, cond_false] at h
      obtain ⟨h1, h2⟩ := argEnv_find r (k + 1) i v h
      refine ⟨by omega, ?_⟩
      rw [show i - k = (i - (k + 1)) + 1 by omega]
      simpa using h2
    · rw [hb, cond_true] at h
      obtain rfl := Nat.eq_of_beq_eq_true hb
      cases h
      exact ⟨Nat.le_refl _, by simp⟩

/-- **A body that is well as a proposition is a call that returns.** -/
theorem calls_of_body {P : Program} {calls : Nat → Bool} (hcalls : CallsOk P calls) {hs : Hints} {f : FuncId} {fn : Func} (hfn : P.funcs[f]? = some fn) {args : List SV} {h : Hp} {R : Value → Hp → Prop}
    (hb : evBody P calls hs fn args h R) : CallsH P f (args.map SV.val) h R := by
  intro w hw
  subst hw
  unfold evBody at hb
  split at hb
  · rename_i c hc
    cases hl : Nat.ble args.length fn.ntmps
    · rw [hl, cond_false] at hb; exact hb.elim
    · rw [hl, cond_true] at hb
      have hle := Nat.le_of_ble_eq_true hl
      refine calls_of_wp hfn hc ?_
      refine evCode_elim hcalls c [] (argEnv 0 args) _ _ w w _ ?_ (Same.refl w) hb ?_
      · refine ⟨by simp; omega, by simp, rfl, fun i v hv => ?_⟩
        obtain ⟨_, h2⟩ := argEnv_find args 0 i v hv
        have hlt : i < args.length := by have := (List.getElem?_eq_some_iff.1 h2).1; omega
        simp only [Nat.sub_zero] at h2
        rw [Array.getElem?_append_left (by simpa using hlt)]
        simp [h2]
      · intro ex e1 a1 w1 hk hf1 hs1
        cases ex with
        | normal =>
          obtain ⟨v, hr, hR⟩ := retK_elim hf1 (P := P) hk
          exact ⟨hf1.defers, v, hr, v, rfl, hs1, hR⟩
        | ret =>
          obtain ⟨v, hr, hR⟩ := retK_elim hf1 (P := P) hk
          exact ⟨hf1.defers, v, hr, v, rfl, hs1, hR⟩
        | _ => exact hk.elim
  · exact hb.elim
end Go.Wd
