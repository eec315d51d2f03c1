import Derived.Test.YthhancpnaleknaaDoorVc
namespace Go.Proofs.YthhancpnaleknaaDoor
open Go Go.Wd
set_option linter.unusedVariables false
set_option linter.unusedSimpArgs false

/-! ## the document's controller -/
structure RV (h : Hp) (q rb : Nat) (L : List Ln) (m : Int) : Prop where
  hq : bk h q = some (blk 49 [.slice (some ⟨rb, 0, none⟩) 16 16, .int .i64 m])
  arr : Arr Ln.cells 46 h rb L []
  ne : rb ≠ q
  pr : Pr L
section
variable {h h' : Hp} {q rb : Nat} {L : List Ln} {m : Int}
theorem RV.fr (w : RV h q rb L m) {F : List Nat} (k : Fr F h h') (h1 : q ∉ F) (h2 : rb ∉ F) : RV h' q rb L m := ⟨k.at w.hq h1, w.arr.fr k h2, w.ne, w.pr⟩
theorem RV.lt (w : RV h q rb L m) : q < sz h := lt_of_bk w.hq
theorem RV.ltr (w : RV h q rb L m) : rb < sz h := w.arr.lt
theorem RV.row (w : RV h q rb L m) : cellAt h q 0 = some (.slice (some ⟨rb, 0, none⟩) 16 16) := (cellAt_of w.hq 0).trans rfl
theorem RV.mask (w : RV h q rb L m) : cellAt h q 1 = some (.int .i64 m) := (cellAt_of w.hq 1).trans rfl
theorem RV.at (w : RV h q rb L m) {k : Nat} {x : Ln} (hx : L[k]? = some x) (j : Nat) (hj : j < 4) : cellAt h rb (k * 4 + j) = x.cells[j]? := w.arr.get Ln.len hx j hj
theorem RV.room (w : RV h q rb L m) {k j : Nat} (hk : k < 16) (hj : j + 1 ≤ 4) : k * 4 + j + 1 ≤ (encL Ln.cells L ++ []).length := w.arr.room Ln.len (by rw [w.pr.1]; exact hk) hj
/-- A part of a line is written. -/
theorem RV.put (w : RV h q rb L m) {k j : Nat} {x : Ln} (hx : L[k]? = some x) (g : Ln → Ln) {v : Value} (hj : j < 4) (hy : writeAt x.cells j [v] = (g x).cells) (hg : ∀ x, 0 ≤ x.pr ∧ x.pr ≤ 15 → 0 ≤ (g x).pr ∧ (g x).pr ≤ 15) :
    RV (upd h rb 46 (writeAt (encL Ln.cells L ++ []) (k * 4 + j) [v])) q rb (upL L k g) m := by
  have ha := w.arr.put Ln.len hx (j := j) (vs := [v]) (by simp; omega) hy
  refine ⟨?_, ?_, w.ne, w.pr.up k hg⟩
  · rw [upd_other (fun e => w.ne e.symm)]; exact w.hq
  · rw [upL_set hx]; exact ha
end
theorem rNew_spec {h : Hp} : CallsH Tryd.prog 17 [] h fun v h' => v = .pointer (some ⟨sz h + 1, 0, none⟩) ∧ RV h' (sz h + 1) (sz h) newL 16 ∧ Fr [] h h' ∧ sz h' = sz h + 2 := by
  refine calls_k fun R hR => ?_
  apply warderref20_New.calls
  unfold warderref20_New.P
  refine ⟨by decide, by decide, by decide, by decide, rfl, ?_⟩
  intro h1 e1 h2 e2
  have s1 : sz h1 = sz h + 1 := by rw [e1]; exact sz_new _ _
  have s2 : sz h2 = sz h + 2 := by rw [e2, sz_new, s1]
  have k1 : bk h2 (sz h) = some (blk 46 (encL Ln.cells ((newL.take 0) ++ List.replicate 16 ⟨false, false, false, 0⟩) ++ [])) := by rw [e2, bk_new, if_neg (by omega), e1, new_at]; rfl
  have k2 : bk h2 (sz h + 1) = some (blk 49 [.slice (some ⟨sz h, 0, none⟩) 16 16, .int .i64 16]) := by rw [e2, ← s1]; exact new_at _ _
  have f2 : Fr [] h h2 := by rw [e2, e1]; exact (Fr.new [] h _).trans (Fr.new [] _ _)
  rw [s1]
  clear e1 e2
  have p0 : ∀ k, k ≤ 16 → Pr ((newL.take k) ++ List.replicate (16 - k) (⟨false, false, false, 0⟩ : Ln)) := by
    intro k hk
    refine ⟨by simp [newL]; omega, fun x hx => ?_⟩
    rw [List.mem_append] at hx
    rcases hx with hx | hx
    · exact newL_pr.2 x (List.mem_of_mem_take hx)
    · rw [List.mem_replicate] at hx; rw [hx.2]; decide
  refine ⟨fun i h3 => ∃ k : Nat, i = k ∧ k ≤ 16 ∧ RV h3 (sz h + 1) (sz h) ((newL.take k) ++ List.replicate (16 - k) ⟨false, false, false, 0⟩) 16 ∧ Fr [] h h3 ∧ sz h3 = sz h + 2, fun i _ => 16 - i.toNat, ⟨0, rfl, by omega, ⟨k2, ⟨k1⟩, by omega, p0 0 (by omega)⟩, f2, s2⟩, ?_⟩
  rintro i h3 ⟨k, rfl, hk, w3, f3, s3⟩
  by_cases hk16 : k < 16
  · refine ⟨fun _ => ?_, fun hf => absurd hf (by simp; omega)⟩
    have hx : ((newL.take k) ++ List.replicate (16 - k) (⟨false, false, false, 0⟩ : Ln))[k]? = some ⟨false, false, false, 0⟩ := by
      rw [List.getElem?_append_right (by simp [newL]; omega), List.getElem?_replicate, if_pos (by simp [newL]; omega)]
    have hs : upL ((newL.take k) ++ List.replicate (16 - k) (⟨false, false, false, 0⟩ : Ln)) k (Ln.sPr · 8) = (newL.take (k + 1)) ++ List.replicate (16 - (k + 1)) ⟨false, false, false, 0⟩ := by
      rw [upL_set hx, List.set_append_right _ _ (by simp [newL]; omega)]
      have e1 : k - (newL.take k).length = 0 := by simp [newL]; omega
      rw [e1, show 16 - k = (16 - (k + 1)) + 1 by omega, List.replicate_succ, List.set_cons_zero]
      unfold newL
      rw [List.take_replicate, List.take_replicate, Nat.min_eq_left hk, Nat.min_eq_left (by omega), List.replicate_succ', List.append_assoc]; rfl
    refine ⟨_, _, _, w3.row, by omega, by omega, _, _, rfl, truly_rfl, _, _, w3.arr.hq, by rw [Int.toNat_natCast, Nat.zero_add]; exact w3.room hk16 (by omega), ?_⟩
    rintro h4 rfl
    rw [Int.toNat_natCast, Nat.zero_add, wrapN hk16 (by omega)]
    have w4 := w3.put hx (Ln.sPr · 8) (j := 3) (v := .int .i64 8) (by omega) rfl (fun _ _ => ⟨show (0 : Int) ≤ 8 by omega, show (8 : Int) ≤ 15 by omega⟩)
    rw [hs] at w4
    exact ⟨⟨k + 1, rfl, by omega, w4, f3.fresh (Fr.upd (F := [sz h]) (by simp) _ _ _) (fun x hx => .inr (by simp at hx; omega)), by rw [sz_upd]; exact s3⟩, decM hk16⟩
  · have : k = 16 := by omega
    subst this
    exact ⟨fun hf => absurd hf (by simp), fun _ => hR _ _ ⟨rfl, w3, f3, s3⟩⟩

theorem rEnd_spec {h : Hp} {q rb : Nat} {L : List Ln} {m : Int} (w : RV h q rb L m) (n : Int) : CallsH Tryd.prog 29 [.pointer (some ⟨q, 0, none⟩), .int .i64 n] h fun v h' => v = .int .i64 (if thereB n then if (atL L n).ac then 0 else 20 else 11) ∧ RV h' q rb (if thereB n then upL L n.toNat (Ln.sAc · false) else L) m ∧ Fr [rb] h h' := by
  refine calls_k fun R hR => ?_
  apply warderref20_Vic_End.calls
  unfold warderref20_Vic_End.P
  refine (rThere_spec n).mono ?_
  rintro v h1 ⟨rfl, rfl⟩
  refine ⟨_, rfl, fun c => ?_, fun c => ?_⟩
  · have c : thereB n = false := by simpa using c
    exact hR _ _ ⟨by rw [c]; rfl, by rw [c]; exact w, Fr.refl _ _⟩
  have c : thereB n = true := by simpa using c
  obtain ⟨k, rfl, hk⟩ := there_nat c
  rw [c, Int.toNat_natCast, if_pos rfl, if_pos rfl] at hR
  obtain ⟨x, hx⟩ := w.pr.get hk
  rw [atL_nat hk hx] at hR
  have c2 : cellAt h1 rb (0 + (k : Int).toNat * 4 + 2) = some (.bool x.ac) := by rw [Int.toNat_natCast, Nat.zero_add]; exact w.at hx 2 (by omega)
  refine ⟨_, _, _, w.row, by omega, by omega, _, _, rfl, x.ac, c2, fun d => ?_, fun d => ?_⟩
  · have d : x.ac = false := by simpa using d
    exact hR _ _ ⟨by rw [d]; rfl, by rw [upL_id (fun y hy => by rw [hx] at hy; cases hy; cases x; simp only at d; subst d; rfl)]; exact w, Fr.refl _ _⟩
  · have d : x.ac = true := by simpa using d
    refine ⟨_, _, _, w.row, by omega, by omega, _, _, rfl, truly_rfl, _, _, w.arr.hq, by rw [Int.toNat_natCast, Nat.zero_add]; exact w.room hk (by omega), ?_⟩
    rintro h2 rfl
    rw [Int.toNat_natCast, Nat.zero_add]
    exact hR _ _ ⟨by rw [d]; rfl, w.put hx (Ln.sAc · false) (by omega) rfl (fun _ h => h), Fr.upd (by simp) _ _ _⟩

/-- The best one from an index on, below a limit. -/
def Tail (L : List Ln) (lim : Int) (k : Nat) (b : Int) : Prop :=
  (b = -1 ∧ ∀ (i : Nat) (y : Ln), k ≤ i → L[i]? = some y → cand y = true → ¬ y.pr < lim) ∨
  ∃ (j : Nat) (x : Ln), b = (j : Nat) ∧ k ≤ j ∧ L[j]? = some x ∧ cand x = true ∧ x.pr < lim ∧ ∀ (i : Nat) (y : Ln), k ≤ i → L[i]? = some y → cand y = true → x.pr ≤ y.pr ∧ (i < j → x.pr < y.pr)
theorem Tail.skip {L : List Ln} {lim : Int} {n : Nat} {b : Int} {x : Ln} (t : Tail L lim (n + 1) b) (hx : L[n]? = some x) (hno : ¬ (cand x = true ∧ x.pr < lim)) : Tail L lim n b := by
  rcases t with ⟨e, h⟩ | ⟨j, z, e, h1, h2, h3, h4, h5⟩
  · refine .inl ⟨e, fun i y hi hy hc hl => ?_⟩
    by_cases c : i = n
    · subst c; rw [hx] at hy; cases hy; exact hno ⟨hc, hl⟩
    · exact h i y (by omega) hy hc hl
  · refine .inr ⟨j, z, e, by omega, h2, h3, h4, fun i y hi hy hc => ?_⟩
    by_cases c : i = n
    · subst c; rw [hx] at hy; cases hy
      have : ¬ x.pr < lim := fun hl => hno ⟨hc, hl⟩
      exact ⟨by omega, fun _ => by omega⟩
    · exact h5 i y (by omega) hy hc
theorem Tail.take {L : List Ln} {lim : Int} {n : Nat} {b : Int} {x : Ln} (t : Tail L lim (n + 1) b) (hx : L[n]? = some x) (hc : cand x = true) (hl : x.pr < lim) (hb : b = -1 ∨ ∃ (j : Nat) (z : Ln), b = j ∧ L[j]? = some z ∧ x.pr ≤ z.pr) : Tail L lim n n := by
  refine .inr ⟨n, x, rfl, by omega, hx, hc, hl, fun i y hi hy hcy => ?_⟩
  by_cases c : i = n
  · subst c; rw [hx] at hy; cases hy; exact ⟨Int.le_refl _, fun h => by omega⟩
  · rcases t with ⟨e, h⟩ | ⟨j, z, e, h1, h2, h3, h4, h5⟩
    · have := h i y (by omega) hy hcy; exact ⟨by omega, fun h => by omega⟩
    · rcases hb with hb | ⟨j', z', e', hz', hle⟩
      · omega
      · have : j = j' := by omega
        subst this
        rw [h2] at hz'; cases hz'
        have := (h5 i y (by omega) hy hcy).1
        exact ⟨by omega, fun h => by omega⟩
theorem Tail.keep {L : List Ln} {lim : Int} {n : Nat} {b : Int} {x : Ln} (t : Tail L lim (n + 1) b) (hx : L[n]? = some x) (hb : ∃ (j : Nat) (z : Ln), b = j ∧ L[j]? = some z ∧ ¬ x.pr ≤ z.pr) : Tail L lim n b := by
  obtain ⟨j', z', e', hz', hle⟩ := hb
  rcases t with ⟨e, h⟩ | ⟨j, z, e, h1, h2, h3, h4, h5⟩
  · omega
  · have : j = j' := by omega
    subst this
    have e2 := Option.some.inj (h2.symm.trans hz')
    subst e2
    refine .inr ⟨j, z, e, by omega, h2, h3, h4, fun i y hi hy hc => ?_⟩
    by_cases c : i = n
    · subst c; rw [hx] at hy; cases hy; exact ⟨by omega, fun _ => by omega⟩
    · exact h5 i y (by omega) hy hc
def LimTo (L : List Ln) (m : Int) (k : Nat) (lim : Int) : Prop := ∀ p, p < lim ↔ p < m ∧ ∀ (j : Nat) (z : Ln), j < k → L[j]? = some z → z.ac = true → p < z.pr
theorem LimTo.step {L : List Ln} {m lim : Int} {k : Nat} {x : Ln} (l : LimTo L m k lim) (hx : L[k]? = some x) : LimTo L m (k + 1) (if x.ac then min lim x.pr else lim) := by
  intro p
  constructor
  · intro hp
    have hlim : p < lim := by split at hp <;> omega
    refine ⟨((l p).1 hlim).1, fun j z hj hz hac => ?_⟩
    by_cases c : j = k
    · subst c; rw [hx] at hz; cases hz; rw [hac, if_pos rfl] at hp; omega
    · exact ((l p).1 hlim).2 j z (by omega) hz hac
  · intro hp
    have h1 : p < lim := (l p).2 ⟨hp.1, fun j z hj hz hac => hp.2 j z (by omega) hz hac⟩
    split
    · rename_i hac
      have := hp.2 k x (by omega) hx hac
      omega
    · exact h1

set_option maxHeartbeats 1000000 in
theorem rNext_spec {h : Hp} {q rb : Nat} {L : List Ln} {m : Int} (w : RV h q rb L m) : CallsH Tryd.prog 19 [.pointer (some ⟨q, 0, none⟩)] h fun v h' => ∃ b : Int, v = .int .i64 b ∧ IsNext L m b ∧ Fr [] h h' := by
  refine calls_k fun R hR => ?_
  apply warderref20_Vic_Next.calls
  unfold warderref20_Vic_Next.P
  refine ⟨m, w.mask, fun lim i h1 => ∃ k : Nat, i = k ∧ k ≤ 16 ∧ LimTo L m k lim ∧ h1 = h, fun _ i _ => 16 - i.toNat, ⟨0, rfl, by omega, fun p => ⟨fun h => ⟨h, fun j z hj => by omega⟩, fun h => h.1⟩, rfl⟩, ?_⟩
  rintro lim i h1 ⟨k, rfl, hk, hlim, rfl⟩
  by_cases hk16 : k < 16
  · refine ⟨fun _ => ?_, fun hf => absurd hf (by simp; omega)⟩
    obtain ⟨x, hx⟩ := w.pr.get hk16
    have hstep := hlim.step hx
    have c2 : cellAt h1 rb (0 + (k : Int).toNat * 4 + 2) = some (.bool x.ac) := by rw [Int.toNat_natCast, Nat.zero_add]; exact w.at hx 2 (by omega)
    have c3 : cellAt h1 rb (0 + (k : Int).toNat * 4 + 3) = some (.int .i64 x.pr) := by rw [Int.toNat_natCast, Nat.zero_add]; exact w.at hx 3 (by omega)
    rw [wrapN hk16 (by omega)]
    refine ⟨_, _, _, w.row, by omega, by omega, _, _, rfl, x.ac, c2, fun d => ?_, fun d => ?_⟩
    · rw [if_pos d] at hstep
      refine ⟨_, _, _, w.row, by omega, by omega, _, _, rfl, x.pr, c3, ⟨k + 1, rfl, by omega, ?_, rfl⟩, decM hk16⟩
      rw [minI_eq]; exact hstep
    · rw [if_neg (by rw [d]; simp)] at hstep
      exact ⟨⟨k + 1, rfl, by omega, hstep, rfl⟩, decM hk16⟩
  have : k = 16 := by omega
  subst this
  refine ⟨fun hf => absurd hf (by simp), fun _ => ?_⟩
  refine ⟨fun b i h2 => ∃ k : Nat, i = (k : Int) - 1 ∧ k ≤ 16 ∧ Tail L lim k b ∧ RV h2 q rb L m ∧ Fr [] h1 h2, fun _ i _ => (i + 1).toNat,
    ⟨16, rfl, by omega, .inl ⟨rfl, fun i y hi hy => by have := w.pr.lt hy; omega⟩, w, Fr.refl _ _⟩, ?_⟩
  rintro b i h2 ⟨k, rfl, hk, hT, w2, f2⟩
  by_cases hk0 : k = 0
  · subst hk0
    refine ⟨fun hf => absurd hf (by simp), fun _ => ?_⟩
    have hB : ∀ p, p < lim ↔ Below L m p := fun p => by
      rw [hlim p]
      exact ⟨fun h => ⟨h.1, fun j z hz hac => h.2 j z (w.pr.lt hz) hz hac⟩, fun h => ⟨h.1, fun j z _ hz hac => h.2 j z hz hac⟩⟩
    refine hR _ _ ⟨b, rfl, ?_, f2⟩
    rcases hT with ⟨e, h⟩ | ⟨j, z, e, h1, h2, h3, h4, h5⟩
    · exact .inl ⟨e, fun i y hy hc hb => h i y (by omega) hy hc ((hB _).2 hb)⟩
    · exact .inr ⟨j, z, e, h2, h3, (hB _).1 h4, fun i y hy hc => h5 i y (by omega) hy hc⟩
  obtain ⟨n, rfl⟩ : ∃ n, k = n + 1 := ⟨k - 1, by omega⟩
  have en : ((n + 1 : Nat) : Int) - 1 = n := by omega
  rw [en]
  obtain ⟨x, hx⟩ := w.pr.get (n := n) (by omega)
  have cc : ∀ j, j < 4 → cellAt h2 rb (0 + (n : Int).toNat * 4 + j) = x.cells[j]? := fun j hj => by rw [Int.toNat_natCast, Nat.zero_add]; exact w2.at hx j hj
  refine ⟨fun _ => ?_, fun hf => absurd hf (by simp)⟩
  refine ⟨_, _, _, w2.row, by omega, by omega, _, _, rfl, ?_⟩
  refine Ln.rd x cc ?_
  intro h3 e3
  refine ⟨truly_rfl, _, _, by rw [e3]; exact new_at _ _, by simp, ?_⟩
  intro h4 e4
  have k4 : bk h4 (sz h2) = some (blk 46 x.cells) := by rw [e4, e3]; exact upd_same (new_at _ _) _ _
  have f4 : Fr [] h2 h4 := by rw [e4, e3]; exact (Fr.new [] h2 _).later (Fr.upd (F := [sz h2]) (by simp) _ _ _) (by simp)
  clear e3 e4
  have w4 := w2.fr f4 (by simp) (by simp)
  have fr4 := f2.trans f4
  have ew : IntKind.wrap .i64 ((n : Int) - 1) = (n : Int) - 1 := wrap_i64 (by omega) (by omega)
  rw [ew]
  have hm : ((n : Int) - 1 + 1).toNat < ((n : Int) + 1).toNat := by omega
  have skip : ¬ (cand x = true ∧ x.pr < lim) → (∃ k : Nat, (n : Int) - 1 = (k : Int) - 1 ∧ k ≤ 16 ∧ Tail L lim k b ∧ RV h4 q rb L m ∧ Fr [] h1 h4) ∧ ((n : Int) - 1 + 1).toNat < ((n : Int) + 1).toNat :=
    fun hno => ⟨⟨n, rfl, by omega, hT.skip hx hno, w4, fr4⟩, hm⟩
  refine ⟨x.en, (cellAt_of k4 0).trans rfl, fun d1 => ?_, fun d1 => skip (fun h => by simp [cand, d1] at h)⟩
  refine ⟨x.pe, (cellAt_of k4 1).trans rfl, fun d2 => ?_, fun d2 => skip (fun h => by simp [cand, d2] at h)⟩
  refine ⟨x.ac, (cellAt_of k4 2).trans rfl, fun d3 => ?_, fun d3 => skip (fun h => by simp only [Bool.not_eq_false'] at d3; simp [cand, d3] at h)⟩
  have hc : cand x = true := by
    have d3 : x.ac = false := by simpa using d3
    simp [cand, d1, d2, d3]
  refine ⟨x.pr, (cellAt_of k4 3).trans rfl, fun d4 => ?_, fun d4 => skip (fun h => by simp only [decide_eq_false_iff_not] at d4; exact d4 h.2)⟩
  have d4 : x.pr < lim := by simpa using d4
  refine ⟨fun d5 => ?_, fun d5 => ?_⟩
  · have d5 : b < 0 := by simpa using d5
    refine ⟨⟨n, rfl, by omega, hT.take hx hc d4 (.inl ?_), w4, fr4⟩, hm⟩
    rcases hT with ⟨e, _⟩ | ⟨j, z, e, _⟩
    · exact e
    · omega
  · have d5 : ¬ b < 0 := by simpa using d5
    obtain ⟨j, z, hbj, hz⟩ : ∃ (j : Nat) (z : Ln), b = j ∧ L[j]? = some z := by
      rcases hT with ⟨e, _⟩ | ⟨j, z, e, _, hz, _⟩
      · omega
      · exact ⟨j, z, e, hz⟩
    have hj := w.pr.lt hz
    have cz : cellAt h4 rb (0 + b.toNat * 4 + 3) = some (.int .i64 z.pr) := by rw [hbj, Int.toNat_natCast, Nat.zero_add]; exact w4.at hz 3 (by omega)
    refine ⟨x.pr, (cellAt_of k4 3).trans rfl, _, _, _, w4.row, by omega, by omega, _, _, rfl, z.pr, cz, fun d6 => ?_, fun d6 => ?_⟩
    · exact ⟨⟨n, rfl, by omega, hT.take hx hc d4 (.inr ⟨j, z, hbj, hz, by simpa using d6⟩), w4, fr4⟩, hm⟩
    · exact ⟨⟨n, rfl, by omega, hT.keep hx ⟨j, z, hbj, hz, by simpa using d6⟩, w4, fr4⟩, hm⟩
end Go.Proofs.YthhancpnaleknaaDoor
