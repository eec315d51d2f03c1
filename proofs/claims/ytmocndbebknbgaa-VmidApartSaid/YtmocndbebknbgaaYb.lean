import Derived.Test.YtmocndbebknbgaaYa
namespace Go.Proofs.Ytmocndbebknbgaa
open Go Go.Wd Go.RowKit Go.Shelf
set_option linter.unusedVariables false
set_option linter.unusedSimpArgs false
set_option linter.unnecessarySimpa false
attribute [local go_sem] Oper.semAt_some

set_option maxRecDepth 100000 in
set_option maxHeartbeats 2000000 in
theorem each_make (m : Nat) (p : Option Addr) (st : Int) (w : World) : CallsIn Fence.wide m Try.prog 25 #[.pointer p, .int .i64 st] w fun e w' => e = .returned (.func (.func 28) #[] #[.pointer (some ⟨w.heap.size, 0, none⟩), .pointer (some ⟨w.heap.size + 1, 0, none⟩)]) ∧ w' = (w.alloc (.cells ⟨[.pointer p]⟩ 24)).alloc (.cells ⟨[.int .i64 st]⟩ 3) := by
  refine callsIn_of_wp Try.func25 rfl trivial ?_ rfl
  simp only [Try.ntmps25, List.size_toArray, List.length_cons, List.length_nil, Nat.reduceAdd, Nat.reduceSub, Array.replicate_succ, Array.replicate_zero, List.push_toArray, List.append_toArray, List.nil_append, List.cons_append]
  gi_wp2
  go_ret
  exact ⟨rfl, rfl⟩
def iN (x : Int) : List Value := [.int .i64 x]
theorem iN_len (x : Int) : (iN x).length = 1 := rfl
/-! ## worlds and heaps -/
theorem W_alloc (W : World) (o : Obj) : (W.alloc o).heap = new W.heap o := rfl
theorem W_put (W : World) (l : Nat) (o : Obj) : (W.putObj l o).heap = updO W.heap l o := rfl
theorem W_drew (W : World) : W.drew.heap = W.heap := rfl
theorem W_set {W : World} {b o : Nat} {T : TypeId} {l : List Value} (v : Value) (hb : bk W.heap b = some (blk T l)) : (W.setCell ⟨b, o, none⟩ v).heap = upd W.heap b T (l.set o v) := by
  unfold World.setCell
  simp only
  apply Array.ext_getElem?
  intro i
  unfold upd bk at *
  rw [Array.getElem?_modify, Array.getElem?_setIfInBounds]
  have hlt := (Array.getElem?_eq_some_iff.1 hb).1
  by_cases e : b = i
  · subst e
    rw [if_pos rfl, if_pos rfl, if_pos hlt, hb]
    simp [blk]
  · rw [if_neg e, if_neg e]
theorem W_cell {W : World} {b : Nat} {T : TypeId} {l : List Value} (hb : bk W.heap b = some (blk T l)) (o : Nat) : W.cell? ⟨b, o, none⟩ = l[o]? := by rw [cell?_mk]; exact cellAt_of hb o
theorem W_frozen {W : World} {b : Nat} {T : TypeId} {l : List Value} (hb : bk W.heap b = some (blk T l)) (o : Nat) : W.frozen? ⟨b, o, none⟩ = false := by
  have hb' : W.heap[b]? = some (.cells ⟨l⟩ T (0, 0)) := hb
  unfold World.frozen?
  rw [hb']
  simp
theorem yield_round {l D fn m : Nat} {tmps : Array Value} {ps : Array Tmp} {assign body : Code} {W : World} {args : Array Value} {R : World → Prop} (hs : args.size = ps.size)
    (hl : W.heap[l]? = some (.loop { state := .ready, pending := none, fn, tmps, params := ps, assign, body, defers := D })) (a1 : Act)
    (hassign : ∀ K : Act → World → Prop, K a1 W → assign.wpIn (Fence.wide.inRound l) m Try.prog (Exit.then K (fun _ _ _ => False)) { tmps := (ps.zip args).foldl (fun t (p, v) => t.setIfInBounds p v) tmps, defers := [] } W)
    (hbody : body.wpIn (Fence.wide.inRound l) m Try.prog (fun e _ W' => e = .normal ∧ W'.heap[l]? = some (.loop { state := .busy, pending := none, fn, tmps, params := ps, assign, body, defers := D }) ∧ R (W'.putObj l (.loop { state := .ready, pending := none, fn, tmps, params := ps, assign, body, defers := D }))) a1
      (W.putObj l (.loop { state := .busy, pending := none, fn, tmps, params := ps, assign, body, defers := D }))) :
    YieldAt Fence.wide m Try.prog l args W fun e W' => e = .returned (.bool true) ∧ R W' := by
  have hy := run_yield (P := Try.prog) (args := args) hl hs
  refine ⟨fn, _, assign, body, hy, roundIn_of_wpIn (F := Fence.wide) trivial (hassign _ ⟨_, run_beginRound hl rfl, ?_⟩)⟩
  refine wpIn_mono hbody ?_
  rintro e a' W' ⟨rfl, hl', hR⟩
  exact ⟨_, _, run_endRound (P := Try.prog) none hl', rfl, hR⟩
/-- A loop over the pool's iterator: what holds between two rounds is seen by the iterator's walk. -/
theorem range_each {m : Nat} (hm : 2 ≤ m) {g : Operand} {ps : Array Tmp} {assign body : Code} {Q : Exit → Act → World → Prop} {a : Act} {w : World} {pv sv q sb n : Nat} {st : Int} (hn : n ≤ 1000000)
    (hg : a.eval g = .func (.func 28) #[] #[.pointer (some ⟨pv, 0, none⟩), .pointer (some ⟨sv, 0, none⟩)]) (hps : ps.size = 1) (J : Nat → World → Prop)
    (hJ : ∀ k W, J k W → W.cell? ⟨pv, 0, none⟩ = some (.pointer (some ⟨q, 0, none⟩)) ∧ W.cell? ⟨sv, 0, none⟩ = some (.int .i64 st) ∧ W.cell? ⟨q, 0, none⟩ = some (.slice (some ⟨sb, 0, none⟩) n n) ∧ ∀ j, j < n → ∃ x : Int, W.cell? ⟨sb, j, none⟩ = some (.int .i64 x))
    (hskip : ∀ k W (x : Int), k < n → J k W → W.cell? ⟨sb, k, none⟩ = some (.int .i64 x) → x ≠ st → J (k + 1) W)
    (hput : ∀ k W i o o', J k W → w.heap.size ≤ i → W.heap[i]? = some o → o.isCells = false → J k (W.putObj i o'))
    (hnew : ∀ W o, J 0 W → J 0 (W.alloc o)) (h0 : J 0 w) (a1 : Nat → Act)
    (hassign : ∀ (k l : Nat) (W : World) (K : Act → World → Prop), K (a1 k) W → assign.wpIn (Fence.wide.inRound l) (m - 1 - 1) Try.prog (Exit.then K (fun _ _ _ => False)) { tmps := (ps.zip #[.int .i64 ((k : Int) + 1)]).foldl (fun t (p, v) => t.setIfInBounds p v) a.tmps, defers := [] } W)
    (hbody : ∀ (k l : Nat) (W : World), k < n → J k W → W.cell? ⟨sb, k, none⟩ = some (.int .i64 st) → body.wpIn (Fence.wide.inRound l) (m - 1 - 1) Try.prog (fun e _ W' => e = .normal ∧ KeepsFrom w.heap.size W W' ∧ J (k + 1) W') (a1 k) W)
    (hdone : ∀ W, J n W → W.heap[w.heap.size]? = some (.deferred (some [])) → Q .normal { a with defers := { target := .collected w.heap.size, args := #[] } :: a.defers } W) :
    (Code.rangeFunc g ps assign body).wpIn Fence.wide m Try.prog Q a w := by
  refine wpIn_rangeFunc ?_
  intro fn _
  obtain ⟨rec, hrec⟩ : ∃ rec : LoopState → Loop, rec = fun st => { state := st, pending := none, fn, tmps := a.tmps, params := ps, assign, body, defers := w.heap.size } := ⟨_, rfl⟩
  obtain ⟨W1, hW1⟩ : ∃ W1, (w.alloc (.deferred (some []))).alloc (.loop (rec .ready)) = W1 := ⟨_, rfl⟩
  have hL1 : W1.heap[w.heap.size + 1]? = some (.loop (rec .ready)) := by
    rw [← hW1]; have := World.alloc_heap_new (w.alloc (.deferred (some []))) (.loop (rec .ready)); rwa [World.size_alloc] at this
  have hD1 : W1.heap[w.heap.size]? = some (.deferred (some [])) := by
    rw [← hW1]; exact (Below.heap_alloc _ _ _ (by simp)).trans (World.alloc_heap_new w _)
  have hJ1 : J 0 W1 := by rw [← hW1]; exact hnew _ _ (hnew _ _ h0)
  refine ⟨w.heap.size + 1, [{ target := .collected w.heap.size, args := #[] }], W1, { target := .fn (.func 28) #[.pointer (some ⟨pv, 0, none⟩), .pointer (some ⟨sv, 0, none⟩)], args := #[.func (.yield (w.heap.size + 1)) #[] #[]] }, W1, 28,
    #[.func (.yield (w.heap.size + 1)) #[] #[], .pointer (some ⟨pv, 0, none⟩), .pointer (some ⟨sv, 0, none⟩)], W1, ?_, ?_, fun _ _ => trivial, ?_, fun h => (by cases h), ?_⟩
  · rw [← hW1, hrec]; exact run_enterLoop_outer _ _ _ _ _
  · simp only [resolve, hg]
    simp [go_sem]
  · have hc : ∀ args W, (callFunc 28 args).run Try.prog W = .ok (.enter 28 args) W := Try.call28
    simp [invoke, go_sem, hc]
  refine (each_in (m - 1) (by omega) (w.heap.size + 1) pv sv q sb n st hn (fun k W => J k W ∧ W.heap[w.heap.size + 1]? = some (.loop (rec .ready)) ∧ W.heap[w.heap.size]? = some (.deferred (some [])))
    (fun k W h => hJ k W h.1) (fun k W x hk h hx hne => ⟨hskip k W x hk h.1 hx hne, h.2⟩) ?_ W1 ⟨hJ1, hL1, hD1⟩).mono ?_
  · rintro k W hk ⟨hj, hl, hd⟩ hx
    rw [hrec] at hl
    refine yield_round (D := w.heap.size) (by simp [hps]) hl (a1 k) (hassign k _ W) ?_
    have hlt : w.heap.size + 1 < W.heap.size := (Array.getElem?_eq_some_iff.1 hl).1
    have hj2 := hput k W _ _ (.loop (rec .busy)) hj (by omega) hl rfl
    have hx2 : (W.putObj (w.heap.size + 1) (.loop (rec .busy))).cell? ⟨sb, k, none⟩ = some (.int .i64 st) := by
      have hne : sb ≠ w.heap.size + 1 := by
        intro e
        subst e
        rw [cell?_mk] at hx
        unfold cellAt bk at hx
        rw [hl] at hx
        cases hx
      rw [cell?_mk] at hx ⊢
      unfold cellAt bk at hx ⊢
      rw [World.putObj_heap_other hne]
      exact hx
    have hl2 : (W.putObj (w.heap.size + 1) (.loop (rec .busy))).heap[w.heap.size + 1]? = some (.loop (rec .busy)) := World.putObj_heap_same hlt
    have hd2 : (W.putObj (w.heap.size + 1) (.loop (rec .busy))).heap[w.heap.size]? = some (.deferred (some [])) := (World.putObj_heap_other (by omega)).trans hd
    rw [hrec] at hj2 hx2 hl2 hd2
    refine wpIn_mono (hbody k _ _ hk hj2 hx2) ?_
    rintro e a' W' ⟨rfl, hkeep, hj3⟩
    have hl3 := hkeep.same _ _ (by omega) hl2 rfl
    have hd3 := hkeep.same _ _ (Nat.le_refl _) hd2 rfl
    refine ⟨rfl, hl3, hput _ _ _ _ _ hj3 (by omega) hl3 rfl, ?_, (World.putObj_heap_other (by omega)).trans hd3⟩
    rw [hrec]
    exact World.putObj_heap_same (Array.getElem?_eq_some_iff.1 hl3).1
  · rintro e W2 ⟨⟨v, rfl⟩, hj, hl, hd⟩
    have hend : (Instr.endLoop (w.heap.size + 1)).run Try.prog W2 = .ok none (W2.putObj (w.heap.size + 1) (.loop { rec .ready with state := .exhausted })) := by
      have := run_endLoop (P := Try.prog) hl (by rw [hrec]; simp)
      rw [hrec] at this ⊢
      exact this
    exact ⟨none, _, hend, hdone _ (hput _ _ _ _ _ hj (by omega) hl rfl) ((World.putObj_heap_other (by omega)).trans hd)⟩
theorem bk_put {W : World} {b i : Nat} {T : TypeId} {l : List Value} {o o' : Obj} (hb : bk W.heap b = some (blk T l)) (hi : W.heap[i]? = some o) (ho : o.isCells = false) : bk (W.putObj i o').heap b = some (blk T l) := by
  have hne : b ≠ i := by
    intro e; subst e
    have : some o = some (blk T l) := hi.symm.trans hb
    cases this
    cases ho
  exact (World.putObj_heap_other hne).trans hb
theorem Fr_put {F : List Nat} {h : Hp} {W : World} {i : Nat} (o : Obj) (f : Fr F h W.heap) (hi : sz h ≤ i) : Fr F h (W.putObj i o).heap := by
  show Fr F h (updO W.heap i o)
  exact f.fresh (Fr.updO (F := [i]) (by simp) _ _) (by simp; exact .inr hi)
theorem Same_put {w W : World} (s : Same w W) (i : Nat) (o : Obj) : Same w (W.putObj i o) := ⟨s.os, s.tape, s.output⟩
theorem Same_alloc {w W : World} (s : Same w W) (o : Obj) : Same w (W.alloc o) := ⟨s.os, s.tape, s.output⟩
theorem Same_set {w W : World} (s : Same w W) (a : Addr) (v : Value) : Same w (W.setCell a v) := ⟨s.os, s.tape, s.output⟩
theorem Same_drew {w W : World} (s : Same w W) : Same w W.drew := ⟨s.os, s.tape, s.output⟩
def drL (L : List Int) (k : Nat) : List Int := ((L.take k).map fun x => if x = 2 then 0 else x) ++ L.drop k
def drN (L : List Int) (k : Nat) : Nat := (L.take k).countP fun x => decide (x = 2)
theorem drL_len (L : List Int) (k : Nat) : (drL L k).length = L.length := by simp [drL]; omega
theorem drL_at {L : List Int} {k : Nat} (hk : k < L.length) : (drL L k)[k]? = L[k]? := by
  unfold drL
  rw [List.getElem?_append_right (by simp; omega)]
  simp
  congr 1; omega
theorem drL_step {L : List Int} {k : Nat} {x : Int} (hx : L[k]? = some x) : drL L (k + 1) = (drL L k).set k (if x = 2 then 0 else x) := by
  have hk := (List.getElem?_eq_some_iff.1 hx).1
  unfold drL
  rw [List.set_append_right _ _ (by simp; omega), List.take_add_one, hx, List.map_append]
  simp [Nat.min_eq_left (Nat.le_of_lt hk)]
  rw [List.drop_eq_getElem_cons hk]; rfl
theorem drN_step {L : List Int} {k : Nat} {x : Int} (hx : L[k]? = some x) : drN L (k + 1) = drN L k + if x = 2 then 1 else 0 := by
  unfold drN
  rw [List.take_add_one, hx, List.countP_append]
  simp [List.countP_cons, List.countP_nil]
theorem set_same' {l : List Int} {k : Nat} {x : Int} (h : l[k]? = some x) : l.set k x = l := by
  apply List.ext_getElem?
  intro i
  rw [List.getElem?_set]
  by_cases e : k = i
  · subst e; rw [if_pos rfl, if_pos (List.getElem?_eq_some_iff.1 h).1, h]
  · rw [if_neg e]
theorem encN_set (l : List Int) (k : Nat) (x : Int) : (encL iN l).set k (.int .i64 x) = encL iN (l.set k x) := by
  induction l generalizing k with
  | nil => rfl
  | cons y l ih =>
    cases k with
    | zero => rfl
    | succ k =>
      have : encL iN (y :: l) = .int .i64 y :: encL iN l := rfl
      rw [this]
      show _ :: (encL iN l).set k _ = .int .i64 y :: encL iN (l.set k x)
      rw [ih]
theorem encN_at {l : List Int} {k : Nat} {x : Int} (h : l[k]? = some x) : (encL iN l)[k]? = some (.int .i64 x) := by
  have := encL_get iN_len l k 0 x h (by decide)
  rw [Nat.mul_one] at this
  exact this
structure DJ (w : World) (q sb : Nat) (L : List Int) (k : Nat) (W : World) : Prop where
  same : Same w W
  b0 : bk W.heap w.heap.size = some (blk 24 [.pointer (some ⟨q, 0, none⟩)])
  b1 : bk W.heap (w.heap.size + 1) = some (blk 3 [.int .i64 (drN L k : Nat)])
  b2 : bk W.heap (w.heap.size + 1 + 1) = some (blk 24 [.pointer (some ⟨q, 0, none⟩)])
  b3 : bk W.heap (w.heap.size + 1 + 1 + 1) = some (blk 3 [.int .i64 2])
  hq : bk W.heap q = some (blk 54 [.slice (some ⟨sb, 0, none⟩) L.length L.length])
  hs : bk W.heap sb = some (blk 3 (encL iN (drL L k)))
  fr : Fr [sb] w.heap W.heap
set_option maxRecDepth 100000 in
set_option maxHeartbeats 2000000 in
theorem dropped_in (q sb : Nat) (L : List Int) (hL : L.length ≤ 1000000) (w : World) (hq : bk w.heap q = some (blk 54 [.slice (some ⟨sb, 0, none⟩) L.length L.length])) (hs : bk w.heap sb = some (blk 3 (encL iN L))) :
    CallsIn Fence.wide 5 Try.prog 14 #[.pointer (some ⟨q, 0, none⟩)] w fun e w' => e = .returned (.int .i64 (drN L L.length : Nat)) ∧ Same w w' ∧ bk w'.heap sb = some (blk 3 (encL iN (drL L L.length))) ∧ Fr [sb] w.heap w'.heap := by
  refine callsIn_of_wp_marks Try.func14 rfl trivial ?_ rfl
  simp only [Try.ntmps14, List.size_toArray, List.length_cons, List.length_nil, Nat.reduceAdd, Nat.reduceSub, Array.replicate_succ, Array.replicate_zero, List.push_toArray, List.append_toArray, List.nil_append, List.cons_append]
  have h25 : Fence.wide.fn 25 := trivial
  gi_wp2_with (gi_at_call 25; refine (each_make _ _ _ _).mono ?_; rintro e w' ⟨rfl, rfl⟩)
  have lq := lt_of_bk hq
  have ls := lt_of_bk hs
  have hsz : sz w.heap = w.heap.size := rfl
  obtain ⟨W4, hW4⟩ : ∃ W4, ((((w.alloc (Obj.cells #[Value.pointer (some ⟨q, 0, none⟩)] 24)).alloc (Obj.cells #[Value.int IntKind.i64 0] 3)).alloc (Obj.cells { toList := [Value.pointer (some ⟨q, 0, none⟩)] } 24)).alloc (Obj.cells { toList := [Value.int IntKind.i64 2] } 3)) = W4 := ⟨_, rfl⟩
  have hsz4 : W4.heap.size = w.heap.size + 4 := by rw [← hW4]; simp
  have j4 : DJ w q sb L 0 W4 := by
    have e4 : W4.heap = new (new (new (new w.heap (blk 24 [.pointer (some ⟨q, 0, none⟩)])) (blk 3 [.int .i64 0])) (blk 24 [.pointer (some ⟨q, 0, none⟩)])) (blk 3 [.int .i64 2]) := by rw [← hW4]; rfl
    have z : ∀ (h : Hp) o, sz (new h o) = sz h + 1 := sz_new
    refine ⟨by rw [← hW4]; exact ⟨rfl, rfl, rfl⟩, ?_, ?_, ?_, ?_, ?_, ?_, ?_⟩
    · rw [e4, bk_new, if_neg (by simp only [z]; omega), bk_new, if_neg (by simp only [z]; omega), bk_new, if_neg (by simp only [z]; omega), bk_new, if_pos (by omega)]
    · rw [e4, bk_new, if_neg (by simp only [z]; omega), bk_new, if_neg (by simp only [z]; omega), bk_new, if_pos (by simp only [z]; omega)]
      simp [drN]
    · rw [e4, bk_new, if_neg (by simp only [z]; omega), bk_new, if_pos (by simp only [z]; omega)]
    · rw [e4, bk_new, if_pos (by simp only [z]; omega)]
    · rw [e4]; exact new_of _ (new_of _ (new_of _ (new_of _ hq)))
    · rw [e4]; exact new_of _ (new_of _ (new_of _ (new_of _ (by simpa [drL] using hs))))
    · rw [e4]; exact (((Fr.new _ _ _).trans (Fr.new _ _ _)).trans (Fr.new _ _ _)).trans (Fr.new _ _ _)
  rw [hW4]
  refine range_each (q := q) (sb := sb) (st := 2) (by decide) hL rfl rfl (DJ w q sb L) ?hJ ?hskip ?hput ?hnew j4 (fun k => { tmps := #[Value.pointer (some ⟨q, 0, none⟩), Value.pointer (some ⟨w.heap.size, 0, none⟩), Value.int IntKind.i64 0, Value.pointer (some ⟨w.heap.size + 1, 0, none⟩), .int .i64 ((k : Int) + 1), Value.pointer (some ⟨q, 0, none⟩), Value.func (Fn.func 28) #[] #[Value.pointer (some ⟨w.heap.size + 1 + 1, 0, none⟩), Value.pointer (some ⟨w.heap.size + 1 + 1 + 1, 0, none⟩)], .int .i64 ((k : Int) + 1), undef, undef, undef, undef, undef, undef, undef, undef, undef, undef], defers := [] }) ?hassign ?hbody ?hdone
  case hJ =>
    intro k W j
    refine ⟨W_cell j.b2 0, W_cell j.b3 0, W_cell j.hq 0, fun i hi => ?_⟩
    obtain ⟨x, hx⟩ : ∃ x, (drL L k)[i]? = some x := ⟨_, List.getElem?_eq_getElem (by rw [drL_len]; exact hi)⟩
    exact ⟨x, (W_cell j.hs i).trans (encN_at hx)⟩
  case hskip =>
    intro k W x hk j hx hne
    obtain ⟨y, hy⟩ : ∃ x, L[k]? = some x := ⟨_, List.getElem?_eq_getElem hk⟩
    have h1 := (W_cell j.hs k).trans (encN_at ((drL_at hk).trans hy))
    rw [hx] at h1
    cases h1
    have e1 : drL L (k + 1) = drL L k := by rw [drL_step hy, if_neg hne]; exact set_same' ((drL_at hk).trans hy)
    have e2 : drN L (k + 1) = drN L k := by rw [drN_step hy, if_neg hne, Nat.add_zero]
    exact ⟨j.same, j.b0, by rw [e2]; exact j.b1, j.b2, j.b3, j.hq, by rw [e1]; exact j.hs, j.fr⟩
  case hput =>
    intro k W i o o' j hi ho hc
    exact ⟨Same_put j.same _ _, bk_put j.b0 ho hc, bk_put j.b1 ho hc, bk_put j.b2 ho hc, bk_put j.b3 ho hc, bk_put j.hq ho hc, bk_put j.hs ho hc, Fr_put _ j.fr (by omega)⟩
  case hnew =>
    intro W o j
    exact ⟨Same_alloc j.same _, new_of _ j.b0, new_of _ j.b1, new_of _ j.b2, new_of _ j.b3, new_of _ j.hq, new_of _ j.hs, j.fr.trans (Fr.new _ _ _)⟩
  case hassign =>
    intro k l W K hK
    gi_wp2
    exact hK
  case hbody =>
    intro k l W hk j hx
    have hne1 : w.heap.size + 1 ≠ sb := by omega
    have c0 : W.cell? ⟨w.heap.size, 0, none⟩ = some (.pointer (some ⟨q, 0, none⟩)) := W_cell j.b0 0
    have c1 : W.cell? ⟨w.heap.size + 1, 0, none⟩ = some (.int .i64 (drN L k : Nat)) := W_cell j.b1 0
    have cq : W.cell? ⟨q, 0, none⟩ = some (.slice (some ⟨sb, 0, none⟩) L.length L.length) := W_cell j.hq 0
    have fz := W_frozen j.hs k
    have fz1 := W_frozen j.b1 0
    gi_wp2
    obtain ⟨y, hy⟩ : ∃ x, L[k]? = some x := ⟨_, List.getElem?_eq_getElem hk⟩
    have h1 := (W_cell j.hs k).trans (encN_at ((drL_at hk).trans hy))
    rw [hx] at h1
    cases h1
    have e1 : drL L (k + 1) = (drL L k).set k 0 := by rw [drL_step hy, if_pos rfl]
    have e2 : drN L (k + 1) = drN L k + 1 := by rw [drN_step hy, if_pos rfl]
    have hle : drN L k ≤ k := by
      have := List.countP_le_length (p := fun x => decide (x = (2 : Int))) (l := L.take k)
      rw [List.length_take] at this; unfold drN; omega
    have hw : wrap64 ((drN L k : Int) + 1) = ((drN L (k + 1) : Nat) : Int) := by
      rw [e2]
      unfold wrap64
      omega
    rw [hw]
    have g1 : (W.setCell ⟨sb, k, none⟩ (.int .i64 0)).heap = upd W.heap sb 3 (encL iN (drL L (k + 1))) := by rw [W_set _ j.hs, encN_set, e1]
    have b1 : bk (W.setCell ⟨sb, k, none⟩ (.int .i64 0)).heap (w.heap.size + 1) = some (blk 3 [.int .i64 (drN L k : Nat)]) := by rw [g1, upd_other hne1]; exact j.b1
    have g2 := W_set (o := 0) (.int .i64 ((drN L (k + 1) : Nat) : Int)) b1
    rw [g1] at g2
    have hqs : q ≠ sb := by
      intro e
      have := j.hq
      rw [e, j.hs] at this
      simp [blk] at this
    have keep : ∀ {b : Nat} {o : Obj}, bk W.heap b = some o → b ≠ sb → b ≠ w.heap.size + 1 → bk ((W.setCell ⟨sb, k, none⟩ (.int .i64 0)).setCell ⟨w.heap.size + 1, 0, none⟩ (.int .i64 ((drN L (k + 1) : Nat) : Int))).heap b = some o := by
      intro b o hb n1 n2
      rw [g2, upd_other n2, upd_other n1]
      exact hb
    refine ⟨((KeepsOthers.setCell _ _ _).trans (KeepsOthers.setCell _ _ _)).from _, Same_set (Same_set j.same _ _) _ _, keep j.b0 (by omega) (by omega), ?_, keep j.b2 (by omega) (by omega), keep j.b3 (by omega) (by omega), keep j.hq hqs (by omega), ?_, ?_⟩
    · rw [g2]
      rw [g1] at b1
      exact upd_same b1 _ _
    · rw [g2, upd_other (by omega)]
      exact upd_same j.hs _ _
    · rw [g2]
      exact (j.fr.trans (Fr.upd (by simp) _ _ _)).later (Fr.upd (F := [w.heap.size + 1]) (by simp) _ _ _) (by simp; omega)
  case hdone =>
    intro W j hd
    have c1 : W.cell? ⟨w.heap.size + 1, 0, none⟩ = some (.int .i64 (drN L L.length : Nat)) := W_cell j.b1 0
    gi_wp2
    refine ⟨by simp, .inl ⟨_, _, rfl, run_takeDeferred hd, ?_⟩⟩
    exact ⟨_, results_tmp rfl _ _ _, rfl, Same_put j.same _ _, bk_put j.hs hd rfl, Fr_put _ j.fr (by omega)⟩
theorem Dropped_spec {h : Hp} {q sb : Nat} {L : List Int} (hL : L.length ≤ 1000000) (hq : bk h q = some (blk 54 [.slice (some ⟨sb, 0, none⟩) L.length L.length])) (hs : bk h sb = some (blk 3 (encL iN L))) :
    CallsH Try.prog 14 [.pointer (some ⟨q, 0, none⟩)] h fun v h' => v = .int .i64 (drN L L.length : Nat) ∧ bk h' sb = some (blk 3 (encL iN (drL L L.length))) ∧ Fr [sb] h h' := by
  rintro w rfl
  refine (callsIn_wide.1 (dropped_in q sb L hL w hq hs)).mono ?_
  rintro e w' ⟨rfl, h1, h2, h3⟩
  exact ⟨_, rfl, h1, rfl, h2, h3⟩
end Go.Proofs.Ytmocndbebknbgaa
