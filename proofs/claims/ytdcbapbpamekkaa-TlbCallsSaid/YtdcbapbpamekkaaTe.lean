import Derived.Test.YtdcbapbpamekkaaTd
namespace Go.Proofs.Ytdcbapbpamekkaa
open Go Go.Wd
set_option linter.unusedVariables false
set_option linter.unusedSimpArgs false

/-! ## the document's places -/
def rc : Option S → List Value
  | some s => [.int .i64 s.vm, .int .i64 s.pg, .int .i64 s.fr, .bool s.wr, .bool s.ex, .bool true]
  | none => [.int .i64 0, .int .i64 0, .int .i64 0, .bool false, .bool false, .bool false]
theorem rc_len (o : Option S) : (rc o).length = 6 := by cases o <;> rfl
structure RS (h : Hp) (q pl : Nat) (L : List (Option S)) (nx : Nat) : Prop where
  hq : bk h q = some (blk 51 [.slice (some ⟨pl, 0, none⟩) L.length L.length, .int .i64 (nx : Int)])
  hpl : bk h pl = some (blk 42 (encL rc L))
  pos : 1 ≤ L.length ∧ L.length ≤ 64
  lt : nx < L.length
section
variable {h h' : Hp} {q pl : Nat} {L : List (Option S)} {nx : Nat}
theorem RS.ne1 (w : RS h q pl L nx) : pl ≠ q := by
  intro e; have := w.hq; rw [← e, w.hpl] at this; simp [blk] at this
theorem RS.fr (w : RS h q pl L nx) {F : List Nat} (k : Fr F h h') (h1 : q ∉ F) (h2 : pl ∉ F) : RS h' q pl L nx := ⟨k.at w.hq h1, k.at w.hpl h2, w.pos, w.lt⟩
theorem RS.fr0 (w : RS h q pl L nx) (k : Fr [] h h') : RS h' q pl L nx := w.fr k (by simp) (by simp)
theorem RS.lq (w : RS h q pl L nx) : q < sz h := lt_of_bk w.hq
theorem RS.lpl (w : RS h q pl L nx) : pl < sz h := lt_of_bk w.hpl
theorem RS.row (w : RS h q pl L nx) : cellAt h q 0 = some (.slice (some ⟨pl, 0, none⟩) L.length L.length) := (cellAt_of w.hq 0).trans rfl
theorem RS.next (w : RS h q pl L nx) : cellAt h q (0 + 1) = some (.int .i64 (nx : Int)) := (cellAt_of w.hq 1).trans rfl
theorem RS.at (w : RS h q pl L nx) {k : Nat} {o : Option S} (hk : L[k]? = some o) (j : Nat) (hj : j < 6) : cellAt h pl (0 + (k : Int).toNat * 6 + j) = (rc o)[j]? := by
  rw [Int.toNat_natCast, Nat.zero_add, cellAt_of w.hpl]
  exact encL_get rc_len L k j o hk hj
theorem RS.at0 (w : RS h q pl L nx) {k : Nat} {o : Option S} (hk : L[k]? = some o) : cellAt h pl (0 + (k : Int).toNat * 6) = (rc o)[0]? := w.at hk 0 (by decide)
theorem RS.set (w : RS h q pl L nx) {k : Nat} (hk : k < L.length) (o : Option S) : RS (upd h pl 42 (writeAt (encL rc L) (0 + (k : Int).toNat * 6) (rc o))) q pl (L.set k o) nx := by
  have n1 := w.ne1
  refine ⟨by rw [upd_other (fun e => n1 e.symm), List.length_set]; exact w.hq, ?_, by simpa using w.pos, by simpa using w.lt⟩
  rw [upd_same w.hpl, Int.toNat_natCast, Nat.zero_add, encL_set rc_len L k o hk]
theorem RS.room (w : RS h q pl L nx) {k : Nat} (hk : k < L.length) : 0 + (k : Int).toNat * 6 + 6 ≤ (encL rc L).length := by
  rw [encL_length rc_len, Int.toNat_natCast]; omega
end
theorem zeros_rc (n : Nat) : zeros [.int .i64 0, .int .i64 0, .int .i64 0, .bool false, .bool false, .bool false] n = encL rc (List.replicate n none) := by
  unfold zeros encL
  rw [List.flatMap_replicate]
  rfl
theorem rNew_spec (h : Hp) {n : Int} (h1 : 1 ≤ n) (h2 : n ≤ 64) : CallsH Try.prog 13 [.int .i64 n] h fun v h' => ∃ q pl : Nat, v = .pointer (some ⟨q, 0, none⟩) ∧ RS h' q pl (List.replicate n.toNat none) 0 ∧ sz h ≤ q ∧ sz h ≤ pl ∧ Fr [] h h' := by
  refine calls_k fun R hR => ?_
  apply warderref09_New.calls
  unfold warderref09_New.P
  refine ⟨by omega, by omega, by omega, by omega, rfl, ?_⟩
  intro h1 e1
  have b1 : bk h1 (sz h) = some (blk 42 (encL rc (List.replicate n.toNat none))) := by rw [e1, ← zeros_rc]; exact new_at _ _
  have s1 : sz h1 = sz h + 1 := by rw [e1]; exact sz_new _ _
  have f1 : Fr [] h h1 := by rw [e1]; exact Fr.new _ _ _
  clear e1
  intro h2 e2
  have b2 : bk h2 (sz h1) = some (blk 51 [.slice (some ⟨sz h, 0, none⟩) n.toNat n.toNat, .int .i64 0]) := by rw [e2]; exact new_at _ _
  have f2 : Fr [] h1 h2 := by rw [e2]; exact Fr.new _ _ _
  exact hR _ _ ⟨sz h1, sz h, rfl, ⟨by rw [b2]; simp, f2.at b1 (by simp), by simp; omega, by simp; omega⟩, by omega, by omega, f1.trans f2⟩
def isK (v p : Int) (o : Option S) : Bool := match o with
  | some s => s.is v p
  | none => false
def atI (L : List (Option S)) (v p : Int) : Int := match atK L v p with
  | some k => (k : Int)
  | none => -1
theorem At_spec {h : Hp} {q pl : Nat} {L : List (Option S)} {nx : Nat} (w : RS h q pl L nx) (v p : Int) :
    CallsH Try.prog 20 [.pointer (some ⟨q, 0, none⟩), .int .i64 v, .int .i64 p] h fun r h' => r = .int .i64 (atI L v p) ∧ h' = h := by
  refine calls_k fun R hR => ?_
  apply warderref09_Tlb_At.calls
  unfold warderref09_Tlb_At.P
  have hpos := w.pos
  have hK : atK L v p = L.findIdx? (isK v p) := rfl
  refine ⟨fun i h1 => ∃ k : Nat, i = k ∧ k ≤ L.length ∧ (∀ j, j < k → ∀ o, L[j]? = some o → isK v p o = false) ∧ h1 = h, fun i _ => L.length - i.toNat, ⟨0, rfl, by omega, by omega, rfl⟩, ?_⟩
  rintro i h1 ⟨k, rfl, hk, hb, rfl⟩
  refine ⟨_, _, _, w.row, fun hc => ?_, fun hc => ?_⟩
  · have hk : k < L.length := by simpa using hc
    obtain ⟨o, ho⟩ : ∃ o, L[k]? = some o := ⟨_, List.getElem?_eq_getElem hk⟩
    rw [wrapN hk (by omega)]
    have stay : isK v p o = false → (∃ k' : Nat, ((k + 1 : Nat) : Int) = k' ∧ k' ≤ L.length ∧ (∀ j, j < k' → ∀ o, L[j]? = some o → isK v p o = false) ∧ h1 = h1) ∧ L.length - ((k + 1 : Nat) : Int).toNat < L.length - (k : Int).toNat := by
      intro hn
      refine ⟨⟨k + 1, rfl, by omega, fun j hj o' ho' => ?_, rfl⟩, decM hk⟩
      by_cases e : j = k
      · subst e; rw [ho] at ho'; cases ho'; exact hn
      · exact hb j (by omega) o' ho'
    refine ⟨_, _, _, w.row, by omega, by omega, _, _, rfl, o.isSome, ?_, fun ht => ?_, fun ht => ?_⟩
    · rw [w.at ho 5 (by decide)]; cases o <;> rfl
    · cases o with
      | none => cases ht
      | some s =>
        refine ⟨_, _, _, w.row, by omega, by omega, _, _, rfl, s.vm, (w.at0 ho).trans rfl, fun c1 => ?_, fun c1 => ?_⟩
        · refine ⟨_, _, _, w.row, by omega, by omega, _, _, rfl, s.pg, (w.at ho 1 (by decide)).trans rfl, fun c2 => ?_, fun c2 => ?_⟩
          · have hi : isK v p (some s) = true := S.is_iff.2 ⟨by simpa using c1, by simpa using c2⟩
            have hat : atK L v p = some k := by
              rw [hK, List.findIdx?_eq_some_iff_getElem]
              refine ⟨hk, ?_, fun j hj => ?_⟩
              · have : L[k] = some s := by rw [List.getElem?_eq_getElem hk] at ho; exact Option.some.inj ho
                rw [this]; exact hi
              · rw [hb j hj _ (List.getElem?_eq_getElem (by omega))]; simp
            exact hR _ _ ⟨by unfold atI; rw [hat], rfl⟩
          · refine stay ?_
            have c2 : ¬ s.pg = p := by simpa using c2
            simp [isK, S.is, c2]
        · refine stay ?_
          have c1 : ¬ s.vm = v := by simpa using c1
          simp [isK, S.is, c1]
    · cases o with
      | some s => cases ht
      | none => exact stay rfl
  · have hk : k = L.length := by have : ¬ k < L.length := by simpa using hc
                                 omega
    have hat : atK L v p = none := by
      rw [hK, List.findIdx?_eq_none_iff]
      intro x hx
      obtain ⟨j, hj⟩ := List.mem_iff_getElem?.1 hx
      have := (List.getElem?_eq_some_iff.1 hj).1
      exact hb j (by omega) x hj
    exact hR _ _ ⟨by unfold atI; rw [hat], rfl⟩
theorem rFill_spec {h : Hp} {q pl : Nat} {L : List (Option S)} {nx : Nat} (w : RS h q pl L nx) (s : S) (b : Bool) :
    CallsH Try.prog 14 [.pointer (some ⟨q, 0, none⟩), .agg #[.int .i64 s.vm, .int .i64 s.pg, .int .i64 s.fr, .bool s.wr, .bool s.ex, .bool b]] h fun v h' => v = .tuple #[] ∧ RS h' q pl (fillL L nx s).1 (fillL L nx s).2 ∧ Fr [q, pl] h h' := by
  refine calls_k fun R hR => ?_
  apply warderref09_Tlb_Fill.calls
  unfold warderref09_Tlb_Fill.P
  have n1 := w.ne1
  have lq := w.lq
  have lpl := w.lpl
  intro h1 e1
  have b1 : bk h1 (sz h) = some (blk 42 [.int .i64 s.vm, .int .i64 s.pg, .int .i64 s.fr, .bool s.wr, .bool s.ex, .bool b]) := by rw [e1]; exact new_at _ _
  have f1 : Fr [] h h1 := by rw [e1]; exact Fr.new _ _ _
  clear e1
  refine ⟨truly_rfl, _, _, b1, by simp, ?_⟩
  intro h2 e2
  have b2 : bk h2 (sz h) = some (blk 42 (rc (some s))) := by rw [e2]; exact (upd_same b1 _ _)
  have f2 : Fr [] h h2 := f1.later (by rw [e2]; exact Fr.upd (F := [sz h]) (by simp) _ _ _) (by simp)
  clear e2
  have w2 := w.fr0 f2
  refine ⟨s.vm, (cellAt_of b2 0).trans rfl, s.pg, (cellAt_of b2 1).trans rfl, ?_⟩
  refine (At_spec w2 s.vm s.pg).mono ?_
  rintro r h3 ⟨rfl, rfl⟩
  refine ⟨_, rfl, ?_⟩
  have fin : ∀ (k nx' : Nat) (h5 : Hp), k < L.length → RS h5 q pl L nx' → Fr [q] h3 h5 → (L.set k (some s), nx') = fillL L nx s →
      ∃ placesa16 : Option Addr, ∃ placesl17 : Nat, ∃ placesc18 : Nat, cellAt h5 q 0 = some (.slice placesa16 placesl17 placesc18) ∧
  ∃ x19 : Int, cellAt h5 (sz h) (0 + 0) = some (.int .i64 x19) ∧ ∃ x20 : Int, cellAt h5 (sz h) (0 + 1) = some (.int .i64 x20) ∧ ∃ x21 : Int, cellAt h5 (sz h) (0 + 2) = some (.int .i64 x21) ∧ ∃ x22 : Bool, cellAt h5 (sz h) (0 + 3) = some (.bool x22) ∧
  ∃ x23 : Bool, cellAt h5 (sz h) (0 + 4) = some (.bool x23) ∧ ∃ x24 : Bool, cellAt h5 (sz h) (0 + 5) = some (.bool x24) ∧ (0 : Int) ≤ (k : Int) ∧ (k : Int) < ((placesl17 : Nat) : Int) ∧ ∃ b25 : Nat, ∃ o26 : Nat, (placesa16 : Option Addr) = some ⟨b25, o26, none⟩ ∧
  truly true ∧ ∃ T27 : TypeId, ∃ l28 : List Value, bk h5 b25 = some (blk T27 l28) ∧ (o26 + (k : Int).toNat * 6) + 6 ≤ l28.length ∧ ∀ h6 : Hp, h6 = upd h5 b25 T27 (writeAt l28 (o26 + (k : Int).toNat * 6) [.int .i64 x19, .int .i64 x20, .int .i64 x21, .bool x22, .bool x23, .bool x24]) →
  R (.tuple #[]) h6 := by
    intro k nx' h5 hk w5 f5 he
    have b5 := f5.at b2 (by simp; omega)
    refine ⟨_, _, _, w5.row, s.vm, (cellAt_of b5 0).trans rfl, s.pg, (cellAt_of b5 1).trans rfl, s.fr, (cellAt_of b5 2).trans rfl, s.wr, (cellAt_of b5 3).trans rfl, s.ex, (cellAt_of b5 4).trans rfl, true, (cellAt_of b5 5).trans rfl, by omega, by omega, _, _, rfl, truly_rfl, _, _, w5.hpl, w5.room hk, ?_⟩
    rintro h6 rfl
    refine hR _ _ ⟨rfl, ?_, (f2.mono (by simp)).trans ((f5.sub (by simp)).trans (Fr.upd (by simp) _ _ _))⟩
    rw [← he]
    exact w5.set hk (some s)
  refine ⟨fun i h5 => ∃ k nx' : Nat, i = k ∧ k < L.length ∧ RS h5 q pl L nx' ∧ Fr [q] h3 h5 ∧ (L.set k (some s), nx') = fillL L nx s, ⟨fun hc => ?_, fun hc => ?_⟩, ?_⟩
  · cases hat : atK L s.vm s.pg with
    | some k => 
      unfold atI at hc
      rw [hat] at hc
      simp only [decide_eq_true_eq] at hc
      omega
    | none =>
      refine ⟨_, w2.next, _, w2.next, _, _, _, w2.row, by have := w.pos; omega, truly_rfl, _, _, w2.hq, by simp, ?_⟩
      rintro h4 rfl
      rw [mod_next w.lt w.pos.2]
      refine ⟨nx, (nx + 1) % L.length, rfl, w.lt, ⟨upd_same w2.hq _ _, by rw [upd_other n1]; exact w2.hpl, w.pos, Nat.mod_lt _ (by have := w.pos; omega)⟩, Fr.upd (by simp) _ _ _, by unfold fillL; rw [hat]⟩
  · cases hat : atK L s.vm s.pg with
    | none => 
      unfold atI at hc
      rw [hat] at hc
      simp at hc
    | some k =>
      obtain ⟨t, ht, _⟩ := atK_some hat
      exact ⟨k, nx, by unfold atI; rw [hat], (List.getElem?_eq_some_iff.1 ht).1, w2, Fr.refl _ _, by unfold fillL; rw [hat]⟩
  · rintro i h5 ⟨k, nx', rfl, hk, w5, f5, he⟩
    exact fin k nx' h5 hk w5 f5 he
theorem rDrop_spec {h : Hp} {q pl : Nat} {L : List (Option S)} {nx : Nat} (w : RS h q pl L nx) {kind v p r : Int} {f : S → Bool}
    (hf : (kind = 0 ∧ f = S.is v p) ∨ (kind = 1 ∧ f = fun s => s.vm == v) ∨ (kind = 2 ∧ f = fun s => s.fr == r)) :
    CallsH Try.prog 17 [.pointer (some ⟨q, 0, none⟩), .int .i64 kind, .int .i64 v, .int .i64 p, .int .i64 r] h fun v h' => v = .int .i64 (dropN f L : Nat) ∧ RS h' q pl (dropL f L) nx ∧ Fr [pl] h h' := by
  refine calls_k fun R hR => ?_
  apply warderref09_Tlb_Drop.calls
  unfold warderref09_Tlb_Drop.P
  have hpos := w.pos
  refine ⟨fun n x h1 => ∃ k : Nat, x = k ∧ k ≤ L.length ∧ n = (dropN f (L.take k) : Nat) ∧ RS h1 q pl ((L.take k).map (gone f) ++ L.drop k) nx ∧ Fr [pl] h h1, fun _ x _ => L.length - x.toNat, ⟨0, rfl, by omega, by simp [dropN], by simpa using w, Fr.refl _ _⟩, ?_⟩
  rintro n x h1 ⟨k, rfl, hk, rfl, w1, f1⟩
  have hlen := gone_len f L k
  refine ⟨_, _, _, w1.row, fun hc => ?_, fun hc => ?_⟩
  · rw [hlen] at hc
    have hk : k < L.length := by simpa using hc
    obtain ⟨o, ho⟩ : ∃ o, L[k]? = some o := ⟨_, List.getElem?_eq_getElem hk⟩
    have ho1 : ((L.take k).map (gone f) ++ L.drop k)[k]? = some o := by rw [gone_at hk]; exact ho
    have hcnt : dropN f (L.take k) ≤ k := by
      have := List.countP_le_length (p := hit f) (l := L.take k)
      rw [List.length_take] at this; unfold dropN; omega
    rw [wrapN hk (by omega)]
    have hw : IntKind.wrap .i64 ((dropN f (L.take k) : Int) + 1) = ((dropN f (L.take k) + 1 : Nat) : Int) := by rw [wrap_i64 (by omega) (by omega)]; omega
    rw [hw]
    obtain ⟨c0, c1, c2, c3, c4, c5, hrc⟩ : ∃ (c0 c1 c2 : Int) (c3 c4 c5 : Bool), rc o = [.int .i64 c0, .int .i64 c1, .int .i64 c2, .bool c3, .bool c4, .bool c5] := by
      cases o <;> exact ⟨_, _, _, _, _, _, rfl⟩
    refine ⟨_, _, _, w1.row, by omega, by omega, _, _, rfl, c0, (w1.at ho1 0 (by decide)).trans (by rw [hrc]; rfl), c1, (w1.at ho1 1 (by decide)).trans (by rw [hrc]; rfl), c2, (w1.at ho1 2 (by decide)).trans (by rw [hrc]; rfl),
      c3, (w1.at ho1 3 (by decide)).trans (by rw [hrc]; rfl), c4, (w1.at ho1 4 (by decide)).trans (by rw [hrc]; rfl), c5, (w1.at ho1 5 (by decide)).trans (by rw [hrc]; rfl), ?_⟩
    refine put_local rfl (by decide) ?_
    intro h3 b3 f3 s3
    have w3 := w1.fr0 f3
    refine ⟨fun x h4 => x = hit f o ∧ h4 = h3, ?_, ?_⟩
    · cases o with
      | none =>
        cases hrc
        exact ⟨false, (cellAt_of b3 5).trans rfl, fun hn => absurd hn (by simp), fun _ => ⟨rfl, rfl⟩⟩
      | some s =>
        cases hrc
        refine ⟨true, (cellAt_of b3 5).trans rfl, fun _ => ?_, fun hn => absurd hn (by simp)⟩
        have d0 : cellAt h3 (sz h1) 0 = some (.int .i64 s.vm) := (cellAt_of b3 0).trans rfl
        have d1 : cellAt h3 (sz h1) 1 = some (.int .i64 s.pg) := (cellAt_of b3 1).trans rfl
        have d2 : cellAt h3 (sz h1) 2 = some (.int .i64 s.fr) := (cellAt_of b3 2).trans rfl
        rcases hf with ⟨rfl, rfl⟩ | ⟨rfl, rfl⟩ | ⟨rfl, rfl⟩
        · by_cases a1 : s.vm = v
          · by_cases a2 : s.pg = p
            · simp [d0, d1, d2, a1, a2, hit, S.is, -Bool.exists_bool]
            · simp [d0, d1, d2, a1, a2, hit, S.is, -Bool.exists_bool]
          · simp [d0, d1, d2, a1, hit, S.is, -Bool.exists_bool]
        · by_cases a1 : s.vm = v
          · simp [d0, d1, d2, a1, hit, S.is, -Bool.exists_bool]
          · simp [d0, d1, d2, a1, hit, S.is, -Bool.exists_bool]
        · simp [d0, d1, d2, hit, S.is, -Bool.exists_bool]
    · rintro x h4 ⟨rfl, rfl⟩
      refine ⟨fun hx => ?_, fun hx => ?_⟩
      · refine ⟨_, _, _, w3.row, by omega, by omega, _, _, rfl, truly_rfl, _, _, w3.hpl, w3.room (by omega), ?_⟩
        rintro h5 rfl
        have hg : gone f o = none := by cases o with
          | none => rfl
          | some s => simp only [hit] at hx; simp [gone, hx]
        refine ⟨⟨k + 1, rfl, by omega, by rw [hit_step ho, hx]; rfl, ?_, f1.trans ((f3.mono (by simp)).trans (Fr.upd (by simp) _ _ _))⟩, decM hk⟩
        have := w3.set (k := k) (by omega) none
        rw [← hg, gone_step ho] at this
        rw [hg] at this
        exact this
      · have hg : gone f o = o := by cases o with
          | none => rfl
          | some s => simp only [hit] at hx; simp [gone, hx]
        exact ⟨⟨k + 1, rfl, by omega, by rw [hit_step ho, hx]; rfl, by rw [← gone_keep ho hg]; exact w3, f1.trans (f3.mono (by simp))⟩, decM hk⟩
  · rw [hlen] at hc
    have hk : k = L.length := by have : ¬ k < L.length := by simpa using hc
                                 omega
    subst hk
    rw [List.take_length, List.drop_length, List.append_nil] at w1
    rw [List.take_length]
    exact hR _ _ ⟨rfl, w1, f1⟩
end Go.Proofs.Ytdcbapbpamekkaa
