import Derived.Test.YtppoomofmiggcaaLb
namespace Go.Proofs.Ytppoomofmiggcaa
open Go Go.Wd
set_option linter.unusedVariables false
set_option linter.unusedSimpArgs false

/-- A block of one's own since h: its cells. -/
theorem fresh_block {h h1 : Hp} {T : TypeId} {l : List Value} (f : Fr [] h h1) (hb : bk h1 (sz h) = some (blk T l)) (m : List Value) : Fr [] h (upd h1 (sz h) T m) := f.later (Fr.upd (F := [sz h]) (by simp) _ _ _) (by simp)

def isThere (i : Int) : Bool := decide (0 ≤ i) && decide (i < 16)
def getL (L : List Ln) (i : Int) : Ln := if isThere i then L.getD i.toNat noLn else noLn
theorem isThere_nat {i : Int} (h : isThere i = true) : ∃ k : Nat, i = k ∧ k < 16 := by
  simp only [isThere, Bool.and_eq_true, decide_eq_true_eq] at h
  exact ⟨i.toNat, by omega, by omega⟩
theorem getL_nat {L : List Ln} {k : Nat} {x : Ln} (hk : k < 16) (hx : L[k]? = some x) : getL L k = x := by
  have : isThere (k : Int) = true := by simp [isThere]; omega
  simp only [getL, this, if_true, Int.toNat_natCast, List.getD_eq_getElem?_getD, hx, Option.getD_some]

theorem get_spec {h : Hp} {q : Nat} {L : List Ln} {now : Int} (w : LS h q L now) (i : Int) :
    CallsH Try.prog 12 [.pointer (some ⟨q, 0, none⟩), .int .i64 i] h fun v h' => v = .agg ⟨(getL L i).cells⟩ ∧ Fr [] h h' := by
  refine calls_k fun R hR => ?_
  apply lines_Lines_Get.calls
  unfold lines_Lines_Get.P
  rintro h1 rfl
  have f1 : Fr [] h (new h (blk 39 [.int .i64 0, .int .i64 0, .int .u64 0, .int .u64 0, .bool false, .bool false, .bool false])) := Fr.new _ _ _
  have k1 := new_at h (blk 39 [.int .i64 0, .int .i64 0, .int .u64 0, .int .u64 0, .bool false, .bool false, .bool false])
  have w1 := w.fr f1 (by simp)
  generalize new h (blk 39 [.int .i64 0, .int .i64 0, .int .u64 0, .int .u64 0, .bool false, .bool false, .bool false]) = h1 at *
  refine (there_spec i).mono ?_
  rintro v h2 ⟨rfl, rfl⟩
  have lt := lt_of_bk k1
  refine ⟨_, rfl, fun c => ?_, fun c => ?_⟩
  · have ht : isThere i = false := (Bool.not_eq_true' _).mp c
    have hg : getL L i = noLn := by simp [getL, ht]
    rw [hg] at hR
    refine ⟨rfl, _, _, k1, by simp, ?_⟩
    rintro h3 rfl
    have k3 := upd_same k1 39 noLn.cells
    have f3 := fresh_block f1 k1 noLn.cells
    simp only [writeAt, List.set_cons_zero, List.set_cons_succ]
    have fin := hR _ _ ⟨rfl, f3⟩
    exact ⟨_, (cell_upd k1 _ _ _).trans rfl, _, (cell_upd k1 _ _ _).trans rfl, _, (cell_upd k1 _ _ _).trans rfl, _, (cell_upd k1 _ _ _).trans rfl, _, (cell_upd k1 _ _ _).trans rfl, _, (cell_upd k1 _ _ _).trans rfl, _, (cell_upd k1 _ _ _).trans rfl, fin⟩
  · have ht : isThere i = true := (Bool.not_eq_false' _).mp c
    obtain ⟨k, rfl, hk⟩ := isThere_nat ht
    obtain ⟨x, hx⟩ := w1.ex hk
    rw [getL_nat hk hx] at hR
    simp only [Nat.zero_add, Int.toNat_natCast]
    refine ⟨by omega, by omega, x.guest, w1.get hx 0 (by omega), x.to, w1.get hx 1 (by omega), x.gap, w1.get hx 2 (by omega), x.last, w1.get hx 3 (by omega), x.routed, w1.get hx 4 (by omega), x.fired, w1.get hx 5 (by omega), x.latched, w1.get hx 6 (by omega), by trivial, _, _, k1, by simp, ?_⟩
    rintro h3 rfl
    have k3 := upd_same k1 39 x.cells
    have f3 := fresh_block f1 k1 x.cells
    simp only [writeAt, List.set_cons_zero, List.set_cons_succ]
    have fin := hR _ _ ⟨rfl, f3⟩
    exact ⟨_, (cell_upd k1 _ _ _).trans rfl, _, (cell_upd k1 _ _ _).trans rfl, _, (cell_upd k1 _ _ _).trans rfl, _, (cell_upd k1 _ _ _).trans rfl, _, (cell_upd k1 _ _ _).trans rfl, _, (cell_upd k1 _ _ _).trans rfl, _, (cell_upd k1 _ _ _).trans rfl, fin⟩

/-! ## arrivals -/
structure Out where
  kind : Int
  hit : Hit
  deriving DecidableEq
def Out.cells (x : Out) : List Value := .int .i64 x.kind :: x.hit.cells
def noHit : Hit := ⟨0, 0, 0, 0⟩
def arriveO (L : List Ln) (i n : Int) : Out :=
  if isThere i && (getL L i).routed then (if (getL L i).latched then ⟨3, noHit⟩ else if opened (getL L i) n then ⟨1, hitOf i (getL L i) n⟩ else ⟨2, noHit⟩) else ⟨0, noHit⟩
def arriveL (L : List Ln) (i n : Int) : List Ln :=
  if isThere i && (getL L i).routed then (if (getL L i).latched then L else if opened (getL L i) n then L.set i.toNat (fire (getL L i) n) else L.set i.toNat { getL L i with latched := true }) else L

theorem arrive_spec {h : Hp} {q : Nat} {L : List Ln} {now : Int} (w : LS h q L now) (i t : Int) :
    CallsH Try.prog 11 [.pointer (some ⟨q, 0, none⟩), .int .i64 i, .int .u64 t] h fun v h' => v = .agg ⟨(arriveO L i (maxI now t)).cells⟩ ∧ LS h' q (arriveL L i (maxI now t)) (maxI now t) ∧ Fr [q] h h' := by
  refine calls_k fun R hR => ?_
  apply lines_Lines_Arrive.calls
  unfold lines_Lines_Arrive.P
  have hlt := w.lt
  rintro h1 rfl
  have f1 : Fr [] h (new h (blk 35 [.int .i64 0, .int .i64 0, .int .i64 0, .int .i64 0, .int .u64 0])) := Fr.new _ _ _
  have k1 := new_at h (blk 35 [.int .i64 0, .int .i64 0, .int .i64 0, .int .i64 0, .int .u64 0])
  have w1 := w.fr f1 (by simp)
  generalize new h (blk 35 [.int .i64 0, .int .i64 0, .int .i64 0, .int .i64 0, .int .u64 0]) = h1 at *
  refine ⟨_, by simpa using w1.now, rfl, _, _, w1.hq, by rw [w1.length]; omega, ?_⟩
  rintro h2 rfl
  have w2 := w1.putNow (maxI now t)
  have f2 : Fr [q] h1 (upd h1 q 55 (writeAt (encL Ln.cells L ++ [.int .u64 now]) 112 [.int .u64 (maxI now t)])) := Fr.upd (by simp) _ _ _
  simp only [Nat.zero_add]
  generalize upd h1 q 55 (writeAt (encL Ln.cells L ++ [.int .u64 now]) 112 [.int .u64 (maxI now t)]) = h2 at *
  generalize hn : maxI now t = n at *
  have k2 := f2.at k1 (by simp; omega)
  have f02 := (f1.mono (by simp)).trans f2
  -- what is handed back stands in a block of its own
  have fin : ∀ (h3 : Hp) (o : Out) (L' : List Ln), o = arriveO L i n → L' = arriveL L i n → bk h3 (sz h) = some (blk 35 [.int .i64 0, .int .i64 0, .int .i64 0, .int .i64 0, .int .u64 0]) → LS h3 q L' n → Fr [q] h h3 →
      ∃ T7 : TypeId, ∃ l8 : List Value, bk h3 (sz h) = some (blk T7 l8) ∧ 0 + 5 ≤ l8.length ∧ ∀ h4 : Hp, h4 = upd h3 (sz h) T7 (writeAt l8 0 [.int .i64 o.kind, .int .i64 o.hit.line, .int .i64 o.hit.guest, .int .i64 o.hit.to, .int .u64 o.hit.t]) →
      ∃ res9 : Int, cellAt h4 (sz h) (0) = some (.int .i64 res9) ∧ ∃ res10 : Int, cellAt h4 (sz h) (1) = some (.int .i64 res10) ∧ ∃ res11 : Int, cellAt h4 (sz h) (2) = some (.int .i64 res11) ∧
      ∃ res12 : Int, cellAt h4 (sz h) (3) = some (.int .i64 res12) ∧ ∃ res13 : Int, cellAt h4 (sz h) (4) = some (.int .u64 res13) ∧ R (.agg #[.int .i64 res9, .int .i64 res10, .int .i64 res11, .int .i64 res12, .int .u64 res13]) h4 := by
    rintro h3 o L' rfl rfl k3 w3 f3
    refine ⟨_, _, k3, by simp, ?_⟩
    rintro h4 rfl
    have k4 := upd_same k3 35 (arriveO L i n).cells
    have f4 : Fr [sz h] h3 (upd h3 (sz h) 35 (arriveO L i n).cells) := Fr.upd (by simp) _ _ _
    have w4 := w3.fr f4 (by simp; omega)
    have f04 := f3.later f4 (by simp)
    simp only [writeAt, List.set_cons_zero, List.set_cons_succ]
    have r := hR _ _ ⟨rfl, w4, f04⟩
    exact ⟨_, (cell_upd k3 _ _ _).trans rfl, _, (cell_upd k3 _ _ _).trans rfl, _, (cell_upd k3 _ _ _).trans rfl, _, (cell_upd k3 _ _ _).trans rfl, _, (cell_upd k3 _ _ _).trans rfl, r⟩
  refine ⟨fun h6 => h6 = h2 ∧ isThere i = true ∧ (getL L i).routed = true, ?_, ?_⟩
  · refine (there_spec i).mono ?_
    rintro v h3 ⟨rfl, rfl⟩
    refine ⟨_, rfl, fun c => ⟨by trivial, ?_⟩, fun c => ?_⟩
    · have ht : isThere i = false := (Bool.not_eq_true' _).mp c
      exact fin h3 ⟨0, noHit⟩ L (by simp [arriveO, ht]) (by simp [arriveL, ht]) k2 w2 f02
    · have ht : isThere i = true := (Bool.not_eq_false' _).mp c
      obtain ⟨k, rfl, hk⟩ := isThere_nat ht
      obtain ⟨x, hx⟩ := w2.ex hk
      have hg := getL_nat hk hx
      refine ⟨by omega, by omega, x.routed, by simpa [Ln.cells] using w2.get hx 4 (by omega), fun r => ⟨by trivial, ?_⟩, fun r => ⟨rfl, ht, by rw [hg]; simpa using r⟩⟩
      have r' : x.routed = false := by simpa using r
      exact fin h3 ⟨0, noHit⟩ L (by simp [arriveO, hg, r']) (by simp [arriveL, hg, r']) k2 w2 f02
  · rintro h3 ⟨rfl, ht, hr⟩
    obtain ⟨k, rfl, hk⟩ := isThere_nat ht
    obtain ⟨x, hx⟩ := w2.ex hk
    have hg := getL_nat hk hx
    rw [hg] at hr
    have hkl := (List.getElem?_eq_some_iff.1 hx).1
    simp only [Int.toNat_natCast]
    refine ⟨by omega, by omega, x.latched, w2.get hx 6 (by omega), fun l => ⟨by trivial, fin h3 ⟨3, noHit⟩ L (by simp [arriveO, ht, hg, hr, l]) (by simp [arriveL, ht, hg, hr, l]) k2 w2 f02⟩, fun l => ⟨_, w2.now, ?_⟩⟩
    refine (open_spec w2 hx n).mono ?_
    rintro v h4 ⟨rfl, rfl⟩
    refine ⟨_, rfl, fun o => ⟨_, w2.now, ?_⟩, fun o => ⟨by trivial, _, _, w2.hq, by rw [w2.length]; omega, ?_⟩⟩
    · refine (fire_spec w2 hx k n).mono ?_
      rintro v h5 ⟨rfl, w5, f5⟩
      exact ⟨_, _, _, _, rfl, by trivial, fin h5 ⟨1, hitOf k x n⟩ _ (by simp [arriveO, ht, hg, hr, l, o]) (by simp [arriveL, ht, hg, hr, l, o]) (f5.at k2 (by simp; omega)) w5 (f02.trans f5)⟩
    · rintro h5 rfl
      have w5 := w2.put (j := 6) (y := { x with latched := true }) (vs := [.bool true]) hx (by simp) rfl
      have f5 : Fr [q] h4 (upd h4 q 55 (writeAt (encL Ln.cells L ++ [.int .u64 n]) (k * 7 + 6) [.bool true])) := Fr.upd (by simp) _ _ _
      generalize upd h4 q 55 (writeAt (encL Ln.cells L ++ [.int .u64 n]) (k * 7 + 6) [.bool true]) = h5 at *
      exact ⟨by trivial, fin h5 ⟨2, noHit⟩ _ (by simp [arriveO, ht, hg, hr, l, o]) (by simp [arriveL, ht, hg, hr, l, o]) (f5.at k2 (by simp; omega)) w5 (f02.trans f5)⟩
end Go.Proofs.Ytppoomofmiggcaa
