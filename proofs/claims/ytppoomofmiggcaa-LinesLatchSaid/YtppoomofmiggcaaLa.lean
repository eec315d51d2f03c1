import Derived.Test.YtppoomofmiggcaaP
import Derived.Test.YtppoomofmiggcaaWdBits
namespace Go.Proofs.Ytppoomofmiggcaa
open Go Go.Wd
set_option linter.unusedVariables false
set_option linter.unusedSimpArgs false

structure Ln where
  guest : Int
  to : Int
  gap : Int
  last : Int
  routed : Bool
  fired : Bool
  latched : Bool
  deriving DecidableEq
def Ln.cells (x : Ln) : List Value := [.int .i64 x.guest, .int .i64 x.to, .int .u64 x.gap, .int .u64 x.last, .bool x.routed, .bool x.fired, .bool x.latched]
theorem Ln.len (x : Ln) : x.cells.length = 7 := rfl
def noLn : Ln := ⟨0, 0, 0, 0, false, false, false⟩

/-- Lines at rest. -/
structure LS (h : Hp) (q : Nat) (L : List Ln) (now : Int) : Prop where
  hq : bk h q = some (blk 55 (encL Ln.cells L ++ [.int .u64 now]))
  len : L.length = 16

theorem LS.fr {h h' : Hp} {q : Nat} {L : List Ln} {now : Int} (w : LS h q L now) {F : List Nat} (f : Fr F h h') (hn : q ∉ F) : LS h' q L now := ⟨f.at w.hq hn, w.len⟩
theorem LS.get {h : Hp} {q : Nat} {L : List Ln} {now : Int} (w : LS h q L now) {k : Nat} {x : Ln} (hx : L[k]? = some x) (j : Nat) (hj : j < 7) : cellAt h q (k * 7 + j) = x.cells[j]? := by
  rw [cellAt_of w.hq, encL_at Ln.len _ hx hj]
theorem LS.now {h : Hp} {q : Nat} {L : List Ln} {now : Int} (w : LS h q L now) : cellAt h q 112 = some (.int .u64 now) := by
  have hl := encL_length Ln.len L
  rw [w.len] at hl
  rw [cellAt_of w.hq, List.getElem?_append_right (by omega), hl]
  rfl
theorem LS.lt {h : Hp} {q : Nat} {L : List Ln} {now : Int} (w : LS h q L now) : q < sz h := lt_of_bk w.hq
theorem LS.length {h : Hp} {q : Nat} {L : List Ln} {now : Int} (w : LS h q L now) : (encL Ln.cells L ++ [Value.int .u64 now]).length = 113 := by
  rw [List.length_append, encL_length Ln.len, w.len]; rfl
theorem LS.ex {h : Hp} {q : Nat} {L : List Ln} {now : Int} (w : LS h q L now) {k : Nat} (hk : k < 16) : ∃ x, L[k]? = some x := ⟨_, List.getElem?_eq_getElem (by rw [w.len]; exact hk)⟩
/-- A part of a line is written. -/
theorem LS.put {h : Hp} {q : Nat} {L : List Ln} {now : Int} (w : LS h q L now) {k j : Nat} {x y : Ln} {vs : List Value} (hx : L[k]? = some x) (hj : j + vs.length ≤ 7) (hy : writeAt x.cells j vs = y.cells) :
    LS (upd h q 55 (writeAt (encL Ln.cells L ++ [.int .u64 now]) (k * 7 + j) vs)) q (L.set k y) now := by
  rw [encL_put Ln.len L k j x y vs _ hx hj hy]
  exact ⟨upd_same w.hq _ _, by simp [w.len]⟩
theorem LS.putNow {h : Hp} {q : Nat} {L : List Ln} {now : Int} (w : LS h q L now) (n : Int) :
    LS (upd h q 55 (writeAt (encL Ln.cells L ++ [.int .u64 now]) 112 [.int .u64 n])) q L n := by
  have hl := encL_length Ln.len L
  rw [w.len] at hl
  have := writeAt_append_right [.int .u64 n] (encL Ln.cells L) [.int .u64 now] 0
  rw [hl] at this
  rw [show (112 : Nat) = 16 * 7 + 0 from rfl, this]
  exact ⟨upd_same w.hq _ _, w.len⟩

theorem there_spec {h : Hp} (i : Int) : CallsH Try.prog 16 [.int .i64 i] h fun v h' => v = .bool (decide (0 ≤ i) && decide (i < 16)) ∧ h' = h := by
  apply lines_there.calls
  unfold lines_there.P
  by_cases c : 0 ≤ i
  · have c' : ¬ (i < 0) := by omega
    simp [c, c']
  · have c' : i < 0 := by omega
    simp [c, c']

theorem new_spec {h : Hp} : CallsH Try.prog 8 [] h fun v h' => v = .pointer (some ⟨sz h, 0, none⟩) ∧ LS h' (sz h) (List.replicate 16 noLn) 0 ∧ Fr [] h h' ∧ sz h' = sz h + 1 := by
  apply lines_New.calls
  unfold lines_New.P
  rintro h1 rfl
  exact ⟨rfl, ⟨new_at _ _, by simp⟩, Fr.new _ _ _, sz_new _ _⟩

/-! ## routing -/
def routeE (L : List Ln) (i g t gap : Int) : Int :=
  if i < 0 ∨ 16 ≤ i ∨ g < 2 ∨ 9 < g ∨ t < 0 ∨ 16 ≤ t ∨ 1099511627776 < gap then 11 else if (L[i.toNat]?.map (·.routed)).getD false then 13 else 0
def routeL (L : List Ln) (i g t gap : Int) : List Ln := if routeE L i g t gap = 0 then L.set i.toNat ⟨g, t, gap, 0, true, false, false⟩ else L

theorem route_spec {h : Hp} {q : Nat} {L : List Ln} {now : Int} (w : LS h q L now) (i g t gap : Int) :
    CallsH Try.prog 9 [.pointer (some ⟨q, 0, none⟩), .int .i64 i, .int .i64 g, .int .i64 t, .int .u64 gap] h fun v h' => v = .int .i64 (routeE L i g t gap) ∧ LS h' q (routeL L i g t gap) now ∧ Fr [q] h h' ∧ sz h' = sz h := by
  refine calls_k fun R hR => ?_
  apply lines_Lines_Route.calls
  unfold lines_Lines_Route.P
  refine ⟨fun h1 => h1 = h ∧ routeE L i g t gap = 0, ?_, ?_⟩
  · refine ⟨fun b h1 => h1 = h ∧ (b = decide (i < 0 ∨ 16 ≤ i ∨ g < 2 ∨ 9 < g ∨ t < 0 ∨ 16 ≤ t ∨ 1099511627776 < gap)), ?_, ?_⟩
    · refine (there_spec i).mono ?_
      rintro v h1 ⟨rfl, rfl⟩
      refine ⟨_, rfl, fun c => ⟨rfl, ?_⟩, fun c => ⟨fun c1 => ⟨rfl, ?_⟩, fun c1 => ⟨fun c2 => ⟨rfl, ?_⟩, fun c2 => ⟨fun c3 => ⟨rfl, ?_⟩, fun c3 => ⟨fun c4 => ⟨rfl, ?_⟩, fun c4 => ⟨rfl, ?_⟩⟩⟩⟩⟩⟩
      all_goals (rw [Bool.eq_iff_iff]; simp only [decide_eq_true_eq, decide_eq_false_iff_not, Bool.not_eq_true', Bool.not_eq_false', Bool.and_eq_true, Bool.and_eq_false_iff, true_iff, gt_iff_lt, ge_iff_le] at *; omega)
    · rintro b h1 ⟨rfl, rfl⟩
      refine ⟨fun c => ?_, fun c => ?_⟩
      · have c' := of_decide_eq_true c
        have he : routeE L i g t gap = 11 := by simp only [routeE]; rw [if_pos c']
        have hL : routeL L i g t gap = L := by simp [routeL, he]
        rw [← he]
        exact hR _ _ ⟨rfl, by rw [hL]; exact w, Fr.refl _ _, rfl⟩
      · have c' := of_decide_eq_false c
        obtain ⟨k, rfl⟩ : ∃ k : Nat, i = k := ⟨i.toNat, by omega⟩
        obtain ⟨x, hx⟩ := w.ex (k := k) (by omega)
        have h4 := w.get hx 4 (by omega)
        simp [Ln.cells] at h4
        refine ⟨by omega, by omega, x.routed, by simpa using h4, fun r => ?_, fun r => ⟨rfl, ?_⟩⟩
        · have he : routeE L k g t gap = 13 := by simp only [routeE]; rw [if_neg c']; simp [hx, r]
          have hL : routeL L k g t gap = L := by simp [routeL, he]
          rw [← he]
          exact hR _ _ ⟨rfl, by rw [hL]; exact w, Fr.refl _ _, rfl⟩
        · simp only [routeE]; rw [if_neg c']; simp [hx, r]
  · rintro h1 ⟨rfl, he⟩
    have hL : routeL L i g t gap = L.set i.toNat ⟨g, t, gap, 0, true, false, false⟩ := by simp [routeL, he]
    have c' : ¬ (i < 0 ∨ 16 ≤ i ∨ g < 2 ∨ 9 < g ∨ t < 0 ∨ 16 ≤ t ∨ 1099511627776 < gap) := by
      intro c; simp only [routeE] at he; rw [if_pos c] at he; cases he
    obtain ⟨k, rfl⟩ : ∃ k : Nat, i = k := ⟨i.toNat, by omega⟩
    obtain ⟨x, hx⟩ := w.ex (k := k) (by omega)
    refine ⟨by omega, by omega, rfl, _, _, w.hq, by rw [w.length]; simp; omega, ?_⟩
    rintro h4 rfl
    have := w.put (j := 0) (y := ⟨g, t, gap, 0, true, false, false⟩) (vs := [.int .i64 g, .int .i64 t, .int .u64 gap, .int .u64 0, .bool true, .bool false, .bool false]) hx (by simp) rfl
    rw [he, hL] at hR
    refine hR _ _ ⟨rfl, by simpa using this, Fr.upd (by simp) _ _ _, sz_upd _ _ _ _⟩
end Go.Proofs.Ytppoomofmiggcaa
