import Derived.Test.YtmocndbebknbgaaP
import Derived.Test.YtmocndbebknbgaaWdBits
import Derived.RangeFuncNested
import Derived.RangeFuncBound
import Derived.RangeFuncCalls
import Derived.RangeFuncLeaves
import Derived.Shelf.Abstract
import Derived.Shelf.RegionOpen
import Derived.WalkKit
import Derived.OwnWalkIn
import Derived.TacticsInMore
import Derived.LoopNIn
import Derived.LoopIn
namespace Go.Proofs.Ytmocndbebknbgaa
open Go Go.Wd Go.RowKit Go.Shelf
set_option linter.unusedVariables false
set_option linter.unusedSimpArgs false
set_option linter.unnecessarySimpa false
attribute [local go_sem] Oper.semAt_some

set_option maxRecDepth 100000 in
set_option maxHeartbeats 2000000 in
theorem each_in (m : Nat) (hm : 1 ≤ m) (l pv sv q sb n : Nat) (st : Int) (hn : n ≤ 1000000) (J : Nat → World → Prop)
    (hJ : ∀ k W, J k W → W.cell? ⟨pv, 0, none⟩ = some (.pointer (some ⟨q, 0, none⟩)) ∧ W.cell? ⟨sv, 0, none⟩ = some (.int .i64 st) ∧ W.cell? ⟨q, 0, none⟩ = some (.slice (some ⟨sb, 0, none⟩) n n) ∧ ∀ j, j < n → ∃ x : Int, W.cell? ⟨sb, j, none⟩ = some (.int .i64 x))
    (hskip : ∀ k W (x : Int), k < n → J k W → W.cell? ⟨sb, k, none⟩ = some (.int .i64 x) → x ≠ st → J (k + 1) W)
    (hround : ∀ k W, k < n → J k W → W.cell? ⟨sb, k, none⟩ = some (.int .i64 st) → YieldAt Fence.wide (m - 1) Try.prog l #[.int .i64 ((k : Int) + 1)] W fun e W' => e = .returned (.bool true) ∧ J (k + 1) W')
    (W : World) (h0 : J 0 W) :
    CallsIn Fence.wide m Try.prog 28 #[.func (.yield l) #[] #[], .pointer (some ⟨pv, 0, none⟩), .pointer (some ⟨sv, 0, none⟩)] W fun e W' => (∃ v, e = .returned v) ∧ J n W' := by
  refine callsIn_of_wp Try.func28 rfl trivial ?_ rfl
  simp only [Try.ntmps28, List.size_toArray, List.length_cons, List.length_nil, Nat.reduceAdd, Nat.reduceSub, Array.replicate_succ, Array.replicate_zero, List.push_toArray, List.append_toArray, List.nil_append, List.cons_append]
  obtain ⟨c1, c2, c3, c4⟩ := hJ 0 W h0
  gi_wp2
  gi_loopw [11] (fun i wr => ∃ k : Nat, k ≤ n ∧ i = .int .i64 k ∧ J k wr) (fun i _ => n - (intOf i).toNat)
  case atStart => exact ⟨0, Nat.zero_le _, rfl, h0⟩
  case round =>
    obtain ⟨k, hk, rfl, hJs⟩ := hrel
    obtain ⟨d1, d2, d3, d4⟩ := hJ k wr hJs
    by_cases hlt : k < n
    · obtain ⟨x, hx⟩ := d4 k hlt
      by_cases hxs : x = st
      · subst hxs
        obtain ⟨fn, tmps, assign, body, hy, hR⟩ := hround k wr hlt hJs hx
        gi_wp2
        refine hR.mono ?_
        rintro e W3 ⟨rfl, hJ3⟩
        gi_wp2
        go_roundw
        case rel => exact ⟨k + 1, by omega, by simp, hJ3⟩
        case measure => simp [intOf]; omega
      · have hb : (x == st) = false := by simpa using hxs
        gi_wp2
        refine ⟨fun _ h => (by cases h), ?_⟩
        gi_wp2
        go_roundw
        case rel => exact ⟨k + 1, by omega, by simp, hskip k wr x hlt hJs hx hxs⟩
        case measure => simp [intOf]; omega
    · obtain rfl : k = n := by omega
      gi_wp2
      go_end0
      exact ⟨⟨_, rfl⟩, hJs⟩
end Go.Proofs.Ytmocndbebknbgaa
