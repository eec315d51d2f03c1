import Derived.Test.YtmldiibfmhkgjaaFa
import Derived.Test.YtmldiibfmhkgjaaTa
import Derived.Test.YtmldiibfmhkgjaaWa
import Derived.Test.YtmldiibfmhkgjaaEa
namespace Go.Proofs.Ytmldiibfmhkgjaa
open Go Go.Wd
set_option linter.unusedVariables false
set_option linter.unusedSimpArgs false
set_option linter.unnecessarySimpa false

/-! ## what can't be done -/
def refusal (e : Int) : Value := .iface 139 (.agg ⟨[.int .i64 e]⟩)
theorem need_spec {h : Hp} (ok : Bool) (e : Int) : CallsX Try.prog 50 [.bool ok, .int .i64 e] h (fun v h' => ok = true ∧ v = .tuple #[] ∧ h' = h) (fun x h' => ok = false ∧ x = refusal e ∧ h' = h) := by
  refine stage_need.calls _ _ _ _ _ ?_
  unfold stage_need.P
  cases ok
  · exact ⟨fun _ => ⟨rfl, rfl, rfl⟩, fun hn => (by cases hn)⟩
  · exact ⟨fun hn => (by cases hn), fun _ => ⟨rfl, rfl, rfl⟩⟩
/-- A deed. -/
structure Dd where
  kind : Int
  addr : Nat
  value : Nat
def Dd.cells (x : Dd) : List Value := [.int .i64 x.kind, .int .u32 (x.addr : Int), .int .u32 (x.value : Int)]
theorem Dd.len (x : Dd) : x.cells.length = 3 := rfl
theorem at_spec' {h : Hp} {t i : Nat} (ht : t < 65536) (hi : i < 64) : CallsH Try.prog 56 [.int .i64 t, .int .i64 i] h fun v h' => v = .int .u32 ((t * 256 + 4 * i : Nat) : Int) ∧ h' = h := by
  refine calls_k fun R hR => ?_
  apply stage_at.calls
  unfold stage_at.P
  refine hR _ _ ⟨?_, rfl⟩
  congr 1
  have e1 : IntKind.wrap .i64 (256 * (t : Int)) = 256 * (t : Int) := wrap_i64 (by omega) (by omega)
  have e2 : IntKind.wrap .i64 (4 * (i : Int)) = 4 * (i : Int) := wrap_i64 (by omega) (by omega)
  rw [e1, e2, wrap_i64 (by omega) (by omega), show 256 * (t : Int) + 4 * (i : Int) = ((t * 256 + 4 * i : Nat) : Int) by omega]
  exact wrapn_u32 _ (by omega)
end Go.Proofs.Ytmldiibfmhkgjaa
