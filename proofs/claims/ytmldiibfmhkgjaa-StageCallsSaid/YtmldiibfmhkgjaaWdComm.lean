/-
  A communication that goes ahead at once, in one goroutine: a select of one case with a default, and a receive with its second answer from a closed channel.
-/
import Derived.Test.YtmldiibfmhkgjaaWdCode
import Derived.Conc.LoneSelect
namespace Go.Wd
set_option linter.unusedSimpArgs false
set_option linter.unusedVariables false
set_option linter.unnecessarySimpa false
open Go Go.RowKit
variable {lk : Lock} {ds : List Deferred}

def zeroT (P : Program) (t : TypeId) : Option Value := match P.info? t with
  | some i => i.zero
  | none => none
theorem run_zero {P : Program} {t : TypeId} {z : Value} (h : zeroT P t = some z) (w : World) : (zeroValue t).run P w = .ok z w := by
  unfold zeroT at h
  split at h
  · rename_i i hi
    simp [zeroValue, typeInfo, hi, h]
  · cases h

def commK (P : Program) (o : Op) (e : Env) (h : Hp) (K : SV → Hp → Prop) : Prop :=
  match o with
  | .select ⟨[⟨c, some y, t⟩]⟩ false => withOp e c fun u => withOp e y fun v => match u, zeroT P t with
    | .raw (.chan a), some _ => ∃ (r cap : Nat) (buf : List Value) (s rc : Nat) (tm : Bool), a = some r ∧ bk h r = some (.chan cap ⟨buf⟩ false s rc tm) ∧
      (buf.length < cap → ∀ h1, h1 = updO h r (.chan cap ⟨buf ++ [v.val]⟩ false (s + 1) rc tm) → K (.tuple [.int .i64 0, .bool false]) h1) ∧
      (cap ≤ buf.length → K (.tuple [.int .i64 (-1), .bool false]) h)
    | _, _ => False
  | .select ⟨[⟨c, none, t⟩]⟩ false => withOp e c fun u => match u, zeroT P t with
    | .raw (.chan a), some z => ∃ (r cap : Nat) (buf : List Value) (s rc : Nat) (tm : Bool), a = some r ∧ bk h r = some (.chan cap ⟨buf⟩ false s rc tm) ∧
      (∀ (x : Value) (l : List Value), buf = x :: l → exZero z fun v => x = v.val ∧ ∀ h1, h1 = updO h r (.chan cap ⟨l⟩ false s (rc + 1) tm) → K (.tuple [.int .i64 0, .bool true, v.val]) h1) ∧
      (buf = [] → K (.tuple [.int .i64 (-1), .bool false, z]) h)
    | _, _ => False
  | .recv t c true => withOp e c fun u => match u, P.underlying t with
    | .raw (.chan a), some (.chan _ el) => match zeroT P el with
      | some z => ∃ (r cap : Nat) (buf : List Value) (s rc : Nat) (tm : Bool), a = some r ∧ bk h r = some (.chan cap ⟨buf⟩ true s rc tm) ∧
        (∀ (x : Value) (l : List Value), buf = x :: l → exZero z fun v => x = v.val ∧ ∀ h1, h1 = updO h r (.chan cap ⟨l⟩ true s (rc + 1) tm) → K (.tuple [v.val, .bool true]) h1) ∧
        (buf = [] → K (.tuple [z, .bool false]) h)
      | none => False
    | _, _ => False
  | _ => False
theorem tail_array (x : Value) (l : List Value) : (⟨x :: l⟩ : Array Value).extract 1 (⟨x :: l⟩ : Array Value).size = ⟨l⟩ := by simp
theorem commK_elim {P : Program} {n : Nat} {a : Act} {e : Env} (hf : Fits n ds lk a e) {o : Oper} {h : Hp} {K : SV → Hp → Prop} (hk : commK P o.op e h K) {w : World} (hw : w.heap = h) :
    ∃ cases blocking shape v w', (execOp a.eval o).run P w = .ok (.comm cases blocking shape) w ∧
      (∀ (fr : Frame) (cs : List Frame) (es : Array Event), stepG P true (Conc.G fr cs) w = .comm (Conc.G fr cs) cases blocking shape w es → step P (Conc.solo (Conc.G fr cs) w) = .next (Conc.solo (Conc.G (fr.finish v) cs) w')) ∧
      Same w w' ∧ ∃ v' : SV, v'.val = v ∧ K v' w'.heap := by
  obtain ⟨dst, op, type, pos, after, guard⟩ := o
  simp only at hk
  unfold commK at hk
  split at hk
  · rename_i c y t
    replace hk := withOp_elim hf hk
    obtain ⟨u, hk, e1⟩ := hk
    replace hk := withOp_elim hf hk
    obtain ⟨v, hk, e2⟩ := hk
    split at hk
    · rename_i a' z hz
      obtain ⟨r, cap, buf, s, rc, tm, rfl, hb, hk1, hk2⟩ := hk
      subst hw
      have hb' : w.heap[r]? = some (.chan cap ⟨buf⟩ false s rc tm) := hb
      have hr := run_zero hz w
      by_cases hc : buf.length < cap
      · refine ⟨#[Conc.scase r v.val z], false, .select, _, w.setChan r cap ((⟨buf⟩ : Array Value).push v.val) false (s + 1) rc tm, ?_, fun fr cs es hs => Conc.step_lone_select_send_room hs hb' hc, ⟨rfl, rfl, rfl⟩, .tuple [.int .i64 0, .bool false], rfl, ?_⟩
        · simp [execOp, e1, e2, hr, Conc.scase, SV.val]
        · exact hk1 hc _ (by simp [World.setChan, updO])
      · refine ⟨#[Conc.scase r v.val z], false, .select, _, w, ?_, fun fr cs es hs => Conc.step_lone_select_send_full hs hb' (by simpa using hc), ⟨rfl, rfl, rfl⟩, .tuple [.int .i64 (-1), .bool false], rfl, hk2 (by omega)⟩
        simp [execOp, e1, e2, hr, Conc.scase, SV.val]
    · exact hk.elim
  · rename_i c t
    replace hk := withOp_elim hf hk
    obtain ⟨u, hk, e1⟩ := hk
    split at hk
    · rename_i a' z hz
      obtain ⟨r, cap, buf, s, rc, tm, rfl, hb, hk1, hk2⟩ := hk
      subst hw
      have hb' : w.heap[r]? = some (.chan cap ⟨buf⟩ false s rc tm) := hb
      have hr := run_zero hz w
      cases buf with
      | nil =>
        refine ⟨#[Conc.rcase r z], false, .select, _, w, ?_, fun fr cs es hs => Conc.step_lone_select_default hs hb', ⟨rfl, rfl, rfl⟩, .tuple [.int .i64 (-1), .bool false, z], rfl, hk2 rfl⟩
        simp [execOp, e1, hr, Conc.rcase, SV.val]
      | cons x l =>
        obtain ⟨v, rfl, hk3⟩ := exZero_elim (hk1 x l rfl)
        refine ⟨#[Conc.rcase r z], false, .select, _, w.setChan r cap ((⟨v.val :: l⟩ : Array Value).extract 1 (⟨v.val :: l⟩ : Array Value).size) false s (rc + 1) tm, ?_, fun fr cs es hs => Conc.step_lone_select_recv_buf hs hb' (by simp), ⟨rfl, rfl, rfl⟩, .tuple [.int .i64 0, .bool true, v.val], rfl, ?_⟩
        · simp [execOp, e1, hr, Conc.rcase, SV.val]
        · rw [tail_array]; exact hk3 _ rfl
    · exact hk.elim
  · rename_i t c
    replace hk := withOp_elim hf hk
    obtain ⟨u, hk, e1⟩ := hk
    split at hk
    · rename_i a' d el hu
      split at hk
      · rename_i z hz
        obtain ⟨r, cap, buf, s, rc, tm, rfl, hb, hk1, hk2⟩ := hk
        subst hw
        have hb' : w.heap[r]? = some (.chan cap ⟨buf⟩ true s rc tm) := hb
        have hr := run_zero hz w
        cases buf with
        | nil =>
          refine ⟨#[Conc.rcase r z], true, .recv true, _, w, ?_, fun fr cs es hs => Conc.step_lone_recv_shut true hs hb', ⟨rfl, rfl, rfl⟩, .tuple [z, .bool false], rfl, hk2 rfl⟩
          simp [execOp, e1, hr, Conc.rcase, SV.val, run_underlying hu]
        | cons x l =>
          obtain ⟨v, rfl, hk3⟩ := exZero_elim (hk1 x l rfl)
          refine ⟨#[Conc.rcase r z], true, .recv true, _, w.setChan r cap ((⟨v.val :: l⟩ : Array Value).extract 1 (⟨v.val :: l⟩ : Array Value).size) true s (rc + 1) tm, ?_, fun fr cs es hs => Conc.step_lone_recv_buf true hs hb' (by simp), ⟨rfl, rfl, rfl⟩, .tuple [v.val, .bool true], rfl, ?_⟩
          · simp [execOp, e1, hr, Conc.rcase, SV.val, run_underlying hu]
          · rw [tail_array]; exact hk3 _ rfl
      · exact hk.elim
    · exact hk.elim
  · exact hk.elim
def commHead (ops : Array Oper) : Option Oper := match ops[0]? with
  | some o => match o.op, o.guard with
    | .select _ _, none => some o
    | .recv _ _ _, none => some o
    | _, _ => none
  | none => none
theorem commHead_spec {ops : Array Oper} {o : Oper} (h : commHead ops = some o) : ops[0]? = some o ∧ o.guard = none := by
  unfold commHead at h
  split at h
  · rename_i o' ho
    split at h
    · rename_i h1 h2; cases h; exact ⟨ho, h2⟩
    · rename_i h1 h2; cases h; exact ⟨ho, h2⟩
    · cases h
  · cases h
theorem stepG_says {P : Program} {b : Frame} {a : Act} {k : List Item} {cs : List Frame} {w w' : World} {ops : Array Oper} {i : Nat} {rest : List Nat} {o : Oper} {cases : Array CommCase} {blocking : Bool} {shape : CommShape}
    (ho : ops[i]? = some o) (hw : Region.wanted o (yielded ops a.tmps) = true) (hr : (execOp a.eval o).run P w = .ok (.comm cases blocking shape) w') :
    ∃ es, stepG P true (Conc.G (b.at a (.inRegion ops (i :: rest) :: k)) cs) w = .comm (Conc.G (b.at a (.inRegion ops (i :: rest) :: k)) cs) cases blocking shape w' es := by
  have hg := stepG_op (P := P) (b := b) (k := k) (cs := cs) (w := w) (rest := rest) ho hw
  have h2 : ∃ es, stepG.apply P true (b.at a (.inRegion ops (i :: rest) :: k)) cs none (execOp a.eval o) w = .comm (Conc.G (b.at a (.inRegion ops (i :: rest) :: k)) cs) cases blocking shape w' es := by
    simp only [stepG.apply, Sem.runT_eq, hr, GStep.after, Conc.G]
    exact ⟨_, rfl⟩
  obtain ⟨es, h2⟩ := h2
  exact ⟨es, hg.trans h2⟩
theorem wp_region_comm {P : Program} {id : Nat} {ops : Array Oper} {Q : Exit → Act → World → Prop} {a : Act} {w w' : World} {o : Oper} {cases : Array CommCase} {blocking : Bool} {shape : CommShape} {v : Value}
    (ho : ops[0]? = some o) (hg : o.guard = none) (hr : (execOp a.eval o).run P w = .ok (.comm cases blocking shape) w)
    (hs : ∀ (fr : Frame) (cs : List Frame) (es : Array Event), stepG P true (Conc.G fr cs) w = .comm (Conc.G fr cs) cases blocking shape w es → step P (Conc.solo (Conc.G fr cs) w) = .next (Conc.solo (Conc.G (fr.finish v) cs) w'))
    (h : wpOps P ops Q (List.range ops.size).tail (a.put o.dst v) w') : (Code.region id ops false).wp P Q a w := by
  intro b k cs
  have hsz : 0 < ops.size := by
    rcases Nat.eq_zero_or_pos ops.size with e | e
    · rw [Array.getElem?_eq_none (by omega)] at ho; cases ho
    · exact e
  have hrange : List.range ops.size = 0 :: (List.range ops.size).tail := by
    obtain ⟨m, hm⟩ : ∃ m, ops.size = m + 1 := ⟨ops.size - 1, by omega⟩
    rw [hm, List.range_succ_eq_map, List.tail_cons]
  obtain ⟨e, a', w2, q, r⟩ := wp_ops _ _ _ h b k cs
  refine ⟨e, a', w2, q, .of_steps (.head step_region ?_) r⟩
  rw [hrange]
  obtain ⟨es, hc⟩ := stepG_says (P := P) (b := b) (a := a) (k := k) (cs := cs) (w := w) (rest := (List.range ops.size).tail) ho (by simp [Region.wanted, hg]) hr
  have := hs _ _ _ hc
  rw [Frame.finish_at, ho] at this
  exact .one this
end Go.Wd
