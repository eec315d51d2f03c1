import Derived.Test.YtmldiibfmhkgjaaPa
import Derived.Test.YtmldiibfmhkgjaaEa
import Derived.Test.YtmldiibfmhkgjaaWdRow
namespace Go.Proofs.Ytmldiibfmhkgjaa
open Go Go.Wd
set_option linter.unusedVariables false
set_option linter.unusedSimpArgs false
set_option linter.unnecessarySimpa false


theorem Ent.len (x : Ent) : x.cells.length = 5 := rfl
theorem Ent.rd {h : Hp} {b o : Nat} (x : Ent) {K : Bool → Bool → Bool → Bool → Int → Prop} (hr : ∀ j, j < 5 → cellAt h b (o + j) = x.cells[j]?) (hK : K x.v x.w x.x x.b x.f) :
    ∃ a1 : Bool, cellAt h b (o + 0) = some (.bool a1) ∧ ∃ a2 : Bool, cellAt h b (o + 1) = some (.bool a2) ∧ ∃ a3 : Bool, cellAt h b (o + 2) = some (.bool a3) ∧ ∃ a4 : Bool, cellAt h b (o + 3) = some (.bool a4) ∧ ∃ a5 : Int, cellAt h b (o + 4) = some (.int .i64 a5) ∧ K a1 a2 a3 a4 a5 := by
  exact ⟨_, hr 0 (by omega), _, hr 1 (by omega), _, hr 2 (by omega), _, hr 3 (by omega), _, hr 4 (by omega), hK⟩
theorem Ent.ret {h : Hp} {b : Nat} {T : TypeId} {l0 : List Value} (hb : bk h b = some (blk T l0)) (hl : l0.length = 5) (v1 : Bool) (v2 : Bool) (v3 : Bool) (v4 : Bool) (v5 : Int) {K : Bool → Bool → Bool → Bool → Int → Hp → Prop} (hK : K v1 v2 v3 v4 v5 (upd h b T (Ent.mk v1 v2 v3 v4 v5).cells)) :
    truly true ∧ ∃ T1 : TypeId, ∃ l : List Value, bk h b = some (blk T1 l) ∧ 0 + 5 ≤ l.length ∧ ∀ h4 : Hp, h4 = upd h b T1 (writeAt l 0 [.bool v1, .bool v2, .bool v3, .bool v4, .int .i64 v5]) → ∃ a1 : Bool, cellAt h4 b (0 + 0) = some (.bool a1) ∧ ∃ a2 : Bool, cellAt h4 b (0 + 1) = some (.bool a2) ∧ ∃ a3 : Bool, cellAt h4 b (0 + 2) = some (.bool a3) ∧ ∃ a4 : Bool, cellAt h4 b (0 + 3) = some (.bool a4) ∧ ∃ a5 : Int, cellAt h4 b (0 + 4) = some (.int .i64 a5) ∧ K a1 a2 a3 a4 a5 h4 := by
  refine ⟨rfl, T, l0, hb, by omega, ?_⟩
  rintro h4 rfl
  have hw : writeAt l0 0 [.bool v1, .bool v2, .bool v3, .bool v4, .int .i64 v5] = (Ent.mk v1 v2 v3 v4 v5).cells := by
    rw [writeAt_eq _ _ _ (by rw [hl]; exact Nat.le_refl _)]
    have : l0.drop (0 + 5) = [] := List.drop_eq_nil_of_le (by omega)
    simp only [List.take_zero, List.nil_append, List.length_cons, List.length_nil, Nat.zero_add, Nat.reduceAdd] at this ⊢
    rw [this, List.append_nil]; rfl
  rw [hw]
  exact ⟨_, (cell_upd hb _ _ _).trans rfl, _, (cell_upd hb _ _ _).trans rfl, _, (cell_upd hb _ _ _).trans rfl, _, (cell_upd hb _ _ _).trans rfl, _, (cell_upd hb _ _ _).trans rfl, hK⟩

theorem Ent.thru {h : Hp} {b b2 o : Nat} {T : TypeId} {l0 : List Value} (x : Ent) (hr : ∀ j, j < 5 → cellAt h b (o + j) = x.cells[j]?) (hb : bk h b2 = some (blk T l0)) (hl : l0.length = 5) {K : Bool → Bool → Bool → Bool → Int → Hp → Prop} (hK : K x.v x.w x.x x.b x.f (upd h b2 T (Ent.mk x.v x.w x.x x.b x.f).cells)) :
    ∃ a1 : Bool, cellAt h b (o + 0) = some (.bool a1) ∧ ∃ a2 : Bool, cellAt h b (o + 1) = some (.bool a2) ∧ ∃ a3 : Bool, cellAt h b (o + 2) = some (.bool a3) ∧ ∃ a4 : Bool, cellAt h b (o + 3) = some (.bool a4) ∧ ∃ a5 : Int, cellAt h b (o + 4) = some (.int .i64 a5) ∧ truly true ∧ ∃ T1 : TypeId, ∃ l : List Value, bk h b2 = some (blk T1 l) ∧ 0 + 5 ≤ l.length ∧ ∀ h4 : Hp, h4 = upd h b2 T1 (writeAt l 0 [.bool a1, .bool a2, .bool a3, .bool a4, .int .i64 a5]) → ∃ c1 : Bool, cellAt h4 b2 (0 + 0) = some (.bool c1) ∧ ∃ c2 : Bool, cellAt h4 b2 (0 + 1) = some (.bool c2) ∧ ∃ c3 : Bool, cellAt h4 b2 (0 + 2) = some (.bool c3) ∧ ∃ c4 : Bool, cellAt h4 b2 (0 + 3) = some (.bool c4) ∧ ∃ c5 : Int, cellAt h4 b2 (0 + 4) = some (.int .i64 c5) ∧ K c1 c2 c3 c4 c5 h4 :=
  Ent.rd x hr (Ent.ret hb hl x.v x.w x.x x.b x.f hK)
structure Hit where
  fault : Int
  reads : Int
  frame : Int
  write : Bool
  exec : Bool
  block : Bool
  deriving DecidableEq
def Hit.cells (x : Hit) : List Value := [.int .i64 x.fault, .int .i64 x.reads, .int .i64 x.frame, .bool x.write, .bool x.exec, .bool x.block]
theorem Hit.len (x : Hit) : x.cells.length = 6 := rfl
theorem Hit.rd {h : Hp} {b o : Nat} (x : Hit) {K : Int → Int → Int → Bool → Bool → Bool → Prop} (hr : ∀ j, j < 6 → cellAt h b (o + j) = x.cells[j]?) (hK : K x.fault x.reads x.frame x.write x.exec x.block) :
    ∃ a1 : Int, cellAt h b (o + 0) = some (.int .i64 a1) ∧ ∃ a2 : Int, cellAt h b (o + 1) = some (.int .i64 a2) ∧ ∃ a3 : Int, cellAt h b (o + 2) = some (.int .i64 a3) ∧ ∃ a4 : Bool, cellAt h b (o + 3) = some (.bool a4) ∧ ∃ a5 : Bool, cellAt h b (o + 4) = some (.bool a5) ∧ ∃ a6 : Bool, cellAt h b (o + 5) = some (.bool a6) ∧ K a1 a2 a3 a4 a5 a6 := by
  exact ⟨_, hr 0 (by omega), _, hr 1 (by omega), _, hr 2 (by omega), _, hr 3 (by omega), _, hr 4 (by omega), _, hr 5 (by omega), hK⟩
theorem Hit.ret {h : Hp} {b : Nat} {T : TypeId} {l0 : List Value} (hb : bk h b = some (blk T l0)) (hl : l0.length = 6) (v1 : Int) (v2 : Int) (v3 : Int) (v4 : Bool) (v5 : Bool) (v6 : Bool) {K : Int → Int → Int → Bool → Bool → Bool → Hp → Prop} (hK : K v1 v2 v3 v4 v5 v6 (upd h b T (Hit.mk v1 v2 v3 v4 v5 v6).cells)) :
    truly true ∧ ∃ T1 : TypeId, ∃ l : List Value, bk h b = some (blk T1 l) ∧ 0 + 6 ≤ l.length ∧ ∀ h4 : Hp, h4 = upd h b T1 (writeAt l 0 [.int .i64 v1, .int .i64 v2, .int .i64 v3, .bool v4, .bool v5, .bool v6]) → ∃ a1 : Int, cellAt h4 b (0 + 0) = some (.int .i64 a1) ∧ ∃ a2 : Int, cellAt h4 b (0 + 1) = some (.int .i64 a2) ∧ ∃ a3 : Int, cellAt h4 b (0 + 2) = some (.int .i64 a3) ∧ ∃ a4 : Bool, cellAt h4 b (0 + 3) = some (.bool a4) ∧ ∃ a5 : Bool, cellAt h4 b (0 + 4) = some (.bool a5) ∧ ∃ a6 : Bool, cellAt h4 b (0 + 5) = some (.bool a6) ∧ K a1 a2 a3 a4 a5 a6 h4 := by
  refine ⟨rfl, T, l0, hb, by omega, ?_⟩
  rintro h4 rfl
  have hw : writeAt l0 0 [.int .i64 v1, .int .i64 v2, .int .i64 v3, .bool v4, .bool v5, .bool v6] = (Hit.mk v1 v2 v3 v4 v5 v6).cells := by
    rw [writeAt_eq _ _ _ (by rw [hl]; exact Nat.le_refl _)]
    have : l0.drop (0 + 6) = [] := List.drop_eq_nil_of_le (by omega)
    simp only [List.take_zero, List.nil_append, List.length_cons, List.length_nil, Nat.zero_add, Nat.reduceAdd] at this ⊢
    rw [this, List.append_nil]; rfl
  rw [hw]
  exact ⟨_, (cell_upd hb _ _ _).trans rfl, _, (cell_upd hb _ _ _).trans rfl, _, (cell_upd hb _ _ _).trans rfl, _, (cell_upd hb _ _ _).trans rfl, _, (cell_upd hb _ _ _).trans rfl, _, (cell_upd hb _ _ _).trans rfl, hK⟩

def Ent.addF (e : Ent) (x : Int) : Ent := ⟨e.v, e.w, e.x, e.b, e.f + x⟩
def Ent.noB (e : Ent) : Ent := ⟨e.v, e.w, e.x, false, e.f⟩
theorem Ent.put4 (e : Ent) (y : Int) : writeAt [Value.bool e.v, .bool e.w, .bool e.x, .bool e.b, .int .i64 e.f] 4 [.int .i64 (e.f + y)] = (e.addF y).cells := rfl
theorem Ent.put3 (e : Ent) : writeAt e.cells 3 [.bool false] = e.noB.cells := rfl
def noHit : Hit := ⟨0, 0, 0, false, false, false⟩
theorem dec_none {w : Nat} (h : (dec w).v = false) : dec w = noEnt := by
  unfold dec at h ⊢
  split
  · rfl
  · rename_i hn; rw [if_neg hn] at h; cases h
theorem dec_f (w : Nat) : 0 ≤ (dec w).f ∧ (dec w).f < 65536 := by
  unfold dec
  split
  · exact ⟨by decide, by decide⟩
  · exact ⟨by simp only; omega, by simp only; omega⟩

/-! ## what a walk comes to -/
def entAt (B : List Nat) (t i : Nat) : Ent := dec (leN B (t * 256 + 4 * i) 4)
def rdE (n : Nat) (B : List Nat) (t : Int) (i : Nat) : Ent := if isIn n t then entAt B t.toNat i else noEnt
structure Fd where
  e : Ent
  r : Int
  f : Int
def foundOf (n : Nat) (B : List Nat) (root : Int) (a : Nat) : Fd :=
  if 1048576 ≤ a then ⟨noEnt, 0, 1⟩ else if !isIn n root then ⟨noEnt, 0, 5⟩
  else if !(entAt B root.toNat (a / 16384 % 64)).v then ⟨noEnt, 1, 2⟩
  else if (entAt B root.toNat (a / 16384 % 64)).b then ⟨(entAt B root.toNat (a / 16384 % 64)).addF ((a / 256 % 64 : Nat) : Int), 1, 0⟩
  else if !isIn n (entAt B root.toNat (a / 16384 % 64)).f then ⟨noEnt, 1, 5⟩
  else if !(entAt B (entAt B root.toNat (a / 16384 % 64)).f.toNat (a / 256 % 64)).v then ⟨noEnt, 2, 3⟩
  else ⟨(entAt B (entAt B root.toNat (a / 16384 % 64)).f.toNat (a / 256 % 64)).noB, 2, 0⟩
def walkOf (n : Nat) (B : List Nat) (root : Int) (a : Nat) (acc : Int) : Hit :=
  if (foundOf n B root a).f ≠ 0 then ⟨(foundOf n B root a).f, (foundOf n B root a).r, 0, false, false, false⟩
  else if !allows (foundOf n B root a).e acc then ⟨4, (foundOf n B root a).r, 0, false, false, false⟩
  else if (n : Int) ≤ (foundOf n B root a).e.f then ⟨5, (foundOf n B root a).r, 0, false, false, false⟩
  else ⟨0, (foundOf n B root a).r, (foundOf n B root a).e.f, (foundOf n B root a).e.w, (foundOf n B root a).e.x, (foundOf n B root a).e.b⟩

theorem in_len {n k i : Nat} (hk : k < n) (hi : i < 64) : wordOk n (k * 256 + 4 * i) = true := by
  simp only [wordOk, Bool.and_eq_true, decide_eq_true_eq]; omega
theorem le4_lt {B : List Nat} (h : Byt B) (p : Nat) : leN B p 4 < 2 ^ 32 := leN_lt h p 4
theorem rd_addr {n k i : Nat} (hn : n ≤ 1024) (hk : k < n) (hi : i < 64) : IntKind.wrap .u32 (IntKind.wrap .i64 ((IntKind.wrap .i64 (256 * (k : Int))) + (IntKind.wrap .i64 (4 * (i : Int))))) = ((k * 256 + 4 * i : Nat) : Int) := by
  rw [wrapS (n := 256 * (k : Int)) (by omega) (by omega), wrapS (n := 4 * (i : Int)) (by omega) (by omega), wrapS (by omega) (by omega), wrap_u32 (by omega) (by omega)]; omega

theorem read_spec {h : Hp} {q fb n : Nat} {B : List Nat} (w : MS h q fb n B) (t : Int) {i : Nat} (hi : i < 64) :
    CallsH Try.prog 100 [.pointer (some ⟨q, 0, none⟩), .int .i64 t, .int .i64 i] h fun v h' => v = .tuple #[.agg ⟨(rdE n B t i).cells⟩, .bool (isIn n t)] ∧ Fr [] h h' := by
  refine calls_k fun R hR => ?_
  apply walk_read.calls
  unfold walk_read.P
  rintro h1 rfl
  have f1 : Fr [] h (new h (blk 54 noEnt.cells)) := Fr.new _ _ _
  have k1 := new_at h (blk 54 noEnt.cells)
  have w1 := w.fr f1 (by simp) (by simp)
  simp only [noEnt, Ent.cells] at f1 k1 w1
  generalize new h (blk 54 [.bool false, .bool false, .bool false, .bool false, .int .i64 0]) = h1 at *
  have fin : ∀ (e : Ent) (b : Bool) (h2 : Hp) (T : TypeId), rdE n B t i = e → isIn n t = b → Fr [] h h2 → R (.tuple #[.agg #[.bool e.v, .bool e.w, .bool e.x, .bool e.b, .int .i64 e.f], .bool b]) (upd h2 (sz h) T (Ent.mk e.v e.w e.x e.b e.f).cells) := by
    intro e b h2 T he hb f2
    rw [he, hb] at hR
    exact hR _ _ ⟨rfl, Fr.on f2 (.inr (Nat.le_refl _)) _ _⟩
  have bad : isIn n t = false → rdE n B t i = noEnt := fun e => by simp [rdE, e]
  refine ⟨fun h5 => h5 = h1 ∧ isIn n t = true, ⟨fun c => ?_, fun c1 => ?_⟩, ?_⟩
  · have hb : isIn n t = false := by simp at c; simp [isIn]; omega
    refine Ent.ret k1 rfl false false false false 0 ?_
    exact fin noEnt false _ _ (bad hb) hb f1
  · refine (Frames_spec w1).mono ?_
    rintro v h2 ⟨rfl, rfl⟩
    refine ⟨_, rfl, fun c => ?_, fun c => ⟨rfl, ?_⟩⟩
    · have hb : isIn n t = false := by simp at c; simp [isIn]; omega
      refine Ent.ret k1 rfl false false false false 0 ?_
      exact fin noEnt false _ _ (bad hb) hb f1
    · simp at c c1; simp [isIn]; omega
  rintro h5 ⟨rfl, hin⟩
  obtain ⟨k, rfl, hk⟩ := isIn_nat hin
  rw [rd_addr w.hi hk hi]
  have hn := w.hi
  refine (Word_spec w1 (a := k * 256 + 4 * i) (by omega)).mono ?_
  rw [in_len hk hi, if_pos rfl]
  rintro v h6 ⟨rfl, rfl⟩
  refine ⟨_, _, rfl, ?_⟩
  refine (decode_spec _ (le4_lt w.byt _)).mono ?_
  rintro v h7 ⟨rfl, f7⟩
  refine ⟨_, _, _, _, _, rfl, ?_⟩
  have he : rdE n B k i = dec (leN B (k * 256 + 4 * i) 4) := by simp [rdE, hin, entAt]
  refine Ent.ret (f7.at k1 (by simp)) rfl _ _ _ _ _ ?_
  exact fin _ true _ _ he hin (f1.trans f7)

set_option maxHeartbeats 1000000 in
theorem found_spec {h : Hp} {q fb n : Nat} {B : List Nat} (w : MS h q fb n B) (root : Int) {a : Nat} (ha : a < 4294967296) :
    CallsH Try.prog 57 [.pointer (some ⟨q, 0, none⟩), .int .i64 root, .int .u32 a] h fun v h' => v = .tuple #[.agg ⟨(foundOf n B root a).e.cells⟩, .int .i64 (foundOf n B root a).r, .int .i64 (foundOf n B root a).f] ∧ Fr [] h h' := by
  refine calls_k fun R hR => ?_
  apply walk_found.calls
  unfold walk_found.P
  rintro h1 rfl
  have f1 : Fr [] h (new h (blk 54 noEnt.cells)) := Fr.new _ _ _
  have k1 := new_at h (blk 54 noEnt.cells)
  have w1 := w.fr f1 (by simp) (by simp)
  have z1 : sz (new h (blk 54 noEnt.cells)) = sz h + 1 := sz_new _ _
  have lq := w.lt
  have lf := w.ltf
  simp only [noEnt, Ent.cells] at f1 k1 w1 z1
  generalize new h (blk 54 [.bool false, .bool false, .bool false, .bool false, .int .i64 0]) = h1 at *
  generalize hrb : sz h = rb at *
  have fin : ∀ (e : Ent) (r f : Int) (h2 : Hp) (T : TypeId), foundOf n B root a = ⟨e, r, f⟩ → Fr [] h h2 → R (.tuple #[.agg #[.bool e.v, .bool e.w, .bool e.x, .bool e.b, .int .i64 e.f], .int .i64 r, .int .i64 f]) (upd h2 rb T (Ent.mk e.v e.w e.x e.b e.f).cells) := by
    intro e r f h2 T he f2
    rw [he] at hR
    exact hR _ _ ⟨rfl, Fr.on f2 (.inr (by omega)) _ _⟩
  refine (inside_spec _).mono ?_
  rintro v h2 ⟨rfl, rfl⟩
  refine ⟨_, rfl, fun c => ?_, fun c => ?_⟩
  · have c : ¬ ((a : Int) < 1048576) := by simpa using c
    refine Ent.thru noEnt (fun j hj => by rw [Nat.zero_add]; exact cellAt_of k1 j) k1 rfl ?_
    exact fin noEnt 0 1 _ _ (by unfold foundOf; rw [if_pos (by omega)]) f1
  have hin : ¬ 1048576 ≤ a := by
    have : (a : Int) < 1048576 := by simpa using c
    omega
  refine (first_spec a ha).mono ?_
  rintro v h2 ⟨rfl, rfl⟩
  refine ⟨_, rfl, ?_⟩
  refine (read_spec w1 root (i := a / 16384 % 64) (by omega)).mono ?_
  rintro v h5 ⟨rfl, f5⟩
  refine ⟨_, _, _, _, _, _, rfl, ?_⟩
  refine put_local rfl (by simp) ?_
  intro h7 k7 f7 s7
  have f57 := f5.trans f7
  have fr7 := f1.trans f57
  have kr7 := f57.at k1 (by simp)
  have w7 := w1.fr f57 (by simp) (by simp)
  have z5 := f5.size
  have hl := w.len
  refine ⟨fun c1 => ?_, fun c1 => ?_⟩
  · have c1 : isIn n root = false := by simpa using c1
    refine Ent.thru noEnt (fun j hj => by rw [Nat.zero_add]; exact cellAt_of kr7 j) kr7 rfl ?_
    exact fin noEnt 0 5 _ _ (by simp only [foundOf, hin, c1, if_false, Bool.not_false, if_true]) fr7
  have c1 : isIn n root = true := by simpa using c1
  have he : rdE n B root (a / 16384 % 64) = entAt B root.toNat (a / 16384 % 64) := by simp [rdE, c1]
  rw [he] at k7
  have hF : foundOf n B root a = if !(entAt B root.toNat (a / 16384 % 64)).v then ⟨noEnt, 1, 2⟩
    else if (entAt B root.toNat (a / 16384 % 64)).b then ⟨(entAt B root.toNat (a / 16384 % 64)).addF ((a / 256 % 64 : Nat) : Int), 1, 0⟩
    else if !isIn n (entAt B root.toNat (a / 16384 % 64)).f then ⟨noEnt, 1, 5⟩
    else if !(entAt B (entAt B root.toNat (a / 16384 % 64)).f.toNat (a / 256 % 64)).v then ⟨noEnt, 2, 3⟩
    else ⟨(entAt B (entAt B root.toNat (a / 16384 % 64)).f.toNat (a / 256 % 64)).noB, 2, 0⟩ := by
    simp only [foundOf, hin, c1, if_false, Bool.not_true, Bool.false_eq_true]
  have hf := dec_f (leN B (root.toNat * 256 + 4 * (a / 16384 % 64)) 4)
  rw [show dec (leN B (root.toNat * 256 + 4 * (a / 16384 % 64)) 4) = entAt B root.toNat (a / 16384 % 64) from rfl] at hf
  generalize entAt B root.toNat (a / 16384 % 64) = e at *
  have c0 := (cellAt_of k7 0).trans rfl
  have c3 := (cellAt_of k7 3).trans rfl
  have c4 := (cellAt_of k7 4).trans rfl
  generalize hxb : sz h5 = xb at *
  refine ⟨_, c0, fun c2 => ?_, fun c2 => ⟨_, c3, fun c5 => ?_, fun c5 => ?_⟩⟩
  · refine Ent.thru noEnt (fun j hj => by rw [Nat.zero_add]; exact cellAt_of kr7 j) kr7 rfl ?_
    exact fin noEnt 1 2 _ _ (hF.trans (if_pos c2)) fr7
  · refine ⟨_, c4, ?_⟩
    refine (second_spec a ha).mono ?_
    rintro v h10 ⟨rfl, rfl⟩
    have ew : IntKind.wrap .i64 (e.f + ((a / 256 % 64 : Nat) : Int)) = e.f + ((a / 256 % 64 : Nat) : Int) := wrapS (by omega) (by omega)
    refine ⟨_, rfl, c4, truly_rfl, _, _, k7, by simp, ?_⟩
    rintro h11 rfl
    rw [ew]
    have k11 : bk (upd h10 xb 54 (e.addF ((a / 256 % 64 : Nat) : Int)).cells) xb = some (blk 54 (e.addF ((a / 256 % 64 : Nat) : Int)).cells) := upd_same k7 _ _
    have fr11 : Fr [] h (upd h10 xb 54 (e.addF ((a / 256 % 64 : Nat) : Int)).cells) := Fr.on fr7 (.inr (by omega)) _ _
    have kr11 : bk (upd h10 xb 54 (e.addF ((a / 256 % 64 : Nat) : Int)).cells) rb = some (blk 54 noEnt.cells) := by rw [upd_other (by omega)]; exact kr7
    rw [Ent.put4]
    generalize upd h10 xb 54 (e.addF ((a / 256 % 64 : Nat) : Int)).cells = h11 at *
    refine Ent.rd (o := 0) (e.addF ((a / 256 % 64 : Nat) : Int)) (fun j hj => by rw [Nat.zero_add]; exact cellAt_of k11 j) ?_
    refine Ent.ret kr11 rfl _ _ _ _ _ ?_
    exact fin (e.addF ((a / 256 % 64 : Nat) : Int)) 1 0 _ _ (hF.trans ((if_neg (by simpa using c2)).trans (if_pos c5))) fr11
  · refine ⟨_, c4, ?_⟩
    refine (second_spec a ha).mono ?_
    rintro v h10 ⟨rfl, rfl⟩
    refine ⟨_, rfl, c4, ?_⟩
    refine (read_spec w7 e.f (i := a / 256 % 64) (by omega)).mono ?_
    rintro v h14 ⟨rfl, f14⟩
    have fr14 := fr7.trans f14
    have kr14 := f14.at kr7 (by simp)
    refine ⟨_, _, _, _, _, _, rfl, truly_rfl, _, _, kr14, by simp, ?_⟩
    rintro h15 rfl
    have k15 : bk (upd h14 rb 54 (rdE n B e.f (a / 256 % 64)).cells) rb = some (blk 54 (rdE n B e.f (a / 256 % 64)).cells) := upd_same kr14 _ _
    have fr15 : Fr [] h (upd h14 rb 54 (rdE n B e.f (a / 256 % 64)).cells) := Fr.on fr14 (.inr (by omega)) _ _
    have hcells : ∀ g : Ent, writeAt [Value.bool false, .bool false, .bool false, .bool false, .int .i64 0] 0 [.bool g.v, .bool g.w, .bool g.x, .bool g.b, .int .i64 g.f] = g.cells := fun g => rfl
    rw [hcells]
    generalize upd h14 rb 54 (rdE n B e.f (a / 256 % 64)).cells = h15 at *
    refine ⟨fun c6 => ?_, fun c6 => ?_⟩
    · have c6 : isIn n e.f = false := by simpa using c6
      have hg : rdE n B e.f (a / 256 % 64) = noEnt := by simp [rdE, c6]
      rw [hg] at k15
      refine Ent.thru noEnt (fun j hj => by rw [Nat.zero_add]; exact cellAt_of k15 j) k15 rfl ?_
      exact fin noEnt 1 5 _ _ (hF.trans ((if_neg (by simpa using c2)).trans ((if_neg (by simpa using c5)).trans (if_pos (by rw [c6]; rfl))))) fr15
    have c6 : isIn n e.f = true := by simpa using c6
    have hg : rdE n B e.f (a / 256 % 64) = entAt B e.f.toNat (a / 256 % 64) := by simp [rdE, c6]
    rw [hg] at k15
    have hF2 : foundOf n B root a = if !(entAt B e.f.toNat (a / 256 % 64)).v then ⟨noEnt, 2, 3⟩ else ⟨(entAt B e.f.toNat (a / 256 % 64)).noB, 2, 0⟩ := by
      exact hF.trans ((if_neg (by simpa using c2)).trans ((if_neg (by simpa using c5)).trans (if_neg (by rw [c6]; simp))))
    have hno : (entAt B e.f.toNat (a / 256 % 64)).v = false → entAt B e.f.toNat (a / 256 % 64) = noEnt := dec_none
    generalize entAt B e.f.toNat (a / 256 % 64) = g at *
    refine ⟨_, (cellAt_of k15 0).trans rfl, fun c7 => ?_, fun c7 => ?_⟩
    · have c7' : g.v = false := by simpa using c7
      have hgn := hno c7'
      rw [hgn] at k15
      refine Ent.thru noEnt (fun j hj => by rw [Nat.zero_add]; exact cellAt_of k15 j) k15 rfl ?_
      exact fin noEnt 2 3 _ _ (hF2.trans (if_pos c7)) fr15
    · refine ⟨truly_rfl, _, _, k15, by simp [Ent.len], ?_⟩
      rintro h18 rfl
      have k18 : bk (upd h15 rb 54 g.noB.cells) rb = some (blk 54 g.noB.cells) := upd_same k15 _ _
      have fr18 : Fr [] h (upd h15 rb 54 g.noB.cells) := Fr.on fr15 (.inr (by omega)) _ _
      rw [Ent.put3]
      generalize upd h15 rb 54 g.noB.cells = h18 at *
      refine Ent.rd (o := 0) g.noB (fun j hj => by rw [Nat.zero_add]; exact cellAt_of k18 j) ?_
      refine Ent.ret k18 rfl _ _ _ _ _ ?_
      exact fin g.noB 2 0 _ _ (hF2.trans (if_neg (by simpa using c7))) fr18


theorem Hit.zero : [Value.int .i64 0, .int .i64 0, .int .i64 0, .bool false, .bool false, .bool false] = noHit.cells := rfl
set_option maxHeartbeats 1000000 in
theorem Walk_spec {h : Hp} {q fb n : Nat} {B : List Nat} (w : MS h q fb n B) (root : Int) {a : Nat} (ha : a < 4294967296) (acc : Int) :
    CallsH Try.prog 15 [.pointer (some ⟨q, 0, none⟩), .int .i64 root, .int .u32 a, .int .i64 acc] h fun v h' => v = .agg ⟨(walkOf n B root a acc).cells⟩ ∧ Fr [] h h' := by
  refine calls_k fun R hR => ?_
  apply walk_Walk.calls
  unfold walk_Walk.P
  rintro h1 rfl
  rw [Hit.zero]
  have f1 : Fr [] h (new h (blk 40 noHit.cells)) := Fr.new _ _ _
  have k1 := new_at h (blk 40 noHit.cells)
  have w1 := w.fr f1 (by simp) (by simp)
  have z1 : sz (new h (blk 40 noHit.cells)) = sz h + 1 := sz_new _ _
  generalize new h (blk 40 noHit.cells) = h1 at *
  generalize hrb : sz h = rb at *
  have fin : ∀ (x : Hit) (h2 : Hp) (T : TypeId), walkOf n B root a acc = x → Fr [] h h2 → R (.agg #[.int .i64 x.fault, .int .i64 x.reads, .int .i64 x.frame, .bool x.write, .bool x.exec, .bool x.block]) (upd h2 rb T (Hit.mk x.fault x.reads x.frame x.write x.exec x.block).cells) := by
    intro x h2 T he f2
    rw [he] at hR
    exact hR _ _ ⟨rfl, Fr.on f2 (.inr (by omega)) _ _⟩
  refine (found_spec w1 root ha).mono ?_
  rintro v h2 ⟨rfl, f2⟩
  refine ⟨_, _, _, _, _, _, _, rfl, ?_⟩
  refine put_local rfl (by simp) ?_
  intro h4 k4 f4 s4
  have f24 := f2.trans f4
  have fr4 := f1.trans f24
  have kr4 := f24.at k1 (by simp)
  have w4 := w1.fr f24 (by simp) (by simp)
  have hW : walkOf n B root a acc = if (foundOf n B root a).f ≠ 0 then ⟨(foundOf n B root a).f, (foundOf n B root a).r, 0, false, false, false⟩
    else if !allows (foundOf n B root a).e acc then ⟨4, (foundOf n B root a).r, 0, false, false, false⟩
    else if (n : Int) ≤ (foundOf n B root a).e.f then ⟨5, (foundOf n B root a).r, 0, false, false, false⟩
    else ⟨0, (foundOf n B root a).r, (foundOf n B root a).e.f, (foundOf n B root a).e.w, (foundOf n B root a).e.x, (foundOf n B root a).e.b⟩ := rfl
  generalize foundOf n B root a = F at *
  generalize sz h2 = eb at *
  refine ⟨fun c1 => ?_, fun c1 => ?_⟩
  · refine Hit.ret kr4 rfl _ _ _ _ _ _ ?_
    exact fin ⟨F.f, F.r, 0, false, false, false⟩ _ _ (hW.trans (if_pos (by simpa using c1))) fr4
  have c1' : ¬ F.f ≠ 0 := by simpa using c1
  refine Ent.rd (o := 0) F.e (fun j hj => by rw [Nat.zero_add]; exact cellAt_of k4 j) ?_
  refine (allows_spec F.e acc).mono ?_
  rintro v h6 ⟨rfl, f6⟩
  have fr6 := fr4.trans f6
  have kr6 := f6.at kr4 (by simp)
  have k6 := f6.at k4 (by simp)
  have w6 := w4.fr f6 (by simp) (by simp)
  refine ⟨_, rfl, fun c2 => ?_, fun c2 => ?_⟩
  · refine Hit.ret kr6 rfl _ _ _ _ _ _ ?_
    exact fin ⟨4, F.r, 0, false, false, false⟩ _ _ (hW.trans ((if_neg c1').trans (if_pos c2))) fr6
  have c2' : ¬ (!allows F.e acc) = true := by rw [c2]; simp
  refine ⟨_, (cellAt_of k6 4).trans rfl, ?_⟩
  refine (Frames_spec w6).mono ?_
  rintro v h8 ⟨rfl, rfl⟩
  refine ⟨_, rfl, (cellAt_of k6 4).trans rfl, fun c3 => ?_, fun c3 => ?_⟩
  · refine Hit.ret kr6 rfl _ _ _ _ _ _ ?_
    exact fin ⟨5, F.r, 0, false, false, false⟩ _ _ (hW.trans ((if_neg c1').trans ((if_neg c2').trans (if_pos (by simpa using c3))))) fr6
  · refine ⟨_, (cellAt_of k6 4).trans rfl, _, (cellAt_of k6 1).trans rfl, _, (cellAt_of k6 2).trans rfl, _, (cellAt_of k6 3).trans rfl, ?_⟩
    refine Hit.ret kr6 rfl _ _ _ _ _ _ ?_
    exact fin ⟨0, F.r, F.e.f, F.e.w, F.e.x, F.e.b⟩ _ _ (hW.trans ((if_neg c1').trans ((if_neg c2').trans (if_neg (by simpa using c3))))) fr6

def lookOk (n : Nat) (B : List Nat) (root p : Int) : Bool := joinOk p 0 && decide ((walkOf n B root (joinV p 0).toNat 0).fault = 0)
def lookE (n : Nat) (B : List Nat) (root p : Int) : Ent :=
  if lookOk n B root p then ⟨true, (walkOf n B root (joinV p 0).toNat 0).write, (walkOf n B root (joinV p 0).toNat 0).exec, (walkOf n B root (joinV p 0).toNat 0).block, (walkOf n B root (joinV p 0).toNat 0).frame⟩ else noEnt
theorem joinV_nat (p : Int) : ∃ k : Nat, joinV p 0 = k ∧ k < 1048576 ∧ (joinOk p 0 = true → k = (p.toNat) * 256 ∧ 0 ≤ p ∧ p < 4096) := by
  unfold joinV
  split
  · rename_i hj
    simp only [joinOk, Bool.and_eq_true, decide_eq_true_eq] at hj
    exact ⟨p.toNat * 256, by omega, by omega, fun _ => ⟨rfl, by omega, by omega⟩⟩
  · rename_i hj
    exact ⟨0, rfl, by omega, fun h => absurd h hj⟩
set_option maxHeartbeats 1000000 in
theorem Look_spec {h : Hp} {q fb n : Nat} {B : List Nat} (w : MS h q fb n B) (root p : Int) :
    CallsH Try.prog 71 [.pointer (some ⟨q, 0, none⟩), .int .i64 root, .int .i64 p] h fun v h' => v = .tuple #[.agg ⟨(lookE n B root p).cells⟩, .bool (lookOk n B root p)] ∧ Fr [] h h' := by
  refine calls_k fun R hR => ?_
  apply walk_Look.calls
  unfold walk_Look.P
  rintro h1 rfl
  have f1 : Fr [] h (new h (blk 54 noEnt.cells)) := Fr.new _ _ _
  have k1 := new_at h (blk 54 noEnt.cells)
  have w1 := w.fr f1 (by simp) (by simp)
  have z1 : sz (new h (blk 54 noEnt.cells)) = sz h + 1 := sz_new _ _
  simp only [noEnt, Ent.cells] at f1 k1 w1 z1
  generalize new h (blk 54 [.bool false, .bool false, .bool false, .bool false, .int .i64 0]) = h1 at *
  generalize hrb : sz h = rb at *
  have fin : ∀ (e : Ent) (b : Bool) (h2 : Hp) (T : TypeId), lookE n B root p = e → lookOk n B root p = b → Fr [] h h2 → R (.tuple #[.agg #[.bool e.v, .bool e.w, .bool e.x, .bool e.b, .int .i64 e.f], .bool b]) (upd h2 rb T (Ent.mk e.v e.w e.x e.b e.f).cells) := by
    intro e b h2 T he hb f2
    rw [he, hb] at hR
    exact hR _ _ ⟨rfl, Fr.on f2 (.inr (by omega)) _ _⟩
  have bad : lookOk n B root p = false → lookE n B root p = noEnt := fun e => by simp [lookE, e]
  have good : lookOk n B root p = true → lookE n B root p = ⟨true, (walkOf n B root (joinV p 0).toNat 0).write, (walkOf n B root (joinV p 0).toNat 0).exec, (walkOf n B root (joinV p 0).toNat 0).block, (walkOf n B root (joinV p 0).toNat 0).frame⟩ := fun e => by simp [lookE, e]
  have hok : lookOk n B root p = (joinOk p 0 && decide ((walkOf n B root (joinV p 0).toNat 0).fault = 0)) := rfl
  obtain ⟨k, hk, hk2, _⟩ := joinV_nat p
  refine (join_spec p 0).mono ?_
  rintro v h2 ⟨rfl, rfl⟩
  rw [hk] at good hok ⊢
  rw [Int.toNat_natCast] at good hok
  refine ⟨_, _, rfl, ?_⟩
  refine (Walk_spec w1 root (a := k) (by omega) 0).mono ?_
  generalize walkOf n B root k 0 = W at *
  rintro v h3 ⟨rfl, f3⟩
  refine ⟨_, _, _, _, _, _, rfl, ?_⟩
  refine put_local rfl (by simp) ?_
  intro h5 k5 f5 s5
  have f35 := f3.trans f5
  have fr5 := f1.trans f35
  have kr5 := f35.at k1 (by simp)
  generalize sz h3 = xb at *
  refine ⟨fun h8 => h8 = h5 ∧ lookOk n B root p = true, ⟨fun c => ?_, fun c => ⟨_, (cellAt_of k5 0).trans rfl, fun c2 => ?_, fun c2 => ⟨rfl, ?_⟩⟩⟩, ?_⟩
  · have c : joinOk p 0 = false := by simpa using c
    have hb : lookOk n B root p = false := by rw [hok, c]; rfl
    refine Ent.ret kr5 rfl _ _ _ _ _ ?_
    exact fin noEnt false _ _ (bad hb) hb fr5
  · have c2 : ¬ W.fault = 0 := by simpa using c2
    have hb : lookOk n B root p = false := by rw [hok, decide_eq_false c2, Bool.and_false]
    refine Ent.ret kr5 rfl _ _ _ _ _ ?_
    exact fin noEnt false _ _ (bad hb) hb fr5
  · have c : joinOk p 0 = true := by simpa using c
    have c2 : W.fault = 0 := by simpa using c2
    rw [hok, c, decide_eq_true c2]; rfl
  rintro h8 ⟨rfl, hb⟩
  refine ⟨_, (cellAt_of k5 3).trans rfl, _, (cellAt_of k5 4).trans rfl, _, (cellAt_of k5 5).trans rfl, _, (cellAt_of k5 2).trans rfl, ?_⟩
  refine Ent.ret kr5 rfl _ _ _ _ _ ?_
  exact fin ⟨true, W.write, W.exec, W.block, W.frame⟩ true _ _ (good hb) hb fr5

def pageP (n : Nat) (B : List Nat) (root : Int) (p : Nat) : Bool := lookOk n B root p
def pagesL (P : Nat → Bool) (k : Nat) : List Int := ((List.range k).filter P).map Int.ofNat
theorem pages_next (P : Nat → Bool) (k : Nat) : pagesL P (k + 1) = pagesL P k ++ (if P k then [(k : Int)] else []) := by
  unfold pagesL
  rw [List.range_succ, List.filter_append, List.map_append]
  congr 1
  cases h : P k <;> simp [h]
theorem pages_len (P : Nat → Bool) (k : Nat) : (pagesL P k).length ≤ k := by
  unfold pagesL
  rw [List.length_map]
  exact Nat.le_trans (List.length_filter_le _ _) (by simp)
theorem Pages_spec {h : Hp} {q fb n : Nat} {B : List Nat} (w : MS h q fb n B) (root : Int) :
    CallsH Try.prog 70 [.pointer (some ⟨q, 0, none⟩), .int .i64 root] h fun v h' => ∃ a c, v = .slice a (pagesL (pageP n B root) 4096).length c ∧ rowAtK h' a (encL iN (pagesL (pageP n B root) 4096)) ∧ (∀ y ∈ foot a, sz h ≤ y ∧ y < sz h') ∧ Fr [] h h' := by
  refine calls_k fun R hR => ?_
  generalize hP : pagesL (pageP n B root) 4096 = PP at hR
  apply walk_Pages.calls
  unfold walk_Pages.P
  obtain ⟨N, hN⟩ : ∃ N : Nat, N = 4096 := ⟨_, rfl⟩
  rw [← hN] at hP
  refine ⟨fun oa ol oc i h1 => ∃ k : Nat, i = k ∧ k ≤ N ∧ ol = (pagesL (pageP n B root) k).length ∧ Own h1 3 1 oa ol oc (encL iN (pagesL (pageP n B root) k)) ∧ (∀ y ∈ foot oa, sz h ≤ y) ∧ MS h1 q fb n B ∧ Fr [] h h1, fun _ _ _ i _ => N - i.toNat,
    ⟨0, rfl, by omega, rfl, Own.nil _ _ _, by simp [foot], w, Fr.refl _ _⟩, ?_⟩
  rintro oa ol oc i h1 ⟨k, rfl, hk, rfl, o1, fo, w1, f1⟩
  have lq := w.lt
  have lf := w.ltf
  by_cases hk4 : k < N
  · refine ⟨fun _ => ?_, fun hf => absurd hf (by simp; omega)⟩
    refine (Look_spec w1 root k).mono ?_
    generalize lookE n B root (k : Int) = E
    rintro v h2 ⟨rfl, f2⟩
    refine ⟨_, _, _, _, _, _, rfl, ?_⟩
    rintro h3 rfl
    refine ⟨truly_rfl, _, _, new_at _ _, by simp, ?_⟩
    rintro h4 rfl
    have f4 := Fr.on (Fr.new [] h2 (blk 54 [.bool false, .bool false, .bool false, .bool false, .int .i64 0])) (.inr (Nat.le_refl _)) 54 (writeAt [.bool false, .bool false, .bool false, .bool false, .int .i64 0] 0 [.bool E.v, .bool E.w, .bool E.x, .bool E.b, .int .i64 E.f])
    generalize upd (new h2 (blk 54 [.bool false, .bool false, .bool false, .bool false, .int .i64 0])) (sz h2) 54 (writeAt [.bool false, .bool false, .bool false, .bool false, .int .i64 0] 0 [.bool E.v, .bool E.w, .bool E.x, .bool E.b, .int .i64 E.f]) = h4 at *
    have f24 := f2.trans f4
    have fr4 := f1.trans f24
    have o4 := o1.fr f24 (by simp)
    have w4 := w1.fr f24 (by simp) (by simp)
    have hn := pages_next (pageP n B root) k
    have hl := pages_len (pageP n B root) k
    rw [wrapN hk4 (by omega)]
    refine ⟨fun c => ?_, fun c => ?_⟩
    · have c : pageP n B root k = true := c
      rw [if_pos c] at hn
      intro h5 h5e
      refine append_new (h0 := h) (F := []) o4 rfl fr4 (fun y hy => .inr (fo y hy)) rfl rfl h5e (by omega) (by omega) ?_
      intro a' c' h6 o6 f6 g6 l6 t6
      have hge : ∀ y ∈ foot a', sz h ≤ y := by
        intro y hy
        rcases t6 with rfl | t6
        · exact fo y hy
        · have := t6 y hy; have := fr4.size; omega
      refine ⟨⟨k + 1, rfl, by omega, by rw [hn]; simp, ?_, hge, w4.fr l6 (fun hq => by have := fo _ hq; omega) (fun hq => by have := fo _ hq; omega), f6⟩, decM hk4⟩
      rw [hn, encL_append]
      exact o6
    · have c : pageP n B root k = false := c
      rw [c, if_neg (by simp), List.append_nil] at hn
      exact ⟨⟨k + 1, rfl, by omega, by rw [hn], by rw [hn]; exact o4, fo, w4, fr4⟩, decM hk4⟩
  · have : k = N := by omega
    subst this
    rw [hP] at o1 ⊢
    exact ⟨fun hf => absurd hf (by simp; omega), fun _ => hR _ _ ⟨oa, oc, rfl, o1.row, fun y hy => ⟨fo y hy, o1.foot_lt y hy⟩, f1⟩⟩

/-! ## the document's walk -/


theorem put_facts {h h4 h5 : Hp} {T : TypeId} {z v : List Value} (e4 : h4 = new h (blk T z)) (e5 : h5 = upd h4 (sz h) T (writeAt z 0 v)) (hl : z.length = v.length) : bk h5 (sz h) = some (blk T v) ∧ Fr [] h h5 ∧ sz h5 = sz h + 1 := by
  subst e4
  have hw : writeAt z 0 v = v := by
    rw [writeAt_eq _ _ _ (by omega), Nat.zero_add, ← hl, List.drop_length]; simp
  rw [hw] at e5
  subst e5
  exact ⟨upd_same (new_at _ _) _ _, (Fr.new [] h _).later (Fr.upd (F := [sz h]) (by simp) _ _ _) (by simp), by rw [sz_upd, sz_new]⟩

theorem walk_of {n : Nat} {B : List Nat} {root : Int} {a : Nat} {acc r : Int} {e : Ent} (he : foundOf n B root a = ⟨e, r, 0⟩) :
    walkOf n B root a acc = if !allows e acc then ⟨4, r, 0, false, false, false⟩ else if (n : Int) ≤ e.f then ⟨5, r, 0, false, false, false⟩ else ⟨0, r, e.f, e.w, e.x, e.b⟩ := by
  unfold walkOf
  rw [he]
  exact if_neg (by simp)
theorem walk_bad {n : Nat} {B : List Nat} {root : Int} {a : Nat} {acc r f : Int} (he : foundOf n B root a = ⟨noEnt, r, f⟩) (hf : f ≠ 0) : walkOf n B root a acc = ⟨f, r, 0, false, false, false⟩ := by
  unfold walkOf
  rw [he]
  exact if_pos hf
theorem Ent.addF_b (e : Ent) (x : Int) : (e.addF x).b = e.b := by unfold Ent.addF; rfl
theorem Ent.noB_b (e : Ent) : e.noB.b = false := by unfold Ent.noB; rfl
theorem Ent.noB_w (e : Ent) : e.noB.w = e.w := by unfold Ent.noB; rfl
theorem Ent.noB_x (e : Ent) : e.noB.x = e.x := by unfold Ent.noB; rfl
theorem Ent.noB_f (e : Ent) : e.noB.f = e.f := by unfold Ent.noB; rfl
theorem Ent.noB_allows (e : Ent) (a : Int) : allows e.noB a = allows e a := by unfold Ent.noB allows; rfl
theorem allows_b (v w x b c : Bool) (f : Int) (acc : Int) : allows ⟨v, w, x, b, f⟩ acc = allows ⟨v, w, x, c, f⟩ acc := rfl
theorem allows_f (v w x b : Bool) (f g : Int) (acc : Int) : allows ⟨v, w, x, b, f⟩ acc = allows ⟨v, w, x, b, g⟩ acc := rfl

theorem hit_last {R : Value → Hp → Prop} {W : Hit} {h : Hp} {b : Nat} {k : Hp}
    (fin : ∀ (x : Hit) (h2 : Hp) (T : TypeId), W = x → Fr [] h h2 → R (.agg #[.int .i64 x.fault, .int .i64 x.reads, .int .i64 x.frame, .bool x.write, .bool x.exec, .bool x.block]) (upd h2 b T (Hit.mk x.fault x.reads x.frame x.write x.exec x.block).cells))
    (v1 v2 v3 : Int) (v4 v5 v6 : Bool) (T : TypeId) (hW : W = ⟨v1, v2, v3, v4, v5, v6⟩) (f : Fr [] h k) : R (.agg #[.int .i64 v1, .int .i64 v2, .int .i64 v3, .bool v4, .bool v5, .bool v6]) (upd k b T (Hit.mk v1 v2 v3 v4 v5 v6).cells) :=
  fin ⟨v1, v2, v3, v4, v5, v6⟩ k T hW f


structure Pt where
  addr : Nat
  value : Nat
def Pt.cells (x : Pt) : List Value := [.int .u32 x.addr, .int .u32 x.value]
theorem Pt.len (x : Pt) : x.cells.length = 2 := rfl
def Pt.ok (x : Pt) : Prop := x.addr < 4294967296 ∧ x.value < 4294967296
theorem rows_p {rows : List (List Value)} (hw : ∀ r ∈ rows, wfCells [.int .u32, .int .u32] r) : ∃ l : List Pt, rows.length = l.length ∧ rows.flatten = encL Pt.cells l ∧ ∀ x ∈ l, x.ok :=
  rows_enc (f := Pt.cells) (ok := Pt.ok) (rows := rows) (fun r hr => by
    obtain ⟨v1, r, rfl, h1, h⟩ := wfCells_cons (hw r hr)
    obtain ⟨v2, r, rfl, h2, h⟩ := wfCells_cons h
    obtain rfl := wfCells_nil h
    obtain ⟨b1, rfl, l1, u1⟩ := wfInt h1
    obtain ⟨b2, rfl, l2, u2⟩ := wfInt h2
    rw [min_u32] at l1 l2
    rw [max_u32] at u1 u2
    exact ⟨⟨b1.toNat, b2.toNat⟩, by simp only [Pt.cells]; rw [Int.toNat_of_nonneg l1, Int.toNat_of_nonneg l2], by unfold Pt.ok; dsimp only; omega⟩)

def putsB (n : Nat) (L : List Pt) : List Nat := L.foldl (fun B x => putW n B x.addr x.value) (List.replicate (n * 256) 0)
theorem puts_next {n : Nat} {L : List Pt} {k : Nat} {x : Pt} (hx : L[k]? = some x) : putsB n (L.take (k + 1)) = putW n (putsB n (L.take k)) x.addr x.value := by
  unfold putsB
  rw [take_one hx, List.foldl_append]; rfl
theorem fr_out {a h h' : Hp} {F : List Nat} (f : Fr [] a h) (k : Fr F h h') (hs : ∀ x ∈ F, sz a ≤ x) : Fr [] a h' := f.later k hs

def greatB (n : Int) (l : Nat) : Bool := decide (n < 1) || decide (n > 100) || decide (l > 100)
theorem great_no {n : Int} {l : Nat} (h : greatB n l = false) : ∃ m : Nat, n = m ∧ 1 ≤ m ∧ m ≤ 100 ∧ l ≤ 100 := by
  simp only [greatB, Bool.or_eq_false_iff, decide_eq_false_iff_not] at h
  exact ⟨n.toNat, by omega, by omega, by omega, by omega⟩

end Go.Proofs.Ytmldiibfmhkgjaa
