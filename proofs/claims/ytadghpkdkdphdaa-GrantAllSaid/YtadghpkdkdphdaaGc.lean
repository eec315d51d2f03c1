import Derived.Test.YtadghpkdkdphdaaGb
namespace Go.Proofs.Ytadghpkdkdphdaa
open Go Go.Wd
set_option linter.unusedVariables false
set_option linter.unusedSimpArgs false

theorem box1 {h : Hp} {T : TypeId} {v : Value} : cellAt (new h (blk T [v])) (sz h) 0 = some v := by rw [cellAt_of (new_at _ _)]; rfl

theorem At_spec {h : Hp} {q : Nat} {L : List G} (w : GS h q L) (g p : Int) :
    CallsH Try.prog 18 [.pointer (some ⟨q, 0, none⟩), .int .i64 g, .int .i64 p] h fun v h' => v = .int .i64 (idx (atP g p) L) ∧ Fr [] h h' := by
  apply grant_Grants_At.calls
  unfold grant_Grants_At.P
  rintro h1 rfl h2 rfl
  have f1 : Fr [] h (new h (blk 3 [.int .i64 g])) := Fr.new _ _ _
  have c0 := (Fr.new [] (new h (blk 3 [.int .i64 g])) (blk 3 [.int .i64 p])).cell (box1 (h := h) (T := 3) (v := .int .i64 g)) (by simp)
  have c1 := box1 (h := new h (blk 3 [.int .i64 g])) (T := 3) (v := .int .i64 p)
  have f2 := f1.trans (Fr.new [] _ (blk 3 [.int .i64 p]))
  refine (find32 (w.fr f2 (by simp)) (fun h1 x f => at_spec x (f.cell c0 (by simp)) (f.cell c1 (by simp)))).mono ?_
  rintro v h' ⟨rfl, f3⟩
  exact ⟨_, rfl, rfl, f2.trans f3⟩

theorem May_spec {h : Hp} {q : Nat} {L : List G} (w : GS h q L) (g f : Int) (wr : Bool) :
    CallsH Try.prog 17 [.pointer (some ⟨q, 0, none⟩), .int .i64 g, .int .i64 f, .bool wr] h fun v h' => v = .bool (decide (0 ≤ idx (mayP g f wr) L)) ∧ Fr [] h h' := by
  apply grant_Grants_May.calls
  unfold grant_Grants_May.P
  rintro h1 rfl h2 rfl h3 rfl
  have f1 : Fr [] h (new h (blk 3 [.int .i64 g])) := Fr.new _ _ _
  have f2 : Fr [] (new h (blk 3 [.int .i64 g])) (new (new h (blk 3 [.int .i64 g])) (blk 3 [.int .i64 f])) := Fr.new _ _ _
  have f3 : Fr [] (new (new h (blk 3 [.int .i64 g])) (blk 3 [.int .i64 f])) (new (new (new h (blk 3 [.int .i64 g])) (blk 3 [.int .i64 f])) (blk 4 [.bool wr])) := Fr.new _ _ _
  have c0 := (f2.trans f3).cell (box1 (h := h) (T := 3) (v := .int .i64 g)) (by simp)
  have c1 := f3.cell (box1 (h := new h (blk 3 [.int .i64 g])) (T := 3) (v := .int .i64 f)) (by simp)
  have c2 := box1 (h := new (new h (blk 3 [.int .i64 g])) (blk 3 [.int .i64 f])) (T := 4) (v := .bool wr)
  have f03 := (f1.trans f2).trans f3
  refine (find31 (w.fr f03 (by simp)) (fun h1 x f => may_spec x (f.cell c0 (by simp)) (f.cell c1 (by simp)) (f.cell c2 (by simp)))).mono ?_
  rintro v h' ⟨rfl, f4⟩
  exact ⟨_, rfl, rfl, f03.trans f4⟩

/-! ## what the calls come to -/
def getG (L : List G) (i : Int) : G := if isThere i then L.getD i.toNat noG else noG
theorem isThere_nat {i : Int} (h : isThere i = true) : ∃ k : Nat, i = k ∧ k < 32 := by
  simp only [isThere, Bool.and_eq_true, decide_eq_true_eq] at h
  exact ⟨i.toNat, by omega, by omega⟩
theorem there_nat {k : Nat} (hk : k < 32) : isThere (k : Int) = true := by simp [isThere]; omega
theorem getG_nat {L : List G} {k : Nat} {x : G} (hk : k < 32) (hx : L[k]? = some x) : getG L k = x := by
  simp only [getG, there_nat hk, if_true, Int.toNat_natCast, List.getD_eq_getElem?_getD, hx, Option.getD_some]

def offerBad (o f t : Int) : Bool := !isGuest o || (!isGuest t || (decide (o = t) || decide (f < 0)))
def offerE (L : List G) (o f t : Int) : Int := if offerBad o f t then 11 else if 0 ≤ idx (likeP o f t) L then 13 else if idx freeP L < 0 then 15 else 0
def offerI (L : List G) (o f t : Int) : Int := if offerE L o f t = 0 then idx freeP L else -1
def offerL (L : List G) (o f t : Int) (w : Bool) : List G := if offerE L o f t = 0 then L.set (idx freeP L).toNat ⟨1, o, f, t, 0, w⟩ else L
def madeE (L : List G) (i t : Int) : Int := if !isThere i || !isGuest t then 11 else if (getG L i).state != 0 && (getG L i).to == t then 0 else 12
def acceptE (L : List G) (i t p : Int) : Int := if p < 0 ∨ 4096 ≤ p then 11 else if madeE L i t ≠ 0 then madeE L i t else if (getG L i).state = 2 then 20 else if 0 ≤ idx (atP t p) L then 17 else 0
def acceptG (L : List G) (i t p : Int) : G := if acceptE L i t p = 0 then { getG L i with state := 2, page := p } else noG
def acceptL (L : List G) (i t p : Int) : List G := if acceptE L i t p = 0 then L.set i.toNat { getG L i with state := 2, page := p } else L
def leaveE (L : List G) (i t : Int) : Int := if madeE L i t ≠ 0 then madeE L i t else if (getG L i).state = 1 then 20 else 0
def leaveG (L : List G) (i t : Int) : G := if leaveE L i t = 0 then getG L i else noG
def leaveL (L : List G) (i t : Int) : List G := if leaveE L i t = 0 then L.set i.toNat { getG L i with state := 1, page := 0 } else L
def revokeE (L : List G) (i o : Int) : Int := if !isThere i || !isGuest o then 11 else if (getG L i).state = 0 ∨ (getG L i).owner ≠ o then 16 else 0
def revokeG (L : List G) (i o : Int) : G := if revokeE L i o = 0 then getG L i else noG
def revokeL (L : List G) (i o : Int) : List G := if revokeE L i o = 0 then L.set i.toNat noG else L
def goneP (g : Int) (x : G) : Bool := (x.state != 0) && ((x.owner == g) || (x.to == g))
def goneL (g : Int) (L : List G) : List G := L.map fun x => if goneP g x then noG else x

theorem get_spec {h : Hp} {q : Nat} {L : List G} (w : GS h q L) (i : Int) :
    CallsH Try.prog 16 [.pointer (some ⟨q, 0, none⟩), .int .i64 i] h fun v h' => v = .agg ⟨(getG L i).cells⟩ ∧ Fr [] h h' := by
  refine calls_k fun R hR => ?_
  apply grant_Grants_Get.calls
  unfold grant_Grants_Get.P
  rintro h1 rfl
  have f1 : Fr [] h (new h (blk 29 noG.cells)) := Fr.new _ _ _
  have k1 := new_at h (blk 29 noG.cells)
  have w1 := w.fr f1 (by simp)
  simp only [noG, G.cells] at f1 k1 w1
  generalize new h (blk 29 [.int .i64 0, .int .i64 0, .int .i64 0, .int .i64 0, .int .i64 0, .bool false]) = h1 at *
  refine (there_spec i).mono ?_
  rintro v h2 ⟨rfl, rfl⟩
  refine ⟨_, rfl, fun c => ?_, fun c => ?_⟩
  · have ht : isThere i = false := by simpa using c
    have hg : getG L i = noG := by simp [getG, ht]
    rw [hg] at hR
    exact G.ret k1 rfl 0 0 0 0 0 false (hR _ _ ⟨rfl, f1.later (Fr.upd (F := [sz h]) (by simp) _ _ _) (by simp)⟩)
  · have ht : isThere i = true := by simpa using c
    obtain ⟨k, rfl, hk⟩ := isThere_nat ht
    obtain ⟨x, hx⟩ := w1.ex hk
    rw [getG_nat hk hx] at hR
    simp only [Nat.zero_add, Int.toNat_natCast]
    refine ⟨by omega, by omega, G.rd x (w1.arr.get G.len hx) ?_⟩
    have := G.ret k1 rfl x.state x.owner x.frame x.to x.page x.write (K := fun a1 a2 a3 a4 a5 a6 h => R (.agg #[.int .i64 a1, .int .i64 a2, .int .i64 a3, .int .i64 a4, .int .i64 a5, .bool a6]) h) (hR _ _ ⟨rfl, f1.later (Fr.upd (F := [sz h]) (by simp) _ _ _) (by simp)⟩)
    simpa using this
end Go.Proofs.Ytadghpkdkdphdaa
