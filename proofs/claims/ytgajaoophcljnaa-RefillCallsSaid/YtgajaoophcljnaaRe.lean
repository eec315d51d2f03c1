import Derived.Test.YtgajaoophcljnaaRd
namespace Go.Proofs.Ytgajaoophcljnaa
open Go Go.Wd
set_option linter.unusedVariables false
set_option linter.unusedSimpArgs false

/-- A call that the row is told, as data. -/
structure CallD where
  what : Int
  t : Int
  m : Int
def encC (c : CallD) : List Value := [.int .i64 c.what, .int .u64 c.t, .int .u64 c.m]
theorem encC_len (c : CallD) : (encC c).length = 3 := rfl
def CallOk (c : CallD) : Prop := 0 ≤ c.t ∧ c.t < 18446744073709551616 ∧ 0 ≤ c.m ∧ c.m < 18446744073709551616

/-- An argument: a row of calls that lies in h. -/
structure Arg (h : Hp) (a : Option Addr) (cs : List CallD) : Prop where
  row : rowAtK h a (encL encC cs)
  ok : ∀ c ∈ cs, CallOk c

theorem Arg.fr {h h' : Hp} {a : Option Addr} {cs : List CallD} (g : Arg h a cs) (f : Fr [] h h') : Arg h' a cs :=
  ⟨g.row.fr f (by simp), g.ok⟩

theorem Arg.lt {h : Hp} {a : Option Addr} {cs : List CallD} (g : Arg h a cs) (hne : cs ≠ []) : ∀ x ∈ foot a, x < sz h :=
  g.row.lt (by intro e; have := encL_length encC_len cs; rw [e] at this; exact hne (List.length_eq_zero_iff.1 (by simp at this; omega)))

theorem one_spec {h : Hp} {a : Option Addr} {c : Nat} {cs : List CallD} (g : Arg h a cs) :
    CallsH Try.prog 5 [.slice a cs.length c] h fun v h' => v = .bool true ∧ Fr [] h h' := by
  apply warderlaw16_RefillOne.calls
  unfold warderlaw16_RefillOne.P
  refine (alive_spec h).mono ?_
  rintro v h1 ⟨rfl, f1⟩
  rcases Nat.lt_or_ge 60 cs.length with hlen | hlen
  · have h2 : 60 < (cs.length : Int) := by omega
    have h3 : ¬ ((cs.length : Int) ≤ 60) := by omega
    simp [h2, h3, f1]
  have h2 : ¬ (60 < (cs.length : Int)) := by omega
  simp [h2]
  refine (rnew 1 (by omega) (by omega)).mono ?_
  rintro v h2' ⟨rfl, w2, f2, s2⟩
  have f12 := f1.trans f2
  simp [notIf, and_assoc]
  -- the loop: what the row holds, the sum, the last time
  refine ⟨fun sum last i h3 => ∃ (k : Nat) (L : List (Int × Int)), i = k ∧ k ≤ cs.length ∧ RowS h3 (sz h1 + 1) (sz h1) 1 L ∧ Fr [] h h3 ∧ sz h1 + 2 ≤ sz h3 ∧
      ((L = [] ∧ sum = 0 ∧ last = 0) ∨ (L = [(last, sum)])),
    ⟨0, [], rfl, by omega, w2, f12, by omega, .inl ⟨rfl, rfl, rfl⟩⟩, fun _ _ i _ => cs.length - i.toNat, ?_⟩
  rintro sum last i h3 ⟨k, L, rfl, hk, w3, f3, s3, hL⟩
  by_cases hkl : k < cs.length
  · obtain ⟨x, hx⟩ : ∃ x, cs[k]? = some x := ⟨_, List.getElem?_eq_getElem hkl⟩
    have hok := g.ok x (List.mem_of_getElem? hx)
    obtain ⟨b, o, rfl, hc⟩ := encL_one encC_len (g.fr f3).row hx (by omega)
    have hb : b < sz h := g.lt (by intro e; subst e; simp at hkl) b (by simp [foot])
    have hc1 := hc 1 (by omega)
    have hc2 := hc 2 (by omega)
    simp only [encC, List.getElem?_cons_zero, List.getElem?_cons_succ] at hc1 hc2
    have n1 : ¬ ((cs.length : Int) ≤ (k : Int)) := by omega
    have n2 : ¬ (cs.length ≤ k) := by omega
    have hw : IntKind.wrap .i64 ((k : Int) + 1) = (k : Int) + 1 := wrap_i64 (by omega) (by omega)
    simp [and_assoc, hkl, n1, n2, hc1, hc2, hw]
    refine (rpush w3 hok.1 hok.2.2.1).mono ?_
    rintro v h4 ⟨rfl, w4, f4, s4⟩
    have f34 := f3.later f4 (by have := f1.size; simp; omega)
    have d1 := f4.cell hc1 (by have := f1.size; simp; omega)
    have d2 := f4.cell hc2 (by have := f1.size; simp; omega)
    simp [and_assoc, hkl, n1, n2, d1, d2]
    have hgood := w3.good
    by_cases he : pushE L x.t x.m = 0
    · obtain ⟨e1, e2, e3, e4, e5⟩ := pushE_zero hok.2.2.1 he
      simp [he]
      rcases hL with ⟨rfl, rfl, rfl⟩ | rfl
      · have hw2 : IntKind.wrap .u64 x.m = x.m := wrap_u64 (by omega) (by simp [LC] at e2; omega)
        have n3 : ¬ (x.t < 0) := by have := hok.1; omega
        simp [hw2, n3, hok.1]
        refine ⟨⟨k + 1, by omega, by omega, pushL 1 [] x.t x.m, w4, f34, by omega, .inr ?_⟩, by omega⟩
        simp [pushL, he, pushed]
      · have h5 := e4 (last, sum) rfl
        simp [sumA] at e5 h5
        have n3 : ¬ (x.t < last) := by omega
        have hs := (hgood.each (last, sum) (by simp)).2.2
        simp [LC] at e2 e5 hs
        have hw2 : IntKind.wrap .u64 (sum + x.m) = sum + x.m := wrap_u64 (by omega) (by omega)
        simp [hw2, n3, h5]
        refine ⟨⟨k + 1, by omega, by omega, pushL 1 [(last, sum)] x.t x.m, w4, f34, by omega, .inr ?_⟩, by omega⟩
        simp [pushL, he, pushed]
    · simp [he]
      refine ⟨⟨k + 1, by omega, by omega, L, ?_, f34, by omega, hL⟩, by omega⟩
      simpa [pushL, he] using w4
  · have n1 : (cs.length : Int) ≤ (k : Int) := by omega
    have n2 : cs.length ≤ k := by omega
    simp [hkl, n1, n2]
    refine (list_spec w3.row).mono ?_
    rintro v h5 ⟨al, rfl, fr5, f5⟩
    have w5 := w3.fr f5 (by simp) (by simp)
    have f35 := f3.trans f5
    rcases hL with ⟨rfl, rfl, rfl⟩ | rfl
    · simp [and_assoc, f35]
    · have hs := (w3.good.each (last, sum) (by simp)).2.2
      have hl0 := (w3.good.each (last, sum) (by simp)).1
      simp at hs hl0
      have n3 : ¬ (sum = 0) := by omega
      obtain ⟨b, o, rfl, hr⟩ : ∃ b o, al = some ⟨b, o, none⟩ ∧ readAt h5 b o (encR [(last, sum)]) := by
        rcases fr5.row with h | h
        · simp [encR] at h
        · exact h
      have c0 : cellAt h5 b o = some (.int .u64 last) := by simpa [encR] using hr 0 (by simp [encR])
      have c1 : cellAt h5 b (o + 1) = some (.int .u64 sum) := by simpa [encR] using hr 1 (by simp [encR])
      simp [and_assoc, n3, c0, c1]
      have dl : dueA last [(last, sum)] = sum := by simp [dueA, sumU, sumA]
      by_cases hz : last = 0
      · subst hz
        simp
        refine (rtake w5 0).mono ?_
        rintro v h6 ⟨rfl, w6, f6, s6⟩
        rw [dl]
        refine ⟨_, rfl, rfl, f35.later f6 (by have := f1.size; simp; omega)⟩
      · have hw : IntKind.wrap .u64 (last - 1) = last - 1 := wrap_u64 (by omega) (by have := (w3.good.each (last, sum) (by simp)).2.1; simp [LC] at this; omega)
        have n5 : ¬ (last ≤ last - 1) := by omega
        have de : dueA (last - 1) [(last, sum)] = 0 := by simp [dueA, sumU, sumA, n5]
        have re : restU (last - 1) [(last, sum)] = [(last, sum)] := by simp [restU, n5]
        simp [hz, hw]
        refine (rtake w5 (last - 1)).mono ?_
        rintro v h6 ⟨rfl, w6, f6, s6⟩
        rw [re] at w6
        simp [de]
        refine (rtake w6 last).mono ?_
        rintro v h7 ⟨rfl, w7, f7, s7⟩
        rw [dl]
        refine ⟨_, rfl, rfl, (f35.later f6 (by have := f1.size; simp; omega)).later f7 (by have := f1.size; simp; omega)⟩
end Go.Proofs.Ytgajaoophcljnaa
