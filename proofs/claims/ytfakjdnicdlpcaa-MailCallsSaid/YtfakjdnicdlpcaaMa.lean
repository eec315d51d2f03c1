import Derived.Test.YtfakjdnicdlpcaaP
import Derived.Test.YtfakjdnicdlpcaaWdBits
import Derived.Test.YtfakjdnicdlpcaaWdRow
namespace Go.Proofs.Ytfakjdnicdlpcaa
open Go Go.Wd
set_option linter.unusedVariables false
set_option linter.unusedSimpArgs false
set_option linter.unnecessarySimpa false

theorem decM {n k : Nat} (h : k < n) : n - ((k + 1 : Nat) : Int).toNat < n - (k : Int).toNat := by omega
theorem wrapN {j n : Nat} (h : j < n) (hn : n ≤ 1000000) : IntKind.wrap .i64 ((j : Int) + 1) = ((j + 1 : Nat) : Int) := by rw [wrap_i64 (by omega) (by omega)]; omega
structure Lt where
  fr : Int
  v : Int
def Lt.cells (x : Lt) : List Value := [.int .i64 x.fr, .int .u32 x.v]
theorem Lt.len (x : Lt) : x.cells.length = 2 := rfl
def Lt.val (x : Lt) : Value := .agg ⟨x.cells⟩
def chs (A : List (Option Nat)) : List Value := A.map fun a => .chan a
theorem chs_at {A : List (Option Nat)} {i : Nat} {a : Option Nat} (h : A[i]? = some a) : (chs A)[i]? = some (.chan a) := by simp [chs, h]
theorem chs_len (A : List (Option Nat)) : (chs A).length = A.length := by simp [chs]
theorem chs_set (A : List (Option Nat)) (i : Nat) (a : Option Nat) : (chs A).set i (.chan a) = chs (A.set i a) := by simp [chs, List.map_set]
/-- The boxes' memory. -/
structure MA (h0 h : Hp) (q : Nat) (A : List (Option Nat)) (B : List (Option (List Lt))) : Prop where
  hq : bk h q = some (blk 59 (chs A))
  la : A.length = 8
  lb : B.length = 8
  no : ∀ i : Nat, A[i]? = some none → B[i]? = some none
  has : ∀ i r : Nat, A[i]? = some (some r) → ∃ (L : List Lt) (s rc : Nat), B[i]? = some (some L) ∧ bk h r = some (.chan 8 ⟨L.map Lt.val⟩ false s rc false) ∧ L.length ≤ 8 ∧ sz h0 ≤ r
  one : ∀ i j r : Nat, A[i]? = some (some r) → A[j]? = some (some r) → i = j
  g : sz h0 ≤ q
  f : Fr [] h0 h
/-- What other values keep while a box is told something. -/
def FrM (h h' : Hp) : Prop := sz h ≤ sz h' ∧ ∀ (b : Nat) (T : TypeId) (l : List Value), bk h b = some (blk T l) → T ≠ 59 → bk h' b = some (blk T l)
section
variable {h0 h h' h'' : Hp} {q : Nat} {A : List (Option Nat)} {B : List (Option (List Lt))}
theorem FrM.refl (h : Hp) : FrM h h := ⟨Nat.le_refl _, fun _ _ _ h _ => h⟩
theorem FrM.trans (k : FrM h h') (k' : FrM h' h'') : FrM h h'' := ⟨Nat.le_trans k.1 k'.1, fun b T l hb hT => k'.2 b T l (k.2 b T l hb hT) hT⟩
theorem FrM.of (k : Fr [] h h') : FrM h h' := ⟨k.size, fun b T l hb hT => k.at hb (by simp)⟩
theorem FrM.upd {l0 : List Value} (hq : bk h q = some (blk 59 l0)) (l : List Value) : FrM h (upd h q 59 l) := ⟨by rw [sz_upd]; exact Nat.le_refl _, fun b T l hb hT => by
  rw [upd_other (fun e => ?_)]
  · exact hb
  · subst e; rw [hq] at hb; cases hb; exact hT rfl⟩
theorem MA.lq (w : MA h0 h q A B) : q < sz h := lt_of_bk w.hq
theorem MA.fr (w : MA h0 h q A B) {F : List Nat} (k : Fr F h h') (hF : ∀ x ∈ F, sz h0 ≤ x ∧ ∃ T l, bk h x = some (blk T l) ∧ T ≠ 59) : MA h0 h' q A B := by
  have hq : q ∉ F := fun hm => by
    obtain ⟨_, T, l, hb, hT⟩ := hF q hm
    rw [w.hq] at hb; cases hb; exact hT rfl
  refine ⟨k.at w.hq hq, w.la, w.lb, w.no, fun i r hr => ?_, w.one, w.g, w.f.later k fun x hx => (hF x hx).1⟩
  obtain ⟨L, s, rc, h1, h2, h3, h4⟩ := w.has i r hr
  refine ⟨L, s, rc, h1, k.at h2 fun hm => ?_, h3, h4⟩
  obtain ⟨_, T, l, hb, hT⟩ := hF r hm
  rw [h2] at hb; cases hb
theorem MA.fr0 (w : MA h0 h q A B) (k : Fr [] h h') : MA h0 h' q A B := w.fr k (by simp)
end
def isG (n : Int) : Prop := 2 ≤ n ∧ n ≤ 9
instance (n : Int) : Decidable (isG n) := by unfold isG; infer_instance
def bxB (B : List (Option (List Lt))) (n : Int) : Option (List Lt) := if isG n then B.getD (n - 2).toNat none else none
def bxA (A : List (Option Nat)) (n : Int) : Option Nat := if isG n then A.getD (n - 2).toNat none else none
theorem ma_cases {h0 h : Hp} {q : Nat} {A : List (Option Nat)} {B : List (Option (List Lt))} (w : MA h0 h q A B) (n : Int) :
    (¬ isG n ∧ bxA A n = none ∧ bxB B n = none) ∨ ∃ k : Nat, k < 8 ∧ n = (k : Int) + 2 ∧ isG n ∧
      ((A[k]? = some none ∧ bxA A n = none ∧ B[k]? = some none ∧ bxB B n = none) ∨ ∃ (r : Nat) (L : List Lt) (s rc : Nat), A[k]? = some (some r) ∧ bxA A n = some r ∧ B[k]? = some (some L) ∧ bxB B n = some L ∧
        bk h r = some (.chan 8 ⟨L.map Lt.val⟩ false s rc false) ∧ L.length ≤ 8 ∧ sz h0 ≤ r) := by
  by_cases c : isG n
  · right
    have c' := c
    unfold isG at c
    have hk : (n - 2).toNat < A.length := by rw [w.la]; omega
    obtain ⟨k, hn⟩ : ∃ k : Nat, n = (k : Int) + 2 := ⟨(n - 2).toNat, by omega⟩
    subst hn
    have ek : ((k : Int) + 2 - 2).toNat = k := by omega
    rw [ek] at hk
    refine ⟨k, by rw [w.la] at hk; exact hk, rfl, c', ?_⟩
    unfold bxA bxB
    rw [if_pos c', if_pos c', ek, List.getD_eq_getElem?_getD, List.getD_eq_getElem?_getD]
    cases ha : A[k]? with
    | none => rw [List.getElem?_eq_none_iff] at ha; omega
    | some a => cases a with
      | none => exact .inl ⟨rfl, rfl, w.no k ha, by rw [w.no k ha]; rfl⟩
      | some r =>
        obtain ⟨L, s, rc, h1, h2, h3, h4⟩ := w.has k r ha
        exact .inr ⟨r, L, s, rc, rfl, rfl, h1, by rw [h1]; rfl, h2, h3, h4⟩
  · left
    exact ⟨c, if_neg c, if_neg c⟩
theorem wrap2 {k : Nat} (h : k < 8) : IntKind.wrap .i64 ((k : Int) + 2 - 2) = (k : Int) := by rw [wrap_i64 (by omega) (by omega)]; omega
theorem guest_spec {h : Hp} (n : Int) : CallsH Try.prog 19 [.int .i64 n] h fun v h' => v = .bool (decide (isG n)) ∧ h' = h := by
  refine calls_k fun R hR => ?_
  apply mail_guest.calls
  unfold mail_guest.P
  refine ⟨fun c => hR _ _ ⟨?_, rfl⟩, fun c => hR _ _ ⟨?_, rfl⟩⟩
  · have c : n ≥ 2 := of_decide_eq_true c
    simp [isG, show (2 : Int) ≤ n from c]
  · have c : ¬ n ≥ 2 := by simpa using c
    simp [isG, show ¬ (2 : Int) ≤ n from c]
theorem rGuest_spec {h : Hp} (n : Int) : CallsH Try.prog 10 [.int .i64 n] h fun v h' => v = .bool (decide (isG n)) ∧ h' = h := by
  refine calls_k fun R hR => ?_
  apply warderref22_Guest.calls
  unfold warderref22_Guest.P
  refine ⟨fun c => hR _ _ ⟨?_, rfl⟩, fun c => hR _ _ ⟨?_, rfl⟩⟩
  · have c : n ≥ 2 := of_decide_eq_true c
    simp [isG, show (2 : Int) ≤ n from c]
  · have c : ¬ n ≥ 2 := by simpa using c
    simp [isG, show ¬ (2 : Int) ≤ n from c]
section
variable {h0 h : Hp} {q : Nat} {A : List (Option Nat)} {B : List (Option (List Lt))}
theorem box_spec (w : MA h0 h q A B) (n : Int) : CallsH Try.prog 20 [.pointer (some ⟨q, 0, none⟩), .int .i64 n] h fun v h' => v = .chan (bxA A n) ∧ h' = h := by
  refine calls_k fun R hR => ?_
  apply mail_Mail_box.calls
  unfold mail_Mail_box.P
  refine (guest_spec n).mono ?_
  rintro _ h1 ⟨rfl, hh⟩
  rw [hh]; clear hh h1
  refine ⟨_, rfl, fun c => ?_, fun c => ?_⟩
  · have c : ¬ isG n := by simpa using c
    have : bxA A n = none := if_neg c
    rw [this] at hR
    exact hR _ _ ⟨rfl, rfl⟩
  · have c : isG n := by simpa using c
    rcases ma_cases w n with ⟨e, _⟩ | ⟨k, hk, rfl, _, hh⟩
    · exact absurd c e
    · rw [wrap2 hk]
      have hc : ∀ a, A[k]? = some a → cellAt h q (0 + (k : Int).toNat * 1) = some (.chan a) := fun a ha => by
        rw [Int.toNat_natCast, Nat.mul_one, Nat.zero_add, cellAt_of w.hq]; exact chs_at ha
      refine ⟨by omega, by omega, ?_⟩
      rcases hh with ⟨h1, h2, _⟩ | ⟨r, L, s, rc, h1, h2, _⟩
      · rw [h2] at hR; exact ⟨_, hc _ h1, hR _ _ ⟨rfl, rfl⟩⟩
      · rw [h2] at hR; exact ⟨_, hc _ h1, hR _ _ ⟨rfl, rfl⟩⟩
theorem IsOpen_spec (w : MA h0 h q A B) (n : Int) : CallsH Try.prog 18 [.pointer (some ⟨q, 0, none⟩), .int .i64 n] h fun v h' => v = .bool (bxB B n).isSome ∧ h' = h := by
  refine calls_k fun R hR => ?_
  apply mail_Mail_IsOpen.calls
  unfold mail_Mail_IsOpen.P
  refine (box_spec w n).mono ?_
  rintro _ h1 ⟨rfl, hh⟩
  rw [hh]; clear hh h1
  refine ⟨_, rfl, hR _ _ ⟨?_, rfl⟩⟩
  rcases ma_cases w n with ⟨e, h1, h2⟩ | ⟨k, hk, rfl, _, ⟨_, h1, _, h2⟩ | ⟨r, L, s, rc, _, h1, _, h2, _⟩⟩
  · rw [h1, h2]; rfl
  · rw [h1, h2]; rfl
  · rw [h1, h2]; rfl
theorem Len_spec (w : MA h0 h q A B) (n : Int) : CallsH Try.prog 17 [.pointer (some ⟨q, 0, none⟩), .int .i64 n] h fun v h' => v = .int .i64 (((bxB B n).getD []).length : Nat) ∧ h' = h := by
  refine calls_k fun R hR => ?_
  apply mail_Mail_Len.calls
  unfold mail_Mail_Len.P
  refine (box_spec w n).mono ?_
  rintro _ h1 ⟨rfl, hh⟩
  rw [hh]; clear hh h1
  refine ⟨_, rfl, ?_⟩
  rcases ma_cases w n with ⟨e, h1, h2⟩ | ⟨k, hk, rfl, _, ⟨_, h1, _, h2⟩ | ⟨r, L, s, rc, _, h1, _, h2, h3, _⟩⟩
  · rw [h2] at hR; rw [h1]; exact ⟨0, rfl, hR _ _ ⟨rfl, rfl⟩⟩
  · rw [h2] at hR; rw [h1]; exact ⟨0, rfl, hR _ _ ⟨rfl, rfl⟩⟩
  · rw [h2] at hR; rw [h1]; exact ⟨L.length, ⟨_, _, _, _, _, h3, by simp⟩, hR _ _ ⟨rfl, rfl⟩⟩
end
theorem New_spec {h0 h : Hp} (f : Fr [] h0 h) : CallsH Try.prog 8 [] h fun v h' => v = .pointer (some ⟨sz h, 0, none⟩) ∧ MA h0 h' (sz h) (List.replicate 8 none) (List.replicate 8 none) ∧ Fr [] h h' := by
  refine calls_k fun R hR => ?_
  apply mail_New.calls
  unfold mail_New.P
  intro h1 e1
  have k1 : Fr [] h h1 := by rw [e1]; exact Fr.new _ _ _
  have b1 : bk h1 (sz h) = some (blk 59 (chs (List.replicate 8 none))) := by rw [e1]; exact new_at _ _
  refine hR _ _ ⟨rfl, ⟨b1, rfl, rfl, fun i hi => ?_, fun i r hr => ?_, fun i j r hr => ?_, f.size, f.trans k1⟩, k1⟩
  · rw [List.getElem?_replicate] at hi ⊢
    by_cases c : i < 8
    · rw [if_pos c]
    · rw [if_neg c] at hi; cases hi
  · rw [List.getElem?_replicate] at hr
    split at hr <;> cases hr
  · rw [List.getElem?_replicate] at hr
    split at hr <;> cases hr
end Go.Proofs.Ytfakjdnicdlpcaa
