import Derived.Test.YtmldiibfmhkgjaaPb
namespace Go.Proofs.Ytmldiibfmhkgjaa
open Go Go.Wd
set_option linter.unusedVariables false
set_option linter.unusedSimpArgs false

/-- A slice of bytes of its own: what a call hands back. -/
theorem clone_row {h : Hp} {a : Option Addr} {T c : Nat} {L : List Nat} (r : rowAtK h a (encL iB L)) (hl : L.length ≤ 1000000) {K : Option Addr → Nat → Nat → Hp → Prop}
    (hK : ∀ a' c' h2, Own h2 5 1 a' L.length c' (encL iB L) → (∀ y ∈ foot a', sz h ≤ y ∧ y < sz h2) → Fr [] h h2 → K a' L.length c' h2) :
    ∀ h1 : Hp, h1 = new h (blk 5 []) → appendN h1 5 1 1 [.int .u8 0] (some ⟨sz h, 0, none⟩) 0 0 a L.length K := by
  rintro h1 rfl
  have f1 : Fr [] h (new h (blk 5 [])) := Fr.new _ _ _
  have o1 : Own (new h (blk 5 [])) 5 1 (some ⟨sz h, 0, none⟩) 0 0 [] := ⟨rfl, .inr ⟨_, [], rfl, new_at _ _, rfl, by omega⟩⟩
  have hn : (encL iB L).length = L.length * 1 := encL_length iB_len L
  have := append_own (K := K) (m := L.length) o1 (z := [.int .u8 0]) rfl hn (oneCells_B L) (r.fr f1 (by simp)) (bytes := 1) (by omega) (by omega)
  refine this ?_
  intro a' c' h2 o2 f2 ha
  rw [Nat.zero_add] at o2 ⊢
  have fx : Fr [] h h2 := f1.later f2 (by simp [foot])
  refine hK a' c' h2 (by simpa using o2) (fun y hy => ⟨?_, o2.foot_lt y hy⟩) fx
  rcases ha with rfl | ⟨rfl, _⟩
  · simp [foot] at hy; omega
  · simp [foot, sz_new] at hy; omega
def frameOf (B : List Nat) (i : Nat) : List Nat := (B.drop (i * 256)).take 256
theorem frameOf_len {B : List Nat} {n i : Nat} (hl : B.length = n * 256) (hi : i < n) : (frameOf B i).length = 256 := by unfold frameOf; simp; omega
theorem frameOf_at {B : List Nat} {i j : Nat} (hj : j < 256) : (frameOf B i)[j]? = B[i * 256 + j]? := by unfold frameOf; rw [List.getElem?_take, if_pos hj, List.getElem?_drop]
def fillE (n : Nat) (i : Int) (l : Nat) : Int := if isIn n i then (if 256 < l then 14 else 0) else 11
def full (b : List Nat) : List Nat := b ++ List.replicate (256 - b.length) 0
theorem full_len {b : List Nat} (h : b.length ≤ 256) : (full b).length = 256 := by simp [full]; omega
theorem full_byt {b : List Nat} (h : Byt b) : Byt (full b) := fun x hx => by
  rcases List.mem_append.1 hx with hx | hx
  · exact h x hx
  · exact byt_rep _ x hx
def fillL (n : Nat) (B : List Nat) (i : Int) (b : List Nat) : List Nat := if fillE n i b.length = 0 then putR B (i.toNat * 256) (full b) else B
theorem fill_ok {n : Nat} {i : Int} {l : Nat} (h : fillE n i l = 0) : ∃ k : Nat, i = k ∧ k < n ∧ l ≤ 256 := by
  unfold fillE at h
  split at h
  · rename_i hi
    obtain ⟨k, rfl, hk⟩ := isIn_nat hi
    split at h
    · simp at h
    · exact ⟨k, rfl, hk, by omega⟩
  · simp at h
theorem fillL_len {n : Nat} {B : List Nat} (hl : B.length = n * 256) (i : Int) (b : List Nat) : (fillL n B i b).length = B.length := by
  unfold fillL
  split
  · rename_i he
    obtain ⟨k, rfl, hk, hb⟩ := fill_ok he
    rw [Int.toNat_natCast]
    exact putR_len (by rw [full_len hb]; omega)
  · rfl
theorem fillL_byt {n : Nat} {B b : List Nat} (h1 : Byt B) (h2 : Byt b) (i : Int) : Byt (fillL n B i b) := by
  unfold fillL; split
  · exact putR_byt h1 (full_byt h2) _
  · exact h1
theorem Clone_spec {h : Hp} {q fb n : Nat} {B : List Nat} (w : MS h q fb n B) : CallsH Try.prog 27 [.pointer (some ⟨q, 0, none⟩)] h fun v h' =>
    ∃ q' fb', v = .pointer (some ⟨q', 0, none⟩) ∧ MS h' q' fb' n B ∧ sz h ≤ q' ∧ sz h ≤ fb' ∧ Fr [] h h' := by
  refine calls_k fun R hR => ?_
  apply phys_Mem_Clone.calls
  unfold phys_Mem_Clone.P
  obtain ⟨c, hc, hr⟩ := w.row
  obtain ⟨t, ht⟩ := w.arr
  have hl := w.len
  have hn1 := w.lo
  have hn2 := w.hi
  refine ⟨_, _, _, hr, ?_⟩
  apply slices_Clone.calls
  unfold slices_Clone.P
  refine ⟨fun c => absurd c (by simp [notIf]), fun _ => ?_⟩
  rintro h1 rfl
  have f1 : Fr [] h (new h (blk 113 [])) := Fr.new _ _ _
  have o1 : Own (new h (blk 113 [])) 113 256 (some ⟨sz h, 0, none⟩) 0 0 [] := ⟨rfl, .inr ⟨_, [], rfl, new_at _ _, rfl, by omega⟩⟩
  have hbl : (encL iB B).length = n * 256 := by rw [encL_length iB_len, hl, Nat.mul_one]
  refine append_own (m := n) o1 (z := List.replicate 256 (.int .u8 0)) List.length_replicate hbl (oneCells_B B) (ht.row.fr f1 (by simp)) (by omega) (by omega) ?_
  intro a' c' h2 o2 f2 ha
  rw [Nat.zero_add, List.nil_append] at o2
  rw [Nat.zero_add]
  have fx : Fr [] h h2 := f1.later f2 (by simp [foot])
  have hlt2 := o2.foot_lt
  rcases o2.2 with ⟨_, h0, _⟩ | ⟨b, rest, rfl, hb, hlen, hle⟩
  · omega
  have hbge : sz h ≤ b := by
    rcases ha with e | ⟨e, _⟩
    · cases e; exact Nat.le_refl _
    · cases e; rw [sz_new]; omega
  refine ⟨_, _, _, rfl, ?_⟩
  rintro h3 rfl
  have f3 : Fr [] h2 (new h2 (blk 115 [.slice (some ⟨b, 0, none⟩) n c'])) := Fr.new _ _ _
  have k3 := new_at h2 (blk 115 [.slice (some ⟨b, 0, none⟩) n c'])
  have hb2 := lt_of_bk hb
  exact hR _ _ ⟨sz h2, b, rfl, ⟨⟨c', hle, k3⟩, ⟨rest, ⟨f3.at hb (by simp)⟩⟩, hl, w.byt, hn1, hn2, by omega⟩, fx.size, hbge, fx.trans f3⟩

/-! ## which frames differ -/
def diffP (B D : List Nat) (i : Nat) : Bool := !decide (frameOf B i = frameOf D i)
def diffs (n : Nat) (B D : List Nat) : List Int := ((List.range n).filter (diffP B D)).map Int.ofNat
theorem diffs_next (k : Nat) (B D : List Nat) : diffs (k + 1) B D = diffs k B D ++ (if diffP B D k then [(k : Int)] else []) := by
  unfold diffs
  rw [List.range_succ, List.filter_append, List.map_append]
  congr 1
  cases h : diffP B D k <;> simp [h]
theorem diffs_len (n : Nat) (B D : List Nat) : (diffs n B D).length ≤ n := by
  unfold diffs
  rw [List.length_map]
  exact Nat.le_trans (List.length_filter_le _ _) (by simp)
theorem diffs_same (n : Nat) (B : List Nat) : diffs n B B = [] := by simp [diffs, diffP]
theorem Differ_spec {h : Hp} {q fb q2 fb2 n : Nat} {B D : List Nat} (w : MS h q fb n B) (w2 : MS h q2 fb2 n D) :
    CallsH Try.prog 31 [.pointer (some ⟨q, 0, none⟩), .pointer (some ⟨q2, 0, none⟩)] h fun v h' => ∃ a c, v = .slice a (diffs n B D).length c ∧ rowAtK h' a (encL iN (diffs n B D)) ∧ (∀ y ∈ foot a, sz h ≤ y ∧ y < sz h') ∧ Fr [] h h' := by
  refine calls_k fun R hR => ?_
  apply phys_Mem_Differ.calls
  unfold phys_Mem_Differ.P
  obtain ⟨c1, _, hr1⟩ := w.row
  obtain ⟨c2, _, hr2⟩ := w2.row
  have hn := w.hi
  have hmax : maxI ((n : Nat) : Int) ((n : Nat) : Int) = n := by unfold maxI; split <;> rfl
  refine ⟨_, _, _, hr1, _, _, _, hr2, ?_⟩
  rw [hmax]
  refine ⟨fun oa ol oc i h1 => ∃ k : Nat, i = k ∧ k ≤ n ∧ ol = (diffs k B D).length ∧ Own h1 3 1 oa ol oc (encL iN (diffs k B D)) ∧ (∀ y ∈ foot oa, sz h ≤ y) ∧ MS h1 q fb n B ∧ MS h1 q2 fb2 n D ∧ Fr [] h h1, fun _ _ _ i _ => n - i.toNat,
    ⟨0, rfl, by omega, rfl, Own.nil _ _ _, by simp [foot], w, w2, Fr.refl _ _⟩, ?_⟩
  rintro oa ol oc i h1 ⟨k, rfl, hk, rfl, o1, fo, v1, v2, f1⟩
  by_cases hkn : k < n
  · refine ⟨fun _ => ?_, fun hf => absurd hf (by simp; omega)⟩
    refine (there_spec v1 k).mono ?_
    rintro v h2 ⟨rfl, rfl⟩
    refine ⟨_, rfl, fun c => absurd c (by rw [in_nat hkn]; simp), fun _ => ?_⟩
    refine (there_spec v2 k).mono ?_
    rintro v h3 ⟨rfl, rfl⟩
    refine ⟨_, rfl, fun c => absurd c (by rw [in_nat hkn]; simp), fun _ => ?_⟩
    obtain ⟨c3, _, hr3⟩ := v1.row
    obtain ⟨c4, _, hr4⟩ := v2.row
    obtain ⟨t1, ht1⟩ := v1.arr
    obtain ⟨t2, ht2⟩ := v2.arr
    have hl1 := w.len
    have hl2 := w2.len
    have hf1 := frameOf_len hl1 hkn
    have hf2 := frameOf_len hl2 hkn
    have ra1 := readAt_B ht1 (k * 256) 256 (by omega)
    have ra2 := readAt_B ht2 (k * 256) 256 (by omega)
    have hdl := diffs_len k B D
    have hnx := diffs_next k B D
    refine ⟨_, _, _, hr3, by omega, by omega, _, _, rfl, encL iB (frameOf B k), by rw [encL_length iB_len, hf1], by rw [Int.toNat_natCast, Nat.zero_add]; exact ra1, _, _, _, hr4, by omega, by omega, _, _, rfl, encL iB (frameOf D k), by rw [encL_length iB_len, hf2], by rw [Int.toNat_natCast, Nat.zero_add]; exact ra2,
      (frameOf B k).map Int.ofNat, (frameOf D k).map Int.ofNat, by rw [List.length_map, hf1], by rw [List.length_map, hf2], enc_map _, enc_map _, fun c => ?_, fun c => ?_⟩
    · have hne : diffP B D k = true := by
        unfold diffP
        by_cases e : frameOf B k = frameOf D k
        · rw [e] at c; simp [notIf] at c
        · simp [e]
      rw [if_pos hne] at hnx
      intro h4 h4e
      refine append_new (h0 := h) (F := []) o1 rfl f1 (fun y hy => .inr (fo y hy)) rfl rfl h4e (by omega) (by omega) ?_
      intro a' c' h5 o5 f5 g5 l5 t5
      have hge : ∀ y ∈ foot a', sz h ≤ y := by
        intro y hy
        rcases t5 with rfl | t5
        · exact fo y hy
        · have := t5 y hy; have := f1.size; omega
      have l1 := w.lt
      have l2 := w.ltf
      have l3 := w2.lt
      have l4 := w2.ltf
      rw [wrapN hkn (by omega)]
      refine ⟨⟨k + 1, rfl, by omega, by rw [hnx]; simp, ?_, hge, v1.fr l5 (fun hq => by have := fo _ hq; omega) (fun hq => by have := fo _ hq; omega), v2.fr l5 (fun hq => by have := fo _ hq; omega) (fun hq => by have := fo _ hq; omega), f5⟩, decM hkn⟩
      rw [hnx, encL_append]
      exact o5
    · have hne : diffP B D k = false := by
        unfold diffP
        by_cases e : frameOf B k = frameOf D k
        · simp [e]
        · exfalso
          have : ¬ (frameOf B k).map Int.ofNat = (frameOf D k).map Int.ofNat := by
            intro h'
            exact e (encB_inj (by rw [enc_map, enc_map, h']))
          simp [notIf, this] at c
      rw [hne, if_neg (by simp), List.append_nil] at hnx
      rw [wrapN hkn (by omega)]
      exact ⟨⟨k + 1, rfl, by omega, by rw [hnx], by rw [hnx]; exact o1, fo, v1, v2, f1⟩, decM hkn⟩
  · have : k = n := by omega
    subst this
    exact ⟨fun hf => absurd hf (by simp), fun _ => hR _ _ ⟨oa, oc, rfl, o1.row, fun y hy => ⟨fo y hy, o1.foot_lt y hy⟩, f1⟩⟩
end Go.Proofs.Ytmldiibfmhkgjaa
