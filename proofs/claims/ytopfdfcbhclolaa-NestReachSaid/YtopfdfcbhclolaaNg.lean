import Derived.Test.YtopfdfcbhclolaaNf
namespace Go.Proofs.Ytopfdfcbhclolaa
open Go Go.Wd
set_option linter.unusedVariables false
set_option linter.unusedSimpArgs false

/-! ## what is seen first -/
def plainL (k : Nat) : List Pt := ⟨0, 257⟩ :: (List.range k).map fun i => ⟨256 + 4 * i, (i + 4) * 256 + 7⟩
theorem plain_next (k : Nat) : plainL (k + 1) = plainL k ++ [⟨256 + 4 * k, (k + 4) * 256 + 7⟩] := by
  unfold plainL
  rw [List.range_succ, List.map_append]
  rfl
theorem plain_len (k : Nat) : (plainL k).length = k + 1 := by simp [plainL]
def aliveL : List Pt := plainL 16 ++ [⟨1544, 769⟩, ⟨1804, 1285⟩, ⟨2336, 77⟩]
def aliveB : List Nat := putsB 30 aliveL
theorem al1 : trOf 30 aliveB 0 33568 512 2 = ⟨0, 0, 0, false, 6, 5, 2336, false, true⟩ := by decide +kernel
theorem al2 : trOf 30 aliveB 0 33568 512 1 = ⟨1, 4, 33568, false, 4, 0, 0, false, false⟩ := by decide +kernel
theorem al3 : trOf 30 aliveB 0 4128 0 0 = ⟨2, 3, 4128, false, 2, 0, 0, false, false⟩ := by decide +kernel
theorem al4 : fetW 30 aliveB ⟨0, 0, 0, false, 6, 5, 2336, false, true⟩ = 77 := by decide +kernel
theorem al5 : trOf 30 aliveB 0 291 0 1 = ⟨0, 0, 0, false, 2, 1, 1315, true, true⟩ := by decide +kernel
theorem al_ok : ∀ x ∈ aliveL, x.ok := by
  intro x hx
  have h : ∀ x ∈ aliveL, x.addr < 4294967296 ∧ x.value < 4294967296 := by decide
  exact h x hx
theorem pt_eq : ∀ k : Nat, k < 16 → IntKind.wrap .u32 (256 + (IntKind.wrap .u32 (4 * (k : Int)))) = ((256 + 4 * k : Nat) : Int) ∧ borV .u32 (shlV .u32 (IntKind.wrap .u32 ((k : Int) + 4)) 8) 7 = (((k + 4) * 256 + 7 : Nat) : Int) ∧ IntKind.wrap .u32 ((k : Int) + 1) = ((k + 1 : Nat) : Int) := by decide
theorem Plain_spec (h : Hp) : CallsH Try.prog 24 [] h fun v h' => ∃ a c, v = .slice a 17 c ∧ Own h' 49 2 a 17 c (encL Pt.cells (plainL 16)) ∧ (∀ x ∈ foot a, sz h ≤ x) ∧ Fr [] h h' := by
  refine calls_k fun R hR => ?_
  apply warderlaw08_Plain.calls
  unfold warderlaw08_Plain.P
  intro h1 e1
  have b1 : bk h1 (sz h) = some (blk 49 (Pt.cells ⟨0, 257⟩)) := by rw [e1]; exact new_at _ _
  have f1 : Fr [] h h1 := by rw [e1]; exact Fr.new _ _ _
  clear e1
  refine ⟨fun a l c i h2 => ∃ k : Nat, i = k ∧ k ≤ 16 ∧ l = k + 1 ∧ Own h2 49 2 a l c (encL Pt.cells (plainL k)) ∧ (∀ x ∈ foot a, sz h ≤ x) ∧ Fr [] h h2, fun _ _ _ i _ => 16 - i.toNat,
    ⟨0, rfl, by omega, rfl, ⟨rfl, .inr ⟨sz h, [], rfl, by rw [b1]; rfl, rfl, Nat.le_refl _⟩⟩, by simp [foot], f1⟩, ?_⟩
  rintro a l c i h2 ⟨k, rfl, hk, rfl, o2, fa, f2⟩
  refine ⟨fun hc => ?_, fun hc => ?_⟩
  · have hk : k < 16 := by
      have : (k : Int) < 16 := by simpa using hc
      omega
    obtain ⟨q1, q2, q3⟩ := pt_eq k hk
    rw [q1, q2, q3]
    refine ⟨by decide, ?_⟩
    intro h3 e3
    refine append_new (h0 := h) (F := []) o2 rfl f2 (fun x hx => .inr (fa x hx)) rfl rfl e3 (by omega) (by omega) ?_
    intro a' c' h4 o4 f4 fa4 _ _
    refine ⟨⟨k + 1, rfl, by omega, rfl, by rw [plain_next, encL_append]; exact o4, fun x hx => (fa4 x hx).resolve_left (by simp), f4⟩, decM hk⟩
  · have hk : k = 16 := by
      have : ¬ (k : Int) < 16 := by simpa using hc
      omega
    subst hk
    exact hR _ _ ⟨a, c, rfl, o2, fa, f2⟩
set_option maxHeartbeats 1000000 in
theorem alive_spec (h : Hp) : CallsH Try.prog 8 [] h fun v h' => v = .bool true ∧ Fr [] h h' := by
  refine calls_k fun R hR => ?_
  apply warderlaw08_alive.calls
  unfold warderlaw08_alive.P
  refine (Plain_spec h).mono ?_
  rintro v h1 ⟨a, c, rfl, o1, fa, f1⟩
  refine ⟨_, _, _, rfl, ?_⟩
  intro h2 e2
  have b2 : bk h2 (sz h1) = some (blk 49 (encL Pt.cells [⟨1544, 769⟩, ⟨1804, 1285⟩, ⟨2336, 77⟩])) := by rw [e2]; exact new_at _ _
  have f2 : Fr [] h1 h2 := by rw [e2]; exact Fr.new _ _ _
  clear e2
  refine append_own (news := encL Pt.cells [⟨1544, 769⟩, ⟨1804, 1285⟩, ⟨2336, 77⟩]) (o1.fr f2 (by simp)) rfl rfl rfl (.inr ⟨sz h1, 0, rfl, readAt_of b2 0 _ (by simp)⟩) (by omega) (by omega) ?_
  intro a' c' h3 o3 f3 hor
  have fr3 : Fr [] h h3 := (f1.trans f2).later f3 fa
  have hrow : rowAtK h3 a' (encL Pt.cells aliveL) := by
    unfold aliveL
    rw [encL_append]
    exact o3.row
  have hlen : aliveL.length = 20 := by decide
  have hBo := Both_spec (n := 30) (by decide) (by decide) (c := c') hrow al_ok (by rw [hlen]; decide)
  rw [hlen] at hBo
  refine CallsH.mono hBo ?_
  rintro v h4 ⟨q, fb, q2, rb, rfl, m4, r4, -, f4⟩
  have fr4 := fr3.trans f4
  refine ⟨_, _, rfl, fun hn => absurd hn (by simp [notIf]), fun _ => ?_⟩
  have m4 : MS h4 q fb 30 aliveB := m4
  refine (Translate_spec m4 (root := 512) (by decide) 0 (va := 33568) (by decide) 2).mono ?_
  rw [al1]
  rintro v h5 ⟨rfl, f5⟩
  refine ⟨_, _, _, _, _, _, _, _, _, rfl, ?_⟩
  refine put_local rfl (by decide) ?_
  intro h7 k7 f7 s7
  have m7 := (m4.fr f5 (by simp) (by simp)).fr f7 (by simp) (by simp)
  refine (Translate_spec m7 (root := 512) (by decide) 0 (va := 33568) (by decide) 1).mono ?_
  rw [al2]
  rintro v h8 ⟨rfl, f8⟩
  refine ⟨_, _, _, _, _, _, _, _, _, rfl, ?_⟩
  refine put_local rfl (by decide) ?_
  intro h10 k10 f10 s10
  have m10 := (m7.fr f8 (by simp) (by simp)).fr f10 (by simp) (by simp)
  refine (Translate_spec m10 (root := 0) (by decide) 0 (va := 4128) (by decide) 0).mono ?_
  rw [al3]
  rintro v h11 ⟨rfl, f11⟩
  refine ⟨_, _, _, _, _, _, _, _, _, rfl, ?_⟩
  refine put_local rfl (by decide) ?_
  intro h13 k13 f13 s13
  have m13 := (m10.fr f11 (by simp) (by simp)).fr f13 (by simp) (by simp)
  refine (Fetch_spec m13 (root := 512) (by decide) 0 (va := 33568) (by decide) (by rw [al1]; decide)).mono ?_
  rw [al1, al4]
  rintro v h14 ⟨rfl, f14⟩
  refine ⟨_, _, _, _, _, _, _, _, _, _, rfl, ?_⟩
  refine put_local rfl (by decide) ?_
  intro h16 k16 f16 s16
  have m16 := (m13.fr f14 (by simp) (by simp)).fr f16 (by simp) (by simp)
  refine (Ipa_spec m16 0 (va := 291) (by decide) 1).mono ?_
  rw [al5]
  rintro v h17 ⟨rfl, f17⟩
  refine ⟨_, _, _, _, _, _, _, _, _, rfl, ?_⟩
  refine put_local rfl (by decide) ?_
  intro h19 k19 f19 s19
  have f1719 := f17.trans f19
  have k16 := f1719.at k16 (by simp)
  have f1419 := (f14.trans f16).trans f1719
  have k13 := f1419.at k13 (by simp)
  have f1119 := (f11.trans f13).trans f1419
  have k10 := f1119.at k10 (by simp)
  have f819 := (f8.trans f10).trans f1119
  have k7 := f819.at k7 (by simp)
  have fr19 : Fr [] h h19 := fr4.trans ((f5.trans f7).trans f819)
  refine Tl.rd' ⟨0, 0, 0, false, 6, 5, 2336, false, true⟩ k7 ⟨fun _ => ?_, fun hn => absurd hn (by decide)⟩
  refine ⟨_, (cellAt_of k10 _).trans rfl, _, (cellAt_of k10 _).trans rfl, _, (cellAt_of k10 _).trans rfl, _, (cellAt_of k10 _).trans rfl, fun _ => ?_, fun hn => absurd hn (by decide)⟩
  refine ⟨_, (cellAt_of k13 _).trans rfl, _, (cellAt_of k13 _).trans rfl, _, (cellAt_of k13 _).trans rfl, _, (cellAt_of k13 _).trans rfl, fun _ => ⟨fun _ => ?_, fun hn => absurd hn (by decide)⟩, fun hn => absurd hn (by decide)⟩
  refine Tl.rd' ⟨0, 0, 0, false, 6, 5, 2336, false, true⟩ k16 ?_
  refine Tl.rd' ⟨0, 0, 0, false, 6, 5, 2336, false, true⟩ k7 ⟨fun _ => ?_, fun hn => absurd hn (by decide)⟩
  exact ⟨_, (cellAt_of k19 6).trans rfl, fun _ => ⟨_, (cellAt_of k19 7).trans rfl, hR _ _ ⟨rfl, fr19⟩⟩, fun hn => absurd hn (by decide)⟩
end Go.Proofs.Ytopfdfcbhclolaa
