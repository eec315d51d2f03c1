import Derived.Test.YtpphbnhlfgadkaaWj
namespace Go.Proofs.Ytpphbnhlfgadkaa
open Go Go.Wd
set_option linter.unusedVariables false
set_option linter.unusedSimpArgs false

def iU (x : Nat) : List Value := [.int .u32 x]
theorem iU_len (x : Nat) : (iU x).length = 1 := rfl
theorem rows_u {rows : List (List Value)} (hw : ∀ r ∈ rows, wfCells [.int .u32] r) : ∃ l : List Nat, rows.length = l.length ∧ rows.flatten = encL iU l ∧ ∀ x ∈ l, x < 4294967296 :=
  rows_enc (f := iU) (ok := fun x => x < 4294967296) (rows := rows) (fun r hr => by
    obtain ⟨v1, r, rfl, h1, h⟩ := wfCells_cons (hw r hr)
    obtain rfl := wfCells_nil h
    obtain ⟨b1, rfl, l1, u1⟩ := wfInt h1
    rw [min_u32] at l1
    rw [max_u32] at u1
    exact ⟨b1.toNat, by simp only [iU]; rw [Int.toNat_of_nonneg l1], by omega⟩)

set_option maxHeartbeats 2000000 in
theorem answers_law {h : Hp} (n root : Int) {a a3 : Option Addr} {c c3 : Nat} {L : List Pt} {A : List Nat} (g : rowAtK h a (encL Pt.cells L)) (hok : ∀ x ∈ L, x.ok) (g3 : rowAtK h a3 (encL iU A)) (hok3 : ∀ x ∈ A, x < 4294967296) (acc : Int) :
    CallsH Try.prog 7 [.int .i64 n, .slice a L.length c, .int .i64 root, .slice a3 A.length c3, .int .i64 acc] h fun v h' => v = .bool true ∧ Fr [] h h' := by
  refine calls_k fun R hR => ?_
  apply warderlaw07_WalkAnswers.calls
  unfold warderlaw07_WalkAnswers.P
  refine (alive_spec h).mono ?_
  rintro v h1 ⟨rfl, f1⟩
  have yes := fun h' (f : Fr [] h h') => hR (.bool true) h' ⟨rfl, f⟩
  refine ⟨_, rfl, fun hc => absurd hc (by simp), fun _ => ?_⟩
  refine ⟨fun h2 => h2 = h1 ∧ (∃ m : Nat, n = m ∧ 1 ≤ m ∧ m ≤ 100 ∧ L.length ≤ 100) ∧ A.length ≤ 60, ?_, ?_⟩
  · refine (great_spec n a L.length c).mono ?_
    rintro v h2 ⟨rfl, rfl⟩
    refine ⟨_, rfl, fun _ => yes _ f1, fun hg => ⟨fun _ => yes _ f1, fun d1 => ?_⟩⟩
    simp only [decide_eq_false_iff_not] at d1
    exact ⟨rfl, great_no hg, by omega⟩
  rintro h2 ⟨rfl, ⟨m, rfl, hm1, hm2, hL⟩, hA⟩
  refine (Both_spec hm1 (by omega) (g.fr f1 (by simp)) hok (by omega)).mono ?_
  rintro v h3 ⟨q, fb, q2, rb, rfl, w3, r3, hge, f3⟩
  refine ⟨_, _, rfl, fun h4 => h4 = h3, ⟨fun hc => absurd hc (by simp [notIf]), fun _ => ⟨fun hc => absurd hc (by simp [notIf]), fun _ => rfl⟩⟩, ?_⟩
  rintro h4 rfl
  generalize putsB m L = B at *
  have fr3 := f1.trans f3
  have hlen := w3.len
  refine (Clone_spec w3).mono ?_
  rintro v h5 ⟨q9, fb9, rfl, w5, hq9, hfb9, f5⟩
  have fr5 := fr3.trans f5
  have m5 := w3.fr f5 (by simp) (by simp)
  have r5 := r3.fr f5 (by simp) (by simp)
  refine ⟨_, rfl, ?_⟩
  refine ⟨fun i h6 => ∃ k : Nat, i = k ∧ k ≤ A.length ∧ MS h6 q fb m B ∧ RS h6 q2 rb B ∧ MS h6 q9 fb9 m B ∧ Fr [] h h6, fun i _ => A.length - i.toNat, ⟨0, rfl, by omega, m5, r5, w5, fr5⟩, ?_⟩
  rintro i h6 ⟨k, rfl, hk, m6, r6, w6, fr6⟩
  by_cases hkl : k < A.length
  · refine ⟨fun _ => ?_, fun hf => absurd hf (by simp; omega)⟩
    obtain ⟨x, hx⟩ : ∃ x, A[k]? = some x := ⟨_, List.getElem?_eq_getElem hkl⟩
    have okx := hok3 x (List.mem_of_getElem? hx)
    have key : ∀ h8, Fr [] h h8 → ∃ b o, a3 = some ⟨b, o, none⟩ ∧ cellAt h8 b (o + (k : Int).toNat * 1) = some (.int .u32 x) := by
      intro h8 f8
      obtain ⟨b1, o1, ha, e1'⟩ := encL_one (f := iU) (m := 1) iU_len (g3.fr f8 (by simp)) hx (by omega)
      exact ⟨b1, o1, ha, e1' 0 (by omega)⟩
    obtain ⟨b, o, hab, _⟩ := key h6 fr6
    have cell : ∀ h8, Fr [] h h8 → cellAt h8 b (o + (k : Int).toNat * 1) = some (.int .u32 x) := by
      intro h8 f8
      obtain ⟨b', o', e, hc⟩ := key h8 f8
      rw [hab] at e
      cases e
      exact hc
    refine ⟨by omega, by omega, _, _, hab, _, cell _ fr6, by omega, by omega, _, _, hab, _, cell _ fr6, ?_⟩
    refine (Walk_spec m6 root okx acc).mono ?_
    generalize hW : walkOf m B root x acc = W
    rintro v h7 ⟨rfl, f7⟩
    have fr7 := fr6.trans f7
    refine ⟨_, _, _, _, _, _, rfl, cell _ fr7, ?_⟩
    refine (of_spec W).mono ?_
    rintro v h8 ⟨rfl, f8⟩
    have fr8 := fr7.trans f8
    refine ⟨_, _, _, _, _, _, rfl, cell _ fr8, ?_⟩
    have r8 := (r6.fr f7 (by simp) (by simp)).fr f8 (by simp) (by simp)
    refine (rWalk_spec r8 hlen root okx acc).mono ?_
    rw [hW]
    rintro v h9 ⟨rfl, f9⟩
    have fr9 := fr8.trans f9
    refine ⟨_, _, _, _, _, _, rfl, fun hc => absurd hc (by simp [notIf]), fun _ => ?_⟩
    have t69 := (f7.trans f8).trans f9
    have m9 := m6.fr t69 (by simp) (by simp)
    have r9 := r8.fr f9 (by simp) (by simp)
    refine ⟨by omega, by omega, _, _, hab, _, cell _ fr9, by decide, ?_⟩
    have ep : IntKind.wrap .i64 (shrV .u32 (x : Int) 8) = ((x / 256 : Nat) : Int) := by
      rw [show (8 : Int) = ((8 : Nat) : Int) from rfl, shr32 (by decide), wrapn_i64 _ (by omega)]
    rw [ep]
    refine (Look_spec m9 root _).mono ?_
    have hk := look_at (n := m) (B := B) (root := root) (a := x) rfl
    generalize hV : walkOf m B root x 0 = V at *
    generalize lookOk m B root ((x / 256 : Nat) : Int) = ok at *
    generalize lookE m B root ((x / 256 : Nat) : Int) = E at *
    obtain ⟨hk1, hk2⟩ := hk
    rintro v h11 ⟨rfl, f11⟩
    refine ⟨_, _, _, _, _, _, rfl, ?_⟩
    intro h12 e12
    refine ⟨truly_rfl, _, _, by rw [e12]; exact new_at _ _, by simp, ?_⟩
    intro h13 e13
    obtain ⟨k13, f13, s13⟩ := ent_keep (x := E) e12 e13 rfl
    clear e12 e13
    have fr13 := (fr9.trans f11).trans f13
    refine ⟨by omega, by omega, _, _, hab, _, cell _ fr13, ?_⟩
    have r13 := (r9.fr f11 (by simp) (by simp)).fr f13 (by simp) (by simp)
    refine (rWalk_spec r13 hlen root okx 0).mono ?_
    rw [hV]
    rintro v h14 ⟨rfl, f14⟩
    refine ⟨_, _, _, _, _, _, rfl, ?_⟩
    intro h15 e15
    refine ⟨truly_rfl, _, _, by rw [e15]; exact new_at _ _, by simp, ?_⟩
    intro h16 e16
    obtain ⟨k16, f16, s16⟩ := hit_keep (x := V) e15 e16 rfl
    clear e15 e16
    have t16 := f14.trans f16
    have kE := t16.at k13 (by simp)
    have fr16 := fr13.trans t16
    have t616 := ((t69.trans f11).trans f13).trans t16
    have next : (∃ k' : Nat, ((k + 1 : Nat) : Int) = k' ∧ k' ≤ A.length ∧ MS h16 q fb m B ∧ RS h16 q2 rb B ∧ MS h16 q9 fb9 m B ∧ Fr [] h h16) ∧ A.length - ((k + 1 : Nat) : Int).toNat < A.length - (k : Int).toNat :=
      ⟨⟨k + 1, rfl, by omega, m6.fr t616 (by simp) (by simp), r6.fr t616 (by simp) (by simp), w6.fr t616 (by simp) (by simp), fr16⟩, decM hkl⟩
    rw [wrapN hkl (by omega)]
    have e0 : (V.fault == 0) = ok := by rw [hk1]; rfl
    refine ⟨V.fault, (cellAt_of k16 0).trans rfl, fun hc => absurd hc (by rw [e0]; cases ok <;> simp [notIf]), fun _ => ⟨fun c1 => ?_, fun c1 => ?_⟩⟩
    · rw [c1] at hk1
      have c2 : V.fault = 0 := by simpa using hk1.symm
      rw [if_pos c2] at hk2
      subst hk2
      refine ⟨V.frame, (cellAt_of kE 4).trans rfl, V.frame, (cellAt_of k16 2).trans rfl, fun hc => absurd hc (by simp), fun _ => ?_⟩
      refine ⟨V.write, (cellAt_of kE 1).trans rfl, V.write, (cellAt_of k16 3).trans rfl, fun hc => absurd hc (by cases V.write <;> simp [notIf]), fun _ => ?_⟩
      refine ⟨V.exec, (cellAt_of kE 2).trans rfl, V.exec, (cellAt_of k16 4).trans rfl, fun hc => absurd hc (by cases V.exec <;> simp [notIf]), fun _ => ?_⟩
      refine ⟨V.block, (cellAt_of kE 3).trans rfl, V.block, (cellAt_of k16 5).trans rfl, fun hc => absurd hc (by cases V.block <;> simp [notIf]), fun _ => ?_⟩
      refine ⟨true, (cellAt_of kE 0).trans rfl, fun hc => absurd hc (by simp), fun _ => ⟨fun hc => absurd hc (by rw [c1]; simp), fun _ => next⟩⟩
    · rw [c1] at hk1
      have c2 : ¬ V.fault = 0 := by simpa using hk1.symm
      rw [if_neg c2] at hk2
      subst hk2
      refine ⟨fun _ => ?_, fun _ => next⟩
      refine Ent.rd (o := 0) noEnt (fun j hj => by rw [Nat.zero_add]; exact cellAt_of kE j) ?_
      exact ⟨fun hc => absurd hc (by decide), fun _ => next⟩
  · have : k = A.length := by omega
    subst this
    refine ⟨fun hf => absurd hf (by simp), fun _ => ?_⟩
    refine (Differ_spec m6 w6).mono ?_
    rw [diffs_same]
    rintro v h17 ⟨a17, c17, rfl, _, _, f17⟩
    exact ⟨_, _, _, rfl, yes _ (fr6.trans f17)⟩
theorem u32_nat {a : Int} (w : (Lit.int .u32 a).wf = true) : ∃ n : Nat, a = n ∧ n < 4294967296 := by
  obtain ⟨h1, h2⟩ := wf_bounds w
  rw [min_u32] at h1
  rw [max_u32] at h2
  exact ⟨a.toNat, by omega, by omega⟩
theorem u8_nat {a : Int} (w : (Lit.int .u8 a).wf = true) : ∃ n : Nat, a = n ∧ n < 256 := by
  obtain ⟨h1, h2⟩ := wf_bounds w
  rw [min_u8] at h1
  rw [max_u8] at h2
  exact ⟨a.toNat, by omega, by omega⟩
end Go.Proofs.Ytpphbnhlfgadkaa
