import Derived.Test.YtopfdfcbhclolaaWf
namespace Go.Proofs.Ytopfdfcbhclolaa
open Go Go.Wd
set_option linter.unusedVariables false
set_option linter.unusedSimpArgs false

/-! ## plain facts of walks -/
def walkF (n : Nat) (F : Fd) (acc : Int) : Hit :=
  if F.f ≠ 0 then ⟨F.f, F.r, 0, false, false, false⟩ else if !allows F.e acc then ⟨4, F.r, 0, false, false, false⟩
  else if (n : Int) ≤ F.e.f then ⟨5, F.r, 0, false, false, false⟩ else ⟨0, F.r, F.e.f, F.e.w, F.e.x, F.e.b⟩
theorem walk_F (n : Nat) (B : List Nat) (root : Int) (a : Nat) (acc : Int) : walkOf n B root a acc = walkF n (foundOf n B root a) acc := rfl
theorem found_same (n : Nat) (B : List Nat) (root : Int) {a b : Nat} (h : a / 256 = b / 256) : foundOf n B root a = foundOf n B root b := by
  have h1 : a / 16384 % 64 = b / 16384 % 64 := by omega
  have h2 : a / 256 % 64 = b / 256 % 64 := by omega
  have h3 : (1048576 ≤ a) = (1048576 ≤ b) := by apply propext; omega
  unfold foundOf
  simp only [h1, h2, h3]
theorem walk_same (n : Nat) (B : List Nat) (root : Int) {a b : Nat} (h : a / 256 = b / 256) (acc : Int) : walkOf n B root a acc = walkOf n B root b acc := by
  rw [walk_F, walk_F, found_same n B root h]
theorem walkF_reads (n : Nat) (F : Fd) (acc : Int) : (walkF n F acc).reads = F.r := by
  unfold walkF
  split
  · rfl
  split
  · rfl
  split <;> rfl
theorem walkF_bad {n : Nat} {F : Fd} {acc : Int} (h : (walkF n F acc).fault ≠ 0) : (walkF n F acc).frame = 0 ∧ (walkF n F acc).write = false ∧ (walkF n F acc).exec = false ∧ (walkF n F acc).block = false := by
  unfold walkF at h ⊢
  split
  · exact ⟨rfl, rfl, rfl, rfl⟩
  rename_i c1
  split
  · exact ⟨rfl, rfl, rfl, rfl⟩
  rename_i c2
  split
  · exact ⟨rfl, rfl, rfl, rfl⟩
  · rename_i c3
    rw [if_neg c1, if_neg c2, if_neg c3] at h
    exact absurd rfl h
theorem allows_0 (e : Ent) : allows e 0 = e.v := by unfold allows; cases e.v <;> rfl
theorem allows_1 (e : Ent) : allows e 1 = (e.v && e.w) := by unfold allows; cases e.v <;> cases e.w <;> rfl
theorem allows_2 (e : Ent) : allows e 2 = (e.v && e.x) := by unfold allows; cases e.v <;> cases e.x <;> rfl
theorem walkF_faults {n : Nat} {F : Fd} (h : (walkF n F 0).fault ≠ 0) : (walkF n F 1).fault = (walkF n F 0).fault ∨ (walkF n F 1).fault = 4 ∧ (walkF n F 0).fault = 5 := by
  unfold walkF at h ⊢
  by_cases c1 : F.f ≠ 0
  · rw [if_pos c1, if_pos c1]; exact .inl rfl
  rw [if_neg c1] at h
  rw [if_neg c1, if_neg c1]
  rw [allows_0] at h
  rw [allows_0, allows_1]
  cases hv : F.e.v
  · exact .inl rfl
  · rw [hv] at h
    rw [if_neg (c := (!true) = true) (by decide)] at h ⊢
    by_cases c3 : (n : Int) ≤ F.e.f
    · rw [if_pos c3]
      cases F.e.w
      · exact .inr ⟨rfl, rfl⟩
      · exact .inl rfl
    · rw [if_neg c3] at h
      exact absurd rfl h
theorem walkF_good {n : Nat} {F : Fd} (h : (walkF n F 0).fault = 0) : ((walkF n F 1).fault = if (walkF n F 0).write then 0 else 4) ∧ ((walkF n F 2).fault = if (walkF n F 0).exec then 0 else 4) ∧ (walkF n F 0).frame < n := by
  unfold walkF at h ⊢
  by_cases c1 : F.f ≠ 0
  · rw [if_pos c1] at h; exact absurd h c1
  rw [if_neg c1] at h
  rw [if_neg c1, if_neg c1, if_neg c1]
  rw [allows_0] at h
  rw [allows_0, allows_1, allows_2]
  cases hv : F.e.v
  · rw [hv] at h
    exact absurd h (by simp)
  · rw [hv] at h
    rw [if_neg (c := (!true) = true) (by decide)] at h ⊢
    by_cases c3 : (n : Int) ≤ F.e.f
    · rw [if_pos c3] at h
      exact absurd h (by simp)
    · rw [if_neg c3]
      refine ⟨?_, ?_, by dsimp only; omega⟩
      · cases F.e.w <;> rfl
      · cases F.e.x <;> rfl
theorem found_apart {n : Nat} {B B' : List Nat} {a : Nat} (hn : 0 < n) (h0 : entAt B' 0 (a / 16384 % 64) = entAt B 0 (a / 16384 % 64))
    (h1 : (entAt B 0 (a / 16384 % 64)).v = true → (entAt B 0 (a / 16384 % 64)).b = false → ∀ t : Nat, t < n → (entAt B 0 (a / 16384 % 64)).f = t → entAt B' t (a / 256 % 64) = entAt B t (a / 256 % 64)) :
    foundOf n B' 0 a = foundOf n B 0 a := by
  unfold foundOf
  rw [show (0 : Int).toNat = 0 from rfl, h0]
  generalize entAt B 0 (a / 16384 % 64) = e at *
  by_cases c1 : 1048576 ≤ a
  · rw [if_pos c1, if_pos c1]
  rw [if_neg c1, if_neg c1]
  by_cases c2 : (!isIn n 0) = true
  · rw [if_pos c2, if_pos c2]
  rw [if_neg c2, if_neg c2]
  by_cases c3 : (!e.v) = true
  · rw [if_pos c3, if_pos c3]
  rw [if_neg c3, if_neg c3]
  by_cases c4 : e.b = true
  · rw [if_pos c4, if_pos c4]
  rw [if_neg c4, if_neg c4]
  by_cases c5 : (!isIn n e.f) = true
  · rw [if_pos c5, if_pos c5]
  rw [if_neg c5, if_neg c5]
  have c5 : isIn n e.f = true := by simpa using c5
  obtain ⟨t, ht, htn⟩ := isIn_nat c5
  rw [ht, Int.toNat_natCast, h1 (by simpa using c3) (by simpa using c4) t htn ht]
theorem look_at {n : Nat} {B : List Nat} {root : Int} {a : Nat} {p : Int} (hp : p = ((a / 256 : Nat) : Int)) :
    lookOk n B root p = decide ((walkOf n B root a 0).fault = 0) ∧ lookE n B root p = if (walkOf n B root a 0).fault = 0 then ⟨true, (walkOf n B root a 0).write, (walkOf n B root a 0).exec, (walkOf n B root a 0).block, (walkOf n B root a 0).frame⟩ else noEnt := by
  subst hp
  have key : lookOk n B root ((a / 256 : Nat) : Int) = decide ((walkOf n B root a 0).fault = 0) ∧ (lookOk n B root ((a / 256 : Nat) : Int) = true → walkOf n B root (joinV ((a / 256 : Nat) : Int) 0).toNat 0 = walkOf n B root a 0) := by
    by_cases c : a / 256 < 4096
    · have hj : joinOk ((a / 256 : Nat) : Int) 0 = true := by simp [joinOk]; omega
      obtain ⟨k, hk, hk2, hk3⟩ := joinV_nat ((a / 256 : Nat) : Int)
      have hkk := (hk3 hj).1
      rw [Int.toNat_natCast] at hkk
      unfold lookOk
      rw [hj, Bool.true_and, hk, Int.toNat_natCast, walk_same n B root (a := k) (b := a) (by omega) 0]
      exact ⟨rfl, fun _ => rfl⟩
    · have hj : joinOk ((a / 256 : Nat) : Int) 0 = false := by
        cases h : joinOk ((a / 256 : Nat) : Int) 0
        · rfl
        · simp only [joinOk, Bool.and_eq_true, decide_eq_true_eq] at h; omega
      have hF : foundOf n B root a = ⟨noEnt, 0, 1⟩ := by unfold foundOf; exact if_pos (by omega)
      have hW := walk_bad (acc := 0) hF (by decide)
      unfold lookOk
      rw [hj, Bool.false_and, hW]
      exact ⟨rfl, fun h => absurd h (by decide)⟩
  refine ⟨key.1, ?_⟩
  unfold lookE
  rw [key.1]
  by_cases c : (walkOf n B root a 0).fault = 0
  · have h2 := key.2 (by rw [key.1]; exact decide_eq_true c)
    rw [h2, if_pos (decide_eq_true c), if_pos c]
  · rw [if_neg (by simpa using c), if_neg c]
theorem page_walk {n : Nat} {B : List Nat} {root : Int} {p : Nat} (hp : p < 4096) : pageP n B root p = decide ((walkOf n B root (p * 256) 0).fault = 0) := by
  unfold pageP
  exact (look_at (by omega)).1
theorem keep_addr {a o : Nat} (ha : a < 4294967296) (ho : o < 256) : borV .u32 (bnotV .u32 (a : Int) 255) (IntKind.wrap .u32 (o : Int)) = ((a / 256 * 256 + o : Nat) : Int) := by
  rw [show (255 : Int) = ((255 : Nat) : Int) from rfl, bnot32 ha (by decide), wrapn_u32 o (by omega)]
  have h1 : a &&& (2 ^ 32 - 1 - 255) = a / 256 * 256 := by
    rw [show 2 ^ 32 - 1 - 255 = 2 ^ 8 * (2 ^ 24 - 1) + 0 from rfl, and_split (by decide), and_ones, Nat.and_zero]
    omega
  rw [h1, bor32 (by omega) (by omega), show (256 : Nat) = 2 ^ 8 from rfl, or_apart ho]

def iU (x : Nat) : List Value := [.int .u32 x]
theorem iU_len (x : Nat) : (iU x).length = 1 := rfl
theorem rows_u {rows : List (List Value)} (hw : ∀ r ∈ rows, wfCells [.int .u32] r) : ∃ l : List Nat, rows.length = l.length ∧ rows.flatten = encL iU l ∧ ∀ x ∈ l, x < 4294967296 :=
  rows_enc (f := iU) (ok := fun x => x < 4294967296) (rows := rows) (fun r hr => by
    obtain ⟨v1, r, rfl, h1, h⟩ := wfCells_cons (hw r hr)
    obtain rfl := wfCells_nil h
    obtain ⟨b1, rfl, l1, u1⟩ := wfInt h1
    rw [min_u32] at l1
    rw [max_u32] at u1
    exact ⟨b1.toNat, by simp only [iU]; rw [Int.toNat_of_nonneg l1], by omega⟩)

theorem u32_nat {a : Int} (w : (Lit.int .u32 a).wf = true) : ∃ n : Nat, a = n ∧ n < 4294967296 := by
  obtain ⟨h1, h2⟩ := wf_bounds w
  rw [min_u32] at h1
  rw [max_u32] at h2
  exact ⟨a.toNat, by omega, by omega⟩
end Go.Proofs.Ytopfdfcbhclolaa
