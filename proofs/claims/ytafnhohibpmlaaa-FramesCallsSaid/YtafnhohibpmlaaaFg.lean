import Derived.Test.YtafnhohibpmlaaaFf
namespace Go.Proofs.Ytafnhohibpmlaaa
open Go Go.Wd
set_option linter.unusedVariables false
set_option linter.unusedSimpArgs false

theorem takeP_one {L : List Int} {i : Nat} : takeP 1 L i = true ↔ L[i]? = some 0 := by
  unfold takeP
  constructor
  · intro h
    simp only [Bool.and_eq_true, decide_eq_true_eq] at h
    have := (free_cases h.1).1 h.2 0 (by omega)
    simpa using this
  · intro h
    have hi := (List.getElem?_eq_some_iff.1 h).1
    have : i * 1 + 1 ≤ L.length := by omega
    rw [(free_cases this).2 (fun j hj => by
      have : j = 0 := by omega
      subst this; simpa using h), decide_eq_true this]; rfl
theorem setRun_one {L : List Int} {a : Nat} (h : a < L.length) (o : Int) : setRun L a 1 o = L.set a o := by
  have := setRun_next (k := 0) (a := a) (L := L) (by omega) o
  rw [setRun_zero] at this
  exact this.symm
theorem take_one_at {L : List Int} {i : Nat} {o : Int} (ho : isSome o = true) (hi : L[i]? = some 0) (hno : ∀ j, j < i → L[j]? ≠ some 0) : takeE 1 L o = 0 ∧ takeN 1 L o = (i : Nat) ∧ takeL 1 L o = L.set i o := by
  have hl := (List.getElem?_eq_some_iff.1 hi).1
  have := takeI_at (n := 1) hl (takeP_one.2 hi) (fun j hj => by
    cases hp : takeP 1 L j
    · rfl
    · exact absurd (takeP_one.1 hp) (hno j hj))
  obtain ⟨h1, h2, h3⟩ := take_some ho this
  rw [Nat.mul_one] at h2 h3
  exact ⟨h1, h2, by rw [h3, setRun_one hl]⟩
theorem take_one_none {L : List Int} {o : Int} (ho : isSome o = true) (hno : ∀ j : Nat, L[j]? ≠ some 0) : takeE 1 L o = 15 ∧ takeN 1 L o = -1 ∧ takeL 1 L o = L :=
  take_full ho (takeI_none fun j => by
    cases hp : takeP 1 L j
    · rfl
    · exact absurd (takeP_one.1 hp) (hno j))

/-! ## all frames -/
def part (o : Int) (n i : Nat) : List Int := setRun (List.replicate n 0) 0 i o
theorem part_at {o : Int} {n i : Nat} (h : i ≤ n) (j : Nat) : (part o n i)[j]? = if j < i then some o else if j < n then some 0 else none := by
  unfold part
  rw [setRun_at (by simpa using h), List.getElem?_replicate]
  by_cases h1 : j < i
  · rw [if_pos (by omega), if_pos h1]
  · rw [if_neg (by omega), if_neg h1]
theorem part_full (o : Int) (n : Nat) : part o n n = List.replicate n o := by simp [part, setRun]
theorem part_take {o : Int} (ho : isSome o = true) {n i : Nat} (h : i < n) : takeE 1 (part o n i) o = 0 ∧ takeN 1 (part o n i) o = (i : Nat) ∧ takeL 1 (part o n i) o = part o n (i + 1) := by
  have hb := isSome_b ho
  obtain ⟨h1, h2, h3⟩ := take_one_at (L := part o n i) (i := i) ho (by rw [part_at (by omega), if_neg (by omega), if_pos h]) (fun j hj => by
    rw [part_at (by omega), if_pos hj]
    intro e; cases e; omega)
  refine ⟨h1, h2, ?_⟩
  rw [h3]
  have := setRun_next (L := List.replicate n 0) (a := 0) (k := i) (by simpa using h) o
  rw [Nat.zero_add] at this
  exact this
theorem all_facts {o : Int} (ho : isSome o = true) (n : Nat) : (takeE 1 (part o n n) o = 15 ∧ takeN 1 (part o n n) o = -1 ∧ takeL 1 (part o n n) o = part o n n) ∧ (giveA (part o n n) o).length = n ∧ giveL (part o n n) o = List.replicate n 0 := by
  have hb := isSome_b ho
  refine ⟨take_one_none ho fun j => ?_, ?_, ?_⟩
  · rw [part_at (Nat.le_refl _)]
    split
    · intro e; cases e; omega
    · simp
  · simp only [giveA, ho, if_true, posOf_length, part_full]; simp
  · simp only [giveL, ho, if_true, part_full, freeO, List.map_replicate]
theorem run_few {o : Int} (ho : isSome o = true) {n : Nat} (h : n < 64) : takeE 64 (List.replicate n 0) o = 15 ∧ takeN 64 (List.replicate n 0) o = -1 := by
  obtain ⟨h1, h2, _⟩ := take_full (n := 64) (L := List.replicate n 0) ho (takeI_none fun j => takeP_past (i := 0) (by simp; omega) (Nat.zero_le _))
  exact ⟨h1, h2⟩
theorem run_many {o : Int} (ho : isSome o = true) {n : Nat} (h : 64 ≤ n) : takeE 64 (List.replicate n 0) o = 0 ∧ takeN 64 (List.replicate n 0) o = 0 ∧ (takeL 64 (List.replicate n 0) o).count o = 64 := by
  have hb := isSome_b ho
  have hle : 0 * 64 + 64 ≤ (List.replicate n (0 : Int)).length := by simpa using h
  obtain ⟨h1, h2, h3⟩ := take_some (n := 64) (L := List.replicate n 0) (i := 0) ho (takeI_at (by rw [List.length_replicate]; omega) (by
    unfold takeP
    rw [(free_cases hle).2 (fun j hj => by rw [List.getElem?_replicate, if_pos (by omega)]), decide_eq_true hle]; rfl) (fun j hj => by omega))
  refine ⟨h1, h2, ?_⟩
  rw [h3]
  simp only [setRun, Nat.zero_mul, List.take_zero, List.nil_append, Nat.zero_add, List.count_append, List.count_replicate_self, List.drop_replicate]
  have : ¬ (0 : Int) = o := by omega
  have h2 : ((0 : Int) == o) = false := by simpa using this
  rw [List.count_replicate, h2]; rfl

set_option maxHeartbeats 2000000 in
theorem all_law {h : Hp} (n owner : Int) : CallsH Try.prog 5 [.int .i64 n, .int .i64 owner] h fun v h' => v = .bool true ∧ Fr [] h h' := by
  refine calls_k fun R hR => ?_
  apply warderlaw10_FramesAll.calls
  unfold warderlaw10_FramesAll.P
  refine (alive_spec h).mono ?_
  rintro v h1 ⟨rfl, f1⟩
  have yes := fun h' (f : Fr [] h h') => hR (.bool true) h' ⟨rfl, f⟩
  refine ⟨_, rfl, by simp, fun _ => ?_⟩
  refine ⟨fun h2 => h2 = h1 ∧ 1 ≤ n ∧ n ≤ 300 ∧ 1 ≤ owner ∧ owner ≤ 9, ⟨fun _ => yes _ f1, fun d1 => ⟨fun _ => yes _ f1, fun d2 => ⟨fun _ => yes _ f1, fun d3 => ⟨fun _ => yes _ f1, fun d4 => ?_⟩⟩⟩⟩, ?_⟩
  · simp only [decide_eq_false_iff_not] at d1 d2 d3 d4; exact ⟨rfl, by omega, by omega, by omega, by omega⟩
  rintro h2 ⟨rfl, hn1, hn2, ho1, ho2⟩
  have ho : isSome owner = true := by simp [isSome, ho1, ho2]
  obtain ⟨m, rfl⟩ : ∃ m : Nat, n = m := ⟨n.toNat, by omega⟩
  refine (new_spec (n := m) (by omega) (by omega)).mono ?_
  rintro v h3 ⟨rfl, w3, f3, s3⟩
  refine ⟨_, _, rfl, fun h5 => h5 = h3, ⟨fun hc => absurd hc (by simp), fun _ => ⟨fun hc => absurd hc (by simp [notIf]), fun _ => rfl⟩⟩, ?_⟩
  rintro h4 rfl
  have z1 := f1.size
  have fr4 := f1.trans f3
  have gq : sz h ≤ sz h2 + 1 := by omega
  clear s3
  generalize sz h2 + 1 = q at *
  generalize sz h2 = ob at *
  refine ⟨fun i h7 => ∃ k : Nat, i = k ∧ k ≤ m ∧ TS h7 q ob (part owner m k) ∧ Fr [] h h7, fun i _ => m - i.toNat, ⟨0, rfl, by omega, by unfold part; rw [setRun_zero]; exact w3, fr4⟩, ?_⟩
  rintro i h5 ⟨k, rfl, hk, w5, f5⟩
  by_cases hkl : k < m
  · refine ⟨fun _ => ?_, fun hf => absurd hf (by simp; omega)⟩
    obtain ⟨t1, t2, t3⟩ := part_take ho hkl
    refine (Take_spec w5 owner).mono ?_
    rw [t1, t2, t3]
    rintro v h6 ⟨rfl, w6, f6⟩
    refine ⟨_, _, rfl, fun hc => absurd hc (by simp), fun _ => ⟨fun hc => absurd hc (by simp), fun _ => ?_⟩⟩
    rw [wrapN hkl (by omega)]
    exact ⟨⟨k + 1, rfl, by omega, w6, f5.later f6 (by simp; omega)⟩, dec hkl⟩
  have : k = m := by omega
  subst this
  refine ⟨fun hf => absurd hf (by simp), fun _ => ?_⟩
  obtain ⟨⟨t1, t2, t3⟩, t4, t5⟩ := all_facts ho k
  refine (Take_spec w5 owner).mono ?_
  rw [t1, t2, t3]
  rintro v h6 ⟨rfl, w6, f6⟩
  refine ⟨_, _, rfl, ?_⟩
  refine (GiveAll_spec w6 owner).mono ?_
  rw [t4, t5]
  rintro v h7 ⟨a7, c7, rfl, _, _, w7, f7⟩
  refine ⟨_, _, _, rfl, ?_⟩
  have fr7 := (f5.later f6 (by simp; omega)).later f7 (by simp; omega)
  refine (TakeRun_spec w7 owner).mono ?_
  rintro v h8 ⟨rfl, w8, f8⟩
  have fr8 := fr7.later f8 (by simp; omega)
  refine ⟨_, _, rfl, fun h10 => h10 = h8, ⟨fun hc => absurd hc (by simp), fun _ => ⟨fun hc => absurd hc (by simp), fun _ => ⟨fun hc => absurd hc (by simp), fun _ => rfl⟩⟩⟩, ?_⟩
  rintro h10 rfl
  refine ⟨fun c => ?_, fun c => ?_⟩
  · obtain ⟨e1, e2⟩ := run_few ho (n := k) (by simp at c; omega)
    rw [e1, e2]
    exact ⟨fun _ => yes _ fr8, fun hc => absurd hc (by simp)⟩
  · obtain ⟨e1, e2, e3⟩ := run_many ho (n := k) (by simp at c; omega)
    rw [e1, e2]
    refine ⟨fun _ => ⟨fun _ => ?_, fun hc => absurd hc (by simp)⟩, fun hc => absurd hc (by simp)⟩
    refine (Count_spec w8 owner).mono ?_
    rw [e3]
    rintro v h11 ⟨rfl, rfl⟩
    exact ⟨_, rfl, yes _ fr8⟩

set_option maxHeartbeats 2000000 in
theorem runs_law {h : Hp} {a : Option Addr} {c : Nat} {l : List C} (n : Int) (g1 : rowAtK h a (encL C.cells l)) (owner : Int) :
    CallsH Try.prog 6 [.int .i64 n, .slice a l.length c, .int .i64 owner] h fun v h' => v = .bool true ∧ Fr [] h h' := by
  refine calls_k fun R hR => ?_
  apply warderlaw10_FramesRuns.calls
  unfold warderlaw10_FramesRuns.P
  refine (alive_spec h).mono ?_
  rintro v h1 ⟨rfl, f1⟩
  have yes := fun h' (f : Fr [] h h') => hR (.bool true) h' ⟨rfl, f⟩
  refine ⟨_, rfl, by simp, fun _ => ?_⟩
  refine ⟨fun h2 => h2 = h1 ∧ l.length ≤ 60 ∧ 1 ≤ n ∧ n ≤ 300 ∧ 1 ≤ owner ∧ owner ≤ 9, ⟨fun _ => yes _ f1, fun d0 => ⟨fun _ => yes _ f1, fun d1 => ⟨fun _ => yes _ f1, fun d2 => ⟨fun _ => yes _ f1, fun d3 => ⟨fun _ => yes _ f1, fun d4 => ?_⟩⟩⟩⟩⟩, ?_⟩
  · simp only [decide_eq_false_iff_not] at d0 d1 d2 d3 d4; exact ⟨rfl, by omega, by omega, by omega, by omega, by omega⟩
  rintro h2 ⟨rfl, hl60, hn1, hn2, ho1, ho2⟩
  have ho : isSome owner = true := by simp [isSome, ho1, ho2]
  obtain ⟨m, rfl⟩ : ∃ m : Nat, n = m := ⟨n.toNat, by omega⟩
  refine (new_spec (n := m) (by omega) (by omega)).mono ?_
  rintro v h3 ⟨rfl, w3, f3, s3⟩
  refine ⟨_, _, rfl, fun h5 => h5 = h3, ⟨fun hc => absurd hc (by simp), fun _ => ⟨fun hc => absurd hc (by simp [notIf]), fun _ => rfl⟩⟩, ?_⟩
  rintro h4 rfl
  refine (rnew_spec (n := m) (by omega)).mono ?_
  rintro v h6 ⟨rfl, r6, f6, s6⟩
  refine ⟨_, rfl, ?_⟩
  have w6 := w3.fr f6 (by simp) (by simp)
  have z1 := f1.size
  have e1 : sz h2 + 1 ≠ sz h4 + 1 := by omega
  have e2 : sz h2 + 1 ≠ sz h4 := by omega
  have e3 : sz h2 ≠ sz h4 + 1 := by omega
  have e4 : sz h2 ≠ sz h4 := by omega
  have fr6 := (f1.trans f3).trans f6
  have gq : sz h ≤ sz h2 + 1 := by omega
  have gr : sz h ≤ sz h4 := by omega
  clear s3 s6
  generalize sz h4 + 1 = q2 at *
  generalize sz h4 = rb at *
  generalize sz h2 + 1 = q at *
  generalize sz h2 = ob at *
  refine ⟨fun i h7 => ∃ (k : Nat) (L : List Int), i = k ∧ k ≤ l.length ∧ L.length = m ∧ TS h7 q ob L ∧ RS h7 q2 rb L ∧ Fr [] h h7, fun i _ => l.length - i.toNat, ⟨0, _, rfl, by omega, by simp, w6, r6, fr6⟩, ?_⟩
  rintro i h7 ⟨k, L, rfl, hk, hL, w7, r7, f7⟩
  by_cases hkl : k < l.length
  · refine ⟨fun _ => ?_, fun hf => absurd hf (by simp; omega)⟩
    obtain ⟨c, hc⟩ : ∃ c, l[k]? = some c := ⟨_, List.getElem?_eq_getElem hkl⟩
    obtain ⟨b1, o1, rfl, e1'⟩ := encL_one (f := C.cells) (m := 4) C.len (g1.fr f7 (by simp)) hc (by omega)
    refine ⟨by omega, by omega, _, _, rfl, ?_⟩
    refine C.rd c (by simpa using e1') ?_
    refine (do_spec w7 r7 e1 e2 e3 e4 c).mono ?_
    rintro v h8 ⟨rfl, w8, r8, f8⟩
    rw [wrapN hkl (by omega)]
    exact ⟨_, rfl, ⟨k + 1, _, rfl, by omega, by rw [stepL_len, hL], w8, r8, f7.later f8 (by simp; omega)⟩, dec hkl⟩
  refine ⟨fun hf => absurd hf (by simp; omega), fun _ => ?_⟩
  clear r7 r6 w6 w3 f3 f6 e1 e2 e3 e4 gr
  subst hL
  refine (owners_spec w7).mono ?_
  rintro v h8 ⟨a8, c8, rfl, ra8, fa8, f8⟩
  refine ⟨_, _, _, rfl, ?_⟩
  have lq := w7.lt
  have lo := w7.lto
  have z7 := f7.size
  refine (TakeRun_spec (w7.fr f8 (by simp) (by simp)) owner).mono ?_
  rintro v h9 ⟨rfl, w9, f9⟩
  refine ⟨_, _, rfl, ?_⟩
  have ra9 := ra8.fr f9 (fun y hy => by have := (fa8 y hy).1; simp; omega)
  have fr9 := (f7.trans f8).later f9 (by simp; omega)
  refine ⟨fun k h10 => ∃ i : Nat, k = (i * 64 : Nat) ∧ i * 64 ≤ L.length ∧ h10 = h9 ∧ ∀ j, j < i → takeP 64 L j = false, fun k _ => L.length + 64 - k.toNat, ⟨0, rfl, by omega, rfl, fun j hj => by omega⟩, ?_⟩
  rintro at_ h10 ⟨i, rfl, hi, rfl, hno⟩
  have e64 : IntKind.wrap .i64 (((i * 64 : Nat) : Int) + 64) = ((i * 64 + 64 : Nat) : Int) := by rw [wrap_i64 (by omega) (by omega)]; omega
  rw [e64]
  have hPn : i * 64 + 64 ≤ L.length → ∀ j, j < 64 → L[i * 64 + j]? ≠ some 0 → takeP 64 L i = false := by
    intro hle j hj hne
    unfold takeP
    cases hf : freeAt L (i * 64) 64
    · simp
    · exact absurd ((free_cases hle).1 hf j hj) hne
  have hPy : i * 64 + 64 ≤ L.length → (∀ j, j < 64 → L[i * 64 + j]? = some 0) → takeP 64 L i = true := by
    intro hle hj
    unfold takeP
    rw [(free_cases hle).2 hj, decide_eq_true hle]; rfl
  refine ⟨fun c1 => ?_, fun c1 => ?_⟩
  · have hle : i * 64 + 64 ≤ L.length := by simp only [decide_eq_true_eq] at c1; omega
    refine ⟨fun b x h3 => ∃ k : Nat, x = k ∧ k ≤ 64 ∧ h3 = h10 ∧ (b = true → ∀ j, j < k → L[i * 64 + j]? = some 0) ∧ (b = false → takeP 64 L i = false), fun _ x _ => 64 - x.toNat, ⟨0, rfl, by omega, rfl, fun _ j hj => by omega, fun hf => by cases hf⟩, ?_⟩
    rintro b x h3 ⟨k, rfl, hk, rfl, hz, hb⟩
    by_cases hkn : k < 64
    · obtain ⟨y, hy⟩ : ∃ y, L[i * 64 + k]? = some y := ⟨_, List.getElem?_eq_getElem (by omega)⟩
      have e6 : IntKind.wrap .i64 (((i * 64 : Nat) : Int) + (k : Int)) = ((i * 64 + k : Nat) : Int) := by rw [wrap_i64 (by omega) (by omega)]; omega
      rw [e6, wrapN hkn (by omega)]
      obtain ⟨b1, o1, rfl, e1⟩ := row_cell ra9 hy
      refine ⟨fun _ => ⟨fun cb => ⟨by omega, by omega, _, _, rfl, _, e1, ⟨k + 1, rfl, by omega, rfl, fun c2 j hj => ?_, fun c2 => ?_⟩, dec hkn⟩, fun cb => ⟨⟨k + 1, rfl, by omega, rfl, fun hf => (by cases hf), fun _ => hb cb⟩, dec hkn⟩⟩, fun hf => absurd hf (by simp; omega)⟩
      · rcases Nat.lt_or_ge j k with h | h
        · exact hz cb j h
        · have : j = k := by omega
          subst this
          rw [hy]; simpa using c2
      · refine hPn hle k hkn ?_
        rw [hy]; simpa using c2
    · have : k = 64 := by omega
      subst this
      refine ⟨fun hf => absurd hf (by simp), fun _ => ⟨fun cb => ?_, fun cb => ?_⟩⟩
      · obtain ⟨t1, t2, t3⟩ := take_some ho (takeI_at (by omega) (hPy hle (hz cb)) hno)
        rw [t1, t2]
        rw [t3] at w9
        refine ⟨fun h12 => h12 = h3, ⟨fun hc => absurd hc (by simp), fun _ => ⟨fun hc => absurd hc (by simp), fun _ => rfl⟩⟩, ?_⟩
        rintro h12 rfl
        refine ⟨fun x h13 => ∃ j : Nat, x = j ∧ j ≤ 64 ∧ h13 = h12, fun x _ => 64 - x.toNat, ⟨0, rfl, by omega, rfl⟩, ?_⟩
        rintro x h13 ⟨j, rfl, hj, rfl⟩
        by_cases hj64 : j < 64
        · have e6 : IntKind.wrap .i64 (((i * 64 : Nat) : Int) + (j : Int)) = ((i * 64 + j : Nat) : Int) := by rw [wrap_i64 (by omega) (by omega)]; omega
          rw [e6, wrapN hj64 (by omega)]
          refine ⟨fun _ => ?_, fun hf => absurd hf (by simp; omega)⟩
          refine (Owner_spec w9 _).mono ?_
          have eo : ownerOf (setRun L (i * 64) 64 owner) (i * 64 + j : Nat) = owner := ownerOf_nat (by rw [setRun_at hle, if_pos (by omega)])
          rw [eo]
          rintro v h14 ⟨rfl, rfl⟩
          exact ⟨_, rfl, fun hc => absurd hc (by simp), fun _ => ⟨⟨j + 1, rfl, by omega, rfl⟩, dec hj64⟩⟩
        · exact ⟨fun hf => absurd hf (by simp; omega), fun _ => yes _ fr9⟩
      · refine ⟨⟨i + 1, by rw [Nat.succ_mul], by omega, rfl, fun j hj => ?_⟩, by show L.length + 64 - ((i * 64 + 64 : Nat) : Int).toNat < L.length + 64 - ((i * 64 : Nat) : Int).toNat; omega⟩
        rcases Nat.lt_or_ge j i with h | h
        · exact hno j h
        · have : j = i := by omega
          subst this
          exact hb cb
  · have hgt : L.length < i * 64 + 64 := by simp only [decide_eq_false_iff_not] at c1; omega
    obtain ⟨t1, t2, t3⟩ := take_full ho (takeI_none (n := 64) (L := L) fun j => by
      rcases Nat.lt_or_ge j i with h | h
      · exact hno j h
      · exact takeP_past (i := i) hgt h)
    rw [t1, t2]
    exact ⟨fun _ => yes _ fr9, fun hc => absurd hc (by simp)⟩

/-! ## what is given back -/
theorem posA_head (o : Int) : ∀ (L : List Int) (k : Nat) (f : Int) (r : List Int), posA o L k = f :: r → ∃ j : Nat, f = (k + j : Nat) ∧ L[j]? = some o ∧ ∀ i, i < j → L[i]? ≠ some o
  | [], k, f, r, h => by simp [posA] at h
  | x :: L, k, f, r, h => by
    simp only [posA] at h
    by_cases hx : x = o
    · rw [if_pos hx] at h
      cases h
      exact ⟨0, by simp, by simp [hx], fun i hi => by omega⟩
    · rw [if_neg hx] at h
      obtain ⟨j, h1, h2, h3⟩ := posA_head o L (k + 1) f r h
      refine ⟨j + 1, by rw [h1]; congr 1; omega, by simpa using h2, fun i hi => ?_⟩
      cases i with
      | zero => simpa using hx
      | succ i => simpa using h3 i (by omega)
theorem mem_posA (o : Int) : ∀ (L : List Int) (k j : Nat), L[j]? = some o → ((k + j : Nat) : Int) ∈ posA o L k
  | [], k, j, h => by simp at h
  | x :: L, k, 0, h => by
    have : x = o := by simpa using h
    simp [posA, this]
  | x :: L, k, j + 1, h => by
    have := mem_posA o L (k + 1) j (by simpa using h)
    rw [show k + 1 + j = k + (j + 1) by omega] at this
    simp only [posA]
    split
    · exact List.mem_cons_of_mem _ this
    · exact this
theorem free_none {o : Int} (ho : o ≠ 0) (L : List Int) : (freeO o L).count o = 0 := by
  refine List.count_eq_zero.2 fun hm => ?_
  simp only [freeO, List.mem_map] at hm
  obtain ⟨x, _, hx⟩ := hm
  split at hx
  · exact ho hx.symm
  · rename_i hn; exact hn hx
theorem any_next {α : Type} (p : α → Bool) {L : List α} {n : Nat} {x : α} (hx : L[n]? = some x) : (L.take (n + 1)).any p = ((L.take n).any p || p x) := by
  rw [take_one hx, List.any_append]; simp

set_option maxHeartbeats 2000000 in
theorem gives_law {h : Hp} {a : Option Addr} {c : Nat} {l : List C} (n : Int) (g1 : rowAtK h a (encL C.cells l)) (frame : Int) :
    CallsH Try.prog 7 [.int .i64 n, .slice a l.length c, .int .i64 frame] h fun v h' => v = .bool true ∧ Fr [] h h' := by
  refine calls_k fun R hR => ?_
  apply warderlaw10_FramesGives.calls
  unfold warderlaw10_FramesGives.P
  refine (alive_spec h).mono ?_
  rintro v h1 ⟨rfl, f1⟩
  have yes := fun h' (f : Fr [] h h') => hR (.bool true) h' ⟨rfl, f⟩
  refine ⟨_, rfl, by simp, fun _ => ?_⟩
  refine ⟨fun h2 => h2 = h1 ∧ l.length ≤ 60 ∧ 1 ≤ n ∧ n ≤ 300, ⟨fun _ => yes _ f1, fun d0 => ⟨fun _ => yes _ f1, fun d1 => ⟨fun _ => yes _ f1, fun d2 => ?_⟩⟩⟩, ?_⟩
  · simp only [decide_eq_false_iff_not] at d0 d1 d2; exact ⟨rfl, by omega, by omega, by omega⟩
  rintro h2 ⟨rfl, hl60, hn1, hn2⟩
  obtain ⟨m, rfl⟩ : ∃ m : Nat, n = m := ⟨n.toNat, by omega⟩
  refine (new_spec (n := m) (by omega) (by omega)).mono ?_
  rintro v h3 ⟨rfl, w3, f3, s3⟩
  refine ⟨_, _, rfl, fun h5 => h5 = h3, ⟨fun hc => absurd hc (by simp), fun _ => ⟨fun hc => absurd hc (by simp [notIf]), fun _ => rfl⟩⟩, ?_⟩
  rintro h4 rfl
  refine (rnew_spec (n := m) (by omega)).mono ?_
  rintro v h6 ⟨rfl, r6, f6, s6⟩
  refine ⟨_, rfl, ?_⟩
  have w6 := w3.fr f6 (by simp) (by simp)
  have z1 := f1.size
  have e1 : sz h2 + 1 ≠ sz h4 + 1 := by omega
  have e2 : sz h2 + 1 ≠ sz h4 := by omega
  have e3 : sz h2 ≠ sz h4 + 1 := by omega
  have e4 : sz h2 ≠ sz h4 := by omega
  have fr6 := (f1.trans f3).trans f6
  have gq : sz h ≤ sz h2 + 1 := by omega
  have gr : sz h ≤ sz h4 := by omega
  clear s3 s6
  generalize sz h4 + 1 = q2 at *
  generalize sz h4 = rb at *
  generalize sz h2 + 1 = q at *
  generalize sz h2 = ob at *
  refine ⟨fun i h7 => ∃ (k : Nat) (L : List Int), i = k ∧ k ≤ l.length ∧ L.length = m ∧ TS h7 q ob L ∧ RS h7 q2 rb L ∧ Fr [] h h7, fun i _ => l.length - i.toNat, ⟨0, _, rfl, by omega, by simp, w6, r6, fr6⟩, ?_⟩
  rintro i h7 ⟨k, L, rfl, hk, hL, w7, r7, f7⟩
  by_cases hkl : k < l.length
  · refine ⟨fun _ => ?_, fun hf => absurd hf (by simp; omega)⟩
    obtain ⟨c, hc⟩ : ∃ c, l[k]? = some c := ⟨_, List.getElem?_eq_getElem hkl⟩
    obtain ⟨b1, o1, rfl, e1'⟩ := encL_one (f := C.cells) (m := 4) C.len (g1.fr f7 (by simp)) hc (by omega)
    refine ⟨by omega, by omega, _, _, rfl, ?_⟩
    refine C.rd c (by simpa using e1') ?_
    refine (do_spec w7 r7 e1 e2 e3 e4 c).mono ?_
    rintro v h8 ⟨rfl, w8, r8, f8⟩
    rw [wrapN hkl (by omega)]
    exact ⟨_, rfl, ⟨k + 1, _, rfl, by omega, by rw [stepL_len, hL], w8, r8, f7.later f8 (by simp; omega)⟩, dec hkl⟩
  refine ⟨fun hf => absurd hf (by simp; omega), fun _ => ?_⟩
  clear r7 r6 w6 w3 f3 f6 e1 e2 e3 e4 gr
  refine (Owner_spec w7 frame).mono ?_
  rintro v h8 ⟨rfl, rfl⟩
  refine ⟨_, rfl, ?_⟩
  have z7 := f7.size
  have hF : ownerOf L frame > 0 → ∃ k : Nat, frame = k ∧ k < L.length ∧ moveE L frame (ownerOf L frame) = 0 ∧ moveL L frame (ownerOf L frame) 0 = L.set k 0 := by
    intro hpos
    have ht : isThere L frame = true := by
      cases ht : isThere L frame
      · simp [ownerOf, ht] at hpos
      · rfl
    obtain ⟨f, rfl, hf⟩ := isThere_nat ht
    obtain ⟨x, hx⟩ : ∃ x, L[f]? = some x := ⟨_, List.getElem?_eq_getElem hf⟩
    have hxo := w7.ok x (List.mem_of_getElem? hx)
    rw [ownerOf_nat hx] at hpos ⊢
    have hs : isSome x = true := by simp [isSome]; omega
    have e : moveE L f x = 0 := by simp [moveE, ht, hs, ownerOf_nat hx]
    exact ⟨f, rfl, hf, e, by simp [moveL, e]⟩
  refine ⟨fun h10 => ∃ M : List Int, TS h10 q ob M ∧ M.length = L.length ∧ Fr [] h h10 ∧ (ownerOf L frame > 0 → ∃ k : Nat, frame = k ∧ M[k]? = some 0), ⟨fun c1 => ?_, fun c1 => ⟨L, w7, rfl, f7, fun hp => absurd hp (by simpa using c1)⟩⟩, ?_⟩
  · obtain ⟨f, rfl, hf, e1, e2⟩ := hF (by simpa using c1)
    refine (Give_spec w7 _ _).mono ?_
    rw [e1, e2]
    rintro v h9 ⟨rfl, w9, f9⟩
    exact ⟨_, rfl, fun hc => absurd hc (by simp), fun _ => ⟨_, w9, by simp, f7.later f9 (by simp; omega), fun _ => ⟨f, rfl, by simp [hf]⟩⟩⟩
  rintro h10 ⟨M, w10, hML, f10, hz⟩
  generalize hO : ownerOf L frame = O at *
  clear w7 f7 hF
  have hMl := w10.len
  refine (List_spec w10 0).mono ?_
  rintro v h11 ⟨a11, c11, rfl, ra11, fa11, f11⟩
  refine ⟨_, _, _, rfl, ?_⟩
  have w11 := w10.fr f11 (by simp) (by simp)
  have fr11 := f10.trans f11
  have lq := w10.lt
  have lo := w10.lto
  refine (Take_spec w11 7).mono ?_
  rintro v h12 ⟨rfl, w12, f12⟩
  refine ⟨_, _, rfl, ?_⟩
  have fr12 := fr11.later f12 (by simp; omega)
  have ra12 := ra11.fr f12 (fun y hy => by have := (fa11 y hy).1; simp; omega)
  cases hp : posOf 0 M with
  | nil =>
    have hc0 : M.count 0 = 0 := by rw [← posOf_length, hp]; rfl
    obtain ⟨t1, t2, _⟩ := take_one_none (L := M) (o := 7) rfl (fun j hj => by
      have := List.count_pos_iff.2 (List.mem_of_getElem? hj)
      omega)
    rw [t1, t2]
    exact ⟨fun _ => ⟨fun _ => yes _ fr12, fun hc => absurd hc (by simp)⟩, fun hc => absurd hc (by simp)⟩
  | cons f0 r0 =>
    obtain ⟨j, hj1, hj2, hj3⟩ := posA_head 0 M 0 f0 r0 hp
    rw [Nat.zero_add] at hj1
    subst hj1
    obtain ⟨t1, t2, t3⟩ := take_one_at (L := M) (o := 7) rfl hj2 hj3
    rw [t1, t2]
    rw [t3] at w12
    rw [hp] at ra12
    obtain ⟨b1, o1, rfl, e1⟩ := row_cell (k := 0) ra12 rfl
    refine ⟨fun hc => absurd hc (by simp; omega), fun _ => ⟨fun h13 => h13 = h12, ⟨fun hc => absurd hc (by simp), fun _ => ⟨by omega, by simp, _, _, rfl, _, e1, fun hc => absurd hc (by simp), fun _ => ⟨fun hpos => ⟨fun hc => ?_, fun _ => rfl⟩, fun _ => rfl⟩⟩⟩, ?_⟩⟩
    · obtain ⟨k, rfl, hk⟩ := hz (by simpa using hpos)
      exact absurd hk (hj3 k (by simp at hc; omega))
    rintro h13 rfl
    refine (GiveAll_spec w12 7).mono ?_
    rintro v h14 ⟨a14, c14, rfl, ra14, _, w14, f14⟩
    refine ⟨_, _, _, rfl, ?_⟩
    have hg : giveA (M.set j 7) 7 = posOf 7 (M.set j 7) := rfl
    have hgl : giveL (M.set j 7) 7 = freeO 7 (M.set j 7) := rfl
    have hjl := (List.getElem?_eq_some_iff.1 hj2).1
    have hmem : ((j : Nat) : Int) ∈ posOf 7 (M.set j 7) := by
      have := mem_posA 7 (M.set j 7) 0 j (by simp [hjl])
      rwa [Nat.zero_add] at this
    have hlen14 : (giveA (M.set j 7) 7).length ≤ 1024 := by rw [hg, posOf_length]; exact Nat.le_trans List.count_le_length (by simpa using hMl)
    rw [hgl] at w14
    have hc0 := free_none (o := 7) (by decide) (M.set j 7)
    rw [hg] at ra14 hlen14 ⊢
    clear hgl hg
    generalize posOf 7 (M.set j 7) = G at *
    refine ⟨fun has i h15 => ∃ k : Nat, i = k ∧ k ≤ G.length ∧ has = (G.take k).any (· == (j : Int)) ∧ h15 = h14, fun _ i _ => G.length - i.toNat, ⟨0, rfl, by omega, rfl, rfl⟩, ?_⟩
    rintro has i h15 ⟨k, rfl, hk, rfl, rfl⟩
    by_cases hkl : k < G.length
    · obtain ⟨x, hx⟩ : ∃ x, G[k]? = some x := ⟨_, List.getElem?_eq_getElem hkl⟩
      obtain ⟨b2, o2, rfl, e2⟩ := row_cell ra14 hx
      rw [wrapN hkl (by omega)]
      refine ⟨fun _ => ⟨fun hh => ⟨⟨k + 1, rfl, by omega, by rw [any_next _ hx, hh]; rfl, rfl⟩, dec hkl⟩, fun hh => ⟨by omega, by omega, _, _, rfl, _, e2, ⟨k + 1, rfl, by omega, by rw [any_next _ hx, hh]; rfl, rfl⟩, dec hkl⟩⟩, fun hf => absurd hf (by simp; omega)⟩
    · have : k = G.length := by omega
      subst this
      rw [List.take_length]
      have hany : G.any (· == (j : Int)) = true := List.any_eq_true.2 ⟨_, hmem, by simp⟩
      refine ⟨fun hf => absurd hf (by simp), fun _ => ⟨fun _ => ?_, fun hc => absurd hany (by rw [hc]; simp)⟩⟩
      refine (Count_spec w14 7).mono ?_
      rw [hc0]
      rintro v h16 ⟨rfl, rfl⟩
      exact ⟨_, rfl, yes _ (fr12.later f14 (by simp; omega))⟩
end Go.Proofs.Ytafnhohibpmlaaa
