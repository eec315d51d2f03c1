import Derived.Test.YtopfdfcbhclolaaNm
namespace Go.Proofs.Ytopfdfcbhclolaa
open Go Go.Wd
set_option linter.unusedVariables false
set_option linter.unusedSimpArgs false

theorem kept_put {n : Nat} {B D : List Nat} {U : List Bool} (hU : U.length = n) (hl : D.length = n * 256) (k : Kept D B U) {a x : Nat} (hx : x < 4294967296) (ha : ¬ Tru U (a / 256)) : Kept (putW n D a x) B U := by
  intro t ht i hi
  have htn : t < n := by rw [← hU]; exact (List.getElem?_eq_some_iff.1 ht).1
  rw [ent_put hl hx htn hi, if_neg, k t ht i hi]
  intro e
  apply ha
  have : a / 256 = t := by omega
  rw [this]; exact ht
theorem Tl.same2 (x : Tl) : notIf true ((x.st == x.st) && ((x.kd == x.kd) && (((x.fa : Int) == x.fa) && (((x.tb : Bool) == x.tb) && ((x.rd == x.rd) && ((x.pg == x.pg) && (((x.ad : Int) == x.ad) && (((x.wr : Bool) == x.wr) && (((x.ex : Bool) == x.ex) && true))))))))) = true := by simp [notIf]
set_option maxHeartbeats 2000000 in
theorem tables_law {h : Hp} (n : Int) {a a5 : Option Addr} {c c5 : Nat} {L M : List Pt} (g : rowAtK h a (encL Pt.cells L)) (hok : ∀ x ∈ L, x.ok) {own : Nat} (hown : own < 4294967296) {va : Nat} (hva : va < 4294967296) (acc : Int) (g5 : rowAtK h a5 (encL Pt.cells M)) (hok5 : ∀ x ∈ M, x.ok) :
    CallsH Try.prog 6 [.int .i64 n, .slice a L.length c, .int .u32 own, .int .u32 va, .int .i64 acc, .slice a5 M.length c5] h fun v h' => v = .bool true ∧ Fr [] h h' := by
  refine calls_k fun R hR => ?_
  apply warderlaw08_NestTables.calls
  unfold warderlaw08_NestTables.P
  refine (alive_spec h).mono ?_
  rintro _ h1 ⟨rfl, f1⟩
  refine ⟨_, rfl, fun hn => (by cases hn), fun _ => ?_⟩
  refine ⟨fun h3 => h3 = h1 ∧ (∃ m : Nat, n = m ∧ 1 ≤ m ∧ m ≤ 100 ∧ L.length ≤ 120) ∧ M.length ≤ 60, ?_, ?_⟩
  · refine (great_spec n a L.length c).mono ?_
    rintro v h2 ⟨rfl, hh⟩
    rw [hh]
    refine ⟨_, rfl, fun _ => hR _ _ ⟨rfl, f1⟩, fun hg => ⟨fun _ => hR _ _ ⟨rfl, f1⟩, fun hA => ⟨rfl, great_no2 hg, ?_⟩⟩⟩
    have : ¬ (M.length : Int) > 60 := by simpa using hA
    omega
  rintro h3 ⟨hh, ⟨m, rfl, m1, m2, hL⟩, hM⟩
  rw [hh]; clear hh h3
  refine (Both_spec m1 (by omega) (c := c) (g.fr f1 (by simp)) hok (by omega)).mono ?_
  rintro v h4 ⟨q, fb, q2, rb, rfl, w4, -, hge, f4⟩
  generalize putsB m L = B at *
  refine ⟨_, _, rfl, fun hn => absurd hn (by simp [notIf]), fun _ => ?_⟩
  refine (reached_spec w4).mono ?_
  rintro v h5 ⟨bb, U, rfl, b5, hbb, hre, f5⟩
  refine ⟨_, _, _, rfl, ?_⟩
  have w5 := w4.fr f5 (by simp) (by simp)
  have hlf := w4.ltf
  refine (Translate_spec w5 hown 0 hva acc).mono ?_
  rintro v h6 ⟨rfl, f6⟩
  have hkept : ∀ D, Kept D B U → trOf m D 0 va own acc = trOf m B 0 va own acc := fun D k => told_kept (by omega) hre k va own acc
  generalize trOf m B 0 va own acc = t at *
  refine ⟨_, _, _, _, _, _, _, _, _, rfl, ?_⟩
  intro h7 e7
  have k7 : bk h7 (sz h6) = some (blk 36 noTl.cells) := by rw [e7]; exact new_at _ _
  have f7 : Fr [] h6 h7 := by rw [e7]; exact Fr.new _ _ _
  clear e7
  refine ⟨truly_rfl, _, _, k7, by decide, ?_⟩
  intro h8 e8
  have k8 : bk h8 (sz h6) = some (blk 36 t.cells) := by rw [e8]; exact upd_same k7 _ _
  have f68 : Fr [] h6 h8 := f7.later (by rw [e8]; exact Fr.upd (F := [sz h6]) (by simp) _ _ _) (by simp)
  clear e8
  have w8 := (w5.fr f6 (by simp) (by simp)).fr f68 (by simp) (by simp)
  have b8 := (f6.trans f68).at b5 (by simp)
  have fr4 := f1.trans f4
  have fr8 : Fr [] h h8 := (fr4.trans f5).trans (f6.trans f68)
  have hfb : sz h ≤ fb := by have := f1.size; omega
  have hfb2 : fb < sz h6 := by have := f5.size; have := f6.size; omega
  have hbfb : bb ≠ fb := by omega
  have hrow : ∀ {h9 : Hp}, Fr [] h h9 → rowAtK h9 a5 (encL Pt.cells M) := fun f9 => g5.fr f9 (by simp)
  refine ⟨fun i h9 => ∃ (k : Nat) (D : List Nat), i = k ∧ k ≤ M.length ∧ MS h9 q fb m D ∧ Kept D B U ∧ bk h9 bb = some (blk 4 (bools U)) ∧ bk h9 (sz h6) = some (blk 36 t.cells) ∧ Fr [] h h9, fun i _ => M.length - i.toNat, ⟨0, B, rfl, by omega, w8, fun _ _ _ _ => rfl, b8, k8, fr8⟩, ?_⟩
  clear w8 b8 k8 fr8
  rintro i h9 ⟨k, D, rfl, hk, w9, hD, b9, k9, fr9⟩
  refine ⟨fun hc => ?_, fun hc => ?_⟩
  · have hk : k < M.length := by simpa using hc
    obtain ⟨x, hx⟩ : ∃ o, M[k]? = some o := ⟨_, List.getElem?_eq_getElem hk⟩
    obtain ⟨ok1, ok2⟩ := hok5 x (List.mem_of_getElem? hx)
    rw [wrapN hk (by omega)]
    obtain ⟨b, o, ha, e⟩ := encL_one Pt.len (hrow fr9) hx (by decide)
    have e0 : cellAt h9 b (o + (k : Int).toNat * 2) = some (.int .u32 x.addr) := by rw [Int.toNat_natCast]; exact e 0 (by decide)
    have e1 : cellAt h9 b (o + (k : Int).toNat * 2 + 1) = some (.int .u32 x.value) := by rw [Int.toNat_natCast]; exact e 1 (by decide)
    have ed : IntKind.wrap .i64 (IntKind.wrap .u32 (Int.tdiv (x.addr : Int) 256)) = ((x.addr / 256 : Nat) : Int) := by
      rw [tdiv_nat (by omega), wrap_u32 (by omega) (by omega), wrapS (by omega) (by omega)]; omega
    refine ⟨by omega, by omega, _, _, ha, _, e0, by decide, ?_⟩
    rw [ed]
    refine ⟨fun y h10 => h10 = h9 ∧ (y = true → ¬ Tru U (x.addr / 256)), ⟨fun hl => ?_, fun _ => ⟨rfl, fun hn => (by cases hn)⟩⟩, ?_⟩
    · have hl : x.addr / 256 < m := by
        have : ((x.addr / 256 : Nat) : Int) < ((m : Nat) : Int) := of_decide_eq_true hl
        omega
      obtain ⟨u, hu⟩ : ∃ u, U[x.addr / 256]? = some u := ⟨_, List.getElem?_eq_getElem (by rw [hre.len]; exact hl)⟩
      refine ⟨by omega, by omega, _, _, rfl, u, ?_, rfl, fun hy ht => ?_⟩
      · rw [Int.toNat_natCast, Nat.mul_one, Nat.zero_add, cellAt_of b9]
        unfold bools
        rw [List.getElem?_map, hu]; rfl
      · unfold Tru at ht
        rw [hu] at ht
        cases ht
        cases hy
    rintro y h10 ⟨hh, hy⟩
    rw [hh]; clear hh h10
    refine ⟨fun hyt => ?_, fun _ => ⟨⟨k + 1, D, rfl, by omega, w9, hD, b9, k9, fr9⟩, decM hk⟩⟩
    refine ⟨by omega, by omega, _, _, ha, _, e0, by omega, by omega, _, _, ha, _, e1, ?_⟩
    refine (PutWord_spec w9 ok1 ok2).mono ?_
    rintro v h11 ⟨rfl, w11, f11⟩
    exact ⟨_, rfl, ⟨k + 1, _, rfl, by omega, w11, kept_put hre.len w9.len hD ok2 (hy hyt), f11.at b9 (by simpa using hbfb), f11.at k9 (by simp; omega), fr9.later f11 (by simpa using hfb)⟩, decM hk⟩
  · refine Tl.rd' t k9 ?_
    refine (Translate_spec w9 hown 0 hva acc).mono ?_
    rw [hkept D hD]
    rintro v h12 ⟨rfl, f12⟩
    have k12 := f12.at k9 (by simp)
    refine ⟨_, _, _, _, _, _, _, _, _, rfl, (cellAt_of k12 _).trans rfl, (cellAt_of k12 _).trans rfl, (cellAt_of k12 _).trans rfl, (cellAt_of k12 _).trans rfl, (cellAt_of k12 _).trans rfl, (cellAt_of k12 _).trans rfl, (cellAt_of k12 _).trans rfl, (cellAt_of k12 _).trans rfl, (cellAt_of k12 _).trans rfl, ?_⟩
    rw [Tl.same2]
    exact hR _ _ ⟨rfl, fr9.trans f12⟩
end Go.Proofs.Ytopfdfcbhclolaa
