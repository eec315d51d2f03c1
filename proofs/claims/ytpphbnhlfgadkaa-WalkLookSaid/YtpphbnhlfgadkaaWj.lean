import Derived.Test.YtpphbnhlfgadkaaWi
namespace Go.Proofs.Ytpphbnhlfgadkaa
open Go Go.Wd
set_option linter.unusedVariables false
set_option linter.unusedSimpArgs false

theorem ent_keep {h h4 h5 : Hp} {T : TypeId} {z : List Value} {x : Ent} (e4 : h4 = new h (blk T z)) (e5 : h5 = upd h4 (sz h) T (writeAt z 0 x.cells)) (hl : z.length = 5) : bk h5 (sz h) = some (blk T x.cells) ∧ Fr [] h h5 ∧ sz h5 = sz h + 1 :=
  put_facts e4 e5 (by rw [hl, Ent.len])

set_option maxHeartbeats 1000000 in
theorem look_law {h : Hp} {a : Option Addr} {c : Nat} {L : List Pt} (g : rowAtK h a (encL Pt.cells L)) (hok : ∀ x ∈ L, x.ok) (page off : Int) :
    CallsH Try.prog 5 [.slice a L.length c, .int .i64 page, .int .i64 off] h fun v h' => v = .bool true ∧ Fr [] h h' := by
  refine calls_k fun R hR => ?_
  apply warderlaw07_WalkLook.calls
  unfold warderlaw07_WalkLook.P
  refine (alive_spec h).mono ?_
  rintro v h1 ⟨rfl, f1⟩
  have yes := fun h' (f : Fr [] h h') => hR (.bool true) h' ⟨rfl, f⟩
  refine ⟨_, rfl, fun hc => absurd hc (by simp), fun _ => ?_⟩
  refine ⟨fun h2 => h2 = h1 ∧ L.length ≤ 100 ∧ 0 ≤ page ∧ page ≤ 4095 ∧ 0 ≤ off ∧ off ≤ 255, ?_, ?_⟩
  · refine (great_spec 80 a L.length c).mono ?_
    rintro v h2 ⟨rfl, rfl⟩
    refine ⟨_, rfl, fun _ => yes _ f1, fun hg => ⟨fun _ => yes _ f1, fun d1 => ⟨fun _ => yes _ f1, fun d2 => ⟨fun _ => yes _ f1, fun d3 => ⟨fun _ => yes _ f1, fun d4 => ?_⟩⟩⟩⟩⟩
    obtain ⟨m, hm, hm1, hm2, hL⟩ := great_no hg
    simp only [decide_eq_false_iff_not] at d1 d2 d3 d4
    exact ⟨rfl, hL, by omega, by omega, by omega, by omega⟩
  rintro h2 ⟨rfl, hL, p0, p1, o0, o1⟩
  obtain ⟨p, rfl⟩ : ∃ p : Nat, page = p := ⟨page.toNat, by omega⟩
  obtain ⟨o, rfl⟩ : ∃ o : Nat, off = o := ⟨off.toNat, by omega⟩
  refine (Both_spec (n := 80) (by decide) (by decide) (g.fr f1 (by simp)) hok (by omega)).mono ?_
  rintro v h3 ⟨q, fb, q2, rb, rfl, w3, -, -, f3⟩
  refine ⟨_, _, rfl, fun hc => absurd hc (by simp [notIf]), fun _ => ?_⟩
  generalize putsB 80 L = B at w3
  have fr3 := f1.trans f3
  have hj : joinOk (p : Int) (o : Int) = true := by simp [joinOk]; omega
  have hv : joinV (p : Int) (o : Int) = ((p * 256 + o : Nat) : Int) := by unfold joinV; rw [if_pos hj]; omega
  have key := look_at (n := 80) (B := B) (root := 0) (a := p * 256 + o) (p := (p : Int)) (by omega)
  refine (join_spec p o).mono ?_
  rintro v h4 ⟨rfl, rfl⟩
  rw [hj, hv]
  refine ⟨_, _, rfl, ?_⟩
  refine (Walk_spec w3 0 (a := p * 256 + o) (by omega) 0).mono ?_
  generalize walkOf 80 B 0 (p * 256 + o) 0 = W at *
  rintro v h5 ⟨rfl, f5⟩
  refine ⟨_, _, _, _, _, _, rfl, ?_⟩
  intro h6 e6
  refine ⟨truly_rfl, _, _, by rw [e6]; exact new_at _ _, by simp, ?_⟩
  intro h7 e7
  obtain ⟨k7, f7, s7⟩ := hit_keep (x := W) e6 e7 rfl
  clear e6 e7
  have w7 := (w3.fr f5 (by simp) (by simp)).fr f7 (by simp) (by simp)
  refine (Look_spec w7 0 p).mono ?_
  generalize lookE 80 B 0 (p : Int) = E at *
  generalize lookOk 80 B 0 (p : Int) = ok at *
  obtain ⟨key1, key2⟩ := key
  rintro v h8 ⟨rfl, f8⟩
  refine ⟨_, _, _, _, _, _, rfl, ?_⟩
  intro h9 e9
  refine ⟨truly_rfl, _, _, by rw [e9]; exact new_at _ _, by simp, ?_⟩
  intro h10 e10
  obtain ⟨k10, f10, s10⟩ := ent_keep (x := E) e9 e10 rfl
  clear e9 e10
  have kW := (f8.trans f10).at k7 (by simp)
  have fr10 := (((fr3.trans f5).trans f7).trans f8).trans f10
  have y := yes h10 fr10
  refine ⟨fun h11 => h11 = h10, ⟨fun hc => absurd hc (by simp), fun _ => ⟨W.fault, (cellAt_of kW 0).trans rfl, fun hc => absurd hc ?_, fun _ => rfl⟩⟩, ?_⟩
  · rw [key1, show (W.fault == 0) = decide (W.fault = 0) from rfl]; simp [notIf]
  rintro h11 rfl
  refine ⟨fun _ => y, fun c1 => ?_⟩
  have c1 : ok = true := by simpa using c1
  have c2 : W.fault = 0 := by rw [key1] at c1; simpa using c1
  rw [if_pos c2] at key2
  subst key2
  refine ⟨true, (cellAt_of k10 0).trans rfl, fun _ => ?_, fun hc => absurd hc (by simp)⟩
  refine ⟨W.frame, (cellAt_of k10 4).trans rfl, W.frame, (cellAt_of kW 2).trans rfl, fun _ => ?_, fun hc => absurd hc (by simp)⟩
  refine ⟨W.write, (cellAt_of k10 1).trans rfl, W.write, (cellAt_of kW 3).trans rfl, fun _ => ?_, fun hc => absurd hc (by simp [notIf])⟩
  refine ⟨W.exec, (cellAt_of k10 2).trans rfl, W.exec, (cellAt_of kW 4).trans rfl, fun _ => ?_, fun hc => absurd hc (by simp [notIf])⟩
  refine ⟨W.block, (cellAt_of k10 3).trans rfl, W.block, (cellAt_of kW 5).trans rfl, ?_⟩
  rw [show notIf true (W.block == W.block) = true by cases W.block <;> rfl]
  exact y

set_option maxHeartbeats 1000000 in
theorem apart_law {h : Hp} {a a2 : Option Addr} {c c2 : Nat} {L M : List Pt} (g : rowAtK h a (encL Pt.cells L)) (hok : ∀ x ∈ L, x.ok) (g2 : rowAtK h a2 (encL Pt.cells M)) (hok2 : ∀ x ∈ M, x.ok) {addr : Nat} (ha : addr < 4294967296) :
    CallsH Try.prog 6 [.slice a L.length c, .slice a2 M.length c2, .int .u32 addr] h fun v h' => v = .bool true ∧ Fr [] h h' := by
  refine calls_k fun R hR => ?_
  apply warderlaw07_WalkApart.calls
  unfold warderlaw07_WalkApart.P
  refine (alive_spec h).mono ?_
  rintro v h1 ⟨rfl, f1⟩
  have yes := fun h' (f : Fr [] h h') => hR (.bool true) h' ⟨rfl, f⟩
  refine ⟨_, rfl, fun hc => absurd hc (by simp), fun _ => ?_⟩
  refine ⟨fun h2 => h2 = h1 ∧ L.length ≤ 100 ∧ M.length ≤ 100, ?_, ?_⟩
  · refine (great_spec 80 a L.length c).mono ?_
    rintro v h2 ⟨rfl, rfl⟩
    refine ⟨_, rfl, fun _ => yes _ f1, fun hg => ⟨fun _ => yes _ f1, fun d1 => ?_⟩⟩
    obtain ⟨m, hm, hm1, hm2, hL⟩ := great_no hg
    simp only [decide_eq_false_iff_not] at d1
    exact ⟨rfl, hL, by omega⟩
  rintro h2 ⟨rfl, hL, hM⟩
  refine (Both_spec (n := 80) (by decide) (by decide) (g.fr f1 (by simp)) hok (by omega)).mono ?_
  rintro v h3 ⟨q, fb, q2, rb, rfl, w3, -, hge, f3⟩
  refine ⟨_, _, rfl, fun hc => absurd hc (by simp [notIf]), fun _ => ?_⟩
  generalize putsB 80 L = B at w3
  have fr3 := f1.trans f3
  have hfb : sz h ≤ fb := by have := f1.size; omega
  have hfl := w3.ltf
  refine (Walk_spec w3 0 ha 0).mono ?_
  have hW := walk_F 80 B 0 addr 0
  generalize walkOf 80 B 0 addr 0 = W at *
  rintro v h5 ⟨rfl, f5⟩
  refine ⟨_, _, _, _, _, _, rfl, ?_⟩
  intro h6 e6
  refine ⟨truly_rfl, _, _, by rw [e6]; exact new_at _ _, by simp, ?_⟩
  intro h7 e7
  obtain ⟨k7, f7, s7⟩ := hit_keep (x := W) e6 e7 rfl
  clear e6 e7
  have w7 := (w3.fr f5 (by simp) (by simp)).fr f7 (by simp) (by simp)
  have hi : addr / 16384 % 64 < 64 := by omega
  have hj : addr / 256 % 64 < 64 := by omega
  refine (first_spec addr ha).mono ?_
  rintro v h8 ⟨rfl, rfl⟩
  refine ⟨_, rfl, ?_⟩
  have ea : IntKind.wrap .u32 (IntKind.wrap .i64 (4 * ((addr / 16384 % 64 : Nat) : Int))) = ((0 * 256 + 4 * (addr / 16384 % 64) : Nat) : Int) := by
    rw [wrapS (by omega) (by omega), wrap_u32 (by omega) (by omega)]; omega
  rw [ea]
  have hF := fun (B' : List Nat) => found_apart (n := 80) (B := B) (B' := B') (a := addr) (by decide)
  refine (Word_spec w7 (a := 0 * 256 + 4 * (addr / 16384 % 64)) (by omega)).mono ?_
  rw [in_len (n := 80) (k := 0) (by decide) hi, if_pos rfl]
  rintro v h9 ⟨rfl, rfl⟩
  refine ⟨_, _, rfl, ?_⟩
  refine (decode_spec _ (le4_lt w7.byt _)).mono ?_
  rw [show dec (leN B (0 * 256 + 4 * (addr / 16384 % 64)) 4) = entAt B 0 (addr / 16384 % 64) from rfl]
  generalize hE : entAt B 0 (addr / 16384 % 64) = E at *
  generalize addr / 16384 % 64 = i0 at *
  generalize addr / 256 % 64 = j0 at *
  rintro v h10 ⟨rfl, f10⟩
  refine ⟨_, _, _, _, _, rfl, ?_⟩
  intro h11 e11
  refine ⟨truly_rfl, _, _, by rw [e11]; exact new_at _ _, by simp, ?_⟩
  intro h12 e12
  obtain ⟨k12, f12, s12⟩ := ent_keep (x := E) e11 e12 rfl
  clear e11 e12
  have kW := (f10.trans f12).at k7 (by simp)
  have w12 := (w7.fr f10 (by simp) (by simp)).fr f12 (by simp) (by simp)
  have fr12 := (((fr3.trans f5).trans f7).trans f10).trans f12
  have n1 : sz h5 ∉ [fb] := by have := f5.size; simp; omega
  have n2 : sz h10 ∉ [fb] := by have := f5.size; have := f7.size; have := f10.size; simp; omega
  generalize sz h5 = wb1 at *
  generalize sz h10 = eb at *
  have hl3 := w3.len
  refine ⟨fun i h13 => ∃ (k : Nat) (D : List Nat), i = k ∧ k ≤ M.length ∧ MS h13 q fb 80 D ∧ bk h13 wb1 = some (blk 31 W.cells) ∧ bk h13 eb = some (blk 42 E.cells) ∧ Fr [] h h13 ∧ entAt D 0 i0 = E ∧
    (E.v = true → E.b = false → ∀ t : Nat, t < 80 → E.f = t → entAt D t j0 = entAt B t j0), fun i _ => M.length - i.toNat, ⟨0, B, rfl, by omega, w12, kW, k12, fr12, hE, fun _ _ _ _ _ => rfl⟩, ?_⟩
  rintro i h13 ⟨k, D, rfl, hk, w13, kW, kE, fr13, hD0, hD1⟩
  by_cases hkl : k < M.length
  · refine ⟨fun _ => ?_, fun hf => absurd hf (by simp; omega)⟩
    obtain ⟨x, hx⟩ : ∃ x, M[k]? = some x := ⟨_, List.getElem?_eq_getElem hkl⟩
    obtain ⟨ok1, ok2⟩ := hok2 x (List.mem_of_getElem? hx)
    obtain ⟨b, o, hab, hcc⟩ := encL_one (f := Pt.cells) (m := 2) Pt.len (g2.fr fr13 (by simp)) hx (by omega)
    have c1 : cellAt h13 b (o + (k : Int).toNat * 2) = some (.int .u32 x.addr) := hcc 0 (by omega)
    have c2 : cellAt h13 b (o + (k : Int).toNat * 2 + 1) = some (.int .u32 x.value) := hcc 1 (by omega)
    rw [wrapN hkl (by omega)]
    have skip : ∃ (k' : Nat) (D : List Nat), ((k + 1 : Nat) : Int) = k' ∧ k' ≤ M.length ∧ MS h13 q fb 80 D ∧ bk h13 wb1 = some (blk 31 W.cells) ∧ bk h13 eb = some (blk 42 E.cells) ∧ Fr [] h h13 ∧ entAt D 0 i0 = E ∧
      (E.v = true → E.b = false → ∀ t : Nat, t < 80 → E.f = t → entAt D t j0 = entAt B t j0) := ⟨k + 1, D, rfl, by omega, w13, kW, kE, fr13, hD0, hD1⟩
    have en : IntKind.wrap .i64 (IntKind.wrap .u32 (Int.tdiv (x.addr : Int) 256)) = ((x.addr / 256 : Nat) : Int) := by
      have : Int.tdiv (x.addr : Int) 256 = ((x.addr / 256 : Nat) : Int) := rfl
      rw [this, wrapn_u32 _ (by omega), wrapn_i64 _ (by omega)]
    refine ⟨by omega, by omega, _, _, hab, _, c1, by decide, ?_⟩
    rw [en]
    refine ⟨fun h14 => h14 = h13 ∧ x.addr / 256 ≠ 0 ∧ (E.v = true → E.b = false → ((x.addr / 256 : Nat) : Int) ≠ E.f), ⟨fun _ => ⟨skip, decM hkl⟩, fun d1 => ?_⟩, ?_⟩
    · have d1 : x.addr / 256 ≠ 0 := by simp only [beq_eq_false_iff_ne] at d1; omega
      refine ⟨E.v, (cellAt_of kE 0).trans rfl, fun d2 => ⟨E.b, (cellAt_of kE 3).trans rfl, fun d3 => ⟨E.f, (cellAt_of kE 4).trans rfl, fun _ => ⟨skip, decM hkl⟩, fun d4 => ⟨rfl, d1, fun _ _ => by simpa using d4⟩⟩, fun d3 => ⟨rfl, d1, fun _ hb => by rw [hb] at d3; simp at d3⟩⟩, fun d2 => ⟨rfl, d1, fun hv => by rw [hv] at d2; simp at d2⟩⟩
    rintro h14 ⟨rfl, d1, d2⟩
    refine ⟨by omega, by omega, _, _, hab, _, c1, by omega, by omega, _, _, hab, _, c2, ?_⟩
    refine (PutWord_spec w13 ok1 ok2).mono ?_
    rintro v h15 ⟨rfl, w15, f15⟩
    refine ⟨_, rfl, ⟨k + 1, _, rfl, by omega, w15, f15.at kW n1, f15.at kE n2, fr_out fr13 f15 (by simpa using hfb), ?_, ?_⟩, decM hkl⟩
    · rw [ent_put w13.len ok2 (by decide) hi, if_neg (by omega), hD0]
    · intro hv hb t ht he
      have := d2 hv hb
      rw [ent_put w13.len ok2 ht hj, if_neg (by omega), hD1 hv hb t ht he]
  · have : k = M.length := by omega
    subst this
    refine ⟨fun hf => absurd hf (by simp), fun _ => ?_⟩
    refine Hit.rd (o := 0) W (fun j hj => by rw [Nat.zero_add]; exact cellAt_of kW j) ?_
    refine (Walk_spec w13 0 ha 0).mono ?_
    rw [walk_F, hF D hD0 hD1, ← hW]
    rintro v h16 ⟨rfl, f16⟩
    have kW := f16.at kW (by simp)
    refine ⟨_, _, _, _, _, _, rfl, (cellAt_of kW 0).trans rfl, (cellAt_of kW 1).trans rfl, (cellAt_of kW 2).trans rfl, (cellAt_of kW 3).trans rfl, (cellAt_of kW 4).trans rfl, (cellAt_of kW 5).trans rfl, ?_⟩
    have y := yes _ (fr13.trans f16)
    simpa [notIf] using y
end Go.Proofs.Ytpphbnhlfgadkaa
