import Derived.Test.YtgajaoophcljnaaRj
namespace Go.Proofs.Ytgajaoophcljnaa
open Go Go.Wd
set_option linter.unusedVariables false
set_option linter.unusedSimpArgs false

structure Both (h : Hp) (q r s n : Nat) (h5 : Hp) (L : List (Int × Int)) (a : Option Addr) (c : Nat) : Prop where
  c1 : RowS h5 q r n L
  c2 : RefRow h5 s n L a c
  c3 : ∀ x ∈ foot a, s < x
  c4 : Fr [] h h5

theorem Both.fr {h h5 h6 : Hp} {q r s n : Nat} {L : List (Int × Int)} {a : Option Addr} {c : Nat} (w : Both h q r s n h5 L a c) (f : Fr [] h5 h6) : Both h q r s n h6 L a c :=
  ⟨w.c1.fr f (by simp) (by simp), w.c2.fr f (by simp) (by simp), w.c3, w.c4.trans f⟩

set_option maxHeartbeats 4000000 in
theorem calls_spec {h : Hp} {a : Option Addr} {c : Nat} {cs : List CallD} (room : Int) (g : Arg h a cs) :
    CallsH Try.prog 6 [.int .i64 room, .slice a cs.length c] h fun v h' => v = .bool true ∧ Fr [] h h' := by
  refine calls_k fun R hR => ?_
  apply warderlaw16_RefillCalls.calls
  unfold warderlaw16_RefillCalls.P
  refine (alive_spec h).mono ?_
  rintro v h1 ⟨rfl, f1⟩
  rcases Nat.lt_or_ge 200 cs.length with hlen | hlen
  · have h2 : 200 < (cs.length : Int) := by omega
    have h3 : ¬ ((cs.length : Int) ≤ 200) := by omega
    simp [h2, h3]
    exact hR _ _ ⟨rfl, f1⟩
  have h2 : ¬ (200 < (cs.length : Int)) := by omega
  have h2' : (cs.length : Int) ≤ 200 := by omega
  by_cases hr : room < 1 ∨ 16 < room
  · simp [and_assoc, h2, h2']
    refine (new_bad room hr).mono ?_
    rintro v h' ⟨rfl, rfl⟩
    by_cases r1 : room < 1
    · have r1' : ¬ (1 ≤ room) := by omega
      simp [and_assoc, r1, r1', notIf]
      exact hR _ _ ⟨rfl, f1⟩
    · have r2 : 16 < room := by omega
      have r1' : (1 ≤ room) := by omega
      have r2' : ¬ (room ≤ 16) := by omega
      simp [and_assoc, r1, r1', r2, r2', notIf]
      exact hR _ _ ⟨rfl, f1⟩
  simp only [not_or] at hr
  obtain ⟨r1, r2⟩ := hr
  have r1' : (1 ≤ room) := by omega
  have r2' : room ≤ 16 := by omega
  simp [and_assoc, h2, h2']
  obtain ⟨n, rfl⟩ : ∃ n : Nat, room = n := ⟨room.toNat, by omega⟩
  refine (rnew n (by omega) (by omega)).mono ?_
  rintro v h3 ⟨rfl, w3, f3, s3⟩
  have z1 := f1.size
  simp [and_assoc, r1, r1', r2, r2', notIf]
  refine ⟨fun i h4 => ∃ k L a c, i = Int.ofNat k ∧ k ≤ cs.length ∧ Both h (sz h1 + 1) (sz h1) (sz h3) n h4 L a c, ?_, fun i _ => cs.length - i.toNat, ?_⟩
  · refine ⟨0, [], none, 0, rfl, by omega, w3.fr (Fr.new [] _ _) (by simp) (by simp), ⟨new_at _ _, Own.nil _ _ _, by simp [foot]⟩, by simp [foot], (f1.trans f3).trans (Fr.new [] _ _)⟩
  rintro i h4 ⟨k, L, la, lc, rfl, hk, w⟩
  simp only [Int.ofNat_eq_natCast]
  have hq := w.c1.row.lt
  by_cases hkl : k < cs.length
  · obtain ⟨x, hx⟩ : ∃ x, cs[k]? = some x := ⟨_, List.getElem?_eq_getElem hkl⟩
    have hok := g.ok x (List.mem_of_getElem? hx)
    obtain ⟨b, o, rfl, hc⟩ := encL_one encC_len (g.fr w.c4).row hx (by omega)
    have hc0 := hc 0 (by omega)
    have hc1 := hc 1 (by omega)
    have hc2 := hc 2 (by omega)
    simp only [encC, List.getElem?_cons_zero, List.getElem?_cons_succ, Nat.add_zero] at hc0 hc1 hc2
    have n1 : ¬ ((cs.length : Int) ≤ (k : Int)) := by omega
    have n2 : ¬ (cs.length ≤ k) := by omega
    have hw : IntKind.wrap .i64 ((k : Int) + 1) = (k : Int) + 1 := wrap_i64 (by omega) (by omega)
    simp [and_assoc, hkl, n1, n2, hc0, hc1, hc2, hw, new_at, writeAt]
    -- the copy of the call
    generalize h6e : upd (new h4 (blk 31 [.int .i64 0, .int .u64 0, .int .u64 0])) (sz h4) 31 [.int .i64 x.what, .int .u64 x.t, .int .u64 x.m] = h6
    have f46 : Fr [] h4 h6 := by
      subst h6e
      exact (Fr.new [] h4 _).later (Fr.upd (F := [sz h4]) (by simp) _ _ _) (by simp)
    have hx6 : bk h6 (sz h4) = some (blk 31 [.int .i64 x.what, .int .u64 x.t, .int .u64 x.m]) := by
      subst h6e; rw [bk_upd (by rw [sz_new]; omega), if_pos rfl]
    clear h6e
    have w6 := w.fr f46
    have z6 := lt_of_bk hx6
    have hs := lt_of_bk w.c2.hs
    have hfl := w.c2.own.foot_lt
    refine ⟨fun h7 => ∃ L a c, Both h (sz h1 + 1) (sz h1) (sz h3) n h7 L a c, ?_, ?_⟩
    · -- the call itself
      by_cases t0 : x.what = 0
      · simp [and_assoc, cellAt_of hx6, t0]
        refine (rpush w6.c1 hok.1 hok.2.2.1).mono ?_
        rintro v h7 ⟨rfl, w7, f7, s7⟩
        have hx7 := f7.at hx6 (by simp; omega)
        simp [and_assoc, cellAt_of hx7]
        have ww := w6.c2.fr f7 (by simp; omega) (fun y hy => by have := w.c3 y hy; simp; omega)
        refine (ref_push ww w6.c1.good (by have := w6.c1.row.lt; omega) (by omega) (by omega) hok.1 hok.2.2.1).mono ?_
        rintro v h8 ⟨rfl, a', c', w8, f8, g8⟩
        refine ⟨_, rfl, by simp, fun _ => ⟨_, a', c', w7.fr f8 ?_ ?_, w8, ?_, ?_⟩⟩
        · simp only [List.mem_cons, not_or]; exact ⟨by omega, fun hy => by have := w.c3 _ hy; omega⟩
        · simp only [List.mem_cons, not_or]; exact ⟨by omega, fun hy => by have := w.c3 _ hy; omega⟩
        · intro y hy
          rcases g8 y hy with h | h
          · exact w.c3 y h
          · have := f46.size; omega
        · refine (w6.c4.later f7 (by simp; omega)).later f8 ?_
          intro y hy
          rcases List.mem_cons.1 hy with rfl | hy
          · have := f3.size; omega
          · have := w.c3 y hy; have := f3.size; omega
      by_cases t1 : x.what = 1
      · simp [and_assoc, cellAt_of hx6, t0, t1]
        refine (rtake w6.c1 x.t).mono ?_
        rintro v h7 ⟨rfl, w7, f7, s7⟩
        have hx7 := f7.at hx6 (by simp; omega)
        simp [and_assoc, cellAt_of hx7]
        have ww := w6.c2.fr f7 (by simp; omega) (fun y hy => by have := w.c3 y hy; simp; omega)
        refine (ref_take ww w6.c1.good (by have := w6.c1.row.lt; omega) x.t).mono ?_
        rintro v h8 ⟨rfl, a', c', w8, f8, g8⟩
        refine ⟨_, rfl, by simp, fun _ => ⟨_, a', c', w7.fr f8 (by simp; omega) (by simp; omega), w8, ?_, ?_⟩⟩
        · intro y hy
          have := g8 y hy; have := f46.size; omega
        · refine (w6.c4.later f7 (by simp; omega)).later f8 ?_
          simp; have := f3.size; omega
      by_cases t2 : x.what = 2
      · simp [and_assoc, cellAt_of hx6, t0, t1, t2]
        refine (rclear w6.c1).mono ?_
        rintro v h7 ⟨rfl, w7, f7, s7⟩
        have hs7 := f7.at w6.c2.hs (by simp; omega)
        have ls7 := lt_of_bk hs7
        simp [and_assoc, hs7, writeAt]
        refine ⟨[], none, 0, w7.fr (Fr.upd (F := [sz h3]) (by simp) _ _ _) (by simp; omega) (by simp; omega), ⟨by rw [bk_upd ls7, if_pos rfl]; rfl, Own.nil _ _ _, by simp [foot]⟩, by simp [foot], ?_⟩
        refine (w6.c4.later f7 (by simp; omega)).later (Fr.upd (F := [sz h3]) (by simp) _ _ _) (by simp; have := f3.size; omega)
      · simp [and_assoc, cellAt_of hx6, t0, t1, t2]
        exact ⟨L, la, lc, w6⟩
    · -- the questions
      rintro h7 ⟨M, ma, mc, w7⟩
      have hq7 := w7.c1.row.lt
      have hsame : ∀ h8, h8 = h7 → CallsH Try.prog 12 [.pointer (some ⟨sz h1 + 1, 0, none⟩)] h8 fun r50 h14 => ∃ Total51 : Int, r50 = .int .u64 Total51 ∧
          CallsH Try.prog 17 [.pointer (some ⟨sz h3, 0, none⟩)] h14 fun r52 h15 => ∃ Total53 : Int, r52 = .int .u64 Total53 ∧ (¬ Total51 = Total53 → R (.bool false) h15) ∧ (Total51 = Total53 →
          (∃ (La : Option Addr) (Ll Lc : Nat), cellAt h15 (sz h3) 1 = some (.slice La Ll Lc) ∧ CallsH Try.prog 10 [.pointer (some ⟨sz h1 + 1, 0, none⟩)] h15 fun r57 h16 => ∃ (Ma : Option Addr) (Ml Mc : Nat), r57 = .slice Ma Ml Mc ∧
          cellAt h16 (sz h3) 1 = some (.slice La Ll Lc) ∧ CallsH Try.prog 18 [.slice Ma Ml Mc, .slice La Ll Lc] h16 fun r61 h17 => ∃ same62 : Bool, r61 = .bool same62 ∧
          (same62 = false → R (.bool false) h17) ∧ (same62 = true → ((∃ k' L a c, (k : Int) + 1 = Int.ofNat k' ∧ k' ≤ cs.length ∧ Both h (sz h1 + 1) (sz h1) (sz h3) n h17 L a c) ∧ cs.length - ((k : Int) + 1).toNat < cs.length - k)))) := by
        rintro h8 rfl
        refine (total_spec w7.c1.row).mono ?_
        rintro v h9 ⟨rfl, rfl⟩
        refine ⟨_, rfl, ?_⟩
        refine (ref_total w7.c2 w7.c1.good (by omega)).mono ?_
        rintro v h10 ⟨rfl, rfl⟩
        refine ⟨_, rfl, by simp, fun _ => ⟨ma, M.length, mc, by rw [cellAt_of w7.c2.hs]; rfl, ?_⟩⟩
        refine (list_spec w7.c1.row).mono ?_
        rintro v h11 ⟨al, rfl, fr, f11⟩
        have w11 := w7.fr f11
        refine ⟨_, _, _, rfl, by rw [cellAt_of w11.c2.hs]; rfl, ?_⟩
        refine (same_spec fr.row w11.c2.own.row (by omega)).mono ?_
        rintro v h12 ⟨rfl, rfl⟩
        exact ⟨_, rfl, by simp, fun _ => ⟨⟨k + 1, _, _, _, by simp, by omega, w11⟩, by omega⟩⟩
      cases M with
      | nil =>
        refine (next_none w7.c1.row).mono ?_
        rintro v h8 ⟨rfl, rfl⟩
        simp [and_assoc, cellAt_of w7.c2.hs, notIf]
        have := hsame _ rfl
        simpa [cellAt_of w7.c2.hs] using this
      | cons p M =>
        refine (next_some w7.c1.row).mono ?_
        rintro v h8 ⟨rfl, rfl⟩
        obtain ⟨b2, rfl, d1, d2⟩ := w7.c2.get (k := 0) (p := p) rfl
        simp only [Nat.zero_mul] at d1
        have hp1 : (0 : Int) < (M.length : Int) + 1 := by omega
        simp [and_assoc, cellAt_of w7.c2.hs, notIf, d1, hp1]
        have := hsame _ rfl
        simpa [cellAt_of w7.c2.hs] using this
  · have n1 : (cs.length : Int) ≤ (k : Int) := by omega
    have n2 : cs.length ≤ k := by omega
    simp [hkl, n1, n2]
    exact hR _ _ ⟨rfl, w.c4⟩
end Go.Proofs.Ytgajaoophcljnaa
