import Derived.Test.YtadghpkdkdphdaaGd
namespace Go.Proofs.Ytadghpkdkdphdaa
open Go Go.Wd
set_option linter.unusedVariables false
set_option linter.unusedSimpArgs false

/-- A grant and a number, handed back out of a variable of its own. -/
theorem ret_back {h h3 : Hp} {x : G} {e : Int} {R : Value → Hp → Prop} (k3 : bk h3 (sz h) = some (blk 29 noG.cells)) (hR : R (.tuple #[.agg ⟨x.cells⟩, .int .i64 e]) (upd h3 (sz h) 29 x.cells)) :
    truly true ∧ ∃ T1 : TypeId, ∃ l : List Value, bk h3 (sz h) = some (blk T1 l) ∧ 0 + 6 ≤ l.length ∧ ∀ h4 : Hp, h4 = upd h3 (sz h) T1 (writeAt l 0 [.int .i64 x.state, .int .i64 x.owner, .int .i64 x.frame, .int .i64 x.to, .int .i64 x.page, .bool x.write]) →
      ∃ a1 : Int, cellAt h4 (sz h) (0 + 0) = some (.int .i64 a1) ∧ ∃ a2 : Int, cellAt h4 (sz h) (0 + 1) = some (.int .i64 a2) ∧ ∃ a3 : Int, cellAt h4 (sz h) (0 + 2) = some (.int .i64 a3) ∧ ∃ a4 : Int, cellAt h4 (sz h) (0 + 3) = some (.int .i64 a4) ∧
      ∃ a5 : Int, cellAt h4 (sz h) (0 + 4) = some (.int .i64 a5) ∧ ∃ a6 : Bool, cellAt h4 (sz h) (0 + 5) = some (.bool a6) ∧ R (.tuple #[.agg #[.int .i64 a1, .int .i64 a2, .int .i64 a3, .int .i64 a4, .int .i64 a5, .bool a6], .int .i64 e]) h4 :=
  G.ret k3 rfl x.state x.owner x.frame x.to x.page x.write (K := fun a1 a2 a3 a4 a5 a6 h => R (.tuple #[.agg #[.int .i64 a1, .int .i64 a2, .int .i64 a3, .int .i64 a4, .int .i64 a5, .bool a6], .int .i64 e]) h) hR

theorem accept_spec {h : Hp} {q : Nat} {L : List G} (w : GS h q L) (i t p : Int) :
    CallsH Try.prog 20 [.pointer (some ⟨q, 0, none⟩), .int .i64 i, .int .i64 t, .int .i64 p] h fun v h' => v = .tuple #[.agg ⟨(acceptG L i t p).cells⟩, .int .i64 (acceptE L i t p)] ∧ GS h' q (acceptL L i t p) ∧ Fr [q] h h' := by
  refine calls_k fun R hR => ?_
  apply grant_Grants_Accept.calls
  unfold grant_Grants_Accept.P
  rintro h1 rfl
  have f1 : Fr [] h (new h (blk 29 noG.cells)) := Fr.new _ _ _
  have k1 := new_at h (blk 29 noG.cells)
  have w1 := w.fr f1 (by simp)
  have hq := w.lt
  rw [show ([.int .i64 0, .int .i64 0, .int .i64 0, .int .i64 0, .int .i64 0, .bool false] : List Value) = noG.cells from rfl]
  generalize new h (blk 29 noG.cells) = h1 at *
  -- what fails
  have bad : ∀ (h2 : Hp) (e : Int), acceptE L i t p = e → e ≠ 0 → Fr [] h1 h2 → R (.tuple #[.agg ⟨noG.cells⟩, .int .i64 e]) (upd h2 (sz h) 29 noG.cells) := by
    rintro h2 e he hne f2
    have hg : acceptG L i t p = noG := by simp [acceptG, he, hne]
    have hl : acceptL L i t p = L := by simp [acceptL, he, hne]
    rw [he, hg, hl] at hR
    exact hR _ _ ⟨rfl, (w1.fr f2 (by simp)).fr (Fr.upd (F := [sz h]) (by simp) _ _ _) (by simp; omega), (f1.trans f2).mono (by simp) |>.later (Fr.upd (F := [sz h]) (by simp) _ _ _) (by simp)⟩
  refine ⟨fun h4 => h4 = h1 ∧ ¬ (p < 0 ∨ 4096 ≤ p), ?_, ?_⟩
  · refine ⟨fun d => ret_back k1 (bad h1 11 (by simp [acceptE, of_decide_eq_true d]) (by omega) (Fr.refl _ _)), fun d => ⟨fun d2 => ret_back k1 (bad h1 11 ?_ (by omega) (Fr.refl _ _)), fun d2 => ⟨rfl, ?_⟩⟩⟩
    · have d2' := of_decide_eq_true d2
      have : p < 0 ∨ 4096 ≤ p := by omega
      simp [acceptE, this]
    · have d' := of_decide_eq_false d
      have d2' := of_decide_eq_false d2
      omega
  rintro h4 ⟨rfl, hp⟩
  refine (made_spec w1 i t).mono ?_
  rintro v h5 ⟨rfl, rfl⟩
  refine ⟨_, _, rfl, fun d => ret_back k1 (bad h5 _ ?_ ?_ (Fr.refl _ _)), fun d => ?_⟩
  · have d' : ¬ madeE L i t = 0 := by simpa using d
    simp only [acceptE]; rw [if_neg hp, if_pos d']
  · simpa using d
  have hm : madeE L i t = 0 := by simpa using d
  obtain ⟨ht, hg, hst, hto⟩ := madeE_zero hm
  obtain ⟨k, rfl, hk⟩ := isThere_nat ht
  obtain ⟨x, hx⟩ := w1.ex hk
  have hgx := getG_nat hk hx
  rw [hgx] at hst hto
  have hkl := (List.getElem?_eq_some_iff.1 hx).1
  simp only [hm, if_true, Int.toNat_natCast]
  have hE : acceptE L k t p = if x.state = 2 then 20 else if 0 ≤ idx (atP t p) L then 17 else 0 := by
    simp only [acceptE, hgx]; rw [if_neg hp, if_neg (by simp [hm])]
  refine ⟨_, _, rfl, _, w1.arr.get G.len hx 0 (by omega), fun d2 => ret_back k1 (bad h5 20 (by rw [hE, if_pos (by simpa using d2)]) (by omega) (Fr.refl _ _)), fun d2 => ?_⟩
  have d2' : ¬ x.state = 2 := by simpa using d2
  refine (At_spec w1 t p).mono ?_
  rintro v h8 ⟨rfl, f8⟩
  have k8 := f8.at k1 (by simp)
  have w8 := w1.fr f8 (by simp)
  refine ⟨_, rfl, fun d3 => ret_back k8 (bad h8 17 (by rw [hE, if_neg d2', if_pos (by simpa using d3)]) (by omega) f8), fun d3 => ?_⟩
  have d3' : ¬ (0 ≤ idx (atP t p) L) := by simpa using d3
  have he : acceptE L k t p = 0 := by rw [hE, if_neg d2', if_neg d3']
  have hgg : acceptG L k t p = { x with state := 2, page := p } := by simp [acceptG, he, hgx]
  have hll : acceptL L k t p = L.set k { x with state := 2, page := p } := by simp [acceptL, he, hgx]
  rw [he, hgg, hll] at hR
  refine ⟨_, _, rfl, truly_rfl, _, _, w8.arr.hq, w8.arr.room (k := k) (j := 0) (n := 1) G.len hkl (by omega), ?_⟩
  rintro h10 rfl
  have w10 := w8.arr.put G.len (j := 0) (y := { x with state := 2 }) (vs := [.int .i64 2]) hx (by simp) rfl
  simp only [Nat.add_zero] at w10
  have f10 : Fr [q] h8 (upd h8 q 54 (writeAt (encL G.cells L ++ []) (k * 6) [.int .i64 2])) := Fr.upd (by simp) _ _ _
  generalize upd h8 q 54 (writeAt (encL G.cells L ++ []) (k * 6) [.int .i64 2]) = h10 at *
  have hx10 : (L.set k { x with state := 2 })[k]? = some { x with state := 2 } := by simp [hkl]
  refine ⟨_, _, rfl, truly_rfl, _, _, w10.hq, w10.room (k := k) (j := 4) (n := 1) G.len (by simpa using hkl) (by omega), ?_⟩
  rintro h11 rfl
  have w11 := w10.put G.len (j := 4) (y := { x with state := 2, page := p }) (vs := [.int .i64 p]) hx10 (by simp) rfl
  rw [List.set_set] at w11
  have f11 : Fr [q] h10 (upd h10 q 54 (writeAt (encL G.cells (L.set k { x with state := 2 }) ++ []) (k * 6 + 4) [.int .i64 p])) := Fr.upd (by simp) _ _ _
  generalize upd h10 q 54 (writeAt (encL G.cells (L.set k { x with state := 2 }) ++ []) (k * 6 + 4) [.int .i64 p]) = h11 at *
  have hx11 : (L.set k { x with state := 2, page := p })[k]? = some { x with state := 2, page := p } := by simp [hkl]
  refine ⟨_, _, rfl, G.rd { x with state := 2, page := p } (w11.get G.len hx11) ?_⟩
  have f811 := f10.trans f11
  have k11 := f811.at k8 (by simp; omega)
  have f111 := ((f1.trans f8).mono (by simp)).trans f811
  have fin := hR _ _ ⟨rfl, ⟨w11.fr (Fr.upd (F := [sz h]) (b := sz h) (by simp) h11 29 (G.cells { x with state := 2, page := p })) (by simp; omega), by simp [w.len]⟩, f111.later (Fr.upd (F := [sz h]) (b := sz h) (by simp) h11 29 (G.cells { x with state := 2, page := p })) (by simp)⟩
  exact ret_back (x := { x with state := 2, page := p }) k11 fin

theorem leave_spec {h : Hp} {q : Nat} {L : List G} (w : GS h q L) (i t : Int) :
    CallsH Try.prog 21 [.pointer (some ⟨q, 0, none⟩), .int .i64 i, .int .i64 t] h fun v h' => v = .tuple #[.agg ⟨(leaveG L i t).cells⟩, .int .i64 (leaveE L i t)] ∧ GS h' q (leaveL L i t) ∧ Fr [q] h h' := by
  refine calls_k fun R hR => ?_
  apply grant_Grants_Leave.calls
  unfold grant_Grants_Leave.P
  rintro h1 rfl
  have f1 : Fr [] h (new h (blk 29 noG.cells)) := Fr.new _ _ _
  have k1 := new_at h (blk 29 noG.cells)
  have w1 := w.fr f1 (by simp)
  have hq := w.lt
  rw [show ([.int .i64 0, .int .i64 0, .int .i64 0, .int .i64 0, .int .i64 0, .bool false] : List Value) = noG.cells from rfl]
  generalize new h (blk 29 noG.cells) = h1 at *
  have bad : ∀ (e : Int), leaveE L i t = e → e ≠ 0 → R (.tuple #[.agg ⟨noG.cells⟩, .int .i64 e]) (upd h1 (sz h) 29 noG.cells) := by
    rintro e he hne
    have hg : leaveG L i t = noG := by simp [leaveG, he, hne]
    have hl : leaveL L i t = L := by simp [leaveL, he, hne]
    rw [he, hg, hl] at hR
    exact hR _ _ ⟨rfl, w1.fr (Fr.upd (F := [sz h]) (by simp) _ _ _) (by simp; omega), (f1.mono (by simp)).later (Fr.upd (F := [sz h]) (by simp) _ _ _) (by simp)⟩
  refine (made_spec w1 i t).mono ?_
  rintro v h5 ⟨rfl, rfl⟩
  refine ⟨_, _, rfl, fun d => ret_back k1 (bad _ ?_ ?_), fun d => ?_⟩
  · have d' : ¬ madeE L i t = 0 := by simpa using d
    simp only [leaveE]; rw [if_pos d']
  · simpa using d
  have hm : madeE L i t = 0 := by simpa using d
  obtain ⟨ht, hg, hst, hto⟩ := madeE_zero hm
  obtain ⟨k, rfl, hk⟩ := isThere_nat ht
  obtain ⟨x, hx⟩ := w1.ex hk
  have hgx := getG_nat hk hx
  have hkl := (List.getElem?_eq_some_iff.1 hx).1
  simp only [hm, if_true, Int.toNat_natCast]
  have hE : leaveE L k t = if x.state = 1 then 20 else 0 := by
    simp only [leaveE, hgx]; rw [if_neg (by simp [hm])]
  refine ⟨_, _, rfl, _, w1.arr.get G.len hx 0 (by omega), fun d2 => ret_back k1 (bad 20 (by rw [hE, if_pos (by simpa using d2)]) (by omega)), fun d2 => ?_⟩
  have d2' : ¬ x.state = 1 := by simpa using d2
  have he : leaveE L k t = 0 := by rw [hE, if_neg d2']
  have hgg : leaveG L k t = x := by simp [leaveG, he, hgx]
  have hll : leaveL L k t = L.set k { x with state := 1, page := 0 } := by simp [leaveL, he, hgx]
  rw [he, hgg, hll] at hR
  refine ⟨_, _, rfl, G.rd x (w1.arr.get G.len hx) ?_⟩
  refine put_local rfl (by simp [noG, G.cells]) ?_
  intro h6 k6 f6 s6
  have w6 := w1.arr.fr f6 (by simp)
  refine ⟨_, _, rfl, truly_rfl, _, _, w6.hq, w6.room (k := k) (j := 0) (n := 1) G.len hkl (by omega), ?_⟩
  rintro h7 rfl
  have w7 := w6.put G.len (j := 0) (y := { x with state := 1 }) (vs := [.int .i64 1]) hx (by simp) rfl
  simp only [Nat.add_zero] at w7
  have f7 : Fr [q] h6 (upd h6 q 54 (writeAt (encL G.cells L ++ []) (k * 6) [.int .i64 1])) := Fr.upd (by simp) _ _ _
  generalize upd h6 q 54 (writeAt (encL G.cells L ++ []) (k * 6) [.int .i64 1]) = h7 at *
  have hx7 : (L.set k { x with state := 1 })[k]? = some { x with state := 1 } := by simp [hkl]
  refine ⟨_, _, rfl, truly_rfl, _, _, w7.hq, w7.room (k := k) (j := 4) (n := 1) G.len (by simpa using hkl) (by omega), ?_⟩
  rintro h8 rfl
  have w8 := w7.put G.len (j := 4) (y := { x with state := 1, page := 0 }) (vs := [.int .i64 0]) hx7 (by simp) rfl
  rw [List.set_set] at w8
  have f8 : Fr [q] h7 (upd h7 q 54 (writeAt (encL G.cells (L.set k { x with state := 1 }) ++ []) (k * 6 + 4) [.int .i64 0])) := Fr.upd (by simp) _ _ _
  generalize upd h7 q 54 (writeAt (encL G.cells (L.set k { x with state := 1 }) ++ []) (k * 6 + 4) [.int .i64 0]) = h8 at *
  have f68 := f7.trans f8
  have lt1 := lt_of_bk k1
  have k8 := f68.at k6 (by simp; omega)
  have k18 := f68.at (f6.at k1 (by simp)) (by simp; omega)
  refine G.rd x (fun j hj => by rw [cellAt_of k8, Nat.zero_add]; rfl) ?_
  have f08 := ((f1.trans f6).mono (by simp)).trans f68
  have fin := hR _ _ ⟨rfl, ⟨w8.fr (Fr.upd (F := [sz h]) (b := sz h) (by simp) h8 29 x.cells) (by simp; omega), by simp [w.len]⟩, f08.later (Fr.upd (F := [sz h]) (b := sz h) (by simp) h8 29 x.cells) (by simp)⟩
  exact ret_back (x := x) k18 fin

theorem revoke_spec {h : Hp} {q : Nat} {L : List G} (w : GS h q L) (i o : Int) :
    CallsH Try.prog 11 [.pointer (some ⟨q, 0, none⟩), .int .i64 i, .int .i64 o] h fun v h' => v = .tuple #[.agg ⟨(revokeG L i o).cells⟩, .int .i64 (revokeE L i o)] ∧ GS h' q (revokeL L i o) ∧ Fr [q] h h' := by
  refine calls_k fun R hR => ?_
  apply grant_Grants_Revoke.calls
  unfold grant_Grants_Revoke.P
  rintro h1 rfl
  have f1 : Fr [] h (new h (blk 29 noG.cells)) := Fr.new _ _ _
  have k1 := new_at h (blk 29 noG.cells)
  have w1 := w.fr f1 (by simp)
  have hq := w.lt
  rw [show ([.int .i64 0, .int .i64 0, .int .i64 0, .int .i64 0, .int .i64 0, .bool false] : List Value) = noG.cells from rfl]
  generalize new h (blk 29 noG.cells) = h1 at *
  have bad : ∀ (h2 : Hp) (e : Int), revokeE L i o = e → e ≠ 0 → Fr [] h1 h2 → R (.tuple #[.agg ⟨noG.cells⟩, .int .i64 e]) (upd h2 (sz h) 29 noG.cells) := by
    rintro h2 e he hne f2
    have hg : revokeG L i o = noG := by simp [revokeG, he, hne]
    have hl : revokeL L i o = L := by simp [revokeL, he, hne]
    rw [he, hg, hl] at hR
    exact hR _ _ ⟨rfl, (w1.fr f2 (by simp)).fr (Fr.upd (F := [sz h]) (by simp) _ _ _) (by simp; omega), ((f1.trans f2).mono (by simp)).later (Fr.upd (F := [sz h]) (by simp) _ _ _) (by simp)⟩
  refine ⟨fun h6 => h6 = h1 ∧ isThere i = true ∧ isGuest o = true, ?_, ?_⟩
  · refine (there_spec i).mono ?_
    rintro v h2 ⟨rfl, rfl⟩
    have b11 : isThere i = false ∨ isGuest o = false → revokeE L i o = 11 := by
      intro hb
      simp [revokeE]; intro a; rcases hb with hb | hb <;> simp_all
    refine ⟨_, rfl, fun d => ret_back k1 (bad h2 11 (b11 (.inl (by simpa using d))) (by omega) (Fr.refl _ _)), fun d => ?_⟩
    refine (guest_spec o).mono ?_
    rintro v h3 ⟨rfl, rfl⟩
    exact ⟨_, rfl, fun d2 => ret_back k1 (bad h3 11 (b11 (.inr (by simpa using d2))) (by omega) (Fr.refl _ _)), fun d2 => ⟨rfl, by simpa using d, by simpa using d2⟩⟩
  rintro h6 ⟨rfl, d1, d2⟩
  obtain ⟨k, rfl, hk⟩ := isThere_nat d1
  obtain ⟨x, hx⟩ := w1.ex hk
  have hgx := getG_nat hk hx
  have hkl := (List.getElem?_eq_some_iff.1 hx).1
  have hE : revokeE L k o = if x.state = 0 ∨ x.owner ≠ o then 16 else 0 := by simp only [revokeE, d1, d2, hgx]; rfl
  rw [show 0 + (k : Int).toNat * 6 = k * 6 by simp]
  refine ⟨by omega, by omega, G.rd x (w1.arr.get G.len hx) ?_⟩
  have pl := @put_local h6 29 noG.cells x.cells 6
  refine pl rfl (by simp [noG, G.cells]) ?_
  intro h8 k8 f8 s8
  have k18 := f8.at k1 (by simp)
  have lt1 := lt_of_bk k1
  have w8 := w1.arr.fr f8 (by simp)
  refine ⟨fun h11 => h11 = h8 ∧ revokeE L k o = 0, ⟨_, (cellAt_of k8 _).trans rfl, fun c => ?_, fun c => ⟨_, (cellAt_of k8 _).trans rfl, fun c2 => ?_, fun c2 => ⟨rfl, ?_⟩⟩⟩, ?_⟩
  · have c' : x.state = 0 := by simpa using c
    exact ret_back k18 (bad h8 16 (by rw [hE, if_pos (.inl c')]) (by omega) f8)
  · have c2' : x.owner ≠ o := by simpa using c2
    exact ret_back k18 (bad h8 16 (by rw [hE, if_pos (.inr c2')]) (by omega) f8)
  · rw [hE, if_neg]
    have c' : ¬ x.state = 0 := by simpa using c
    have c2' : x.owner = o := by simpa using c2
    simp [c', c2']
  rintro h11 ⟨rfl, he⟩
  have hgg : revokeG L k o = x := by simp [revokeG, he, hgx]
  have hll : revokeL L k o = L.set k noG := by simp [revokeL, he]
  rw [he, hgg, hll] at hR
  refine ⟨by omega, by omega, truly_rfl, _, _, w8.hq, w8.room (k := k) (j := 0) (n := 6) G.len hkl (by omega), ?_⟩
  rintro h12 rfl
  have w12 := w8.put G.len (j := 0) (y := noG) (vs := noG.cells) hx (by simp [noG, G.cells]) rfl
  simp only [Nat.add_zero] at w12
  have f12 : Fr [q] h11 (upd h11 q 54 (writeAt (encL G.cells L ++ []) (k * 6) noG.cells)) := Fr.upd (by simp) _ _ _
  generalize upd h11 q 54 (writeAt (encL G.cells L ++ []) (k * 6) noG.cells) = h12 at *
  have k12 := f12.at k8 (by simp; omega)
  have k112 := f12.at k18 (by simp; omega)
  refine G.rd x (fun j hj => by rw [cellAt_of k12, Nat.zero_add]) ?_
  have f08 := ((f1.trans f8).mono (by simp)).trans f12
  have fin := hR _ _ ⟨rfl, ⟨w12.fr (Fr.upd (F := [sz h]) (b := sz h) (by simp) h12 29 x.cells) (by simp; omega), by simp [w.len]⟩, f08.later (Fr.upd (F := [sz h]) (b := sz h) (by simp) h12 29 x.cells) (by simp)⟩
  exact ret_back (x := x) k112 fin
end Go.Proofs.Ytadghpkdkdphdaa
