import Derived.Test.YtadghpkdkdphdaaGk
namespace Go.Proofs.Ytadghpkdkdphdaa
open Go Go.Wd
set_option linter.unusedVariables false
set_option linter.unusedSimpArgs false

theorem Fr.on {F : List Nat} {b : Nat} {a h : Hp} (f : Fr F a h) (hb : b ∈ F ∨ sz a ≤ b) (T : TypeId) (l : List Value) : Fr F a (upd h b T l) :=
  f.fresh (Fr.upd (F := [b]) (by simp) h T l) (by simpa using hb)
section
variable {h : Hp} {q lb : Nat} {L : List G}
theorem RS.on (w : RS h q lb L) {b : Nat} (h1 : q ≠ b) (h2 : lb ≠ b) (T : TypeId) (l : List Value) : RS (upd h b T l) q lb L :=
  w.fr (Fr.upd (F := [b]) (by simp) h T l) (by simpa using h1) (by simpa using h2)
end

set_option maxHeartbeats 2000000 in
theorem rAccept_spec {h : Hp} {q lb : Nat} {L : List G} (w : RS h q lb L) (i t p : Int) :
    CallsH Try.prog 28 [.pointer (some ⟨q, 0, none⟩), .int .i64 i, .int .i64 t, .int .i64 p] h fun v h' => v = .tuple #[.agg ⟨(acceptG L i t p).cells⟩, .int .i64 (acceptE L i t p)] ∧ RS h' q lb (acceptL L i t p) ∧ Fr [lb] h h' := by
  refine calls_k fun R hR => ?_
  apply warderref12_Grants_Accept.calls
  unfold warderref12_Grants_Accept.P
  rintro h1 rfl
  have f1 : Fr [lb] h (new h (blk 41 noG.cells)) := Fr.new _ _ _
  have k1 := new_at h (blk 41 noG.cells)
  have w1 := w.fr (Fr.new [] h (blk 41 noG.cells)) (by simp) (by simp)
  have z1 : sz (new h (blk 41 noG.cells)) = sz h + 1 := sz_new _ _
  have lq := w.lt
  have ll := w.ltl
  simp only [noG, G.cells] at f1 k1 w1 z1
  generalize new h (blk 41 [.int .i64 0, .int .i64 0, .int .i64 0, .int .i64 0, .int .i64 0, .bool false]) = h1 at *
  generalize hrb : sz h = rb at *
  have fin : ∀ (e : Int) (h2 : Hp) (T : TypeId), acceptE L i t p = e → e ≠ 0 → RS h2 q lb L → Fr [lb] h h2 → R (.tuple #[.agg #[.int .i64 0, .int .i64 0, .int .i64 0, .int .i64 0, .int .i64 0, .bool false], .int .i64 e]) (upd h2 rb T (G.mk 0 0 0 0 0 false).cells) := by
    intro e h2 T he hne w2 f2
    have e1 : acceptG L i t p = noG := by simp [acceptG, he, hne]
    have e2 : acceptL L i t p = L := by simp [acceptL, he, hne]
    rw [e1, e2, he] at hR
    exact hR _ _ ⟨rfl, w2.on (by omega) (by omega) _ _, Fr.on f2 (.inr (by omega)) _ _⟩
  refine ⟨fun h8 => h8 = h1 ∧ isThere i = true ∧ isGuest t = true ∧ ¬ p < 0 ∧ ¬ 4095 < p, ?_, ?_⟩
  · refine (rid_spec i).mono ?_
    rintro v h2 ⟨rfl, rfl⟩
    refine ⟨_, rfl, fun c => G.ret k1 rfl 0 0 0 0 0 false (fin 11 _ _ (by simp [acceptE, madeE, c]) (by decide) w1 f1), fun c1 => ?_⟩
    refine (rguest_spec t).mono ?_
    rintro v h2 ⟨rfl, rfl⟩
    refine ⟨_, rfl, fun c => G.ret k1 rfl 0 0 0 0 0 false (fin 11 _ _ (by simp [acceptE, madeE, c]) (by decide) w1 f1), fun c2 => ⟨fun c => G.ret k1 rfl 0 0 0 0 0 false (fin 11 _ _ (by simp at c; simp [acceptE, c]) (by decide) w1 f1), fun c3 => ⟨fun c => G.ret k1 rfl 0 0 0 0 0 false (fin 11 _ _ (by simp at c; unfold acceptE; rw [if_pos (by omega)]) (by decide) w1 f1), fun c4 => ⟨rfl, by simpa using c1, by simpa using c2, by simpa using c3, by simpa using c4⟩⟩⟩⟩
  rintro h8 ⟨rfl, d1, d2, d3, d4⟩
  obtain ⟨k, rfl, hk⟩ := isThere_nat d1
  obtain ⟨x, hx⟩ := w.ex hk
  have hg := getG_nat hk hx
  have hA : acceptE L k t p = if madeE L k t ≠ 0 then madeE L k t else if x.state = 2 then 20 else if 0 ≤ idx (atP t p) L then 17 else 0 := by
    unfold acceptE; rw [if_neg (by omega), hg]
  have hM : madeE L k t = if x.state != 0 && x.to == t then 0 else 12 := by simp [madeE, d1, d2, hg]
  refine ⟨_, _, _, w1.list, by omega, by omega, _, _, rfl, ?_⟩
  refine G.rd x (fun j hj => w1.cell hx j hj) ?_
  refine put_local rfl (by simp) ?_
  intro h10 k10 f10 s10
  have w10 := w1.fr f10 (by simp) (by simp)
  have kr := f10.at k1 (by simp)
  have fr10 := f1.trans (f10.mono (by simp))
  have e0 := (cellAt_of k10 0).trans rfl
  have e3 := (cellAt_of k10 3).trans rfl
  refine ⟨fun h13 => h13 = h10 ∧ x.state ≠ 0 ∧ x.to = t, ⟨_, e0, fun c => ?_, fun c1 => ⟨_, e3, fun c => ?_, fun c2 => ?_⟩⟩, ?_⟩
  · exact G.ret kr rfl 0 0 0 0 0 false (fin 12 _ _ (by rw [hA, hM]; simp only [beq_iff_eq] at c; simp [c]) (by decide) w10 fr10)
  · exact G.ret kr rfl 0 0 0 0 0 false (fin 12 _ _ (by rw [hA, hM]; simp only [bne_iff_ne] at c; simp [c]) (by decide) w10 fr10)
  · exact ⟨rfl, by simpa using c1, by simpa using c2⟩
  rintro h13 ⟨rfl, hs, ht⟩
  have hM0 : madeE L k t = 0 := by rw [hM]; simp [hs, ht]
  rw [hM0] at hA
  refine ⟨_, e0, fun c => ?_, fun c1 => ?_⟩
  · exact G.ret kr rfl 0 0 0 0 0 false (fin 20 _ _ (by rw [hA]; simp only [beq_iff_eq] at c; simp [c]) (by decide) w10 fr10)
  refine (rAt_spec w10 t p).mono ?_
  rintro v h15 ⟨rfl, rfl⟩
  refine ⟨_, rfl, fun c => ?_, fun c2 => ?_⟩
  · exact G.ret kr rfl 0 0 0 0 0 false (fin 17 _ _ (by rw [hA]; simp at c c1; simp [c, c1]) (by decide) w10 fr10)
  have he : acceptE L k t p = 0 := by rw [hA]; simp at c2 c1; simp [c2, c1]
  have hG : acceptG L k t p = { x with state := 2, page := p } := by simp [acceptG, he, hg]
  have hL : acceptL L k t p = L.set k { x with state := 2, page := p } := by simp [acceptL, he, hg]
  rw [he, hG, hL] at hR
  refine ⟨truly_rfl, _, _, k10, by simp, ?_⟩
  rintro h17 rfl
  have hne1 : sz h8 ≠ q := by omega
  have hne2 : sz h8 ≠ lb := by omega
  generalize hxb : sz h8 = xb at *
  refine ⟨truly_rfl, _, _, upd_same k10 _ _, by simp [writeAt], ?_⟩
  rintro h18 rfl
  rw [upd_upd]
  have k18 : bk (upd h15 xb 41 ({ x with state := 2, page := p } : G).cells) xb = some (blk 41 ({ x with state := 2, page := p } : G).cells) := upd_same k10 _ _
  have w18 : RS (upd h15 xb 41 ({ x with state := 2, page := p } : G).cells) q lb L := w10.on (by omega) (by omega) _ _
  have f18 : Fr [lb] h (upd h15 xb 41 ({ x with state := 2, page := p } : G).cells) := Fr.on fr10 (.inr (by omega)) _ _
  have kr18 : bk (upd h15 xb 41 ({ x with state := 2, page := p } : G).cells) rb = some (blk 41 noG.cells) := by rw [upd_other (by omega)]; exact kr
  have hcells : writeAt (writeAt [Value.int .i64 x.state, .int .i64 x.owner, .int .i64 x.frame, .int .i64 x.to, .int .i64 x.page, .bool x.write] 0 [.int .i64 2]) 4 [.int .i64 p] = ({ x with state := 2, page := p } : G).cells := rfl
  rw [hcells]
  generalize upd h15 xb 41 ({ x with state := 2, page := p } : G).cells = h18 at *
  have hy : ({ x with state := 2, page := p } : G) = ⟨2, x.owner, x.frame, x.to, p, x.write⟩ := rfl
  refine ⟨_, _, _, w18.list, ?_⟩
  refine G.rd (o := 0) { x with state := 2, page := p } (fun j hj => by rw [Nat.zero_add]; exact cellAt_of k18 j) ?_
  refine ⟨by omega, by omega, _, _, rfl, truly_rfl, _, _, w18.arr.hq, w18.room0 hk (by omega), ?_⟩
  rintro h19 rfl
  have w19 := w18.put0 (y := { x with state := 2, page := p }) (vs := ({ x with state := 2, page := p } : G).cells) hx (by simp [G.cells]) rfl
  have f19 : Fr [lb] h (upd h18 lb 41 (writeAt (encL G.cells L ++ []) (0 + (k : Int).toNat * 6) ({ x with state := 2, page := p } : G).cells)) := Fr.on f18 (.inl (by simp)) _ _
  have k19 : bk (upd h18 lb 41 (writeAt (encL G.cells L ++ []) (0 + (k : Int).toNat * 6) ({ x with state := 2, page := p } : G).cells)) xb = some (blk 41 ({ x with state := 2, page := p } : G).cells) := by rw [upd_other (by omega)]; exact k18
  have kr19 : bk (upd h18 lb 41 (writeAt (encL G.cells L ++ []) (0 + (k : Int).toNat * 6) ({ x with state := 2, page := p } : G).cells)) rb = some (blk 41 noG.cells) := by rw [upd_other (by omega)]; exact kr18
  simp only [G.cells] at w19 f19 k19 kr19
  generalize upd h18 lb 41 (writeAt (encL G.cells L ++ []) (0 + (k : Int).toNat * 6) [.int .i64 2, .int .i64 x.owner, .int .i64 x.frame, .int .i64 x.to, .int .i64 p, .bool x.write]) = h19 at *
  refine G.rd (o := 0) { x with state := 2, page := p } (fun j hj => by rw [Nat.zero_add]; exact cellAt_of k19 j) ?_
  exact G.ret kr19 rfl _ _ _ _ _ _ (hR _ _ ⟨rfl, w19.on (by omega) (by omega) _ _, Fr.on f19 (.inr (by omega)) _ _⟩)

set_option maxHeartbeats 2000000 in
theorem rLeave_spec {h : Hp} {q lb : Nat} {L : List G} (w : RS h q lb L) (i t : Int) :
    CallsH Try.prog 29 [.pointer (some ⟨q, 0, none⟩), .int .i64 i, .int .i64 t] h fun v h' => v = .tuple #[.agg ⟨(leaveG L i t).cells⟩, .int .i64 (leaveE L i t)] ∧ RS h' q lb (leaveL L i t) ∧ Fr [lb] h h' := by
  refine calls_k fun R hR => ?_
  apply warderref12_Grants_Leave.calls
  unfold warderref12_Grants_Leave.P
  rintro h1 rfl
  have f1 : Fr [lb] h (new h (blk 41 noG.cells)) := Fr.new _ _ _
  have k1 := new_at h (blk 41 noG.cells)
  have w1 := w.fr (Fr.new [] h (blk 41 noG.cells)) (by simp) (by simp)
  have z1 : sz (new h (blk 41 noG.cells)) = sz h + 1 := sz_new _ _
  have lq := w.lt
  have ll := w.ltl
  simp only [noG, G.cells] at f1 k1 w1 z1
  generalize new h (blk 41 [.int .i64 0, .int .i64 0, .int .i64 0, .int .i64 0, .int .i64 0, .bool false]) = h1 at *
  generalize hrb : sz h = rb at *
  have fin : ∀ (e : Int) (h2 : Hp) (T : TypeId), leaveE L i t = e → e ≠ 0 → RS h2 q lb L → Fr [lb] h h2 → R (.tuple #[.agg #[.int .i64 0, .int .i64 0, .int .i64 0, .int .i64 0, .int .i64 0, .bool false], .int .i64 e]) (upd h2 rb T (G.mk 0 0 0 0 0 false).cells) := by
    intro e h2 T he hne w2 f2
    have e1 : leaveG L i t = noG := by simp [leaveG, he, hne]
    have e2 : leaveL L i t = L := by simp [leaveL, he, hne]
    rw [e1, e2, he] at hR
    exact hR _ _ ⟨rfl, w2.on (by omega) (by omega) _ _, Fr.on f2 (.inr (by omega)) _ _⟩
  refine ⟨fun h8 => h8 = h1 ∧ isThere i = true ∧ isGuest t = true, ?_, ?_⟩
  · refine (rid_spec i).mono ?_
    rintro v h2 ⟨rfl, rfl⟩
    refine ⟨_, rfl, fun c => G.ret k1 rfl 0 0 0 0 0 false (fin 11 _ _ (by simp [leaveE, madeE, c]) (by decide) w1 f1), fun c1 => ?_⟩
    refine (rguest_spec t).mono ?_
    rintro v h2 ⟨rfl, rfl⟩
    refine ⟨_, rfl, fun c => G.ret k1 rfl 0 0 0 0 0 false (fin 11 _ _ (by simp [leaveE, madeE, c]) (by decide) w1 f1), fun c2 => ⟨rfl, by simpa using c1, by simpa using c2⟩⟩
  rintro h8 ⟨rfl, d1, d2⟩
  obtain ⟨k, rfl, hk⟩ := isThere_nat d1
  obtain ⟨x, hx⟩ := w.ex hk
  have hg := getG_nat hk hx
  have hA : leaveE L k t = if madeE L k t ≠ 0 then madeE L k t else if x.state = 1 then 20 else 0 := by
    unfold leaveE; rw [hg]
  have hM : madeE L k t = if x.state != 0 && x.to == t then 0 else 12 := by simp [madeE, d1, d2, hg]
  refine ⟨_, _, _, w1.list, by omega, by omega, _, _, rfl, ?_⟩
  refine G.rd x (fun j hj => w1.cell hx j hj) ?_
  refine put_local rfl (by simp) ?_
  intro h10 k10 f10 s10
  have w10 := w1.fr f10 (by simp) (by simp)
  have kr := f10.at k1 (by simp)
  have fr10 := f1.trans (f10.mono (by simp))
  have e0 := (cellAt_of k10 0).trans rfl
  have e3 := (cellAt_of k10 3).trans rfl
  refine ⟨fun h13 => h13 = h10 ∧ x.state ≠ 0 ∧ x.to = t, ⟨_, e0, fun c => ?_, fun c1 => ⟨_, e3, fun c => ?_, fun c2 => ?_⟩⟩, ?_⟩
  · exact G.ret kr rfl 0 0 0 0 0 false (fin 12 _ _ (by rw [hA, hM]; simp only [beq_iff_eq] at c; simp [c]) (by decide) w10 fr10)
  · exact G.ret kr rfl 0 0 0 0 0 false (fin 12 _ _ (by rw [hA, hM]; simp only [bne_iff_ne] at c; simp [c]) (by decide) w10 fr10)
  · exact ⟨rfl, by simpa using c1, by simpa using c2⟩
  rintro h13 ⟨rfl, hs, ht⟩
  have hM0 : madeE L k t = 0 := by rw [hM]; simp [hs, ht]
  rw [hM0] at hA
  refine ⟨_, e0, fun c => ?_, fun c1 => ?_⟩
  · exact G.ret kr rfl 0 0 0 0 0 false (fin 20 _ _ (by rw [hA]; simp only [beq_iff_eq] at c; simp [c]) (by decide) w10 fr10)
  have he : leaveE L k t = 0 := by rw [hA]; simp at c1; simp [c1]
  have hG : leaveG L k t = x := by simp [leaveG, he, hg]
  have hL : leaveL L k t = (L.set k { x with state := 1 }).set k { x with state := 1, page := 0 } := by simp [leaveL, he, hg]
  rw [he, hG, hL] at hR
  refine ⟨_, _, _, w10.list, by omega, by omega, _, _, rfl, truly_rfl, _, _, w10.arr.hq, w10.room0 hk (by omega), ?_⟩
  rintro h14 rfl
  have w14 := w10.put0 (y := { x with state := 1 }) (vs := [.int .i64 1]) hx (by simp) rfl
  have hne : sz h8 ≠ q ∧ sz h8 ≠ lb := by omega
  generalize hxb : sz h8 = xb at *
  have f14 : Fr [lb] h13 (upd h13 lb 41 (writeAt (encL G.cells L ++ []) (0 + (k : Int).toNat * 6) [.int .i64 1])) := Fr.upd (F := [lb]) (by simp) _ _ _
  have hx14 : (L.set k { x with state := 1 })[k]? = some { x with state := 1 } := by rw [List.getElem?_set_self (by rw [w.len]; exact hk)]
  generalize upd h13 lb 41 (writeAt (encL G.cells L ++ []) (0 + (k : Int).toNat * 6) [.int .i64 1]) = h14 at *
  refine ⟨_, _, _, w14.list, by omega, by omega, _, _, rfl, truly_rfl, _, _, w14.arr.hq, w14.room hk (by omega), ?_⟩
  rintro h15 rfl
  have w15 := w14.put (j := 4) (y := { x with state := 1, page := 0 }) (vs := [.int .i64 0]) hx14 (by simp) rfl
  have f15 : Fr [lb] h14 (upd h14 lb 41 (writeAt (encL G.cells (L.set k { x with state := 1 }) ++ []) (0 + (k : Int).toNat * 6 + 4) [.int .i64 0])) := Fr.upd (F := [lb]) (by simp) _ _ _
  generalize upd h14 lb 41 (writeAt (encL G.cells (L.set k { x with state := 1 }) ++ []) (0 + (k : Int).toNat * 6 + 4) [.int .i64 0]) = h15 at *
  have fx := f14.trans f15
  have k15 := fx.at k10 (by simp; omega)
  have kr15 := fx.at kr (by simp; omega)
  refine G.rd (o := 0) x (fun j hj => by rw [Nat.zero_add]; exact cellAt_of k15 j) ?_
  exact G.ret kr15 rfl _ _ _ _ _ _ (hR _ _ ⟨rfl, w15.on (by omega) (by omega) _ _, Fr.on (fr10.trans fx) (.inr (by omega)) _ _⟩)

set_option maxHeartbeats 2000000 in
theorem rRevoke_spec {h : Hp} {q lb : Nat} {L : List G} (w : RS h q lb L) (i o : Int) :
    CallsH Try.prog 30 [.pointer (some ⟨q, 0, none⟩), .int .i64 i, .int .i64 o] h fun v h' => v = .tuple #[.agg ⟨(revokeG L i o).cells⟩, .int .i64 (revokeE L i o)] ∧ RS h' q lb (revokeL L i o) ∧ Fr [lb] h h' := by
  refine calls_k fun R hR => ?_
  apply warderref12_Grants_Revoke.calls
  unfold warderref12_Grants_Revoke.P
  rintro h1 rfl
  have f1 : Fr [lb] h (new h (blk 41 noG.cells)) := Fr.new _ _ _
  have k1 := new_at h (blk 41 noG.cells)
  have w1 := w.fr (Fr.new [] h (blk 41 noG.cells)) (by simp) (by simp)
  have z1 : sz (new h (blk 41 noG.cells)) = sz h + 1 := sz_new _ _
  have lq := w.lt
  have ll := w.ltl
  simp only [noG, G.cells] at f1 k1 w1 z1
  generalize new h (blk 41 [.int .i64 0, .int .i64 0, .int .i64 0, .int .i64 0, .int .i64 0, .bool false]) = h1 at *
  generalize hrb : sz h = rb at *
  have fin : ∀ (e : Int) (h2 : Hp) (T : TypeId), revokeE L i o = e → e ≠ 0 → RS h2 q lb L → Fr [lb] h h2 → R (.tuple #[.agg #[.int .i64 0, .int .i64 0, .int .i64 0, .int .i64 0, .int .i64 0, .bool false], .int .i64 e]) (upd h2 rb T (G.mk 0 0 0 0 0 false).cells) := by
    intro e h2 T he hne w2 f2
    have e1 : revokeG L i o = noG := by simp [revokeG, he, hne]
    have e2 : revokeL L i o = L := by simp [revokeL, he, hne]
    rw [e1, e2, he] at hR
    exact hR _ _ ⟨rfl, w2.on (by omega) (by omega) _ _, Fr.on f2 (.inr (by omega)) _ _⟩
  refine ⟨fun h8 => h8 = h1 ∧ isThere i = true ∧ isGuest o = true, ?_, ?_⟩
  · refine (rid_spec i).mono ?_
    rintro v h2 ⟨rfl, rfl⟩
    refine ⟨_, rfl, fun c => G.ret k1 rfl 0 0 0 0 0 false (fin 11 _ _ (by simp [revokeE, c]) (by decide) w1 f1), fun c1 => ?_⟩
    refine (rguest_spec o).mono ?_
    rintro v h2 ⟨rfl, rfl⟩
    refine ⟨_, rfl, fun c => G.ret k1 rfl 0 0 0 0 0 false (fin 11 _ _ (by simp [revokeE, c]) (by decide) w1 f1), fun c2 => ⟨rfl, by simpa using c1, by simpa using c2⟩⟩
  rintro h8 ⟨rfl, d1, d2⟩
  obtain ⟨k, rfl, hk⟩ := isThere_nat d1
  obtain ⟨x, hx⟩ := w.ex hk
  have hg := getG_nat hk hx
  have hA : revokeE L k o = if x.state = 0 ∨ x.owner ≠ o then 16 else 0 := by
    unfold revokeE; rw [hg, d1, d2]; rfl
  refine ⟨_, _, _, w1.list, by omega, by omega, _, _, rfl, ?_⟩
  refine G.rd x (fun j hj => w1.cell hx j hj) ?_
  refine put_local rfl (by simp) ?_
  intro h10 k10 f10 s10
  have w10 := w1.fr f10 (by simp) (by simp)
  have kr := f10.at k1 (by simp)
  have fr10 := f1.trans (f10.mono (by simp))
  have e0 := (cellAt_of k10 0).trans rfl
  have e1 := (cellAt_of k10 1).trans rfl
  refine ⟨fun h13 => h13 = h10 ∧ x.state ≠ 0 ∧ x.owner = o, ⟨_, e0, fun c => ?_, fun c1 => ⟨_, e1, fun c => ?_, fun c2 => ?_⟩⟩, ?_⟩
  · exact G.ret kr rfl 0 0 0 0 0 false (fin 16 _ _ (by rw [hA]; simp only [beq_iff_eq] at c; simp [c]) (by decide) w10 fr10)
  · exact G.ret kr rfl 0 0 0 0 0 false (fin 16 _ _ (by rw [hA]; simp only [bne_iff_ne] at c; simp [c]) (by decide) w10 fr10)
  · exact ⟨rfl, by simpa using c1, by simpa using c2⟩
  rintro h13 ⟨rfl, hs, ht⟩
  have he : revokeE L k o = 0 := by rw [hA]; simp [hs, ht]
  have hG : revokeG L k o = x := by simp [revokeG, he, hg]
  have hL : revokeL L k o = L.set k noG := by simp [revokeL, he]
  rw [he, hG, hL] at hR
  refine ⟨_, _, _, w10.list, by omega, by omega, _, _, rfl, truly_rfl, _, _, w10.arr.hq, w10.room0 hk (by omega), ?_⟩
  rintro h14 rfl
  have w14 := w10.put0 (y := noG) (vs := noG.cells) hx (by simp [G.cells]) rfl
  have hne : sz h8 ≠ q ∧ sz h8 ≠ lb := by omega
  generalize hxb : sz h8 = xb at *
  have fx : Fr [lb] h13 (upd h13 lb 41 (writeAt (encL G.cells L ++ []) (0 + (k : Int).toNat * 6) noG.cells)) := Fr.upd (F := [lb]) (by simp) _ _ _
  simp only [noG, G.cells] at w14 fx
  simp only [G.cells] at hR
  generalize upd h13 lb 41 (writeAt (encL _ L ++ []) (0 + (k : Int).toNat * 6) [.int .i64 0, .int .i64 0, .int .i64 0, .int .i64 0, .int .i64 0, .bool false]) = h14 at *
  have k15 := fx.at k10 (by simp; omega)
  have kr15 := fx.at kr (by simp; omega)
  refine G.rd (o := 0) x (fun j hj => by rw [Nat.zero_add]; exact cellAt_of k15 j) ?_
  exact G.ret kr15 rfl _ _ _ _ _ _ (hR _ _ ⟨rfl, w14.on (by omega) (by omega) _ _, Fr.on (fr10.trans fx) (.inr (by omega)) _ _⟩)
end Go.Proofs.Ytadghpkdkdphdaa
