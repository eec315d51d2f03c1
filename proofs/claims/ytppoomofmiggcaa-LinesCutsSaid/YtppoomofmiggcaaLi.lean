import Derived.Test.YtppoomofmiggcaaLh
import Derived.Test.YtppoomofmiggcaaLr
namespace Go.Proofs.Ytppoomofmiggcaa
open Go Go.Wd
set_option linter.unusedVariables false
set_option linter.unusedSimpArgs false

structure CallD where
  what : Int
  line : Int
  guest : Int
  to : Int
  after : Int
  gap : Int
def encC (c : CallD) : List Value := [.int .i64 c.what, .int .i64 c.line, .int .i64 c.guest, .int .i64 c.to, .int .u64 c.after, .int .u64 c.gap]
theorem encC_len (c : CallD) : (encC c).length = 6 := rfl

theorem great_spec {h : Hp} {a : Option Addr} {c : Nat} {cs : List CallD} (g : rowAtK h a (encL encC cs)) :
    CallsH Try.prog 13 [.slice a cs.length c] h fun v h' => ∃ b, v = .bool b ∧ h' = h ∧ (b = false → cs.length ≤ 100) := by
  refine calls_k fun R hR => ?_
  apply warderlaw21_great.calls
  unfold warderlaw21_great.P
  refine ⟨fun _ => hR _ _ ⟨true, rfl, rfl, by simp⟩, fun d1 => ?_⟩
  simp only [decide_eq_false_iff_not] at d1
  have hl : cs.length ≤ 100 := by omega
  refine ⟨fun i h1 => ∃ k : Nat, i = k ∧ k ≤ cs.length ∧ h1 = h, fun i _ => cs.length - i.toNat, ⟨0, rfl, by omega, rfl⟩, ?_⟩
  rintro i h1 ⟨k, rfl, hk, rfl⟩
  have hwi : IntKind.wrap .i64 ((k : Int) + 1) = ((k + 1 : Nat) : Int) := by rw [wrap_i64 (by omega) (by omega)]; omega
  by_cases hkl : k < cs.length
  · refine ⟨fun _ => ?_, fun hf => absurd hf (by simp; omega)⟩
    obtain ⟨x, hx⟩ : ∃ x, cs[k]? = some x := ⟨_, List.getElem?_eq_getElem hkl⟩
    obtain ⟨b, o, rfl, e⟩ := encL_one encC_len g hx (by omega)
    have e4 := e 4 (by omega)
    rw [hwi]
    refine ⟨by omega, by omega, _, _, rfl, x.after, by simpa [encC] using e4, fun _ => hR _ _ ⟨true, rfl, rfl, by simp⟩, fun _ => ⟨⟨k + 1, rfl, by omega, rfl⟩, by show cs.length - ((k + 1 : Nat) : Int).toNat < cs.length - (k : Int).toNat; omega⟩⟩
  · exact ⟨fun hf => absurd hf (by simp; omega), fun _ => hR _ _ ⟨false, rfl, rfl, fun _ => hl⟩⟩

/-- What is latched is routed. -/
def Held (L : List Ln) : Prop := ∀ (j : Nat) (x : Ln), L[j]? = some x → x.latched = true → x.routed = true
theorem Held.set {L : List Ln} (g : Held L) {k : Nat} {y : Ln} (hy : y.latched = true → y.routed = true) : Held (L.set k y) := by
  intro j x hx hl
  rw [List.getElem?_set] at hx
  split at hx
  · split at hx
    · cases hx; exact hy hl
    · cases hx
  · exact g j x hx hl
theorem Held.zero : Held (List.replicate 16 noLn) := by
  intro j x hx hl
  rw [List.getElem?_replicate] at hx
  split at hx
  · cases hx; cases hl
  · cases hx
theorem Held.route {L : List Ln} (g : Held L) (i gu t gap : Int) : Held (routeL L i gu t gap) := by
  unfold routeL; split
  · exact g.set (fun h => by cases h)
  · exact g
theorem Held.arrive {L : List Ln} (g : Held L) (i n : Int) : Held (arriveL L i n) := by
  unfold arriveL
  split
  · rename_i hc
    have hr : (getL L i).routed = true := by simp at hc; exact hc.2
    split
    · exact g
    · split
      · exact g.set (fun h => by cases h)
      · exact g.set (fun _ => hr)
  · exact g

structure CutsA (h : Hp) (q n : Nat) (i : Int) (h5 : Hp) (k : Nat) (L : List Ln) (m : Int) : Prop where
  c1 : i = k
  c2 : k ≤ n
  c3 : LS h5 q L m
  c4 : Held L
  c5 : Fr [] h h5

set_option maxHeartbeats 8000000 in
theorem cuts_spec {h : Hp} {a : Option Addr} {c : Nat} {cs : List CallD} (guest later : Int) (g : rowAtK h a (encL encC cs)) :
    CallsH Try.prog 6 [.slice a cs.length c, .int .i64 guest, .int .u64 later] h fun v h' => v = .bool true ∧ Fr [] h h' := by
  refine calls_k fun R hR => ?_
  apply warderlaw21_LinesCuts.calls
  unfold warderlaw21_LinesCuts.P
  refine (alive_spec h).mono ?_
  rintro v h1 ⟨rfl, f1⟩
  have yes := fun h' (f : Fr [] h h') => hR (.bool true) h' ⟨rfl, f⟩
  refine ⟨_, rfl, by simp, fun _ => ?_⟩
  refine ⟨fun h3 => h3 = h1 ∧ cs.length ≤ 100, ?_, ?_⟩
  · refine (great_spec (g.fr f1 (by simp))).mono ?_
    rintro v h2 ⟨b, rfl, rfl, hb⟩
    exact ⟨b, rfl, fun _ => yes _ f1, fun hf => ⟨fun _ => yes _ f1, fun _ => ⟨rfl, hb hf⟩⟩⟩
  rintro h3 ⟨rfl, hcs⟩
  refine new_spec.mono ?_
  rintro v h4 ⟨rfl, w4, f4, s4⟩
  have z1 := f1.size
  generalize hq : sz h3 = q at *
  refine ⟨_, rfl, ?_⟩
  refine ⟨fun now i h5 => ∃ k L m, CutsA h q cs.length i h5 k L m, fun _ i _ => cs.length - i.toNat, ⟨0, _, 0, rfl, by omega, w4, Held.zero, f1.trans f4⟩, ?_⟩
  rintro now i h5 ⟨k, L, m, I⟩
  obtain ⟨rfl, hk, w5, hh, f5⟩ := I
  have hwi : IntKind.wrap .i64 ((k : Int) + 1) = ((k + 1 : Nat) : Int) := by rw [wrap_i64 (by omega) (by omega)]; omega
  have dec : cs.length - ((k + 1 : Nat) : Int).toNat < cs.length - (k : Int).toNat ∨ cs.length ≤ k := by omega
  by_cases hkl : k < cs.length
  · have dec' := dec.resolve_right (by omega)
    refine ⟨fun _ => ?_, fun hf => absurd hf (by simp; omega)⟩
    obtain ⟨x, hx⟩ : ∃ x, cs[k]? = some x := ⟨_, List.getElem?_eq_getElem hkl⟩
    obtain ⟨b, o, rfl, e⟩ := encL_one encC_len (g.fr f5 (by simp)) hx (by omega)
    have e0 := e 0 (by omega)
    have e1 := e 1 (by omega)
    have e2 := e 2 (by omega)
    have e3 := e 3 (by omega)
    have e4 := e 4 (by omega)
    have e5 := e 5 (by omega)
    simp only [encC, List.getElem?_cons_zero, List.getElem?_cons_succ, Nat.add_zero] at e0 e1 e2 e3 e4 e5
    rw [Int.toNat_natCast, hwi]
    refine ⟨by omega, by omega, _, _, rfl, _, e4, by omega, by omega, _, _, rfl, _, e0, fun c0 => ?_, fun c0 => ⟨fun c2 => ?_, fun c2 => ?_⟩⟩
    · refine ⟨by omega, by omega, _, _, rfl, _, e1, by omega, by omega, _, _, rfl, _, e2, by omega, by omega, _, _, rfl, _, e3, by omega, by omega, _, _, rfl, _, e5, ?_⟩
      refine (route_spec w5 x.line x.guest x.to x.gap).mono ?_
      rintro v h6 ⟨rfl, w6, f6, s6⟩
      exact ⟨_, rfl, ⟨k + 1, _, _, rfl, by omega, w6, hh.route _ _ _ _, f5.later f6 (by simp; omega)⟩, dec'⟩
    · refine ⟨by omega, by omega, _, _, rfl, _, e1, ?_⟩
      refine (arrive_spec w5 x.line _).mono ?_
      rintro v h6 ⟨rfl, w6, f6⟩
      exact ⟨_, _, _, _, _, rfl, ⟨k + 1, _, _, rfl, by omega, w6, hh.arrive _ _, f5.later f6 (by simp; omega)⟩, dec'⟩
    · exact ⟨⟨k + 1, _, _, rfl, by omega, w5, hh, f5⟩, dec'⟩
  · refine ⟨fun hf => absurd hf (by simp; omega), fun _ => ?_⟩
    clear dec hwi
    have hlen := w5.len
    rintro h8 rfl
    have hq5 := w5.lt
    have w8 := w5.fr (Fr.new [] h5 (blk 39 [])) (by simp)
    have f8 : Fr [] h (new h5 (blk 39 [])) := f5.trans (Fr.new _ _ _)
    refine ⟨fun ba bl bc n k2 h9 => ∃ r : Nat, k2 = r ∧ r ≤ 16 ∧ bl = r ∧ n = ((cutN guest (L.take r) : Nat) : Int) ∧ Own h9 39 7 ba bl bc (encL Ln.cells (L.take r)) ∧ (∀ y ∈ foot ba, sz h5 ≤ y) ∧ Fr [] h5 h9, fun _ _ _ _ k2 _ => 16 - k2.toNat,
      ⟨0, rfl, by omega, rfl, rfl, ⟨rfl, .inr ⟨sz h5, [], rfl, new_at _ _, rfl, by omega⟩⟩, by simp [foot], Fr.new _ _ _⟩, ?_⟩
    rintro ba bl bc n k2 h9 ⟨r, rfl, hr, rfl, rfl, o9, fb, f9⟩
    have w9 := w5.fr f9 (by simp)
    have hcn : cutN guest (L.take bl) ≤ bl := by
      have := List.countP_le_length (p := isOf guest) (l := L.take bl)
      simp at this; unfold cutN; omega
    have hwr : IntKind.wrap .i64 ((bl : Int) + 1) = ((bl + 1 : Nat) : Int) := by rw [wrap_i64 (by omega) (by omega)]; omega
    have hwc : IntKind.wrap .i64 ((cutN guest (L.take bl) : Int) + 1) = ((cutN guest (L.take bl) + 1 : Nat) : Int) := by rw [wrap_i64 (by omega) (by omega)]; omega
    by_cases hr16 : bl < 16
    · refine ⟨fun _ => ?_, fun hf => absurd hf (by simp; omega)⟩
      obtain ⟨x, hx⟩ := w5.ex hr16
      have htake : L.take (bl + 1) = L.take bl ++ [x] := by rw [List.take_add_one, hx]; rfl
      refine (get_spec w9 bl).mono ?_
      rw [getL_nat hr16 hx]
      rintro v h10 ⟨rfl, f10⟩
      refine ⟨_, _, _, _, _, _, _, rfl, ?_⟩
      intro h11 h11e
      refine append_new (h0 := h5) (F := []) (o9.fr f10 (by simp)) rfl (f9.trans f10) (fun z hz => .inr (fb z hz)) rfl rfl h11e (by omega) (by omega) ?_
      intro a' c' h12 o12 f12 g12 l12 t12
      have ho : Own h12 39 7 a' (bl + 1) c' (encL Ln.cells (L.take (bl + 1))) := by
        rw [htake, encL_append]; simpa [encL, Ln.cells] using o12
      have hxt : (L.take (bl + 1))[bl]? = some x := by rw [List.getElem?_take, if_pos (by omega)]; exact hx
      obtain ⟨b, o, rfl, e⟩ := encL_one Ln.len ho.row hxt (by omega)
      have e0 := e 0 (by omega)
      have e4 := e 4 (by omega)
      simp only [Ln.cells, List.getElem?_cons_zero, List.getElem?_cons_succ, Nat.add_zero] at e0 e4
      have hge : ∀ y ∈ foot (some (⟨b, o, none⟩ : Addr)), sz h5 ≤ y := fun y hy => by simpa using g12 y hy
      have dec2 : 16 - ((bl + 1 : Nat) : Int).toNat < 16 - (bl : Int).toNat := by omega
      rw [Int.toNat_natCast, hwr, hwc]
      refine ⟨by omega, by omega, _, _, rfl, _, e4, fun hro => ⟨by omega, by omega, _, _, rfl, _, e0, fun hg => ⟨⟨bl + 1, rfl, by omega, rfl, ?_, ho, hge, f12⟩, dec2⟩, fun hg => ⟨⟨bl + 1, rfl, by omega, rfl, ?_, ho, hge, f12⟩, dec2⟩⟩, fun hro => ⟨⟨bl + 1, rfl, by omega, rfl, ?_, ho, hge, f12⟩, dec2⟩⟩
      · rw [htake]; simp [cutN, isOf, hro, hg]
      · rw [htake]; simp [cutN, isOf, hro, hg]
      · rw [htake]; simp [cutN, isOf, hro]
    · have : bl = 16 := by omega
      subst this
      have e1 : L.take 16 = L := List.take_of_length_le (by omega)
      rw [e1] at o9
      refine ⟨fun hf => absurd hf (by simp), fun _ => ?_⟩
      refine (cut_spec w9 guest).mono ?_
      rintro v h13 ⟨rfl, w13, f13⟩
      refine ⟨_, rfl, by simp [e1], fun _ => ?_⟩
      have hlt9 := w9.lt
      have z9 := f9.size
      have fh : ∀ h', Fr [q] h9 h' → Fr [] h h' := fun h' f => (f5.trans f9).later f (by simp; omega)
      -- what was, read later
      have was : ∀ (h' : Hp) (j : Nat) (x : Ln), Fr [q] h9 h' → L[j]? = some x → ∃ b o, ba = some ⟨b, o, none⟩ ∧ ∀ t, t < 7 → cellAt h' b (o + j * 7 + t) = x.cells[t]? := by
        intro h' j x f hx
        exact encL_one Ln.len (o9.fr f (fun y hy => by have := fb y hy; simp; omega)).row hx (by omega)
      refine ⟨fun k3 h14 => ∃ r : Nat, k3 = r ∧ r ≤ 16 ∧ (∃ m', LS h14 q (cutL guest L) m') ∧ Fr [q] h9 h14, fun k3 _ => 16 - k3.toNat, ⟨0, rfl, by omega, ⟨_, w13⟩, f13⟩, ?_⟩
      rintro k3 h14 ⟨r, rfl, hr, ⟨m', w14⟩, f14⟩
      have hwr' : IntKind.wrap .i64 ((r : Int) + 1) = ((r + 1 : Nat) : Int) := by rw [wrap_i64 (by omega) (by omega)]; omega
      have z14 := f14.size
      by_cases hr16' : r < 16
      · refine ⟨fun _ => ?_, fun hf => absurd hf (by simp; omega)⟩
        obtain ⟨x, hx⟩ := w5.ex hr16'
        have hcx : (cutL guest L)[r]? = some (cutX guest x) := by simp [cutL, hx]
        have dec2 : 16 - ((r + 1 : Nat) : Int).toNat < 16 - (r : Int).toNat := by omega
        refine (get_spec w14 r).mono ?_
        rw [getL_nat hr16' hcx]
        rintro v h15 ⟨rfl, f15⟩
        refine ⟨_, _, _, _, _, _, _, rfl, ?_⟩
        refine put_local rfl (by simp) ?_
        intro h17 k17 f17 s17
        have f917 := (f14.trans (f15.mono (by simp))).trans (f17.mono (by simp))
        have w17 := (w14.fr f15 (by simp)).fr f17 (by simp)
        obtain ⟨b, o, rfl, e⟩ := was h17 r x f917 hx
        have e0 := e 0 (by omega)
        have e1' := e 1 (by omega)
        have e2 := e 2 (by omega)
        have e3 := e 3 (by omega)
        have e4 := e 4 (by omega)
        have e5 := e 5 (by omega)
        have e6 := e 6 (by omega)
        simp only [Ln.cells, List.getElem?_cons_zero, List.getElem?_cons_succ, Nat.add_zero] at e0 e1' e2 e3 e4 e5 e6
        rw [Int.toNat_natCast, hwr']
        refine ⟨fun b2 h18 => b2 = isOf guest x ∧ h18 = h17, ⟨by omega, by omega, _, _, rfl, _, e4, fun c => ⟨by omega, by omega, _, _, rfl, _, e0, by simp [isOf, c], rfl⟩, fun c => ⟨by simp [isOf, c], rfl⟩⟩, ?_⟩
        rintro b2 h18 ⟨rfl, rfl⟩
        refine ⟨fun c => ?_, fun c => ?_⟩
        · have hno : cutX guest x = noLn := by simp [cutX, c]
          rw [hno] at k17 hcx
          refine ⟨_, by rw [cellAt_of k17]; rfl, _, by rw [cellAt_of k17]; rfl, _, by rw [cellAt_of k17]; rfl, _, by rw [cellAt_of k17]; rfl, _, by rw [cellAt_of k17]; rfl, _, by rw [cellAt_of k17]; rfl, _, by rw [cellAt_of k17]; rfl, by simp [notIf, noLn], fun _ => ?_⟩
          refine (arrive_spec w17 r now).mono ?_
          have hO : ∀ n, arriveO (cutL guest L) r n = ⟨0, noHit⟩ := fun n => by simp [arriveO, getL_nat hr16' hcx, noLn]
          have hL : ∀ n, arriveL (cutL guest L) r n = cutL guest L := fun n => by simp [arriveL, getL_nat hr16' hcx, noLn]
          rw [hO, hL]
          rintro v h19 ⟨rfl, w19, f19⟩
          exact ⟨_, _, _, _, _, rfl, by simp, fun _ => ⟨⟨r + 1, rfl, by omega, ⟨_, w19⟩, f917.trans f19⟩, dec2⟩⟩
        · have hno : cutX guest x = x := by simp [cutX, c]
          rw [hno] at k17
          refine ⟨_, by rw [cellAt_of k17]; rfl, _, by rw [cellAt_of k17]; rfl, _, by rw [cellAt_of k17]; rfl, _, by rw [cellAt_of k17]; rfl, _, by rw [cellAt_of k17]; rfl, _, by rw [cellAt_of k17]; rfl, _, by rw [cellAt_of k17]; rfl, by omega, by omega, _, _, rfl, _, e0, _, e1', _, e2, _, e3, _, e4, _, e5, _, e6, by simp [notIf], fun _ => ⟨⟨r + 1, rfl, by omega, ⟨_, w17⟩, f917⟩, dec2⟩⟩
      · refine ⟨fun hf => absurd hf (by simp; omega), fun _ => ?_⟩
        refine (due_loop w14 (IntKind.wrap .u64 (now + later))).mono ?_
        rintro v h20 ⟨ha, hc, H, L', rfl, rh, fth, dr, w20, f20⟩
        refine ⟨_, _, _, rfl, ?_⟩
        have hall := dr.all w14.len
        have f920 := f14.trans f20
        have hH : H.length ≤ 16 := by
          have h1 := dueF_of dr w14.len 16 (by have := List.countP_le_length (p := fun x : Ln => x.latched) (l := cutL guest L); rw [w14.len] at this; exact this)
          have h2 : ∀ f (L : List Ln) (n : Int), (dueF f L n).1.length ≤ f := by
            intro f
            induction f with
            | zero => intro L n; simp [dueF]
            | succ f ih =>
              intro L n
              simp only [dueF]
              split
              · simp
              · split
                · simp
                · split
                  · simp
                  · have := ih (L.set (nextL L).toNat (fire ‹Ln› (due ‹Ln›))) n; simp; omega
          have := h2 16 (cutL guest L) (maxI m' (IntKind.wrap .u64 (now + later)))
          rw [h1] at this; exact this
        refine ⟨fun k4 h21 => ∃ t : Nat, k4 = t ∧ t ≤ H.length ∧ h21 = h20, fun k4 _ => H.length - k4.toNat, ⟨0, rfl, by omega, rfl⟩, ?_⟩
        rintro k4 h21 ⟨t, rfl, ht, rfl⟩
        by_cases htl : t < H.length
        · refine ⟨fun _ => ?_, fun hf => absurd hf (by simp; omega)⟩
          have hwt : IntKind.wrap .i64 ((t : Int) + 1) = ((t + 1 : Nat) : Int) := by rw [wrap_i64 (by omega) (by omega)]; omega
          obtain ⟨y, hy⟩ : ∃ y, H[t]? = some y := ⟨_, List.getElem?_eq_getElem htl⟩
          obtain ⟨j, z, hz, hzl, rfl⟩ := hall y (List.mem_of_getElem? hy)
          obtain ⟨bb, oo, rfl, e⟩ := encL_one Hit.len rh hy (by omega)
          have e0 := e 0 (by omega)
          have e1' := e 1 (by omega)
          simp only [Hit.cells, hitOf, List.getElem?_cons_zero, List.getElem?_cons_succ, Nat.add_zero] at e0 e1'
          -- the line as it was
          simp only [cutL, List.getElem?_map, Option.map_eq_some_iff] at hz
          obtain ⟨x, hx, rfl⟩ := hz
          have hcut : isOf guest x = false := by
            cases hi : isOf guest x
            · rfl
            · simp [cutX, hi, noLn] at hzl
          have hxx : cutX guest x = x := by simp [cutX, hcut]
          rw [hxx] at hzl e1'
          have hrt := hh j x hx hzl
          have hne : ¬ x.guest = guest := by
            intro e; simp [isOf, hrt, e] at hcut
          have hj16 : j < 16 := by have := (List.getElem?_eq_some_iff.1 hx).1; omega
          obtain ⟨b, o, rfl, e'⟩ := was h21 j x f920 hx
          have e6 := e' 6 (by omega)
          simp only [Ln.cells, List.getElem?_cons_zero, List.getElem?_cons_succ] at e6
          rw [hzl] at e6
          rw [Int.toNat_natCast, hwt]
          refine ⟨by omega, by omega, _, _, rfl, _, e1', fun c => absurd c (by simp [hne]), fun _ => ⟨by omega, by omega, _, _, rfl, _, e0, by omega, by omega, _, _, rfl, true, by rw [Int.toNat_natCast]; exact e6, by simp, fun _ => ⟨⟨t + 1, rfl, by omega, rfl⟩, by show H.length - ((t + 1 : Nat) : Int).toNat < H.length - (t : Int).toNat; omega⟩⟩⟩
        · exact ⟨fun hf => absurd hf (by simp; omega), fun _ => yes _ (fh _ f920)⟩
end Go.Proofs.Ytppoomofmiggcaa
