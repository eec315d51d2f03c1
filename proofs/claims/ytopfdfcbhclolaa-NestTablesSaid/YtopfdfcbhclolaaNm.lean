import Derived.Test.YtopfdfcbhclolaaNl
namespace Go.Proofs.Ytopfdfcbhclolaa
open Go Go.Wd
set_option linter.unusedVariables false
set_option linter.unusedSimpArgs false

/-! ## which frames a translation hangs on -/
def Tru (U : List Bool) (t : Nat) : Prop := U[t]? = some true
theorem Tru.set {U : List Bool} {s t : Nat} (h : Tru U s) : Tru (U.set t true) s := by
  unfold Tru at h ⊢
  rw [List.getElem?_set]
  by_cases e : t = s
  · rw [if_pos e, if_pos]
    rw [e]; exact (List.getElem?_eq_some_iff.1 h).1
  · rw [if_neg e]; exact h
theorem Tru.self {U : List Bool} {t : Nat} (h : t < U.length) : Tru (U.set t true) t := by
  unfold Tru
  rw [List.getElem?_set, if_pos rfl, if_pos h]
structure Reach (n : Nat) (B : List Nat) (U : List Bool) : Prop where
  len : U.length = n
  zero : Tru U 0
  tabs : ∀ i, i < 64 → (entAt B 0 i).v = true → (entAt B 0 i).b = false → (entAt B 0 i).f < n → Tru U (entAt B 0 i).f.toNat
  pages : ∀ p : Nat, p < 4096 → lookOk n B 0 p = true → Tru U (lookE n B 0 p).f.toNat
def Kept (D B : List Nat) (U : List Bool) : Prop := ∀ t, Tru U t → ∀ i, i < 64 → entAt D t i = entAt B t i
theorem walk_kept {n : Nat} {B D : List Nat} {U : List Bool} (hn : 0 < n) (r : Reach n B U) (k : Kept D B U) (a : Nat) (acc : Int) : walkOf n D 0 a acc = walkOf n B 0 a acc := by
  rw [walk_F, walk_F]
  rw [found_apart hn (k 0 r.zero _ (Nat.mod_lt _ (by decide)))]
  intro hv hb t ht hf
  refine k t ?_ _ (Nat.mod_lt _ (by decide))
  have := r.tabs (a / 16384 % 64) (Nat.mod_lt _ (by decide)) hv hb (by rw [hf]; omega)
  rw [hf] at this
  exact this
theorem thru_kept {n : Nat} {B D : List Nat} {U : List Bool} (hn : 0 < n) (r : Reach n B U) (k : Kept D B U) (ipa : Nat) (acc : Int) (tb : Bool) (x : Int) : thruR n D 0 ipa acc tb x = thruR n B 0 ipa acc tb x := by
  unfold thruR
  rw [walk_kept hn r k]
theorem Rs.bind_congr {α β : Type} {m : Rs α} {f g : α → Int → Rs β} (h : ∀ a r, m = .ok a r → f a r = g a r) : m.bind f = m.bind g := by
  cases m with
  | ok a r => exact h a r rfl
  | bad => rfl
theorem ent_kept {n : Nat} {B D : List Nat} {U : List Bool} (hn : 0 < n) (r : Reach n B U) (k : Kept D B U) (va : Nat) {page : Int} (hp : 0 ≤ page) {i : Nat} (hi : i < 64) (x : Int) : entR n D 0 va page i x = entR n B 0 va page i x := by
  unfold entR
  by_cases c : page < 4096
  · rw [if_pos c, if_pos c, thru_kept hn r k]
    refine Rs.bind_congr ?_
    intro H x' hm
    obtain ⟨_, _, h3, h4, hH⟩ := thru_le hm
    have hf : (walkOf n B 0 (page.toNat * 256 + 4 * i) 0).fault = 0 := by
      unfold thruR at hm
      split at hm
      · assumption
      · cases hm
    have hX : page = (((page.toNat * 256 + 4 * i) / 256 : Nat) : Int) := by omega
    obtain ⟨l1, l2⟩ := look_at (n := n) (B := B) (root := 0) hX
    rw [if_pos hf] at l2
    have hl : lookOk n B 0 page = true := by rw [l1]; exact decide_eq_true hf
    have hpg := r.pages page.toNat (by omega)
    rw [show ((page.toNat : Nat) : Int) = page by omega] at hpg
    have ht := hpg hl
    rw [l2] at ht
    simp only at ht
    rw [← hH] at ht
    have ea : adr H.frame (page.toNat * 256 + 4 * i) = H.frame.toNat * 256 + 4 * i := by unfold adr; omega
    rw [ea]
    have := k _ ht i hi
    unfold entAt at this
    rw [this]
  · rw [if_neg c, if_neg c]
theorem own_kept {n : Nat} {B D : List Nat} {U : List Bool} (hn : 0 < n) (r : Reach n B U) (k : Kept D B U) (va root : Nat) (x : Int) : ownR n D 0 va root x = ownR n B 0 va root x := by
  unfold ownR
  rw [ent_kept hn r k va (by omega) (Nat.mod_lt _ (by decide))]
  refine Rs.bind_congr ?_
  intro e x' hm
  have hle := ent_le hm
  rw [ent_kept hn r k va hle.2.2.1 (Nat.mod_lt _ (by decide))]
theorem told_kept {n : Nat} {B D : List Nat} {U : List Bool} (hn : 0 < n) (r : Reach n B U) (k : Kept D B U) (va root : Nat) (acc : Int) : trOf n D 0 va root acc = trOf n B 0 va root acc := by
  have hl : ∀ ww xx page x, lastR n D 0 va ww xx page acc x = lastR n B 0 va ww xx page acc x := by
    intro ww xx page x
    unfold lastR
    rw [thru_kept hn r k]
  unfold trOf toldR
  rw [own_kept hn r k]
  simp only [hl]

/-! ## the frames that are reached -/
def bools (U : List Bool) : List Value := U.map fun b => .bool b
theorem bools_len (U : List Bool) : (bools U).length = U.length := by simp [bools]
theorem bools_set (U : List Bool) (t : Nat) : (bools U).set t (.bool true) = bools (U.set t true) := by simp [bools, List.map_set]
theorem zeros_bools (n : Nat) : zeros [.bool false] n = bools (List.replicate n false) := by
  simp only [zeros, bools, List.map_replicate]
  induction n with
  | zero => rfl
  | succ m ih => rw [List.replicate_succ, List.flatten_cons, ih, List.replicate_succ]; rfl
theorem u32_nat4 {k : Nat} (hk : k < 64) : IntKind.wrap .u32 (4 * (k : Int)) = ((0 * 256 + 4 * k : Nat) : Int) ∧ IntKind.wrap .u32 ((k : Int) + 1) = ((k + 1 : Nat) : Int) := by
  constructor
  · rw [wrap_u32 (by omega) (by omega)]; omega
  · rw [wrap_u32 (by omega) (by omega)]; omega
theorem pages_mem {P : Nat → Bool} {m p : Nat} (hp : p < m) (h : P p = true) : ∃ j : Nat, (pagesL P m)[j]? = some ((p : Nat) : Int) := by
  have : ((p : Nat) : Int) ∈ pagesL P m := by
    unfold pagesL
    exact List.mem_map.2 ⟨p, List.mem_filter.2 ⟨List.mem_range.2 hp, h⟩, rfl⟩
  obtain ⟨j, hj⟩ := List.mem_iff_getElem?.1 this
  exact ⟨j, hj⟩
theorem pages_at {P : Nat → Bool} {m j : Nat} {x : Int} (h : (pagesL P m)[j]? = some x) : ∃ p : Nat, x = p ∧ p < m ∧ P p = true := by
  have := List.mem_of_getElem? h
  unfold pagesL at this
  obtain ⟨p, hp, rfl⟩ := List.mem_map.1 this
  obtain ⟨h1, h2⟩ := List.mem_filter.1 hp
  exact ⟨p, rfl, List.mem_range.1 h1, h2⟩
theorem pages_le (P : Nat → Bool) (m : Nat) : (pagesL P m).length ≤ m := by
  unfold pagesL
  rw [List.length_map]
  have := List.length_filter_le P (List.range m)
  rw [List.length_range] at this
  exact this
theorem ent_keep {h h4 h5 : Hp} {T : TypeId} {z : List Value} {x : Ent} (e4 : h4 = new h (blk T z)) (e5 : h5 = upd h4 (sz h) T (writeAt z 0 x.cells)) (hl : z.length = 5) : bk h5 (sz h) = some (blk T x.cells) ∧ Fr [] h h5 := by
  subst e4 e5
  have hw : writeAt z 0 x.cells = x.cells := by
    rw [writeAt_eq _ _ _ (by rw [hl]; exact Nat.le_refl _), List.take_zero, List.nil_append, List.drop_eq_nil_of_le (by rw [hl]; exact Nat.le_refl _), List.append_nil]
  rw [hw]
  exact ⟨upd_same (new_at _ _) _ _, (Fr.new [] h _).later (Fr.upd (F := [sz h]) (by simp) _ _ _) (by simp)⟩
set_option maxHeartbeats 2000000 in
theorem reached_spec {h : Hp} {q fb n : Nat} {B : List Nat} (w : MS h q fb n B) : CallsH Try.prog 15 [.pointer (some ⟨q, 0, none⟩)] h fun v h' => ∃ (bb : Nat) (U : List Bool), v = .slice (some ⟨bb, 0, none⟩) n n ∧ bk h' bb = some (blk 4 (bools U)) ∧ sz h ≤ bb ∧ Reach n B U ∧ Fr [] h h' := by
  refine calls_k fun R hR => ?_
  apply warderlaw08_reached.calls
  unfold warderlaw08_reached.P
  have hlo := w.lo
  have hhi := w.hi
  refine (Frames_spec w).mono ?_
  rintro v h1 ⟨rfl, hh⟩
  rw [hh]; clear hh h1
  refine ⟨_, rfl, by omega, by omega, by omega, by omega, rfl, ?_⟩
  simp only [Int.toNat_natCast]
  intro h2 e2
  have b2 : bk h2 (sz h) = some (blk 4 (bools (List.replicate n false))) := by rw [e2, ← zeros_bools]; exact new_at _ _
  have f2 : Fr [] h h2 := by rw [e2]; exact Fr.new _ _ _
  clear e2
  refine ⟨by omega, by omega, _, _, rfl, truly_rfl, _, _, b2, by rw [bools_len, List.length_replicate]; simp; omega, ?_⟩
  intro h3 e3
  rw [show 0 + (0 : Int).toNat * 1 = 0 from rfl, writeAt_one, bools_set] at e3
  have b3 : bk h3 (sz h) = some (blk 4 (bools ((List.replicate n false).set 0 true))) := by rw [e3]; exact upd_same b2 _ _
  have f3 : Fr [] h h3 := f2.later (by rw [e3]; exact Fr.upd (F := [sz h]) (by simp) _ _ _) (by simp)
  clear e3
  generalize hbb : sz h = bb at *
  -- a frame is marked
  have mark : ∀ (h8 : Hp) (U : List Bool) (f : Int), bk h8 bb = some (blk 4 (bools U)) → Fr [] h h8 → U.length = n → 0 ≤ f → f < n → ∃ b25 : Nat, ∃ o26 : Nat, (some ⟨bb, 0, none⟩ : Option Addr) = some ⟨b25, o26, none⟩ ∧
      truly true ∧ ∃ T27 : TypeId, ∃ l28 : List Value, bk h8 b25 = some (blk T27 l28) ∧ (o26 + f.toNat * 1) + 1 ≤ l28.length ∧ ∀ h9 : Hp, h9 = upd h8 b25 T27 (writeAt l28 (o26 + f.toNat * 1) [.bool true]) →
      bk h9 bb = some (blk 4 (bools (U.set f.toNat true))) ∧ Fr [] h h9 := by
    intro h8 U f b8 f8 hU f0 f1
    refine ⟨bb, 0, rfl, truly_rfl, _, _, b8, by rw [bools_len]; omega, ?_⟩
    intro h9 e9
    rw [Nat.zero_add, Nat.mul_one, writeAt_one, bools_set] at e9
    exact ⟨by rw [e9]; exact upd_same b8 _ _, f8.later (by rw [e9]; exact Fr.upd (F := [bb]) (by simp) _ _ _) (by simp; omega)⟩
  refine ⟨fun i h4 => ∃ (k : Nat) (U : List Bool), i = k ∧ k ≤ 64 ∧ bk h4 bb = some (blk 4 (bools U)) ∧ U.length = n ∧ Tru U 0 ∧ (∀ j, j < k → (entAt B 0 j).v = true → (entAt B 0 j).b = false → (entAt B 0 j).f < n → Tru U (entAt B 0 j).f.toNat) ∧ Fr [] h h4,
    fun i _ => 64 - i.toNat, ⟨0, _, rfl, by omega, b3, by simp, Tru.self (by simp; omega), by omega, f3⟩, ?_⟩
  rintro i h4 ⟨k, U, rfl, hk, b4, hU, hz, ht, f4⟩
  refine ⟨fun hc => ?_, fun hc => ?_⟩
  · have hk : k < 64 := by
      have : (k : Int) < 64 := by simpa using hc
      omega
    obtain ⟨q1, q2⟩ := u32_nat4 hk
    rw [q1, q2]
    have w4 := w.fr f4 (by simp) (by simp)
    refine (Word_spec w4 (a := 0 * 256 + 4 * k) (by omega)).mono ?_
    rw [in_len (n := n) (k := 0) (by omega) hk, if_pos rfl]
    rintro v h5 ⟨rfl, hh⟩
    rw [hh]; clear hh h5
    refine ⟨_, _, rfl, ?_⟩
    refine (decode_spec _ (le4_lt w4.byt _)).mono ?_
    rintro v h6 ⟨rfl, f6⟩
    have hE : dec (leN B (0 * 256 + 4 * k) 4) = entAt B 0 k := rfl
    have hf := dec_f (leN B (0 * 256 + 4 * k) 4)
    rw [hE] at hf
    rw [hE]
    clear hE
    have keep : ∀ (U' : List Bool), (∀ t, Tru U t → Tru U' t) → ((entAt B 0 k).v = true → (entAt B 0 k).b = false → (entAt B 0 k).f < n → Tru U' (entAt B 0 k).f.toNat) → ∀ j, j < k + 1 → (entAt B 0 j).v = true → (entAt B 0 j).b = false → (entAt B 0 j).f < n → Tru U' (entAt B 0 j).f.toNat := by
      intro U' hm hk' j hj h1 h2 h3
      by_cases e : j = k
      · subst e; exact hk' h1 h2 h3
      · exact hm _ (ht j (by omega) h1 h2 h3)
    generalize entAt B 0 k = e at *
    refine ⟨_, _, _, _, _, rfl, ?_⟩
    intro h7 e7
    refine ⟨truly_rfl, _, _, by rw [e7]; exact new_at _ _, by simp, ?_⟩
    intro h8 e8
    obtain ⟨k8, f8⟩ := ent_keep (x := e) e7 e8 rfl
    clear e7 e8
    have b8 := (f6.trans f8).at b4 (by simp)
    have fr8 := (f4.trans f6).trans f8
    have dk : 64 - ((k + 1 : Nat) : Int).toNat < 64 - (k : Int).toNat := decM hk
    refine ⟨_, (cellAt_of k8 0).trans rfl, fun hv => ⟨_, (cellAt_of k8 3).trans rfl, fun hb => ⟨_, (cellAt_of k8 4).trans rfl, fun hl => ⟨_, (cellAt_of k8 4).trans rfl, hf.1, ?_, ?_⟩, fun hl => ?_⟩, fun hb => ?_⟩, fun hv => ?_⟩
    · simpa using hl
    · have hl : e.f < n := by simpa using hl
      obtain ⟨x1, x2, x3, x4, x5, x6, x7, x8, x9⟩ := mark h8 U e.f b8 fr8 hU hf.1 hl
      refine ⟨x1, x2, x3, x4, x5, x6, x7, x8, fun h9 e9 => ?_⟩
      obtain ⟨y1, y2⟩ := x9 h9 e9
      exact ⟨⟨k + 1, _, rfl, by omega, y1, by simpa using hU, hz.set, keep _ (fun t h => h.set) (fun _ _ _ => Tru.self (by omega)), y2⟩, dk⟩
    · exact ⟨⟨k + 1, U, rfl, by omega, b8, hU, hz, keep U (fun t h => h) (fun _ _ h3 => absurd h3 (by simpa using hl)), fr8⟩, dk⟩
    · exact ⟨⟨k + 1, U, rfl, by omega, b8, hU, hz, keep U (fun t h => h) (fun _ h2 _ => absurd h2 (by simpa using hb)), fr8⟩, dk⟩
    · exact ⟨⟨k + 1, U, rfl, by omega, b8, hU, hz, keep U (fun t h => h) (fun h1 _ _ => absurd h1 (by rw [hv]; decide)), fr8⟩, dk⟩
  have hk : k = 64 := by
    have : ¬ (k : Int) < 64 := by simpa using hc
    omega
  subst hk
  have w4 := w.fr f4 (by simp) (by simp)
  have hsp := Pages_spec w4 0
  have hPl := pages_le (pageP n B 0) 4096
  have hat : ∀ (k : Nat) (x : Int), (pagesL (pageP n B 0) 4096)[k]? = some x → ∃ p : Nat, x = p ∧ p < 4096 ∧ pageP n B 0 p = true := fun _ _ h => pages_at h
  have hmem : ∀ p : Nat, p < 4096 → pageP n B 0 p = true → ∃ j : Nat, (pagesL (pageP n B 0) 4096)[j]? = some ((p : Nat) : Int) := fun _ hp h => pages_mem hp h
  generalize pagesL (pageP n B 0) 4096 = PP at *
  refine CallsH.mono hsp ?_
  rintro v h10 ⟨pa, pc, rfl, prow, pfoot, f10⟩
  refine ⟨_, _, _, rfl, ?_⟩
  have b10 := f10.at b4 (by simp)
  have fr10 := f4.trans f10
  refine ⟨fun i h11 => ∃ (k : Nat) (U : List Bool), i = k ∧ k ≤ PP.length ∧ bk h11 bb = some (blk 4 (bools U)) ∧ U.length = n ∧ Tru U 0 ∧ (∀ j, j < 64 → (entAt B 0 j).v = true → (entAt B 0 j).b = false → (entAt B 0 j).f < n → Tru U (entAt B 0 j).f.toNat) ∧
    (∀ j, j < k → ∀ x, PP[j]? = some x → Tru U (lookE n B 0 x).f.toNat) ∧ Fr [] h h11 ∧ Fr [bb] h10 h11, fun i _ => PP.length - i.toNat, ⟨0, U, rfl, by omega, b10, hU, hz, ht, by omega, fr10, Fr.refl _ _⟩, ?_⟩
  have hpf : ∀ x ∈ foot pa, x ∉ [bb] := by
    intro x hx hm
    have : x = bb := by simpa using hm
    subst this
    have := lt_of_bk b4
    have := (pfoot x hx).1
    omega
  clear b4 b10 hU hz ht
  rintro i h11 ⟨k, U, rfl, hk, b11, hU, hz, ht, hp, f11, f1011⟩
  have w11 := w.fr f11 (by simp) (by simp)
  refine ⟨fun hc => ?_, fun hc => ?_⟩
  · have hk : k < PP.length := by simpa using hc
    obtain ⟨x, hx⟩ : ∃ o, PP[k]? = some o := ⟨_, List.getElem?_eq_getElem hk⟩
    rw [wrapN hk (by omega)]
    have prow11 := prow.fr f1011 hpf
    obtain ⟨b, o, ha, e⟩ := encL_one iN_len prow11 hx (by decide)
    obtain ⟨p, hxp, hp4, hpP⟩ := hat _ _ hx
    have hlk : lookOk n B 0 x = true := by rw [hxp]; exact hpP
    refine ⟨by omega, by omega, _, _, ha, x, by rw [Int.toNat_natCast]; exact e 0 (by decide), ?_⟩
    refine (Look_spec w11 0 x).mono ?_
    rw [hlk]
    rintro v h12 ⟨rfl, f12⟩
    have hlf : 0 ≤ (lookE n B 0 x).f ∧ (lookE n B 0 x).f < n := by
      unfold lookE
      rw [if_pos hlk]
      unfold lookOk at hlk
      rw [Bool.and_eq_true] at hlk
      exact walk_frame (of_decide_eq_true hlk.2)
    have hkeep : ∀ (U' : List Bool), (∀ t, Tru U t → Tru U' t) → Tru U' (lookE n B 0 x).f.toNat → ∀ j, j < k + 1 → ∀ y, PP[j]? = some y → Tru U' (lookE n B 0 y).f.toNat := by
      intro U' hm hk' j hj y hy
      by_cases e : j = k
      · subst e; rw [hx] at hy; cases hy; exact hk'
      · exact hm _ (hp j (by omega) y hy)
    generalize lookE n B 0 x = E at *
    refine ⟨_, _, _, _, _, _, rfl, ?_⟩
    intro h13 e13
    refine ⟨truly_rfl, _, _, by rw [e13]; exact new_at _ _, by simp, ?_⟩
    intro h14 e14
    obtain ⟨k14, f14⟩ := ent_keep (x := E) e13 e14 rfl
    clear e13 e14
    have b14 := (f12.trans f14).at b11 (by simp)
    have fr14 := (f11.trans f12).trans f14
    refine ⟨fun _ => ⟨_, (cellAt_of k14 4).trans rfl, fun _ => ⟨_, (cellAt_of k14 4).trans rfl, hlf.1, hlf.2, ?_⟩, fun hn => ?_⟩, fun hn => (by cases hn)⟩
    · obtain ⟨x1, x2, x3, x4, x5, x6, x7, x8, x9⟩ := mark h14 U E.f b14 fr14 hU hlf.1 hlf.2
      refine ⟨x1, x2, x3, x4, x5, x6, x7, x8, fun h9 e9 => ?_⟩
      obtain ⟨y1, y2⟩ := x9 h9 e9
      refine ⟨⟨k + 1, _, rfl, by omega, y1, by simpa using hU, hz.set, fun j hj h1 h2 h3 => (ht j hj h1 h2 h3).set, hkeep _ (fun t h => h.set) (Tru.self (by omega)), y2, ?_⟩, decM hk⟩
      cases x3
      exact f1011.trans (((f12.trans f14).sub (by simp)).trans (by rw [e9]; exact Fr.upd (by simp) _ _ _))
    · have : ¬ E.f < n := by simpa using hn
      exact absurd hlf.2 this
  · have hk1 : ¬ k < PP.length := by simpa using hc
    have hk : k = PP.length := by omega
    subst hk
    refine hR _ _ ⟨bb, U, rfl, b11, by omega, ⟨hU, hz, ht, fun p hp4 hl => ?_⟩, f11⟩
    obtain ⟨j, hj⟩ := hmem p hp4 hl
    exact hp j (List.getElem?_eq_some_iff.1 hj).1 _ hj
end Go.Proofs.Ytopfdfcbhclolaa
