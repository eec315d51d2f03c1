import Derived.Test.YtmldiibfmhkgjaaPc
namespace Go.Proofs.Ytmldiibfmhkgjaa
open Go Go.Wd
set_option linter.unusedVariables false
set_option linter.unusedSimpArgs false

/-! ## the document's memory -/
structure RS (h : Hp) (q rb : Nat) (B : List Nat) : Prop where
  hq : bk h q = some (blk 103 [.slice (some ⟨rb, 0, none⟩) B.length B.length])
  arr : Arr iB 5 h rb B []
  ne : rb ≠ q
  byt : Byt B
  len : B.length ≤ 262144
section
variable {h h' : Hp} {q rb : Nat} {B : List Nat}
theorem RS.fr (w : RS h q rb B) {F : List Nat} (k : Fr F h h') (h1 : q ∉ F) (h2 : rb ∉ F) : RS h' q rb B := ⟨k.at w.hq h1, w.arr.fr k h2, w.ne, w.byt, w.len⟩
theorem RS.lt (w : RS h q rb B) : q < sz h := lt_of_bk w.hq
theorem RS.ltr (w : RS h q rb B) : rb < sz h := w.arr.lt
theorem RS.row (w : RS h q rb B) : cellAt h q 0 = some (.slice (some ⟨rb, 0, none⟩) B.length B.length) := (cellAt_of w.hq 0).trans rfl
theorem RS.room (w : RS h q rb B) {k : Nat} (hk : k < B.length) : k + 1 ≤ (encL iB B ++ []).length := by rw [arrB_len w.arr]; simp; omega
theorem RS.put (w : RS h q rb B) {k : Nat} (hk : k < B.length) {y : Nat} (hy : y < 256) : RS (upd h rb 5 (writeAt (encL iB B ++ []) k [.int .u8 y])) q rb (B.set k y) := by
  have f : Fr [rb] h (upd h rb 5 (writeAt (encL iB B ++ []) k [.int .u8 y])) := Fr.upd (by simp) _ _ _
  exact ⟨by rw [List.length_set]; exact f.at w.hq (by simpa using fun e => w.ne e.symm), arrB_put w.arr hk y, w.ne, w.byt.set k hy, by simpa using w.len⟩
end
def hiN (L : List Nat) (p : Nat) : Nat → Nat
  | 0 => 0
  | m + 1 => hiN L p m * 256 + L.getD (p + (3 - m)) 0
theorem hiN_lt {L : List Nat} (h : Byt L) (p : Nat) : ∀ m, hiN L p m < 256 ^ m
  | 0 => by simp [hiN]
  | m + 1 => by
    have h1 := hiN_lt h p m
    have h2 := getD_lt h (p + (3 - m))
    have h4 : 256 ^ (m + 1) = 256 ^ m * 256 := Nat.pow_succ _ _
    simp only [hiN]; omega
theorem hiN_le (L : List Nat) (p : Nat) : hiN L p 4 = leN L p 4 := by
  simp only [hiN, leN]
  generalize L.getD (p + (3 - 0)) 0 = b3
  generalize L.getD (p + (3 - 1)) 0 = b2
  generalize L.getD (p + (3 - 2)) 0 = b1
  generalize L.getD (p + (3 - 3)) 0 = b0
  generalize hp0 : L.getD (p + 0) 0 = c0
  generalize hp1 : L.getD (p + 1) 0 = c1
  generalize hp2 : L.getD (p + 2) 0 = c2
  generalize hp3 : L.getD (p + 3) 0 = c3
  omega
end Go.Proofs.Ytmldiibfmhkgjaa
