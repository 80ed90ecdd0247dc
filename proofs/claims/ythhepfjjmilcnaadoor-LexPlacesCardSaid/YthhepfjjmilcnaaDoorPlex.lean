/- Plain Lean: what the words of a text are (layer 10), over lists of bytes; no program in sight. -/
import Derived.Below
import Derived.Lib.IndexMore
namespace Go.Proofs.YthhepfjjmilcnaaDoor
namespace Lx
def letterB (c : Int) : Bool := decide (c = 95) || (decide (97 ≤ c) && decide (c ≤ 122)) || (decide (65 ≤ c) && decide (c ≤ 90))
def digitB (c : Int) : Bool := decide (48 ≤ c) && decide (c ≤ 57)
def wordB (c : Int) : Bool := letterB c || digitB c
def blankB (c : Int) : Bool := decide (c = 32) || decide (c = 9) || decide (c = 10) || decide (c = 13)
theorem letterB_high (c : Int) (h : 128 ≤ c) : letterB c = false := by simp [letterB]; omega
theorem digitB_high (c : Int) (h : 128 ≤ c) : digitB c = false := by simp [digitB]; omega
theorem wordB_high (c : Int) (h : 128 ≤ c) : wordB c = false := by simp [wordB, letterB_high c h, digitB_high c h]
theorem blankB_high (c : Int) (h : 128 ≤ c) : blankB c = false := by simp [blankB]; omega
/-- how many bytes at the beginning are of a kind -/
def spanN (B : Int → Bool) (l : List UInt8) : Nat := (l.takeWhile fun c => B c.toNat).length
theorem spanN_nil (B : Int → Bool) : spanN B [] = 0 := rfl
theorem spanN_cons (B : Int → Bool) (c : UInt8) (l : List UInt8) : spanN B (c :: l) = if B c.toNat = true then spanN B l + 1 else 0 := by
  unfold spanN
  rw [List.takeWhile_cons]
  cases h : B c.toNat <;> simp
theorem spanN_le (B : Int → Bool) (l : List UInt8) : spanN B l ≤ l.length := by
  induction l with
  | nil => simp [spanN_nil]
  | cons c l ih => rw [spanN_cons]; split <;> simp; omega
/-- the keywords, a blank about each -/
def wordsL : List UInt8 := [32, 83, 69, 76, 69, 67, 84, 32, 70, 82, 79, 77, 32, 87, 72, 69, 82, 69, 32, 71, 82, 79, 85, 80, 32, 66, 89, 32, 79, 82, 68, 69, 82, 32, 65, 83, 67, 32, 68, 69, 83, 67, 32, 76, 73, 77, 73, 84, 32, 65, 83, 32, 74, 79, 73, 78, 32, 79, 78, 32, 65, 78, 68, 32, 79, 82, 32, 78, 79, 84, 32, 73, 83, 32, 78, 85, 76, 76, 32, 84, 82, 85, 69, 32, 70, 65, 76, 83, 69, 32, 67, 79, 85, 78, 84, 32, 83, 85, 77, 32, 77, 73, 78, 32, 77, 65, 88, 32, 73, 78, 83, 69, 82, 84, 32, 73, 78, 84, 79, 32, 86, 65, 76, 85, 69, 83, 32, 85, 80, 68, 65, 84, 69, 32, 83, 69, 84, 32, 68, 69, 76, 69, 84, 69, 32, 67, 82, 69, 65, 84, 69, 32, 84, 65, 66, 76, 69, 32, 68, 82, 79, 80, 32, 73, 78, 84, 32, 82, 69, 65, 76, 32, 84, 69, 88, 84, 32]
def lowB (c : UInt8) : Bool := decide (97 ≤ c.toNat) && decide (c.toNat ≤ 122)
def capB (c : UInt8) : Bool := decide (65 ≤ c.toNat) && decide (c.toNat ≤ 90)
def upB (c : UInt8) : UInt8 := if lowB c = true then c - 32 else c
def upL (l : List UInt8) : List UInt8 := l.map upB
/-- is a word a keyword, in any letters? -/
def kwB (l : List UInt8) : Bool := l.all (fun c => lowB c || capB c) && !l.isEmpty && Lib.contains wordsL (32 :: (upL l ++ [32]))
def kwS (l : List UInt8) : List UInt8 := if kwB l = true then upL l else []
theorem lowB_iff (c : UInt8) : lowB c = true ↔ 97 ≤ c.toNat ∧ c.toNat ≤ 122 := by simp [lowB]
theorem capB_iff (c : UInt8) : capB c = true ↔ 65 ≤ c.toNat ∧ c.toNat ≤ 90 := by simp [capB]
theorem upB_low (c : UInt8) (h : 97 ≤ c.toNat) (h2 : c.toNat ≤ 122) : (upB c).toNat = c.toNat - 32 := by
  have : lowB c = true := (lowB_iff c).2 ⟨h, h2⟩
  simp only [upB, this, if_true]
  rw [UInt8.toNat_sub_of_le _ _ (by rw [UInt8.le_iff_toNat_le]; simp; omega)]
  rfl
theorem upB_other (c : UInt8) (h : ¬ (97 ≤ c.toNat ∧ c.toNat ≤ 122)) : upB c = c := by
  have : ¬ lowB c = true := fun e => h ((lowB_iff c).1 e)
  simp [upB, this]
end Lx
end Go.Proofs.YthhepfjjmilcnaaDoor
