/- Plain Lean: what strconv reads of digits, a point, digits: the mantissa of 19 digits, the exponent. -/
import Derived.Below
namespace Go.Proofs.YthhepfjjmilcnaaDoor
namespace Fl
structure RF where
  dot : Bool
  dig : Bool
  nd : Nat
  ndm : Nat
  dp : Int
  mant : Nat
  tr : Bool
def rfStep (st : RF) (c : UInt8) : RF :=
  if c.toNat = 46 then { st with dot := true, dp := st.nd }
  else if c.toNat = 48 ∧ st.nd = 0 then { st with dig := true, dp := st.dp - 1 }
  else if st.ndm < 19 then { st with dig := true, nd := st.nd + 1, ndm := st.ndm + 1, mant := st.mant * 10 + (c.toNat - 48) }
  else { st with dig := true, nd := st.nd + 1, tr := st.tr || decide (c.toNat ≠ 48) }
def rf0 : RF := ⟨false, false, 0, 0, 0, 0, false⟩
def rf (l : List UInt8) : RF := l.foldl rfStep rf0
theorem rf_snoc (l : List UInt8) (c : UInt8) : rf (l ++ [c]) = rfStep (rf l) c := by simp [rf]
def Dig (c : UInt8) : Prop := 48 ≤ c.toNat ∧ c.toNat ≤ 57
/-- digits, a point, digits -/
def IsReal (l : List UInt8) (k : Nat) : Prop := 1 ≤ k ∧ k + 1 < l.length ∧ (∀ j, j < l.length → j ≠ k → 48 ≤ (l.getD j 0).toNat ∧ (l.getD j 0).toNat ≤ 57) ∧ (l.getD k 0).toNat = 46
def RFok (st : RF) (n : Nat) : Prop := st.mant < 10 ^ st.ndm ∧ st.ndm ≤ 19 ∧ st.nd ≤ n ∧ st.ndm ≤ st.nd ∧ -(n : Int) ≤ st.dp ∧ st.dp ≤ n
theorem rfStep_ok (st : RF) (c : UInt8) (n : Nat) (h : RFok st n) (hc : c.toNat = 46 ∨ 48 ≤ c.toNat ∧ c.toNat ≤ 57) : RFok (rfStep st c) (n + 1) := by
  obtain ⟨h1, h2, h3, h3', h4, h5⟩ := h
  unfold rfStep
  split
  · exact ⟨h1, h2, by simp; omega, h3', by simp; omega, by simp; omega⟩
  · split
    · exact ⟨h1, h2, by simp; omega, h3', by simp; omega, by simp; omega⟩
    · split
      · refine ⟨?_, by simp; omega, by simp; omega, by simp; omega, by simp; omega, by simp; omega⟩
        simp only [Nat.pow_succ]
        omega
      · exact ⟨h1, h2, by simp; omega, by simp; omega, by simp; omega, by simp; omega⟩
theorem take_at (l : List UInt8) (k : Nat) (h : k < l.length) : l.take (k + 1) = l.take k ++ [l.getD k 0] := by
  rw [List.take_succ_eq_append_getElem h, List.getD_eq_getElem?_getD, List.getElem?_eq_getElem h]
  rfl
theorem rf_at (l : List UInt8) (k : Nat) (h : k < l.length) : rf (l.take (k + 1)) = rfStep (rf (l.take k)) (l.getD k 0) := by rw [take_at l k h, rf_snoc]
theorem rf_ok (l : List UInt8) (d : Nat) (hl : IsReal l d) : ∀ k, k ≤ l.length → RFok (rf (l.take k)) k ∧ (rf (l.take k)).dot = decide (d < k) ∧ (rf (l.take k)).dig = decide (0 < k) := by
  intro k
  induction k with
  | zero => intro _; simp [rf, rf0, RFok]
  | succ k ih =>
    intro hk
    obtain ⟨h1, h2, h3⟩ := ih (by omega)
    rw [rf_at l k (by omega)]
    obtain ⟨g1, g2, g3, g4⟩ := hl
    have hc : (l.getD k 0).toNat = 46 ∨ 48 ≤ (l.getD k 0).toNat ∧ (l.getD k 0).toNat ≤ 57 := by
      by_cases e : k = d
      · subst e; exact .inl g4
      · exact .inr (g3 k (by omega) e)
    refine ⟨rfStep_ok _ _ _ h1 hc, ?_, ?_⟩
    · by_cases e : k = d
      · subst e
        rw [rfStep, if_pos g4]
        simp
      · have := g3 k (by omega) e
        have h46 : ¬ (l.getD k 0).toNat = 46 := by omega
        have e2 : (d < k + 1) ↔ (d < k) := by omega
        simp only [rfStep, if_neg h46, e2]
        split
        · exact h2
        · split <;> exact h2
    · by_cases e : k = d
      · subst e
        rw [rfStep, if_pos g4]
        simp [h3]
        omega
      · have := g3 k (by omega) e
        have h46 : ¬ (l.getD k 0).toNat = 46 := by omega
        simp only [rfStep, if_neg h46]
        split
        · simp
        · split <;> simp
end Fl
end Go.Proofs.YthhepfjjmilcnaaDoor
