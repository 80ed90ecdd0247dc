/- Plain Lean: strconv's decimal: reading the digits. -/
import Derived.Test.YthhepfjjmilcnaaDoorPdec5
import Derived.Test.YthhepfjjmilcnaaDoorPflt
namespace Go.Proofs.YthhepfjjmilcnaaDoor
namespace Fl
def stStep (s : Dec) (c : UInt8) : Dec :=
  if c.toNat = 46 then { s with dp := s.ds.length }
  else if c.toNat = 48 ∧ s.ds = [] then { s with dp := s.dp - 1 }
  else if s.ds.length < 800 then { s with ds := s.ds ++ [c.toNat - 48] }
  else { s with tr := s.tr || decide (c.toNat ≠ 48) }
def setD (l : List UInt8) : Dec := l.foldl stStep ⟨[], 0, false⟩
theorem setD_snoc (l : List UInt8) (c : UInt8) : setD (l ++ [c]) = stStep (setD l) c := by simp [setD]
theorem setD_at (l : List UInt8) (k : Nat) (h : k < l.length) : setD (l.take (k + 1)) = stStep (setD (l.take k)) l[k] := by
  rw [List.take_succ_eq_append_getElem h, setD_snoc]
def StOk (s : Dec) (n : Nat) : Prop := s.ds.length ≤ 800 ∧ (s.ds ≠ [] → HeadNe s.ds) ∧ -(n : Int) ≤ s.dp ∧ s.dp ≤ n ∧ s.ds.length ≤ n
theorem stStep_ok (s : Dec) (c : UInt8) (n : Nat) (h : StOk s n) (hc : c.toNat = 46 ∨ 48 ≤ c.toNat ∧ c.toNat ≤ 57) : StOk (stStep s c) (n + 1) := by
  obtain ⟨h1, h2, h3, h4, h5⟩ := h
  unfold stStep
  split
  · exact ⟨h1, h2, by simp only []; omega, by simp only []; omega, by simp only []; omega⟩
  · split
    · exact ⟨h1, h2, by simp only []; omega, by simp only []; omega, by simp only []; omega⟩
    · split
      · rename_i a b c'
        refine ⟨by simp; omega, fun _ => ?_, by simp only []; omega, by simp only []; omega, by simp; omega⟩
        by_cases e : s.ds = []
        · simp only [e, List.nil_append]
          exact ⟨c.toNat - 48, [], rfl, by have : ¬ c.toNat = 48 := fun h => b ⟨h, e⟩; omega⟩
        · obtain ⟨d, r, er, hd⟩ := h2 e
          exact ⟨d, r ++ [c.toNat - 48], by simp [er], hd⟩
      · exact ⟨h1, h2, by simp only []; omega, by simp only []; omega, by simp only []; omega⟩
theorem setD_ok (l : List UInt8) (hl : ∀ c ∈ l, c.toNat = 46 ∨ 48 ≤ c.toNat ∧ c.toNat ≤ 57) : ∀ k, k ≤ l.length → StOk (setD (l.take k)) k := by
  intro k
  induction k with
  | zero => intro _; exact ⟨by simp [setD], fun h => absurd rfl h, by simp [setD], by simp [setD], by simp [setD]⟩
  | succ k ih =>
    intro hk
    rw [setD_at l k (by omega)]
    exact stStep_ok _ _ _ (ih (by omega)) (hl _ (List.getElem_mem _))
end Fl
end Go.Proofs.YthhepfjjmilcnaaDoor
