/- Plain Lean: how long the words are that are written again; the pieces of the loops. -/
import Derived.Test.YthhepfjjmilcnaaDoorPlaws
namespace Go.Proofs.YthhepfjjmilcnaaDoor
open Lx Fl
theorem againL_app (b : List UInt8) : ∀ (l m : List Tok), againL b (l ++ m) = againL b l ++ againL b m
  | [], m => rfl
  | t :: l, m => by
    show writeL t.1 t.2.1 ++ b ++ againL b (l ++ m) = (writeL t.1 t.2.1 ++ b ++ againL b l) ++ againL b m
    rw [againL_app b l m]; simp
theorem again_snoc (b : List UInt8) (ts : List Tok) (j : Nat) (h : j < ts.length) : againL b (ts.take (j + 1)) = againL b (ts.take j) ++ (writeL ts[j].1 ts[j].2.1 ++ b) := by
  rw [List.take_succ_eq_append_getElem h, againL_app]
  simp [againL]
theorem again_le (b : List UInt8) (ts : List Tok) (j : Nat) : (againL b (ts.take j)).length ≤ (againL b ts).length := by
  have h := againL_app b (ts.take j) (ts.drop j)
  rw [List.take_append_drop] at h
  rw [h, List.length_append]; omega
/-- the words take no more than the text; and there are no more than its bytes and one -/
theorem places_len (l : List UInt8) : ∀ (ts : List Tok) (e : Nat), placesOk l e ts → ∀ b : List UInt8, (againL b ts).length ≤ (l.length - e) + ts.length * b.length ∧ ts.length ≤ (l.length - e) + 1
  | [], e, _, b => by simp [againL]
  | t :: ts, e, h, b => by
    obtain ⟨h1, h2, h3, h4, h5, h6, h7, h8, h9⟩ := h
    obtain ⟨i1, i2⟩ := places_len l ts _ h9 b
    have e1 : (againL b (t :: ts)).length = (writeL t.1 t.2.1).length + b.length + (againL b ts).length := by
      show (writeL t.1 t.2.1 ++ b ++ againL b ts).length = _
      rw [List.length_append, List.length_append]
    have e2 : (t :: ts).length * b.length = ts.length * b.length + b.length := by rw [List.length_cons, Nat.succ_mul]
    rw [e1, e2, List.length_cons]
    refine ⟨by omega, ?_⟩
    by_cases hz : t.1 = 0
    · have := h4.1 hz
      subst this
      simp
    · have hn0 : (nextP (l.drop t.2.2)).2.2 = 0 := by rw [h7]
      have hn1 : (nextP (l.drop t.2.2)).1.1 ≠ 0 := by rw [h7]; exact hz
      have := (nextP_len _ hn0 hn1).1
      rw [h7] at this
      have h10 : 1 ≤ (writeL t.1 t.2.1).length := this
      omega
theorem places_bytes (l : List UInt8) : ∀ (ts : List Tok) (e : Nat), placesOk l e ts → ∀ (i : Nat) (h : i < ts.length), ts[i].2.1.length ≤ l.length
  | t :: ts, e, h, 0, _ => by
    obtain ⟨_, _, _, _, h5, _⟩ := h
    show t.2.1.length ≤ l.length
    have : t.2.1.length ≤ (writeL t.1 t.2.1).length := by
      unfold writeL
      split
      · exact Nat.le_refl _
      · have hd : ∀ u : List UInt8, u.length ≤ (dblL u).length := fun u => by
          induction u with
          | nil => simp
          | cons c u ih => rw [dblL_cons]; split <;> simp <;> omega
        have := hd t.2.1
        simp; omega
    omega
  | t :: ts, e, h, i + 1, hi => by
    obtain ⟨_, _, _, _, _, _, _, _, h9⟩ := h
    exact places_bytes l ts _ h9 i (by simpa using hi)
/-- the loop over the words: where it stands -/
def PlacesAt (l : List UInt8) (ts : List Tok) (j e : Nat) : Prop := placesOk l e (ts.drop j)
theorem PlacesAt.step {l : List UInt8} {ts : List Tok} {j e : Nat} (H : PlacesAt l ts j e) (hj : j < ts.length) :
    e ≤ ts[j].2.2 ∧ ts[j].2.2 ≤ l.length ∧ (∀ i, e ≤ i → i < ts[j].2.2 → blankB (l.getD i 0).toNat = true) ∧ (ts[j].1 = 0 ↔ j + 1 = ts.length) ∧
      (writeL ts[j].1 ts[j].2.1).length ≤ l.length - ts[j].2.2 ∧ (ts[j].1 ≠ 2 → (l.drop ts[j].2.2).take (writeL ts[j].1 ts[j].2.1).length = writeL ts[j].1 ts[j].2.1) ∧ PlacesAt l ts (j + 1) (ts[j].2.2 + (writeL ts[j].1 ts[j].2.1).length) := by
  unfold PlacesAt at H
  rw [List.drop_eq_getElem_cons hj] at H
  obtain ⟨h1, h2, h3, h4, h5, h6, _, _, h9⟩ := H
  refine ⟨h1, h2, h3, h4.trans ?_, h5, h6, h9⟩
  constructor
  · intro h; have := congrArg List.length h; rw [List.length_drop, List.length_nil] at this; omega
  · intro h; exact List.drop_eq_nil_of_le (by omega)
theorem PlacesAt.done {l : List UInt8} {ts : List Tok} {e : Nat} (H : PlacesAt l ts ts.length e) : e = l.length := by
  unfold PlacesAt at H
  rw [List.drop_length] at H
  exact H
end Go.Proofs.YthhepfjjmilcnaaDoor
