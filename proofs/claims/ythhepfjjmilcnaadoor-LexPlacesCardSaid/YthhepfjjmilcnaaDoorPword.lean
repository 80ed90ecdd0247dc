/- Plain Lean: a word that is written again is read as itself; what stands behind a blank turns nothing of the word ahead. -/
import Derived.Test.YthhepfjjmilcnaaDoorPall
namespace Go.Proofs.YthhepfjjmilcnaaDoor
open Lx Fl
theorem getD_app_l (l r : List UInt8) (j : Nat) (h : j < l.length) : (l ++ r).getD j 0 = l.getD j 0 := by
  rw [List.getD_eq_getElem?_getD, List.getD_eq_getElem?_getD, List.getElem?_append_left h]
theorem getD_app_r (l r : List UInt8) (j : Nat) (h : l.length ≤ j) : (l ++ r).getD j 0 = r.getD (j - l.length) 0 := by
  rw [List.getD_eq_getElem?_getD, List.getD_eq_getElem?_getD, List.getElem?_append_right h]
theorem getD_take (l : List UInt8) (n j : Nat) (h : j < n) : (l.take n).getD j 0 = l.getD j 0 := by
  rw [List.getD_eq_getElem?_getD, List.getD_eq_getElem?_getD, List.getElem?_take_of_lt h]
theorem getD_drop (l : List UInt8) (n j : Nat) : (l.drop n).getD j 0 = l.getD (n + j) 0 := by
  rw [List.getD_eq_getElem?_getD, List.getD_eq_getElem?_getD, List.getElem?_drop]
theorem spanN_unique (B : Int → Bool) : ∀ (l : List UInt8) (n : Nat), n ≤ l.length → (∀ j, j < n → B (l.getD j 0).toNat = true) → (n < l.length → B (l.getD n 0).toNat = false) → spanN B l = n
  | [], n, h, _, _ => by rw [spanN_nil]; simp at h; omega
  | c :: l, 0, _, _, h => by
    have : B c.toNat = false := h (by simp)
    rw [spanN_cons, if_neg (by rw [this]; simp)]
  | c :: l, n + 1, h, h1, h2 => by
    have h0 : B c.toNat = true := h1 0 (by omega)
    rw [spanN_cons, if_pos h0, spanN_unique B l n (by simpa using h) (fun j hj => h1 (j + 1) (by omega)) (fun hn => h2 (by simp; omega))]
theorem spanN_end (B : Int → Bool) : ∀ (l : List UInt8), spanN B l < l.length → B (l.getD (spanN B l) 0).toNat = false
  | [], h => by simp at h
  | c :: l, h => by
    rw [spanN_cons] at h ⊢
    split
    · rename_i hc
      rw [if_pos hc] at h
      exact spanN_end B l (by simpa using h)
    · rename_i hc
      simpa using hc
/-- a span that ends ahead of the text's end, or at a byte of another kind -/
theorem spanN_app (B : Int → Bool) (l : List UInt8) (c : UInt8) (r : List UInt8) (hc : B c.toNat = false) : spanN B (l ++ c :: r) = spanN B l := by
  have hle := spanN_le B l
  refine spanN_unique B _ _ (by simp; omega) (fun j hj => ?_) (fun _ => ?_)
  · rw [getD_app_l _ _ _ (by omega)]; exact spanN_digit B l j hj
  · rcases Nat.lt_or_ge (spanN B l) l.length with h | h
    · rw [getD_app_l _ _ _ h]; exact spanN_end B l h
    · rw [getD_app_r _ _ _ h, show spanN B l - l.length = 0 by omega]; exact hc
theorem spanN_take (B : Int → Bool) (l : List UInt8) : spanN B (l.take (spanN B l)) = spanN B l := by
  have hle := spanN_le B l
  refine spanN_unique B _ _ (by rw [List.length_take]; omega) (fun j hj => ?_) (fun h => ?_)
  · rw [getD_take _ _ _ hj]; exact spanN_digit B l j hj
  · rw [List.length_take] at h; omega
theorem blank_not_word (c : Nat) (h : blankB c = true) : wordB c = false := by
  simp only [blankB, Bool.or_eq_true, decide_eq_true_eq] at h
  simp only [wordB, letterB, digitB, Bool.or_eq_false_iff, Bool.and_eq_false_iff, decide_eq_false_iff_not]
  omega
theorem word_not (c : Int) (h : wordB c = false) : letterB c = false ∧ digitB c = false := by
  simpa [wordB, Bool.or_eq_false_iff] using h
theorem blank_not (c : Nat) (h : blankB c = true) : c ≠ 39 ∧ c ≠ 46 ∧ c ≠ 61 ∧ c ≠ 62 := by
  simp only [blankB, Bool.or_eq_true, decide_eq_true_eq] at h
  omega
/-- a text between quotes, as it is written -/
def dblL (l : List UInt8) : List UInt8 := l.flatMap fun c => if c.toNat = 39 then [39, 39] else [c]
/-- a word as it is written -/
def writeL (k : Int) (S : List UInt8) : List UInt8 := if k ≠ 5 then S else 39 :: (dblL S ++ [39])
theorem dblL_cons (c : UInt8) (l : List UInt8) : dblL (c :: l) = (if c.toNat = 39 then [39, 39] else [c]) ++ dblL l := List.flatMap_cons ..
theorem textGo_write (c : UInt8) (r : List UInt8) (hc : c.toNat ≠ 39) : ∀ S, textGo (dblL S ++ 39 :: c :: r) = some (S, (dblL S).length + 1)
  | [] => by
    show textGo (39 :: c :: r) = _
    conv => lhs; rw [textGo.eq_def]
    simp only
    rw [if_pos (by rfl), if_neg hc]
    try rfl
  | d :: S => by
    have ih := textGo_write c r hc S
    rw [dblL_cons]
    by_cases hd : d.toNat = 39
    · have e : d = 39 := UInt8.toNat_inj.1 hd
      subst e
      rw [if_pos hd]
      show textGo (39 :: 39 :: (dblL S ++ 39 :: c :: r)) = _
      conv => lhs; rw [textGo.eq_def]
      simp only
      rw [if_pos (by rfl), if_pos (by rfl), ih]
      simp
      try omega
    · rw [if_neg hd]
      show textGo (d :: (dblL S ++ 39 :: c :: r)) = _
      conv => lhs; rw [textGo.eq_def]
      simp only
      rw [if_neg hd, ih]
      simp
theorem textGo_dbl : ∀ (m : Nat) (l : List UInt8), l.length ≤ m → ∀ p, textGo l = some p → p.2 = (dblL p.1).length + 1 ∧ l.take p.2 = dblL p.1 ++ [39]
  | _, [], _, p, h => by simp [textGo] at h
  | 0, c :: l, hm, _, _ => by simp at hm
  | m + 1, c :: l, hm, p, h => by
    unfold textGo at h
    split at h
    · rename_i hc
      have ec : c = 39 := UInt8.toNat_inj.1 hc
      cases l with
      | nil => simp at h; subst h; subst ec; exact ⟨rfl, rfl⟩
      | cons d l' =>
        simp only at h
        split at h
        · rename_i hd
          have ed : d = 39 := UInt8.toNat_inj.1 hd
          rw [Option.map_eq_some_iff] at h
          obtain ⟨q, h1, h2⟩ := h
          obtain ⟨i1, i2⟩ := textGo_dbl m l' (by simp at hm; omega) q h1
          subst h2
          simp only [dblL_cons]
          rw [if_pos (by rfl)]
          subst ec; subst ed
          refine ⟨by simp; omega, ?_⟩
          rw [List.take_succ_cons, List.take_succ_cons, i2]
          rfl
        · simp at h; subst h; subst ec; exact ⟨rfl, rfl⟩
    · rename_i hc
      rw [Option.map_eq_some_iff] at h
      obtain ⟨q, h1, h2⟩ := h
      obtain ⟨i1, i2⟩ := textGo_dbl m l (by simp at hm; omega) q h1
      subst h2
      simp only [dblL_cons]
      rw [if_neg hc]
      refine ⟨by simp; omega, ?_⟩
      rw [List.take_succ_cons, i2]
      rfl
theorem textGo_behind (r : List UInt8) : ∀ (m : Nat) (l : List UInt8), l.length ≤ m → ∀ p, textGo l = some p → textGo (l ++ 10 :: r) = some p
  | _, [], _, p, h => by simp [textGo] at h
  | 0, c :: l, hm, _, _ => by simp at hm
  | m + 1, c :: l, hm, p, h => by
    rw [List.cons_append]
    unfold textGo at h ⊢
    split at h
    · rename_i hc
      rw [if_pos hc]
      cases l with
      | nil => simp at h; subst h; simp
      | cons d l' =>
        simp only at h
        rw [List.cons_append]
        simp only
        split at h
        · rename_i hd
          rw [if_pos hd]
          rw [Option.map_eq_some_iff] at h ⊢
          obtain ⟨q, h1, h2⟩ := h
          exact ⟨q, textGo_behind r m l' (by simp at hm; omega) q h1, h2⟩
        · rename_i hd
          rw [if_neg hd]; exact h
    · rename_i hc
      rw [if_neg hc]
      rw [Option.map_eq_some_iff] at h ⊢
      obtain ⟨q, h1, h2⟩ := h
      exact ⟨q, textGo_behind r m l (by simp at hm; omega) q h1, h2⟩
/-- which kind of word a first byte opens -/
theorem nextP_head (l : List UInt8) (h : l ≠ []) : nextP l = if letterB (l.getD 0 0).toNat = true then nameP l else if digitB (l.getD 0 0).toNat = true then numP l else if (l.getD 0 0).toNat = 39 then textP l else signP l := by
  rw [nextP, if_neg h]
theorem take_app (l r : List UInt8) (n : Nat) (h : n ≤ l.length) : (l ++ r).take n = l.take n := by rw [List.take_append_of_le_length h]
theorem drop_app (l r : List UInt8) (n : Nat) (h : n ≤ l.length) : (l ++ r).drop n = l.drop n ++ r := by rw [List.drop_append_of_le_length h]
end Go.Proofs.YthhepfjjmilcnaaDoor
