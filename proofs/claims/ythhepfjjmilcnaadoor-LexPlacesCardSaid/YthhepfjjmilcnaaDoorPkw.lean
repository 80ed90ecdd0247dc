/- Plain Lean: a keyword is one of the list of words, or stands between blanks in the text of them. -/
import Derived.Test.YthhepfjjmilcnaaDoorPlex
namespace Go.Proofs.YthhepfjjmilcnaaDoor
namespace Lx
def kwList : List (List UInt8) := [[83, 69, 76, 69, 67, 84], [70, 82, 79, 77], [87, 72, 69, 82, 69], [71, 82, 79, 85, 80], [66, 89], [79, 82, 68, 69, 82], [65, 83, 67], [68, 69, 83, 67], [76, 73, 77, 73, 84], [65, 83], [74, 79, 73, 78], [79, 78], [65, 78, 68], [79, 82], [78, 79, 84], [73, 83], [78, 85, 76, 76], [84, 82, 85, 69], [70, 65, 76, 83, 69], [67, 79, 85, 78, 84], [83, 85, 77], [77, 73, 78], [77, 65, 88], [73, 78, 83, 69, 82, 84], [73, 78, 84, 79], [86, 65, 76, 85, 69, 83], [85, 80, 68, 65, 84, 69], [83, 69, 84], [68, 69, 76, 69, 84, 69], [67, 82, 69, 65, 84, 69], [84, 65, 66, 76, 69], [68, 82, 79, 80], [73, 78, 84], [82, 69, 65, 76], [84, 69, 88, 84]]
/-- the word that stands at a place, to the next blank -/
def wordAt (l : List UInt8) (i : Nat) : List UInt8 := (l.drop i).takeWhile (fun c => c != 32)
theorem kw_places : (List.range wordsL.length).all (fun i => !(wordsL.getD i 0 == 32) || kwList.contains (wordAt wordsL (i + 1)) || (wordAt wordsL (i + 1)).isEmpty) = true := by decide +kernel
theorem kw_each : kwList.all (fun u => Lib.contains wordsL (32 :: (u ++ [32])) && u.all capB && !u.isEmpty) = true := by decide +kernel
theorem index_place : ∀ (l sub : List UInt8), 0 ≤ Lib.index l sub → ∃ i, sub.isPrefixOf (l.drop i) = true
  | [], sub, h => by
    unfold Lib.index at h
    split at h
    · rename_i he
      refine ⟨0, ?_⟩
      cases sub with
      | nil => rfl
      | cons a b => simp at he
    · omega
  | b :: l, sub, h => by
    unfold Lib.index at h
    split at h
    · rename_i he
      exact ⟨0, he⟩
    · split at h
      · omega
      · rename_i h2
        have hge := Lib.index_ge l sub
        have h3 : ¬ Lib.index l sub = -1 := fun e => h2 (by rw [e]; rfl)
        have ih := index_place l sub (by omega)
        obtain ⟨i, hi⟩ := ih
        exact ⟨i + 1, hi⟩
theorem prefix_word : ∀ (u l : List UInt8), (∀ c ∈ u, c ≠ 32) → (u ++ [32]).isPrefixOf l = true → l.takeWhile (fun c => c != 32) = u
  | [], l, _, h => by
    cases l with
    | nil => simp at h
    | cons a l =>
      simp at h
      subst h
      rfl
  | c :: u, l, hu, h => by
    cases l with
    | nil => simp at h
    | cons a l =>
      rw [List.cons_append, List.isPrefixOf_cons_cons, Bool.and_eq_true, beq_iff_eq] at h
      obtain ⟨rfl, h⟩ := h
      have hc : (c != 32) = true := by rw [bne_iff_ne]; exact hu c (List.mem_cons_self ..)
      rw [List.takeWhile_cons, if_pos hc, prefix_word u l (fun x hx => hu x (List.mem_cons_of_mem _ hx)) h]
theorem capB_ne (c : UInt8) (h : capB c = true) : c ≠ 32 := by
  rintro rfl
  simp [capB] at h
theorem contains_kw_iff (u : List UInt8) (h1 : u.all capB = true) (h2 : u ≠ []) : Lib.contains wordsL (32 :: (u ++ [32])) = kwList.contains u := by
  have hu : ∀ c ∈ u, c ≠ 32 := fun c hc => capB_ne c (List.all_eq_true.1 h1 c hc)
  cases hk : kwList.contains u with
  | true =>
    have := List.all_eq_true.1 kw_each u (by simpa using hk)
    simp only [Bool.and_eq_true] at this
    exact this.1.1
  | false =>
    cases hc : Lib.contains wordsL (32 :: (u ++ [32])) with
    | false => rfl
    | true =>
      exfalso
      unfold Lib.contains at hc
      obtain ⟨i, hi⟩ := index_place _ _ (of_decide_eq_true hc)
      have hil : i < wordsL.length := by
        rcases Nat.lt_or_ge i wordsL.length with h | h
        · exact h
        · rw [List.drop_eq_nil_of_le h] at hi
          simp at hi
      rw [List.drop_eq_getElem_cons hil, List.isPrefixOf_cons_cons, Bool.and_eq_true, beq_iff_eq] at hi
      obtain ⟨hi1, hi2⟩ := hi
      have hw : wordAt wordsL (i + 1) = u := prefix_word u _ hu hi2
      have hp := List.all_eq_true.1 kw_places i (List.mem_range.2 hil)
      rw [hw, hk, List.getD_eq_getElem?_getD, List.getElem?_eq_getElem hil] at hp
      simp only [Option.getD_some, ← hi1, beq_self_eq_true, Bool.not_true, Bool.false_or, Bool.or_false] at hp
      exact h2 (by simpa using hp)
theorem upB_cap (c : UInt8) (h : capB (upB c) = true) : lowB c = true ∨ capB c = true := by
  by_cases hl : lowB c = true
  · exact .inl hl
  · right
    have : upB c = c := by simp [upB, hl]
    rwa [this] at h
theorem cap_upB (c : UInt8) (h : (lowB c || capB c) = true) : capB (upB c) = true := by
  by_cases hl : lowB c = true
  · obtain ⟨a, b⟩ := (lowB_iff c).1 hl
    rw [capB_iff, upB_low c a b]
    omega
  · have h2 : capB c = true := by simpa [hl] using h
    have : upB c = c := by simp [upB, hl]
    rwa [this]
/-- the two ways of telling a keyword tell the same -/
theorem kwB_eq (l : List UInt8) : kwB l = kwList.contains (upL l) := by
  unfold kwB
  by_cases h1 : l.all (fun c => lowB c || capB c) = true
  · have hcap : (upL l).all capB = true := by
      unfold upL
      rw [List.all_map]
      exact List.all_eq_true.2 fun c hc => cap_upB c (List.all_eq_true.1 h1 c hc)
    rw [h1, Bool.true_and]
    cases l with
    | nil => decide
    | cons c l =>
      rw [contains_kw_iff _ hcap (by simp [upL])]
      rfl
  · have h1' : l.all (fun c => lowB c || capB c) = false := by simpa using h1
    rw [h1', Bool.false_and, Bool.false_and]
    symm
    cases hk : kwList.contains (upL l) with
    | false => rfl
    | true =>
      exfalso
      have := List.all_eq_true.1 kw_each (upL l) (by simpa using hk)
      simp only [Bool.and_eq_true] at this
      have hc := this.1.2
      apply h1
      rw [List.all_eq_true]
      intro c hcm
      have := List.all_eq_true.1 hc (upB c) (List.mem_map_of_mem hcm)
      rcases upB_cap c this with h | h <;> simp [h]
end Lx
end Go.Proofs.YthhepfjjmilcnaaDoor
