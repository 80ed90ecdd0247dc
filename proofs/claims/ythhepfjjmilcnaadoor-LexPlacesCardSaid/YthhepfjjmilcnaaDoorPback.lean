/- Plain Lean: the next word ahead of a blank: written again, it is read as itself; and what stands behind the blank turns nothing. -/
import Derived.Test.YthhepfjjmilcnaaDoorPword
namespace Go.Proofs.YthhepfjjmilcnaaDoor
open Lx Fl
theorem numP_of (l : List UInt8) (n M : Nat) (hn : spanN digitB l = n) (hM : spanN digitB (l.drop (n + 1)) = M) : numP l =
    if 1 < n ∧ (l.getD 0 0).toNat = 48 then ((0, []), 0, 7)
    else if (l.getD n 0).toNat = 46 ∧ 0 < M then
      if badR (l.take (n + (1 + M))) = true then ((0, []), 0, 4) else ((4, l.take (n + (1 + M))), n + (1 + M), 0)
    else if 19 < n ∨ n = 19 ∧ gt19 (l.take n) = true then ((0, []), 0, 4)
    else ((3, l.take n), n, 0) := by
  subst hn; subst hM; rfl
/-- behind a number a byte that is neither a digit nor a point: it turns nothing -/
theorem numP_app (l : List UInt8) (c : UInt8) (r : List UInt8) (hd : digitB c.toNat = false) (hp : c.toNat ≠ 46) (h0 : l ≠ []) : numP (l ++ c :: r) = numP l := by
  have hn := spanN_app digitB l c r hd
  have hle := spanN_le digitB l
  have hlen : 0 < l.length := by cases l with | nil => exact absurd rfl h0 | cons _ _ => simp
  have hM : spanN digitB ((l ++ c :: r).drop (spanN digitB l + 1)) = spanN digitB (l.drop (spanN digitB l + 1)) ∨ spanN digitB l = l.length := by
    rcases Nat.lt_or_ge (spanN digitB l) l.length with h | h
    · left
      rw [drop_app _ _ _ (by omega), spanN_app digitB _ c r hd]
    · right; omega
  rw [numP_of (l ++ c :: r) _ _ hn rfl, numP_of l _ _ rfl rfl]
  have e0 : (l ++ c :: r).getD 0 0 = l.getD 0 0 := getD_app_l _ _ _ hlen
  rw [e0]
  rcases hM with hM | hM
  · rw [hM]
    have h3 := spanN_le digitB (l.drop (spanN digitB l + 1))
    rw [List.length_drop] at h3
    rcases Nat.lt_or_ge (spanN digitB l) l.length with h | h
    · rw [getD_app_l _ _ _ h, take_app _ _ _ (by omega), take_app _ _ _ (by omega)]
    · have h4 : spanN digitB (l.drop (spanN digitB l + 1)) = 0 := by omega
      rw [h4, take_app _ _ (spanN digitB l) hle]
      simp
  · have e1 : ((l ++ c :: r).getD (spanN digitB l) 0).toNat ≠ 46 := by
      rw [hM, getD_app_r _ _ _ (Nat.le_refl _), Nat.sub_self]; exact hp
    have e2 : (l.getD (spanN digitB l) 0).toNat ≠ 46 := by
      rw [hM, List.getD_eq_getElem?_getD, List.getElem?_eq_none (Nat.le_refl _)]; decide
    rw [if_neg (c := _ ∧ 0 < spanN digitB ((l ++ c :: r).drop (spanN digitB l + 1))) (fun h => e1 h.1), if_neg (c := _ ∧ 0 < spanN digitB (l.drop (spanN digitB l + 1))) (fun h => e2 h.1), take_app _ _ (spanN digitB l) hle]
theorem nameP_app (l : List UInt8) (c : UInt8) (r : List UInt8) (hd : wordB c.toNat = false) : nameP (l ++ c :: r) = nameP l := by
  unfold nameP
  rw [spanN_app wordB l c r hd, take_app _ _ _ (spanN_le wordB l)]
theorem prefix2 (a b : UInt8) (p q : UInt8) (r : List UInt8) : Lib.hasPrefix (a :: b :: r) [p, q] = (p == a && q == b) := by
  unfold Lib.hasPrefix
  rw [List.isPrefixOf_cons_cons, List.isPrefixOf_cons_cons]
  have : [].isPrefixOf r = true := by cases r <;> rfl
  rw [this, Bool.and_true]
theorem prefix1 (a p q : UInt8) : Lib.hasPrefix [a] [p, q] = false := by
  unfold Lib.hasPrefix
  rw [List.isPrefixOf_cons_cons]
  simp [List.isPrefixOf]
theorem sign2_cons (a b : UInt8) (r : List UInt8) : sign2 (a :: b :: r) = ((60 == a && 62 == b) || (60 == a && 61 == b) || (62 == a && 61 == b)) := by
  unfold sign2; rw [prefix2, prefix2, prefix2]
theorem sign2_one (a : UInt8) : sign2 [a] = false := by
  unfold sign2; rw [prefix1, prefix1, prefix1]; rfl
theorem sign2_blank (a c : UInt8) (r : List UInt8) (h1 : c.toNat ≠ 61) (h2 : c.toNat ≠ 62) : sign2 (a :: c :: r) = false := by
  rw [sign2_cons]
  have e1 : ((61 : UInt8) == c) = false := by rw [beq_eq_false_iff_ne]; intro e; apply h1; rw [← e]; rfl
  have e2 : ((62 : UInt8) == c) = false := by rw [beq_eq_false_iff_ne]; intro e; apply h2; rw [← e]; rfl
  rw [e1, e2]; simp
theorem signP_app (l : List UInt8) (c : UInt8) (r : List UInt8) (h1 : c.toNat ≠ 61) (h2 : c.toNat ≠ 62) (h0 : l ≠ []) : signP (l ++ c :: r) = signP l := by
  match l, h0 with
  | [a], _ =>
    unfold signP
    show (if sign2 (a :: c :: r) = true then _ else _) = _
    rw [sign2_blank a c r h1 h2, sign2_one]
    rfl
  | a :: b :: l, _ =>
    unfold signP
    show (if sign2 (a :: b :: (l ++ c :: r)) = true then _ else _) = _
    rw [sign2_cons, sign2_cons]
    rfl
/-- what stands behind a blank turns nothing of the word ahead of it, unless that is cut off -/
theorem nextP_app (l : List UInt8) (r : List UInt8) (h0 : l ≠ []) (he : (nextP l).2.2 ≠ 10) : nextP (l ++ 10 :: r) = nextP l := by
  have hlen : 0 < l.length := by cases l with | nil => exact absurd rfl h0 | cons _ _ => simp
  have e0 : (l ++ 10 :: r).getD 0 0 = l.getD 0 0 := getD_app_l _ _ _ hlen
  rw [nextP_head l h0] at he ⊢
  rw [nextP_head _ (by simp), e0]
  split
  · exact nameP_app l 10 r (by decide)
  · rename_i hl
    rw [if_neg hl] at he
    split
    · exact numP_app l 10 r (by decide) (by decide) h0
    · rename_i hd
      rw [if_neg hd] at he
      split
      · rename_i hq
        rw [if_pos hq] at he
        unfold textP at he ⊢
        rw [drop_app _ _ _ hlen]
        cases ht : textGo (l.drop 1) with
        | none => rw [ht] at he; exact absurd rfl he
        | some p => rw [textGo_behind r _ _ (Nat.le_refl _) p ht]
      · exact signP_app l 10 r (by decide) (by decide) h0
theorem capB_letter (c : UInt8) (h : capB c = true) : letterB c.toNat = true := by
  rw [capB_iff] at h
  simp only [letterB, Bool.or_eq_true, Bool.and_eq_true, decide_eq_true_eq]
  omega
theorem upB_cap (c : UInt8) (h : (lowB c || capB c) = true) : capB (upB c) = true := by
  rw [Bool.or_eq_true, lowB_iff, capB_iff] at h
  rw [capB_iff]
  rcases h with h | h
  · rw [upB_low c h.1 h.2]; omega
  · rw [upB_other c (by omega)]; exact h
theorem upB_of_cap (c : UInt8) (h : capB c = true) : upB c = c := by
  rw [capB_iff] at h
  exact upB_other c (by omega)
theorem upL_up (l : List UInt8) (h : l.all (fun c => lowB c || capB c) = true) : (upL l).all capB = true ∧ upL (upL l) = upL l := by
  rw [List.all_eq_true] at h
  have h1 : ∀ c ∈ upL l, capB c = true := fun c hc => by
    unfold upL at hc
    rw [List.mem_map] at hc
    obtain ⟨a, ha, rfl⟩ := hc
    exact upB_cap a (h a ha)
  refine ⟨by rw [List.all_eq_true]; exact h1, ?_⟩
  rw [upL]
  exact (List.map_congr_left (fun c hc => upB_of_cap c (h1 c hc))).trans (List.map_id _)
theorem kwB_up (l : List UInt8) (h : kwB l = true) : kwB (upL l) = true ∧ kwS (upL l) = upL l ∧ (upL l).all capB = true := by
  have h' := h
  unfold kwB at h'
  rw [Bool.and_eq_true, Bool.and_eq_true] at h'
  obtain ⟨⟨ha, hb⟩, hc⟩ := h'
  obtain ⟨u1, u2⟩ := upL_up l ha
  have hk : kwB (upL l) = true := by
    unfold kwB
    rw [u2, Bool.and_eq_true, Bool.and_eq_true]
    refine ⟨⟨?_, ?_⟩, hc⟩
    · rw [List.all_eq_true] at u1 ⊢
      intro c hc; rw [u1 c hc]; simp
    · cases l with
      | nil => simp at hb
      | cons _ _ => rfl
  exact ⟨hk, by rw [kwS, if_pos hk, u2], u1⟩
theorem getD_ne {l : List UInt8} {j : Nat} (h : j < l.length) : l.getD j 0 ∈ l := by
  rw [List.getD_eq_getElem?_getD, List.getElem?_eq_getElem h]; exact List.getElem_mem h
/-- a word, written again with a blank behind it, is read as itself -/
theorem nextP_write (l : List UInt8) (h0 : (nextP l).2.2 = 0) (h1 : (nextP l).1.1 ≠ 0) (c : UInt8) (hc : blankB c.toNat = true) (r : List UInt8) :
    nextP (writeL (nextP l).1.1 (nextP l).1.2 ++ c :: r) = nextP l ∧ (writeL (nextP l).1.1 (nextP l).1.2).length = (nextP l).2.1 := by
  obtain ⟨k39, k46, k61, k62⟩ := blank_not c.toNat hc
  have kw := blank_not_word c.toNat hc
  obtain ⟨_, kd⟩ := word_not c.toNat kw
  have hlen2 := nextP_len l h0 h1
  by_cases hn : l = []
  · rw [nextP, if_pos hn] at h1; exact absurd rfl h1
  have hlen : 0 < l.length := by cases l with | nil => exact absurd rfl hn | cons _ _ => simp
  -- a text that begins as l does and is read alike
  have go : ∀ (n : Nat), (nextP l).2.1 = n → (nextP l).1.1 ≠ 5 → (nextP l).1.2 = l.take n →
      (∀ u : List UInt8, u = l.take n → u ≠ [] → nextP (u ++ c :: r) = nextP l) →
      nextP (writeL (nextP l).1.1 (nextP l).1.2 ++ c :: r) = nextP l ∧ (writeL (nextP l).1.1 (nextP l).1.2).length = (nextP l).2.1 := by
    intro n e1 e2 e3 e4
    have hw : writeL (nextP l).1.1 (nextP l).1.2 = l.take n := by rw [writeL, if_pos e2, e3]
    rw [hw, e1]
    rw [e1] at hlen2
    have hln : (l.take n).length = n := by rw [List.length_take]; omega
    refine ⟨e4 _ rfl (fun e => ?_), hln⟩
    rw [e] at hln; simp at hln; omega
  have head : ∀ (n : Nat) (u : List UInt8), u = l.take n → u ≠ [] → (u ++ c :: r).getD 0 0 = l.getD 0 0 := fun n u hu hu0 => by
    have hul : 0 < u.length := by cases u with | nil => exact absurd rfl hu0 | cons _ _ => simp
    rw [getD_app_l _ _ _ hul, hu, getD_take]
    rw [hu, List.length_take] at hul; omega
  by_cases hl : letterB (l.getD 0 0).toNat = true
  · have e : nextP l = nameP l := by rw [nextP_head l hn, if_pos hl]
    have hsp := spanN_take wordB l
    have hle := spanN_le wordB l
    have hsl : (l.take (spanN wordB l)).length = spanN wordB l := by rw [List.length_take]; omega
    by_cases hk : kwB (l.take (spanN wordB l)) = true
    · obtain ⟨q1, q2, q3⟩ := kwB_up _ hk
      have hv : nextP l = ((2, kwS (l.take (spanN wordB l))), spanN wordB l, 0) := by rw [e, nameP, if_pos hk]
      have hS : kwS (l.take (spanN wordB l)) = upL (l.take (spanN wordB l)) := by rw [kwS, if_pos hk]
      rw [hS] at hv
      have hul : (upL (l.take (spanN wordB l))).length = spanN wordB l := by rw [upL, List.length_map, hsl]
      rw [hv] at hlen2 ⊢
      rw [List.all_eq_true] at q3
      generalize upL (l.take (spanN wordB l)) = u at *
      have hu0 : 0 < u.length := by rw [hul]; exact hlen2.1
      have hwr : writeL 2 u = u := by rw [writeL, if_pos (by decide)]
      show nextP (writeL 2 u ++ c :: r) = _ ∧ (writeL 2 u).length = _
      rw [hwr]
      refine ⟨?_, hul⟩
      have hsu : spanN wordB u = u.length := spanN_unique wordB u _ (Nat.le_refl _) (fun j hj => by
        unfold wordB; rw [capB_letter _ (q3 _ (getD_ne hj))]; rfl) (fun h => absurd h (Nat.lt_irrefl _))
      have h3 : letterB ((u ++ c :: r).getD 0 0).toNat = true := by rw [getD_app_l _ _ _ hu0]; exact capB_letter _ (q3 _ (getD_ne hu0))
      rw [nextP_head _ (by simp), if_pos h3, nameP_app u c r kw, nameP, hsu, List.take_length, if_pos q1, q2, hul]
    · have hv : nextP l = if 12 < spanN wordB l then ((0, []), 0, 4) else ((1, l.take (spanN wordB l)), spanN wordB l, 0) := by rw [e, nameP, if_neg hk]
      by_cases h12 : 12 < spanN wordB l
      · rw [hv, if_pos h12] at h0; cases h0
      · rw [if_neg h12] at hv
        refine go (spanN wordB l) (by rw [hv]) (by rw [hv]; show (1 : Int) ≠ 5; decide) (by rw [hv]) (fun u hu hu0 => ?_)
        rw [nextP_head _ (by simp), head _ u hu hu0, if_pos hl, nameP_app u c r kw, nameP, hu, hsp, List.take_take, Nat.min_self, if_neg hk, if_neg h12, hv]
  by_cases hd : digitB (l.getD 0 0).toNat = true
  · have e : nextP l = numP l := by rw [nextP_head l hn, if_neg hl, if_pos hd]
    have hv := e.trans (numP_of l _ _ rfl rfl)
    have hle := spanN_le digitB l
    by_cases ha : 1 < spanN digitB l ∧ (l.getD 0 0).toNat = 48
    · rw [if_pos ha] at hv; rw [hv] at h0; cases h0
    rw [if_neg ha] at hv
    by_cases hb : (l.getD (spanN digitB l) 0).toNat = 46 ∧ 0 < spanN digitB (l.drop (spanN digitB l + 1))
    · rw [if_pos hb] at hv
      by_cases hbad : badR (l.take (spanN digitB l + (1 + spanN digitB (l.drop (spanN digitB l + 1))))) = true
      · rw [if_pos hbad] at hv; rw [hv] at h0; cases h0
      · rw [if_neg hbad] at hv
        have h3 := spanN_le digitB (l.drop (spanN digitB l + 1))
        rw [List.length_drop] at h3
        have hM := spanN_take digitB (l.drop (spanN digitB l + 1))
        obtain ⟨M, hMe⟩ : ∃ M, spanN digitB (l.drop (spanN digitB l + 1)) = M := ⟨_, rfl⟩
        obtain ⟨n, hne⟩ : ∃ n, spanN digitB l = n := ⟨_, rfl⟩
        have hdig := spanN_digit digitB l
        rw [hne] at hMe hb hbad hv h3 hM hle ha hdig
        rw [hMe] at hb hbad hv h3 hM
        refine go (n + (1 + M)) (by rw [hv]) (by rw [hv]; show (4 : Int) ≠ 5; decide) (by rw [hv]) (fun u hu hu0 => ?_)
        have hul : u.length = n + (1 + M) := by rw [hu, List.length_take]; omega
        have u1 : spanN digitB u = n := spanN_unique digitB u n (by omega) (fun j hj => by rw [hu, getD_take _ _ _ (by omega)]; exact hdig j hj) (fun _ => by
          rw [hu, getD_take _ _ _ (by omega), hb.1]; decide)
        have u2 : u.drop (n + 1) = (l.drop (n + 1)).take M := by rw [hu, List.drop_take]; congr 1; omega
        rw [nextP_head _ (by simp), head _ u hu hu0, if_neg hl, if_pos hd, numP_app u c r kd k46 hu0, numP_of u n M u1 (by rw [u2]; exact hM)]
        rw [hu, getD_take _ _ _ (by omega), getD_take _ _ _ (by omega), List.take_take, Nat.min_self, if_neg ha, if_pos hb, if_neg hbad, hv]
    · rw [if_neg hb] at hv
      by_cases h19 : 19 < spanN digitB l ∨ spanN digitB l = 19 ∧ gt19 (l.take (spanN digitB l)) = true
      · rw [if_pos h19] at hv; rw [hv] at h0; cases h0
      · rw [if_neg h19] at hv
        have hsp := spanN_take digitB l
        have hpos := spanN_pos digitB l hlen hd
        obtain ⟨n, hne⟩ : ∃ n, spanN digitB l = n := ⟨_, rfl⟩
        rw [hne] at h19 hv hle ha hsp hpos
        refine go n (by rw [hv]) (by rw [hv]; show (3 : Int) ≠ 5; decide) (by rw [hv]) (fun u hu hu0 => ?_)
        have hul : u.length = n := by rw [hu, List.length_take]; omega
        rw [nextP_head _ (by simp), head _ u hu hu0, if_neg hl, if_pos hd, numP_app u c r kd k46 hu0, numP_of u n _ (by rw [hu]; exact hsp) rfl]
        have g0 : u.getD 0 0 = l.getD 0 0 := by rw [hu, getD_take _ _ _ (by omega)]
        have g1 : (u.getD n 0).toNat ≠ 46 := by
          rw [List.getD_eq_getElem?_getD, List.getElem?_eq_none (by omega)]; decide
        rw [g0, if_neg ha, if_neg (fun h => g1 h.1)]
        have g2 : u.take n = l.take n := by rw [hu, List.take_take, Nat.min_self]
        rw [g2, if_neg h19, hv]
  by_cases hq : (l.getD 0 0).toNat = 39
  · have e : nextP l = textP l := by rw [nextP_head l hn, if_neg hl, if_neg hd, if_pos hq]
    cases ht : textGo (l.drop 1) with
    | none => rw [e, textP, ht] at h1; exact absurd rfl h1
    | some p =>
      have hv : nextP l = ((5, p.1), p.2 + 1, 0) := by rw [e, textP, ht]
      obtain ⟨t1, _⟩ := textGo_dbl _ _ (Nat.le_refl _) p ht
      rw [hv]
      have hwr : writeL 5 p.1 = 39 :: (dblL p.1 ++ [39]) := by rw [writeL, if_neg (by decide)]
      show nextP (writeL 5 p.1 ++ c :: r) = _ ∧ (writeL 5 p.1).length = _
      rw [hwr]
      refine ⟨?_, by rw [t1]; simp⟩
      have hcat : (39 :: (dblL p.1 ++ [39])) ++ c :: r = 39 :: (dblL p.1 ++ 39 :: c :: r) := by simp
      rw [hcat, nextP_head _ (by simp)]
      show (if letterB (39 : UInt8).toNat = true then _ else if digitB (39 : UInt8).toNat = true then _ else if (39 : UInt8).toNat = 39 then _ else _) = _
      rw [if_neg (by decide), if_neg (by decide), if_pos (by rfl), textP]
      show (match textGo (dblL p.1 ++ 39 :: c :: r) with | none => _ | some p => _) = _
      rw [textGo_write c r k39 p.1, t1]
  · have e : nextP l = signP l := by rw [nextP_head l hn, if_neg hl, if_neg hd, if_neg hq]
    by_cases hs : sign2 l = true
    · have hv : nextP l = ((6, l.take 2), 2, 0) := by rw [e, signP, if_pos hs]
      have hv' := hv
      rw [hv] at hlen2
      refine go 2 (by rw [hv]) (by rw [hv]; show (6 : Int) ≠ 5; decide) (by rw [hv]) (fun u hu hu0 => ?_)
      rw [nextP_head _ (by simp), head _ u hu hu0, if_neg hl, if_neg hd, if_neg hq, signP_app u c r k61 k62 hu0, hv]
      match l, hlen2 with
      | a :: b :: l', _ =>
        rw [hu]
        show signP [a, b] = ((6, [a, b]), 2, 0)
        rw [sign2_cons] at hs
        rw [signP, sign2_cons, if_pos hs]; rfl
    · by_cases hg : signsL.contains (l.getD 0 0) = true
      · have hv : nextP l = ((6, l.take 1), 1, 0) := by rw [e, signP, if_neg hs, if_pos hg]
        refine go 1 (by rw [hv]) (by rw [hv]; show (6 : Int) ≠ 5; decide) (by rw [hv]) (fun u hu hu0 => ?_)
        rw [nextP_head _ (by simp), head _ u hu hu0, if_neg hl, if_neg hd, if_neg hq, signP_app u c r k61 k62 hu0, hv]
        match l, hlen with
        | a :: l', _ =>
          rw [hu]
          show signP [a] = ((6, [a]), 1, 0)
          rw [signP, sign2_one, if_neg (by decide)]
          rw [if_pos (show signsL.contains ([a].getD 0 0) = true from hg)]; rfl
      · rw [e, signP, if_neg hs, if_neg hg] at h0; cases h0
end Go.Proofs.YthhepfjjmilcnaaDoor
