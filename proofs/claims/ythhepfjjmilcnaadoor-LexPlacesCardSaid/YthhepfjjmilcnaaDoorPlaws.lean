/- Plain Lean: what holds of all the words of a text: written again they are read again; where they stand; what stands behind a blank turns nothing. -/
import Derived.Test.YthhepfjjmilcnaaDoorPback
namespace Go.Proofs.YthhepfjjmilcnaaDoor
open Lx Fl
/-- the words stand where they are said to, behind one another, with nothing but blanks between; the end is the text's -/
def placesOk (l : List UInt8) : Nat → List Tok → Prop
  | e, [] => e = l.length
  | e, t :: ts => e ≤ t.2.2 ∧ t.2.2 ≤ l.length ∧ (∀ j, e ≤ j → j < t.2.2 → blankB (l.getD j 0).toNat = true) ∧ (t.1 = 0 ↔ ts = []) ∧
      (writeL t.1 t.2.1).length ≤ l.length - t.2.2 ∧ (t.1 ≠ 2 → (l.drop t.2.2).take (writeL t.1 t.2.1).length = writeL t.1 t.2.1) ∧
      nextP (l.drop t.2.2) = ((t.1, t.2.1), (writeL t.1 t.2.1).length, 0) ∧ (t.1 = 0 → t.2.1 = []) ∧ placesOk l (t.2.2 + (writeL t.1 t.2.1).length) ts
/-- a word as it stands in its text -/
theorem nextP_stands (l : List UInt8) (h0 : (nextP l).2.2 = 0) (h1 : (nextP l).1.1 ≠ 0) (h2 : (nextP l).1.1 ≠ 2) : l.take (nextP l).2.1 = writeL (nextP l).1.1 (nextP l).1.2 := by
  by_cases hn : l = []
  · rw [nextP, if_pos hn] at h1; exact absurd rfl h1
  have go : ∀ (k : Int) (n : Nat), k ≠ 5 → nextP l = ((k, l.take n), n, 0) → l.take (nextP l).2.1 = writeL (nextP l).1.1 (nextP l).1.2 := by
    intro k n hk e
    rw [e]
    show l.take n = writeL k (l.take n)
    rw [writeL, if_pos hk]
  have e := nextP_head l hn
  by_cases hl : letterB (l.getD 0 0).toNat = true
  · rw [if_pos hl] at e
    unfold nameP at e
    by_cases hk : kwB (l.take (spanN wordB l)) = true
    · rw [if_pos hk] at e; rw [e] at h2; exact absurd rfl h2
    · rw [if_neg hk] at e
      by_cases h12 : 12 < spanN wordB l
      · rw [if_pos h12] at e; rw [e] at h0; cases h0
      · rw [if_neg h12] at e; exact go 1 _ (by decide) e
  rw [if_neg hl] at e
  by_cases hd : digitB (l.getD 0 0).toNat = true
  · rw [if_pos hd] at e
    have hv := e.trans (numP_of l _ _ rfl rfl)
    split at hv
    · rw [hv] at h0; cases h0
    · split at hv
      · split at hv
        · rw [hv] at h0; cases h0
        · exact go 4 _ (by decide) hv
      · split at hv
        · rw [hv] at h0; cases h0
        · exact go 3 _ (by decide) hv
  rw [if_neg hd] at e
  by_cases hq : (l.getD 0 0).toNat = 39
  · rw [if_pos hq] at e
    unfold textP at e
    cases ht : textGo (l.drop 1) with
    | none => rw [ht] at e; rw [e] at h1; exact absurd rfl h1
    | some p =>
      rw [ht] at e
      obtain ⟨_, t2⟩ := textGo_dbl _ _ (Nat.le_refl _) p ht
      rw [e]
      show l.take (p.2 + 1) = writeL 5 p.1
      rw [writeL, if_neg (by decide)]
      match l, hn with
      | a :: l', _ =>
        have ha : a = 39 := UInt8.toNat_inj.1 hq
        subst ha
        show 39 :: l'.take p.2 = _
        rw [← t2]; rfl
  · rw [if_neg hq] at e
    unfold signP at e
    by_cases hs : sign2 l = true
    · rw [if_pos hs] at e; exact go 6 2 (by decide) e
    · rw [if_neg hs] at e
      by_cases hg : signsL.contains (l.getD 0 0) = true
      · rw [if_pos hg] at e; exact go 6 1 (by decide) e
      · rw [if_neg hg] at e; rw [e] at h0; cases h0
theorem nextP_zero (l : List UInt8) (h0 : (nextP l).2.2 = 0) (h1 : (nextP l).1.1 = 0) : l = [] := by
  by_cases hn : l = []
  · exact hn
  exfalso
  have e := nextP_head l hn
  have go : ∀ (k : Int) (u : List UInt8) (n : Nat), k ≠ 0 → nextP l = ((k, u), n, 0) → False := fun k u n hk e => by rw [e] at h1; exact hk h1
  by_cases hl : letterB (l.getD 0 0).toNat = true
  · rw [if_pos hl] at e
    unfold nameP at e
    split at e
    · exact go _ _ _ (by decide) e
    · split at e
      · rw [e] at h0; cases h0
      · exact go _ _ _ (by decide) e
  rw [if_neg hl] at e
  by_cases hd : digitB (l.getD 0 0).toNat = true
  · rw [if_pos hd] at e
    have hv := e.trans (numP_of l _ _ rfl rfl)
    split at hv
    · rw [hv] at h0; cases h0
    · split at hv
      · split at hv
        · rw [hv] at h0; cases h0
        · exact go _ _ _ (by decide) hv
      · split at hv
        · rw [hv] at h0; cases h0
        · exact go _ _ _ (by decide) hv
  rw [if_neg hd] at e
  by_cases hq : (l.getD 0 0).toNat = 39
  · rw [if_pos hq] at e
    unfold textP at e
    cases ht : textGo (l.drop 1) with
    | none => rw [ht] at e; rw [e] at h0; cases h0
    | some p => rw [ht] at e; exact go _ _ _ (by decide) e
  · rw [if_neg hq] at e
    unfold signP at e
    split at e
    · exact go _ _ _ (by decide) e
    · split at e
      · exact go _ _ _ (by decide) e
      · rw [e] at h0; cases h0
theorem span_drop_le (B : Int → Bool) (l : List UInt8) (k : Nat) (h : k ≤ l.length) : k + spanN B (l.drop k) ≤ l.length := by
  have := spanN_le B (l.drop k)
  rw [List.length_drop] at this
  omega
/-- where all words are told, they stand in their places -/
theorem lexGo_places (l : List UInt8) : ∀ (f k : Nat) (acc ts : List Tok), k ≤ l.length → l.length - k < f → lexGo f l k acc = .ok ts → ∃ more, ts = acc ++ more ∧ more ≠ [] ∧ placesOk l k more
  | 0, k, acc, ts, _, h, _ => by omega
  | f + 1, k, acc, ts, hk, hf, h => by
    have hp := span_drop_le blankB l k hk
    have hbl : ∀ j, k ≤ j → j < k + spanN blankB (l.drop k) → blankB (l.getD j 0).toNat = true := fun j h1 h2 => by
      have := spanN_digit blankB (l.drop k) (j - k) (by omega)
      rw [getD_drop] at this
      rwa [show k + (j - k) = j by omega] at this
    obtain ⟨p, hpe⟩ : ∃ p, k + spanN blankB (l.drop k) = p := ⟨_, rfl⟩
    rw [hpe] at hp hbl
    have hkp : k ≤ p := by omega
    obtain ⟨r, hr⟩ : ∃ r, nextP (l.drop p) = r := ⟨_, rfl⟩
    by_cases h0 : r.2.2 = 0
    · by_cases h1 : r.1.1 = 0
      · rw [lexGo_end hpe hr h0 h1] at h
        obtain rfl := Except.ok.inj h
        have hz := nextP_zero (l.drop p) (by rw [hr]; exact h0) (by rw [hr]; exact h1)
        have hpl : p = l.length := by have := congrArg List.length hz; rw [List.length_drop] at this; simp at this; omega
        rw [hz] at hr
        have hr2 : r = ((0, []), 0, 0) := by rw [← hr]; rfl
        subst hr2
        have hw : writeL 0 [] = [] := by rw [writeL, if_pos (by decide)]
        refine ⟨_, rfl, by simp, hkp, hp, hbl, by simp, by show (writeL 0 []).length ≤ _; rw [hw]; simp, fun _ => by show (l.drop p).take (writeL 0 []).length = writeL 0 []; rw [hw]; rfl, ?_, fun _ => rfl, ?_⟩
        · show nextP (l.drop p) = ((0, []), (writeL 0 []).length, 0)
          rw [hz, hw]; rfl
        · show p + (writeL 0 []).length = l.length
          rw [hw]; exact hpl
      · rw [lexGo_step hpe hr h0 h1] at h
        have hn0 : (nextP (l.drop p)).2.2 = 0 := by rw [hr]; exact h0
        have hn1 : (nextP (l.drop p)).1.1 ≠ 0 := by rw [hr]; exact h1
        obtain ⟨g1, g2⟩ := nextP_len _ hn0 hn1
        obtain ⟨_, w2⟩ := nextP_write _ hn0 hn1 32 (by decide) []
        have w3 := nextP_stands (l.drop p) hn0 hn1
        rw [hr] at g1 g2 w2 w3
        rw [List.length_drop] at g2
        obtain ⟨more, e1, e2, e3⟩ := lexGo_places l f (p + r.2.1) _ ts (by omega) (by omega) h
        refine ⟨(r.1.1, r.1.2, p) :: more, by rw [e1]; simp, by simp, hkp, hp, hbl, ⟨fun h => absurd h h1, fun h => absurd h e2⟩, ?_, fun h2 => ?_, ?_, fun h => absurd h h1, ?_⟩
        · show (writeL r.1.1 r.1.2).length ≤ _; rw [w2]; exact g2
        · show (l.drop p).take (writeL r.1.1 r.1.2).length = writeL r.1.1 r.1.2
          rw [w2]; exact w3 h2
        · show nextP (l.drop p) = ((r.1.1, r.1.2), (writeL r.1.1 r.1.2).length, 0)
          rw [hr, w2, ← h0]
        · show placesOk l (p + (writeL r.1.1 r.1.2).length) more
          rw [w2]; exact e3
    · rw [lexGo_err hpe hr h0] at h; cases h
theorem lexP_places (l : List UInt8) (most : Int) (h : (lexP l most).2.2 = 0) : (lexP l most).1 ≠ [] ∧ placesOk l 0 (lexP l most).1 := by
  by_cases hm : most < l.length
  · rw [lexP_long l most hm] at h; cases h
  · rw [lexP_go l most hm] at h ⊢
    cases hg : lexGo (l.length + 1) l 0 [] with
    | error p =>
      rw [hg] at h
      exfalso
      -- an error's number is not 0
      have : ∀ (f k : Nat) (acc : List Tok) (p : Nat × Int), lexGo f l k acc = .error p → p.2 ≠ 0 := by
        intro f
        induction f with
        | zero => intro k acc p h; cases h
        | succ f ih =>
          intro k acc p h
          by_cases h0 : (nextP (l.drop (k + spanN blankB (l.drop k)))).2.2 = 0
          · by_cases h1 : (nextP (l.drop (k + spanN blankB (l.drop k)))).1.1 = 0
            · rw [lexGo_end rfl rfl h0 h1] at h; cases h
            · rw [lexGo_step rfl rfl h0 h1] at h; exact ih _ _ _ h
          · rw [lexGo_err rfl rfl h0] at h
            obtain rfl := Except.error.inj h
            exact h0
      exact this _ _ _ _ hg h
    | ok ts =>
      obtain ⟨more, e1, e2, e3⟩ := lexGo_places l _ 0 [] ts (by omega) (by omega) hg
      rw [List.nil_append] at e1
      subst e1
      exact ⟨e2, e3⟩
/-- an error leaves no words -/
theorem lexP_none (l : List UInt8) (most : Int) (h : (lexP l most).2.2 ≠ 0) : (lexP l most).1 = [] := by
  by_cases hm : most < l.length
  · rw [lexP_long l most hm]
  · rw [lexP_go l most hm] at h ⊢
    cases hg : lexGo (l.length + 1) l 0 [] with
    | error p => rfl
    | ok ts => rw [hg] at h; exact absurd rfl h
/-- the words, written with blanks about -/
def againL (b : List UInt8) : List Tok → List UInt8
  | [] => []
  | t :: ts => writeL t.1 t.2.1 ++ b ++ againL b ts
theorem blanks_span (b : List UInt8) (hb : ∀ c ∈ b, blankB c.toNat = true) (r : List UInt8) (hr : r = [] ∨ blankB (r.getD 0 0).toNat = false) : spanN blankB (b ++ r) = b.length := by
  refine spanN_unique blankB _ _ (by simp) (fun j hj => ?_) (fun h => ?_)
  · rw [getD_app_l _ _ _ hj]; exact hb _ (getD_ne hj)
  · rw [getD_app_r _ _ _ (Nat.le_refl _), Nat.sub_self]
    rcases hr with rfl | hr
    · simp at h
    · exact hr
theorem blankB_not (c : Nat) (h : letterB c = true ∨ digitB c = true ∨ c = 39 ∨ (33 ≤ c ∧ c ≤ 126)) : blankB c = false := by
  simp only [letterB, digitB, Bool.or_eq_true, Bool.and_eq_true, decide_eq_true_eq] at h
  simp only [blankB, Bool.or_eq_false_iff, decide_eq_false_iff_not]
  omega
/-- a word does not begin with a blank -/
theorem nextP_noblank (l : List UInt8) (h0 : (nextP l).2.2 = 0) (h1 : (nextP l).1.1 ≠ 0) : blankB (l.getD 0 0).toNat = false := by
  by_cases hn : l = []
  · rw [nextP, if_pos hn] at h1; exact absurd rfl h1
  have e := nextP_head l hn
  by_cases hl : letterB (l.getD 0 0).toNat = true
  · exact blankB_not _ (.inl hl)
  rw [if_neg hl] at e
  by_cases hd : digitB (l.getD 0 0).toNat = true
  · exact blankB_not _ (.inr (.inl hd))
  rw [if_neg hd] at e
  by_cases hq : (l.getD 0 0).toNat = 39
  · exact blankB_not _ (.inr (.inr (.inl hq)))
  rw [if_neg hq] at e
  have hs : signsL.contains (l.getD 0 0) = true := by
    unfold signP at e
    by_cases hs : sign2 l = true
    · match l, hn with
      | [a], _ => rw [sign2_one] at hs; cases hs
      | a :: b :: l', _ =>
        rw [sign2_cons] at hs
        show signsL.contains a = true
        simp only [Bool.or_eq_true, Bool.and_eq_true, beq_iff_eq] at hs
        rcases hs with (⟨h, _⟩ | ⟨h, _⟩) | ⟨h, _⟩ <;> (rw [← h]; decide)
    · rw [if_neg hs] at e
      by_cases hg : signsL.contains (l.getD 0 0) = true
      · exact hg
      · rw [if_neg hg] at e; rw [e] at h0; cases h0
  generalize l.getD 0 0 = c at hs
  rw [List.contains_iff_mem] at hs
  simp only [signsL, List.mem_cons, List.mem_nil_iff, or_false] at hs
  rcases hs with rfl | rfl | rfl | rfl | rfl | rfl | rfl | rfl | rfl | rfl | rfl <;> decide
/-- two rows of words, alike but for their places -/
def alikeT : List Tok → List Tok → Prop
  | [], [] => True
  | a :: l, b :: m => a.1 = b.1 ∧ a.2.1 = b.2.1 ∧ alikeT l m
  | _, _ => False
theorem alikeT_len : ∀ (l m : List Tok), alikeT l m → l.length = m.length
  | [], [], _ => rfl
  | [], _ :: _, h => h.elim
  | _ :: _, [], h => h.elim
  | a :: l, b :: m, h => by simp [alikeT_len l m h.2.2]
theorem alikeT_get : ∀ (l m : List Tok), alikeT l m → ∀ (i : Nat) (h1 : i < l.length) (h2 : i < m.length), l[i].1 = m[i].1 ∧ l[i].2.1 = m[i].2.1
  | [], _, _, i, h1, _ => by simp at h1
  | _ :: _, [], h, _, _, _ => h.elim
  | a :: l, b :: m, h, 0, _, _ => ⟨h.1, h.2.1⟩
  | a :: l, b :: m, h, i + 1, h1, h2 => alikeT_get l m h.2.2 i (by simpa using h1) (by simpa using h2)
/-- the words of a text, written with a blank between each two, are these words again -/
theorem lexGo_again (l : List UInt8) (b : List UInt8) (hb : ∀ c ∈ b, blankB c.toNat = true) (hb0 : b ≠ []) (t : List UInt8) : ∀ (ts : List Tok) (e : Nat), placesOk l e ts → ts ≠ [] →
    ∀ (f k : Nat) (acc : List Tok), t.drop k = b ++ againL b ts → k ≤ t.length → t.length - k < f → ∃ ms, lexGo f t k acc = .ok (acc ++ ms) ∧ alikeT ts ms
  | [], _, _, h, _, _, _, _, _, _ => absurd rfl h
  | x :: ts, e, hP, _, f, k, acc, hk, hkl, hf => by
    obtain ⟨_, _, _, p4, p5, _, p7, p8, p9⟩ := hP
    obtain ⟨f, rfl⟩ : ∃ f', f = f' + 1 := ⟨f - 1, by omega⟩
    have hbl : 0 < b.length := by cases b with | nil => exact absurd rfl hb0 | cons _ _ => simp
    have htl : t.length - k = b.length + (againL b (x :: ts)).length := by
      rw [← List.length_drop, hk, List.length_append]
    by_cases hx : x.1 = 0
    · have hts := p4.1 hx
      subst hts
      have hS := p8 hx
      have hw : writeL x.1 x.2.1 = [] := by rw [hx, hS, writeL, if_pos (by decide)]
      have hA : againL b [x] = b := by simp [againL, hw]
      have hsp : spanN blankB (t.drop k) = t.length - k := by
        rw [hk, hA, htl, hA, ← List.length_append]
        have := blanks_span (b ++ b) (fun c hc => by rcases List.mem_append.1 hc with h | h <;> exact hb c h) [] (.inl rfl)
        rwa [List.append_nil] at this
      have hpe : k + spanN blankB (t.drop k) = t.length := by rw [hsp]; omega
      have hr : nextP (t.drop t.length) = ((0, []), 0, 0) := by rw [List.drop_length]; rfl
      refine ⟨[(0, [], t.length)], lexGo_end hpe hr rfl rfl, hx, hS, trivial⟩
    · have hn0 : (nextP (l.drop x.2.2)).2.2 = 0 := by rw [p7]
      have hn1 : (nextP (l.drop x.2.2)).1.1 ≠ 0 := by rw [p7]; exact hx
      match b, hb0 with
      | c :: b', _ =>
        have hcb : blankB c.toNat = true := hb c (List.mem_cons_self ..)
        have hA : againL (c :: b') (x :: ts) = writeL x.1 x.2.1 ++ c :: (b' ++ againL (c :: b') ts) := by simp [againL]
        obtain ⟨w1, w2⟩ := nextP_write (l.drop x.2.2) hn0 hn1 c hcb (b' ++ againL (c :: b') ts)
        obtain ⟨v1, v2⟩ := nextP_len (l.drop x.2.2) hn0 hn1
        rw [p7] at w1 w2 v1
        have w1' : nextP (writeL x.1 x.2.1 ++ c :: (b' ++ againL (c :: b') ts)) = ((x.1, x.2.1), (writeL x.1 x.2.1).length, 0) := w1
        have hnb := nextP_noblank (writeL x.1 x.2.1 ++ c :: (b' ++ againL (c :: b') ts)) (by rw [w1']) (by rw [w1']; exact hx)
        have hsp : spanN blankB (t.drop k) = (c :: b').length := by
          rw [hk, hA]; exact blanks_span _ hb _ (.inr hnb)
        have hpe : k + spanN blankB (t.drop k) = k + (c :: b').length := by rw [hsp]
        have hdr : t.drop (k + (c :: b').length) = writeL x.1 x.2.1 ++ c :: (b' ++ againL (c :: b') ts) := by
          rw [← List.drop_drop, hk, List.drop_left, hA]
        have hr : nextP (t.drop (k + (c :: b').length)) = ((x.1, x.2.1), (writeL x.1 x.2.1).length, 0) := by rw [hdr]; exact w1'
        have hts : ts ≠ [] := fun h => hx (p4.2 h)
        have htl2 : t.length - (k + (c :: b').length) = (writeL x.1 x.2.1 ++ c :: (b' ++ againL (c :: b') ts)).length := by rw [← List.length_drop, hdr]
        rw [List.length_append] at htl2
        have v1' : 1 ≤ (writeL x.1 x.2.1).length := v1
        simp only [List.length_cons] at htl2 ⊢
        obtain ⟨ms, m1, m2⟩ := lexGo_again l (c :: b') hb (by simp) t ts _ p9 hts f (k + (c :: b').length + (writeL x.1 x.2.1).length) (acc ++ [(x.1, x.2.1, k + (c :: b').length)]) (by
          rw [← List.drop_drop, hdr, List.drop_left]; rfl) (by simp only [List.length_cons]; omega) (by simp only [List.length_cons]; omega)
        refine ⟨(x.1, x.2.1, k + (c :: b').length) :: ms, ?_, rfl, rfl, m2⟩
        rw [lexGo_step hpe hr rfl hx, m1]
        simp
theorem lexP_again (l : List UInt8) (most : Int) (h : (lexP l most).2.2 = 0) (b : List UInt8) (hb : ∀ c ∈ b, blankB c.toNat = true) (hb0 : b ≠ []) (m2 : Int) (hm : ¬ m2 < (b ++ againL b (lexP l most).1).length) :
    (lexP (b ++ againL b (lexP l most).1) m2).2.2 = 0 ∧ alikeT (lexP l most).1 (lexP (b ++ againL b (lexP l most).1) m2).1 := by
  obtain ⟨h1, h2⟩ := lexP_places l most h
  rw [lexP_go _ _ hm]
  obtain ⟨ms, e1, e2⟩ := lexGo_again l b hb hb0 (b ++ againL b (lexP l most).1) _ 0 h2 h1 _ 0 [] (by simp) (Nat.zero_le _) (Nat.lt_succ_self _)
  rw [Nat.sub_zero] at e1
  rw [e1]
  exact ⟨rfl, e2⟩
/-- from a place on: words behind those that are had, or an error no nearer than the next word -/
theorem lexGo_more (l : List UInt8) : ∀ (f k : Nat) (acc : List Tok), k ≤ l.length → l.length - k < f → (∃ more, lexGo f l k acc = .ok (acc ++ more) ∧ more ≠ []) ∨ (∃ p, lexGo f l k acc = .error p ∧ k + spanN blankB (l.drop k) ≤ p.1)
  | 0, _, _, _, h => by omega
  | f + 1, k, acc, hk, hf => by
    have hp := span_drop_le blankB l k hk
    by_cases h0 : (nextP (l.drop (k + spanN blankB (l.drop k)))).2.2 = 0
    · by_cases h1 : (nextP (l.drop (k + spanN blankB (l.drop k)))).1.1 = 0
      · exact .inl ⟨_, lexGo_end rfl rfl h0 h1, by simp⟩
      · obtain ⟨g1, g2⟩ := nextP_len _ h0 h1
        rw [List.length_drop] at g2
        rw [lexGo_step rfl rfl h0 h1]
        rcases lexGo_more l f (k + spanN blankB (l.drop k) + (nextP (l.drop (k + spanN blankB (l.drop k)))).2.1) (acc ++ [((nextP (l.drop (k + spanN blankB (l.drop k)))).1.1, (nextP (l.drop (k + spanN blankB (l.drop k)))).1.2, k + spanN blankB (l.drop k))]) (by omega) (by omega) with ⟨more, e, e2⟩ | ⟨p, e, e2⟩
        · exact .inl ⟨_ :: more, by rw [e, List.append_assoc]; rfl, by simp⟩
        · exact .inr ⟨p, e, by omega⟩
    · exact .inr ⟨_, lexGo_err rfl rfl h0, Nat.le_refl _⟩
/-- what stands behind a blank turns nothing of the words ahead -/
theorem lexGo_behind (l r : List UInt8) : ∀ (f k : Nat) (acc : List Tok) (f' : Nat), k ≤ l.length → l.length - k < f → (l ++ 10 :: r).length - k < f' →
    (∀ p, lexGo f l k acc = .error p → p.2 ≠ 10 → lexGo f' (l ++ 10 :: r) k acc = .error p) ∧
    (∀ ts, lexGo f l k acc = .ok ts → (∃ more, lexGo f' (l ++ 10 :: r) k acc = .ok (ts.dropLast ++ more) ∧ more ≠ []) ∨ ∃ p, lexGo f' (l ++ 10 :: r) k acc = .error p ∧ l.length < p.1)
  | 0, _, _, _, _, h, _ => by omega
  | f + 1, k, acc, f', hk, hf, hf' => by
    have hp := span_drop_le blankB l k hk
    have hd : (l ++ 10 :: r).drop k = l.drop k ++ 10 :: r := drop_app _ _ _ hk
    obtain ⟨f', rfl⟩ : ∃ g, f' = g + 1 := ⟨f' - 1, by simp at hf'; omega⟩
    rcases Nat.lt_or_ge (k + spanN blankB (l.drop k)) l.length with hlt | hge
    · have hsp : spanN blankB ((l ++ 10 :: r).drop k) = spanN blankB (l.drop k) := by
        rw [hd]
        have h1 : spanN blankB (l.drop k) < (l.drop k).length := by rw [List.length_drop]; omega
        refine spanN_unique blankB _ _ (by simp; omega) (fun j hj => ?_) (fun _ => ?_)
        · rw [getD_app_l _ _ _ (by omega)]; exact spanN_digit blankB _ j hj
        · rw [getD_app_l _ _ _ h1]; exact spanN_end blankB _ h1
      obtain ⟨p, hpe⟩ : ∃ p, k + spanN blankB (l.drop k) = p := ⟨_, rfl⟩
      have hpe' : k + spanN blankB ((l ++ 10 :: r).drop k) = p := by rw [hsp]; exact hpe
      rw [hpe] at hlt hp
      have hdp : (l ++ 10 :: r).drop p = l.drop p ++ 10 :: r := drop_app _ _ _ hp
      have hne : l.drop p ≠ [] := fun h => by have := congrArg List.length h; rw [List.length_drop] at this; simp at this; omega
      by_cases h10 : (nextP (l.drop p)).2.2 = 10
      · refine ⟨fun q hq hq2 => ?_, fun ts hts => ?_⟩
        · rw [lexGo_err hpe rfl (by rw [h10]; decide)] at hq
          obtain rfl := Except.error.inj hq
          exact absurd h10 hq2
        · rw [lexGo_err hpe rfl (by rw [h10]; decide)] at hts; cases hts
      · have hnx : nextP ((l ++ 10 :: r).drop p) = nextP (l.drop p) := by rw [hdp]; exact nextP_app _ r hne h10
        by_cases h0 : (nextP (l.drop p)).2.2 = 0
        · by_cases h1 : (nextP (l.drop p)).1.1 = 0
          · exact absurd (nextP_zero _ h0 h1) hne
          · obtain ⟨g1, g2⟩ := nextP_len _ h0 h1
            rw [List.length_drop] at g2
            rw [lexGo_step hpe rfl h0 h1, lexGo_step hpe' hnx h0 h1]
            have hlen : (l ++ 10 :: r).length = l.length + (r.length + 1) := by simp
            exact lexGo_behind l r f _ _ f' (by omega) (by omega) (by omega)
        · rw [lexGo_err hpe rfl h0, lexGo_err hpe' hnx h0]
          exact ⟨fun q hq _ => hq, fun ts hts => by cases hts⟩
    · have hpe : k + spanN blankB (l.drop k) = l.length := by omega
      have hr0 : nextP (l.drop l.length) = ((0, []), 0, 0) := by rw [List.drop_length]; rfl
      have hlen : (l ++ 10 :: r).length = l.length + (r.length + 1) := by simp
      refine ⟨fun q hq => ?_, fun ts hts => ?_⟩
      · rw [lexGo_end hpe hr0 rfl rfl] at hq; cases hq
      · rw [lexGo_end hpe hr0 rfl rfl] at hts
        obtain rfl := Except.ok.inj hts
        rw [List.dropLast_concat]
        rcases lexGo_more (l ++ 10 :: r) (f' + 1) k acc (by omega) hf' with ⟨more, e, e2⟩ | ⟨p, e, e2⟩
        · exact .inl ⟨more, e, e2⟩
        · refine .inr ⟨p, e, ?_⟩
          have : spanN blankB (l.drop k) + 1 ≤ spanN blankB ((l ++ 10 :: r).drop k) := by
            rw [hd]
            have hall : spanN blankB (l.drop k) = (l.drop k).length := by rw [List.length_drop]; omega
            have hle : (l.drop k).length + 1 ≤ (l.drop k ++ 10 :: r).length := by simp
            have hgo : ∀ j, j < (l.drop k).length + 1 → blankB ((l.drop k ++ 10 :: r).getD j 0).toNat = true := fun j hj => by
              rcases Nat.lt_or_ge j (l.drop k).length with h | h
              · rw [getD_app_l _ _ _ h]; exact spanN_digit blankB _ j (by omega)
              · rw [getD_app_r _ _ _ h, show j - (l.drop k).length = 0 by omega]; exact (by decide : blankB ((10 : UInt8).toNat) = true)
            rcases Nat.lt_or_ge (spanN blankB (l.drop k)) (spanN blankB (l.drop k ++ 10 :: r)) with h | h
            · exact h
            · exfalso
              have h2 := spanN_end blankB (l.drop k ++ 10 :: r) (by omega)
              rw [hgo _ (by omega)] at h2
              cases h2
          omega
end Go.Proofs.YthhepfjjmilcnaaDoor
