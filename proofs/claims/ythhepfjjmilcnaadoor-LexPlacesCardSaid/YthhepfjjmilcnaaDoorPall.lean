/- Plain Lean: what Lex answers for a whole text (layer 10), and small facts on the next word; no program in sight. -/
import Derived.Test.YthhepfjjmilcnaaDoorPnext
namespace Go.Proofs.YthhepfjjmilcnaaDoor
open Go.RowKit Lx Fl
/-- a word: its kind, its signs, its place -/
abbrev Tok := Int × List UInt8 × Nat
/-- all of Lex's answer -/
def lexP (l : List UInt8) (most : Int) : List Tok × Nat × Int :=
  if most < l.length then ([], 0, 4)
  else match lexGo (l.length + 1) l 0 [] with
    | .ok ts => (ts, 0, 0)
    | .error p => ([], p.1, p.2)
theorem lexP_long (l : List UInt8) (most : Int) (h : most < l.length) : lexP l most = ([], 0, 4) := by rw [lexP, if_pos h]
theorem lexP_go (l : List UInt8) (most : Int) (h : ¬ most < l.length) : lexP l most = match lexGo (l.length + 1) l 0 [] with
    | .ok ts => (ts, 0, 0)
    | .error p => ([], p.1, p.2) := by rw [lexP, if_neg h]
theorem lexGo_err {f : Nat} {l : List UInt8} {k : Nat} {acc : List Tok} {p : Nat} {r : (Int × List UInt8) × Nat × Int} (hp : k + spanN blankB (l.drop k) = p) (hr : nextP (l.drop p) = r) (h : r.2.2 ≠ 0) :
    lexGo (f + 1) l k acc = .error (p, r.2.2) := by
  subst hp; subst hr
  rw [lexGo]; exact if_pos h
theorem lexGo_end {f : Nat} {l : List UInt8} {k : Nat} {acc : List Tok} {p : Nat} {r : (Int × List UInt8) × Nat × Int} (hp : k + spanN blankB (l.drop k) = p) (hr : nextP (l.drop p) = r) (h : r.2.2 = 0) (h2 : r.1.1 = 0) :
    lexGo (f + 1) l k acc = .ok (acc ++ [(r.1.1, r.1.2, p)]) := by
  subst hp; subst hr
  rw [lexGo]
  refine (if_neg (by simpa using h)).trans (if_pos h2)
theorem lexGo_step {f : Nat} {l : List UInt8} {k : Nat} {acc : List Tok} {p : Nat} {r : (Int × List UInt8) × Nat × Int} (hp : k + spanN blankB (l.drop k) = p) (hr : nextP (l.drop p) = r) (h : r.2.2 = 0) (h2 : r.1.1 ≠ 0) :
    lexGo (f + 1) l k acc = lexGo f l (p + r.2.1) (acc ++ [(r.1.1, r.1.2, p)]) := by
  subst hp; subst hr
  rw [lexGo]
  refine (if_neg (by simpa using h)).trans (if_neg h2)
theorem textGo_len : ∀ (m : Nat) (l : List UInt8), l.length ≤ m → ∀ p, textGo l = some p → p.2 ≤ l.length
  | _, [], _, p, h => by simp [textGo] at h
  | 0, c :: l, hm, _, _ => by simp at hm
  | m + 1, c :: l, hm, p, h => by
    unfold textGo at h
    split at h
    · cases l with
      | nil => simp at h; subst h; simp
      | cons d l' =>
        simp only at h
        split at h
        · rw [Option.map_eq_some_iff] at h
          obtain ⟨q, h1, h2⟩ := h
          have := textGo_len m l' (by simp at hm; omega) q h1
          subst h2; simp; omega
        · simp at h; subst h; simp
    · rw [Option.map_eq_some_iff] at h
      obtain ⟨q, h1, h2⟩ := h
      have := textGo_len m l (by simp at hm; omega) q h1
      subst h2; simp; omega
theorem prefix_len (l p : List UInt8) (h : Lib.hasPrefix l p = true) : p.length ≤ l.length := by
  unfold Lib.hasPrefix at h
  exact (List.isPrefixOf_iff_prefix.1 h).length_le
/-- a word takes a byte at least, and no more than there are -/
theorem nextP_len (l : List UInt8) (h0 : (nextP l).2.2 = 0) (h1 : (nextP l).1.1 ≠ 0) : 1 ≤ (nextP l).2.1 ∧ (nextP l).2.1 ≤ l.length := by
  by_cases hn : l = []
  · rw [nextP, if_pos hn] at h1; exact absurd rfl h1
  have hlen : 0 < l.length := by cases l with | nil => exact absurd rfl hn | cons _ _ => simp
  by_cases hl : letterB (l.getD 0 0).toNat = true
  · have e : nextP l = nameP l := by rw [nextP, if_neg hn, if_pos hl]
    rw [e] at h0 h1 ⊢
    have hs := spanN_pos wordB l hlen (by unfold wordB; rw [hl]; rfl)
    have hs2 := spanN_le wordB l
    unfold nameP at h0 h1 ⊢
    split
    · exact ⟨hs, hs2⟩
    · rename_i hk
      rw [if_neg hk] at h0 h1
      split
      · rename_i h12
        rw [if_pos h12] at h0; cases h0
      · exact ⟨hs, hs2⟩
  by_cases hd : digitB (l.getD 0 0).toNat = true
  · have e : nextP l = numP l := by rw [nextP, if_neg hn, if_neg hl, if_pos hd]
    rw [e] at h0 h1 ⊢
    have hs := spanN_pos digitB l hlen hd
    have hs2 := spanN_le digitB l
    unfold numP at h0 h1 ⊢
    split
    · rename_i ha; rw [if_pos ha] at h0; cases h0
    · rename_i ha
      rw [if_neg ha] at h0 h1
      split
      · rename_i hb
        rw [if_pos hb] at h0 h1
        have h3 := spanN_le digitB (l.drop (spanN digitB l + 1))
        rw [List.length_drop] at h3
        split
        · rename_i hc; rw [if_pos hc] at h0; cases h0
        · exact ⟨by show 1 ≤ spanN digitB l + _; omega, by show spanN digitB l + _ ≤ _; omega⟩
      · rename_i hb
        rw [if_neg hb] at h0 h1
        split
        · rename_i hc; rw [if_pos hc] at h0; cases h0
        · exact ⟨hs, hs2⟩
  by_cases hq : (l.getD 0 0).toNat = 39
  · have e : nextP l = textP l := by rw [nextP, if_neg hn, if_neg hl, if_neg hd, if_pos hq]
    rw [e] at h0 h1 ⊢
    unfold textP at h0 h1 ⊢
    cases ht : textGo (l.drop 1) with
    | none => rw [ht] at h1; exact absurd rfl h1
    | some p =>
      have := textGo_len _ _ (Nat.le_refl _) p ht
      rw [List.length_drop] at this
      exact ⟨by show 1 ≤ p.2 + 1; omega, by show p.2 + 1 ≤ _; omega⟩
  · have e : nextP l = signP l := by rw [nextP, if_neg hn, if_neg hl, if_neg hd, if_neg hq]
    rw [e] at h0 h1 ⊢
    unfold signP at h0 h1 ⊢
    split
    · rename_i hs
      refine ⟨by show 1 ≤ 2; omega, ?_⟩
      show 2 ≤ l.length
      unfold sign2 at hs
      rw [Bool.or_eq_true, Bool.or_eq_true] at hs
      rcases hs with (hs | hs) | hs <;> exact prefix_len _ _ hs
    · rename_i hs
      rw [if_neg hs] at h0 h1
      split
      · exact ⟨Nat.le_refl _, hlen⟩
      · rename_i hc; rw [if_neg hc] at h0; cases h0
/-- the cells of a row of words -/
def tokCells (ts : List Tok) : List Value := ts.flatMap fun t => [.int .i64 t.1, .string ⟨t.2.1.toArray⟩, .int .i64 t.2.2]
theorem tokCells_len (ts : List Tok) : (tokCells ts).length = ts.length * 3 := by
  unfold tokCells
  induction ts with
  | nil => rfl
  | cons t ts ih => rw [List.flatMap_cons, List.length_append, ih]; simp; omega
theorem tokCells_snoc (ts : List Tok) (t : Tok) : tokCells (ts ++ [t]) = tokCells ts ++ [.int .i64 t.1, .string ⟨t.2.1.toArray⟩, .int .i64 t.2.2] := by
  unfold tokCells
  rw [List.flatMap_append]; rfl
theorem tokCells_get (ts : List Tok) : ∀ (i : Nat) (h : i < ts.length), (tokCells ts)[i * 3]? = some (.int .i64 ts[i].1) ∧ (tokCells ts)[i * 3 + 1]? = some (.string ⟨ts[i].2.1.toArray⟩) ∧ (tokCells ts)[i * 3 + 2]? = some (.int .i64 ts[i].2.2) := by
  unfold tokCells
  induction ts with
  | nil => intro i h; simp at h
  | cons t ts ih =>
    intro i h
    cases i with
    | zero => exact ⟨rfl, rfl, rfl⟩
    | succ i =>
      have := ih i (by simpa using h)
      rw [List.flatMap_cons]
      simp only [List.getElem_cons_succ]
      have e : ∀ j, ([Value.int .i64 t.1, .string ⟨t.2.1.toArray⟩, .int .i64 t.2.2] ++ List.flatMap (fun t : Tok => [Value.int .i64 t.1, .string ⟨t.2.1.toArray⟩, .int .i64 t.2.2]) ts)[j + 3]? = (List.flatMap (fun t : Tok => [Value.int .i64 t.1, .string ⟨t.2.1.toArray⟩, .int .i64 t.2.2]) ts)[j]? := fun j => by
        rw [List.getElem?_append_right (by simp)]; simp
      rw [show (i + 1) * 3 = i * 3 + 3 by omega, show i * 3 + 3 + 1 = (i * 3 + 1) + 3 by omega, show i * 3 + 3 + 2 = (i * 3 + 2) + 3 by omega, e, e, e]
      exact this
/-- what Lex leaves: the words in a row of the call's own -/
def LexPost (r : List Tok × Nat × Int) (w : World) (e : Ending) (w' : World) : Prop :=
  ∃ v, e = .returned (.tuple #[v, .int .i64 r.2.1, .int .i64 r.2.2]) ∧ Below w.heap.size w w' ∧ w'.ownsRow w.heap.size 29 3 v r.1.length (tokCells r.1)
end Go.Proofs.YthhepfjjmilcnaaDoor
