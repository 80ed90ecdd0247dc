/- Plain Lean: strconv's decimal: the shift to the right, round by round. -/
import Derived.Test.YthhepfjjmilcnaaDoorPdec2
namespace Go.Proofs.YthhepfjjmilcnaaDoor
namespace Fl
def addR (r : Nat) (p : Nat × Nat × List Nat) : Nat × Nat × List Nat := (p.1, p.2.1 + r, p.2.2)
theorem addR_zero (p : Nat × Nat × List Nat) : addR 0 p = p := rfl
theorem rsPick_stop (k f : Nat) (l : List Nat) (n : Nat) (h : n / 2 ^ k ≠ 0) : rsPick k f l n = (n, 0, l) := by
  cases f with
  | zero => rfl
  | succ f => cases l <;> rw [rsPick, if_pos h]
theorem rsPick_nil (k f n r : Nat) (h : n / 2 ^ k = 0) : addR r (rsPick k (f + 1) [] n) = addR (r + 1) (rsPick k f [] (n * 10)) := by
  rw [rsPick, if_neg (by simp [h])]
  simp only [addR]
  rw [Nat.add_assoc, Nat.add_comm 1 r]
theorem rsPick_cons (k f n r d : Nat) (l : List Nat) (h : n / 2 ^ k = 0) : addR r (rsPick k (f + 1) (d :: l) n) = addR (r + 1) (rsPick k f l (n * 10 + d)) := by
  rw [rsPick, if_neg (by simp [h])]
  simp only [addR]
  rw [Nat.add_assoc, Nat.add_comm 1 r]
theorem lt_of_div0 (n k : Nat) (h : n / 2 ^ k = 0) : n < 2 ^ k := by
  rcases Nat.lt_or_ge n (2 ^ k) with h1 | h1
  · exact h1
  · have := Nat.div_pos h1 (Nat.two_pow_pos k); omega
/-- the shape of a number while it is shifted -/
def RsN (k n : Nat) : Prop := n < 10 * 2 ^ k
theorem rsN_next (k n d : Nat) (hd : d ≤ 9) (h : n < 2 ^ k) : RsN k (n * 10 + d) := by
  unfold RsN
  generalize 2 ^ k = P at *
  omega
theorem rsN_mod (k n d : Nat) (hd : d ≤ 9) : RsN k (n % 2 ^ k * 10 + d) := rsN_next k _ d hd (Nat.mod_lt _ (Nat.two_pow_pos k))
theorem rsN_64 (k n : Nat) (hk : k ≤ 60) (h : RsN k n) : n < 18446744073709551616 := by
  have : 2 ^ k ≤ 1152921504606846976 := Nat.le_trans (Nat.pow_le_pow_right (by decide) hk) (by decide)
  unfold RsN at h
  generalize 2 ^ k = P at *
  omega
theorem rsN_dig (k n : Nat) (h : RsN k n) : n / 2 ^ k ≤ 9 := by
  have : n / 2 ^ k < 10 := Nat.div_lt_of_lt_mul (by rw [Nat.mul_comm]; exact h)
  omega
theorem rsTail_step (k f n : Nat) (h : n ≠ 0) : rsTail k (f + 1) n = n / 2 ^ k :: rsTail k f (n % 2 ^ k * 10) := by rw [rsTail, if_neg h]
theorem rsTail_zero (k f : Nat) : rsTail k f 0 = [] := by cases f <;> rfl
/-- how many rounds the tail may still last -/
def RsD (k f n : Nat) : Prop := (f = 0 → n = 0) ∧ (f ≠ 0 → f ≤ k + 1 ∧ 2 ^ (k + 1 - f) ∣ n)
theorem rsD_start (k n : Nat) : RsD k (k + 1) n := ⟨fun h => by omega, fun _ => ⟨Nat.le_refl _, by rw [Nat.sub_self]; exact Nat.one_dvd _⟩⟩
theorem rsD_next (k f n : Nat) (h : RsD k (f + 1) n) : RsD k f (n % 2 ^ k * 10) := by
  obtain ⟨h1, h2⟩ := h.2 (by omega)
  constructor
  · rintro rfl
    rw [show k + 1 - (0 + 1) = k by omega] at h2
    rw [Nat.mod_eq_zero_of_dvd h2]
  · intro hf
    refine ⟨by omega, ?_⟩
    have e : k + 1 - f = (k + 1 - (f + 1)) + 1 := by omega
    rw [e, Nat.pow_succ]
    have h3 : 2 ^ (k + 1 - (f + 1)) ∣ n % 2 ^ k := (Nat.dvd_mod_iff (Nat.pow_dvd_pow 2 (by omega))).2 h2
    exact Nat.mul_dvd_mul h3 (by decide)
theorem rsTail_digs (k : Nat) : ∀ (f n : Nat), RsN k n → Digs (rsTail k f n)
  | 0, _, _ => by intro x hx; cases hx
  | f + 1, n, h => by
    by_cases h0 : n = 0
    · subst h0; rw [rsTail_zero]; intro x hx; cases hx
    · rw [rsTail_step k f n h0]
      intro x hx
      rcases List.mem_cons.1 hx with rfl | hx
      · have := rsN_dig k n h; omega
      · exact rsTail_digs k f _ (rsN_mod k n 0 (by omega)) x hx
theorem rsOut_digs (k : Nat) : ∀ (l : List Nat) (n : Nat), Digs l → RsN k n → Digs (rsOut k l n)
  | [], n, _, h => rsTail_digs k 64 n h
  | d :: l, n, hl, h => by
    rw [rsOut]
    intro x hx
    rcases List.mem_cons.1 hx with rfl | hx
    · have := rsN_dig k n h; omega
    · have hd := hl d (List.mem_cons_self ..)
      exact rsOut_digs k l _ (fun y hy => hl y (List.mem_cons_of_mem _ hy)) (rsN_mod k n d (by omega)) x hx
theorem headNe_trimL (l : List Nat) (h : HeadNe l) : HeadNe (trimL l) := by
  obtain ⟨d, r, rfl, hd⟩ := h
  have : ∀ (s : List Nat), ∃ t, (s ++ [d]).dropWhile (fun x => x == 0) = t ++ [d] := by
    intro s
    induction s with
    | nil => exact ⟨[], by simp [List.dropWhile, hd]⟩
    | cons a s ih =>
      rw [List.cons_append, List.dropWhile_cons]
      by_cases ha : (a == 0) = true
      · rw [if_pos ha]; exact ih
      · rw [if_neg ha]; exact ⟨a :: s, rfl⟩
  obtain ⟨t, ht⟩ := this r.reverse
  exact ⟨d, t.reverse, by rw [trimL, List.reverse_cons, ht]; simp, hd⟩
theorem headNe_take (l : List Nat) (n : Nat) (h : HeadNe l) (hn : 1 ≤ n) : HeadNe (l.take n) := by
  obtain ⟨d, r, rfl, hd⟩ := h
  obtain ⟨m, rfl⟩ : ∃ m, n = m + 1 := ⟨n - 1, by omega⟩
  exact ⟨d, r.take m, rfl, hd⟩
theorem rsOut_head (k : Nat) (l : List Nat) (n : Nat) (h : n / 2 ^ k ≠ 0) : HeadNe (rsOut k l n) := by
  cases l with
  | nil =>
    have h0 : n ≠ 0 := by rintro rfl; simp at h
    refine ⟨n / 2 ^ k, rsTail k 63 (n % 2 ^ k * 10), ?_, h⟩
    rw [rsOut, show (64 : Nat) = 63 + 1 from rfl, rsTail_step k 63 n h0]
  | cons d l => exact ⟨n / 2 ^ k, _, rfl, h⟩
theorem headNe_lsh (k : Nat) (h1 : 1 ≤ k) (h2 : k ≤ 60) (d : Dec) (hd : Digs d.ds) (hh : HeadNe d.ds) : HeadNe (lsh k d).ds :=
  headNe_trimL _ (headNe_take _ _ (lsOut_len k d.ds h1 h2 hd hh).2.1 (by decide))
end Fl
end Go.Proofs.YthhepfjjmilcnaaDoor
