/- Plain Lean: strconv's decimal: how far a shift moves the point; rounding; the bits of a float. -/
import Derived.Test.YthhepfjjmilcnaaDoorPdec3
namespace Go.Proofs.YthhepfjjmilcnaaDoor
namespace Fl
theorem rsPick_spec (k : Nat) : ∀ (f : Nat) (l : List Nat) (n : Nat), 1 ≤ n → RsN k n → Digs l → 2 ^ k ≤ n * 10 ^ f → RsN k (rsPick k f l n).1 ∧ (rsPick k f l n).1 / 2 ^ k ≠ 0 ∧ (rsPick k f l n).2.1 ≤ f ∧ (∀ x ∈ (rsPick k f l n).2.2, x ∈ l) ∧ (n / 2 ^ k = 0 → 1 ≤ (rsPick k f l n).2.1) ∧ (n / 2 ^ k ≠ 0 → (rsPick k f l n).1 = n ∧ (rsPick k f l n).2.1 = 0)
  | 0, l, n, h1, h2, h3, h4 => by
    rw [Nat.pow_zero, Nat.mul_one] at h4
    have h5 : n / 2 ^ k ≠ 0 := by have := Nat.div_pos h4 (Nat.two_pow_pos k); omega
    rw [rsPick_stop k 0 l n h5]
    exact ⟨h2, h5, Nat.le_refl _, fun x hx => hx, fun h => absurd h h5, fun _ => ⟨rfl, rfl⟩⟩
  | f + 1, l, n, h1, h2, h3, h4 => by
    by_cases h5 : n / 2 ^ k = 0
    · have hlt := lt_of_div0 n k h5
      cases l with
      | nil =>
        have hh := rsPick_nil k f n 0 h5
        rw [addR_zero] at hh
        have hn := rsN_next k n 0 (by omega) hlt
        have ih := rsPick_spec k f [] (n * 10) (by omega) hn (fun x hx => by cases hx) (by rw [Nat.mul_assoc, Nat.mul_comm 10, ← Nat.pow_succ]; exact h4)
        rw [hh]
        obtain ⟨a, b, c, d, _, _⟩ := ih
        exact ⟨a, b, by simp only [addR]; omega, d, fun _ => by simp only [addR]; omega, fun h => absurd h5 h⟩
      | cons x l =>
        have hh := rsPick_cons k f n 0 x l h5
        rw [addR_zero] at hh
        have hx := h3 x (List.mem_cons_self ..)
        have hn := rsN_next k n x (by omega) hlt
        have h6 : n * 10 ^ (f + 1) ≤ (n * 10 + x) * 10 ^ f := by
          rw [Nat.pow_succ, Nat.mul_comm (10 ^ f), ← Nat.mul_assoc]
          exact Nat.mul_le_mul_right _ (Nat.le_add_right _ _)
        have ih := rsPick_spec k f l (n * 10 + x) (by omega) hn (fun y hy => h3 y (List.mem_cons_of_mem _ hy)) (Nat.le_trans h4 h6)
        rw [hh]
        obtain ⟨a, b, c, d, _, _⟩ := ih
        exact ⟨a, b, by simp only [addR]; omega, fun y hy => List.mem_cons_of_mem _ (d y hy), fun _ => by simp only [addR]; omega, fun h => absurd h5 h⟩
    · rw [rsPick_stop k (f + 1) l n h5]
      exact ⟨h2, h5, Nat.zero_le _, fun x hx => hx, fun h => absurd h h5, fun _ => ⟨rfl, rfl⟩⟩
theorem headNe_getD (l : List Nat) (h : HeadNe l) : 1 ≤ l.getD 0 0 := by
  obtain ⟨d, r, rfl, hd⟩ := h
  exact Nat.pos_of_ne_zero hd
theorem trimL_head (l : List Nat) (h : HeadNe l) : (trimL l).getD 0 0 = l.getD 0 0 := by
  obtain ⟨d, r, rfl, hd⟩ := h
  have : ∀ (s : List Nat), ∃ t, (s ++ [d]).dropWhile (fun x => x == 0) = t ++ [d] := by
    intro s
    induction s with
    | nil => exact ⟨[], by simp [List.dropWhile, hd]⟩
    | cons a s ih =>
      rw [List.cons_append, List.dropWhile_cons]
      by_cases ha : (a == 0) = true
      · rw [if_pos ha]; exact ih
      · rw [if_neg ha]; exact ⟨a :: s, rfl⟩
  obtain ⟨t, ht⟩ := this r.reverse
  rw [trimL, List.reverse_cons, ht]
  simp
theorem headNe_ne (l : List Nat) (h : HeadNe l) : l ≠ [] := by
  obtain ⟨d, r, rfl, _⟩ := h
  simp
theorem trimD_dp (d : Dec) (h : HeadNe d.ds) : (trimD d).dp = d.dp := if_neg (headNe_ne _ (headNe_trimL _ h))
/-- A shift to the right: where the point comes to, and what the first digit is. -/
theorem rsh_spec (k : Nat) (hk : 1 ≤ k) (hk2 : k ≤ 60) (d : Dec) (hh : HeadNe d.ds) (hd : Digs d.ds) (hl : d.ds.length ≤ 800) :
    HeadNe (rsh k d).ds ∧ (rsh k d).dp ≤ d.dp ∧ d.dp - 900 ≤ (rsh k d).dp ∧ (d.ds.getD 0 0 < 2 ^ k → (rsh k d).dp ≤ d.dp - 1) ∧ (2 ^ k ≤ d.ds.getD 0 0 → (rsh k d).ds.getD 0 0 = d.ds.getD 0 0 / 2 ^ k) := by
  obtain ⟨ds, dp, tr⟩ := d
  simp only at hh hd hl ⊢
  obtain ⟨d0, r0, rfl, hd0⟩ := hh
  have h0 : (0 : Nat) / 2 ^ k = 0 := Nat.zero_div _
  have hp := rsPick_cons k ((d0 :: r0).length + 63) 0 0 d0 r0 h0
  rw [addR_zero, Nat.zero_mul, Nat.zero_add, Nat.zero_add] at hp
  have hd09 := hd d0 (List.mem_cons_self ..)
  have hk60 : 2 ^ k ≤ 10 ^ 60 := Nat.le_trans (Nat.pow_le_pow_left (by decide) k) (Nat.pow_le_pow_right (by decide) hk2)
  have h2k := Nat.two_pow_pos k
  have hle : 2 ^ k ≤ d0 * 10 ^ ((d0 :: r0).length + 63) :=
    Nat.le_trans hk60 (Nat.le_trans (Nat.pow_le_pow_right (by decide) (by omega)) (Nat.le_mul_of_pos_left _ (Nat.pos_of_ne_zero hd0)))
  obtain ⟨a, b, c, _, e, f⟩ := rsPick_spec k ((d0 :: r0).length + 63) r0 d0 (Nat.pos_of_ne_zero hd0) (by unfold RsN; omega) (fun y hy => hd y (List.mem_cons_of_mem _ hy)) hle
  have hrsh : rsh k ⟨d0 :: r0, dp, tr⟩ = trimD { ds := (rsOut k (rsPick k ((d0 :: r0).length + 64) (d0 :: r0) 0).2.2 (rsPick k ((d0 :: r0).length + 64) (d0 :: r0) 0).1).take 800, dp := dp - ((rsPick k ((d0 :: r0).length + 64) (d0 :: r0) 0).2.1 - 1), tr := tr || ((rsOut k (rsPick k ((d0 :: r0).length + 64) (d0 :: r0) 0).2.2 (rsPick k ((d0 :: r0).length + 64) (d0 :: r0) 0).1).drop 800).any (fun x => x != 0) } := rfl
  rw [show (d0 :: r0).length + 64 = (d0 :: r0).length + 63 + 1 from rfl, hp] at hrsh
  generalize rsPick k ((d0 :: r0).length + 63) r0 d0 = P at *
  obtain ⟨m, R, L⟩ := P
  simp only [addR] at a b c e f hrsh
  have hho := rsOut_head k L m b
  have hht := headNe_take _ 800 hho (by decide)
  rw [hrsh]
  rw [trimD_dp _ hht]
  refine ⟨headNe_trimL _ hht, by simp only []; omega, by simp only []; omega, fun h => ?_, fun h => ?_⟩
  · have := e (Nat.div_eq_of_lt h)
    simp only []; omega
  · have hne : d0 / 2 ^ k ≠ 0 := Nat.pos_iff_ne_zero.1 (Nat.div_pos h h2k)
    obtain ⟨hm, _⟩ := f hne
    show (trimL _).getD 0 0 = d0 / 2 ^ k
    have e9 := trimL_head _ hht
    rw [hm] at e9
    rw [hm]
    refine e9.trans ?_
    cases L with
    | nil => rw [rsOut, show (64 : Nat) = 63 + 1 from rfl, rsTail_step k 63 _ hd0]; rfl
    | cons x L => rfl
theorem lsh_spec (k : Nat) (hk : 1 ≤ k) (hk2 : k ≤ 60) (d : Dec) (hh : HeadNe d.ds) (hd : Digs d.ds) :
    HeadNe (lsh k d).ds ∧ d.dp ≤ (lsh k d).dp ∧ (lsh k d).dp ≤ d.dp + 60 ∧ (d.dp + 1 ≤ (lsh k d).dp ∨ 2 * d.ds.getD 0 0 ≤ (lsh k d).ds.getD 0 0) := by
  obtain ⟨hl, ho, _, _⟩ := lsOut_len k d.ds hk hk2 hd hh
  have hht := headNe_take _ 800 ho (by decide)
  have hdp : (lsh k d).dp = d.dp + lsDelta k d.ds := trimD_dp { ds := (lsOut k d.ds).take 800, dp := d.dp + lsDelta k d.ds, tr := d.tr || ((lsOut k d.ds).drop 800).any (fun x => x != 0) } hht
  obtain ⟨_, hc⟩ := cutD_pos k hk hk2
  have hdel : lsDelta k d.ds ≤ 60 := by unfold lsDelta; split <;> omega
  refine ⟨headNe_trimL _ hht, by omega, by omega, ?_⟩
  by_cases h0 : lsDelta k d.ds = 0
  · right
    show _ ≤ (trimL _).getD 0 0
    rw [trimL_head _ hht]
    obtain ⟨a, r, ea, _⟩ := hh
    obtain ⟨b, s, eb, _⟩ := ho
    have := lsOut_head k d.ds hk hk2 hd (by rw [ea]; exact ⟨a, r, rfl, by assumption⟩) h0 a b r s ea eb
    rw [eb, ea]
    simp only [List.take_succ_cons, List.getD_cons_zero]
    have h2 : 2 ≤ 2 ^ k := by
      have := Nat.pow_le_pow_right (show 0 < 2 by decide) hk
      simpa using this
    have h3 := Nat.mul_le_mul_left a h2
    omega
  · left; omega
/-- a long shift to the right -/
def shR (n : Nat) (d : Dec) : Dec := if h : n ≤ 60 then rsh n d else shR (n - 60) (rsh 60 d)
termination_by n
decreasing_by omega
theorem shR_le (n : Nat) (d : Dec) (h : n ≤ 60) : shR n d = rsh n d := by rw [shR, dif_pos h]
theorem shR_gt (n : Nat) (d : Dec) (h : ¬ n ≤ 60) : shR n d = shR (n - 60) (rsh 60 d) := by rw [shR, dif_neg h]
/-- should one round up at place m? -/
def sru (d : Dec) (m : Int) : Bool :=
  if m < 0 ∨ (d.ds.length : Int) ≤ m then false
  else if d.ds.getD m.toNat 0 = 5 ∧ m + 1 = d.ds.length then d.tr || (decide (0 < m) && decide (d.ds.getD (m.toNat - 1) 0 % 2 ≠ 0))
  else decide (5 ≤ d.ds.getD m.toNat 0)
/-- the first m digits as a number, zeros behind them -/
def riGo (ds : List Nat) : Nat → Nat
  | 0 => 0
  | m + 1 => (riGo ds m * 10 + ds.getD m 0) % 18446744073709551616
def rint (d : Dec) : Nat :=
  if 20 < d.dp then 18446744073709551615 else (riGo d.ds d.dp.toNat + (if sru d d.dp = true then 1 else 0)) % 18446744073709551616
end Fl
end Go.Proofs.YthhepfjjmilcnaaDoor
