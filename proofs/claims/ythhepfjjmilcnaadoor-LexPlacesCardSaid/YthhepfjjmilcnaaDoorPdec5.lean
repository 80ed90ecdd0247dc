/- Plain Lean: strconv's decimal: the bits of the float. -/
import Derived.Test.YthhepfjjmilcnaaDoorPdec4
namespace Go.Proofs.YthhepfjjmilcnaaDoor
namespace Fl
def ptabV (i : Nat) : Nat := if 9 ≤ i then 27 else [1, 3, 6, 9, 13, 16, 19, 23, 26].getD i 0
theorem ptabV_ok (i : Nat) : 1 ≤ ptabV i ∧ ptabV i ≤ 27 ∧ (1 ≤ i → 3 ≤ ptabV i) := by
  unfold ptabV
  split
  · omega
  · rename_i h
    have : i < 9 := by omega
    have key : ∀ j : Fin 9, 1 ≤ [1, 3, 6, 9, 13, 16, 19, 23, 26].getD j.val 0 ∧ [1, 3, 6, 9, 13, 16, 19, 23, 26].getD j.val 0 ≤ 27 ∧ (1 ≤ j.val → 3 ≤ [1, 3, 6, 9, 13, 16, 19, 23, 26].getD j.val 0) := by decide
    exact key ⟨i, this⟩
def fb1 : Nat → Dec → Int → Dec × Int
  | 0, d, e => (d, e)
  | f + 1, d, e => if 0 < d.dp then fb1 f (rsh (ptabV d.dp.toNat) d) (e + ptabV d.dp.toNat) else (d, e)
/-- is the number less than a half? -/
def lessHalf (d : Dec) : Prop := d.dp < 0 ∨ d.dp = 0 ∧ d.ds.getD 0 0 < 5
instance (d : Dec) : Decidable (lessHalf d) := inferInstanceAs (Decidable (_ ∨ _))
def fb2 : Nat → Dec → Int → Dec × Int
  | 0, d, e => (d, e)
  | f + 1, d, e => if lessHalf d then fb2 f (lsh (ptabV (-d.dp).toNat) d) (e - ptabV (-d.dp).toNat) else (d, e)
def m1 (d : Dec) : Nat := 2 * d.dp.toNat + (if 8 ≤ d.ds.getD 0 0 then 1 else 0)
def m2 (d : Dec) : Nat := if 0 < d.dp then 0 else 20 * (-d.dp).toNat + (10 - d.ds.getD 0 0)
theorem fb1_step (f : Nat) (d : Dec) (e : Int) (h : 0 < d.dp) : fb1 (f + 1) d e = fb1 f (rsh (ptabV d.dp.toNat) d) (e + ptabV d.dp.toNat) := by rw [fb1, if_pos h]
theorem fb1_stop (f : Nat) (d : Dec) (e : Int) (h : ¬ 0 < d.dp) : fb1 f d e = (d, e) := by
  cases f with
  | zero => rfl
  | succ f => rw [fb1, if_neg h]
theorem fb2_step (f : Nat) (d : Dec) (e : Int) (h : lessHalf d) : fb2 (f + 1) d e = fb2 f (lsh (ptabV (-d.dp).toNat) d) (e - ptabV (-d.dp).toNat) := by rw [fb2, if_pos h]
theorem fb2_stop (f : Nat) (d : Dec) (e : Int) (h : ¬ lessHalf d) : fb2 f d e = (d, e) := by
  cases f with
  | zero => rfl
  | succ f => rw [fb2, if_neg h]
theorem m1_next (d : Dec) (hh : HeadNe d.ds) (hd : Digs d.ds) (hl : d.ds.length ≤ 800) (h : 0 < d.dp) : m1 (rsh (ptabV d.dp.toNat) d) < m1 d := by
  obtain ⟨p1, p2, p3⟩ := ptabV_ok d.dp.toNat
  have p3 := p3 (by omega)
  obtain ⟨a, b, c, e, f⟩ := rsh_spec (ptabV d.dp.toNat) p1 (by omega) d hh hd hl
  have h8 : 8 ≤ 2 ^ ptabV d.dp.toNat := by
    have := Nat.pow_le_pow_right (show 0 < 2 by decide) p3
    simpa using this
  unfold m1
  rcases Nat.lt_or_ge (d.ds.getD 0 0) (2 ^ ptabV d.dp.toNat) with h1 | h1
  · have := e h1
    split <;> split <;> omega
  · have h2 := f h1
    have h3 : d.ds.getD 0 0 ≤ 9 := by
      obtain ⟨x, r, ex, _⟩ := hh
      have := hd x (by rw [ex]; exact List.mem_cons_self ..)
      rw [ex]
      show x ≤ 9
      omega
    have h4 : d.ds.getD 0 0 / 2 ^ ptabV d.dp.toNat ≤ d.ds.getD 0 0 / 8 := Nat.div_le_div_left h8 (by decide)
    rw [h2]
    split <;> split <;> omega
theorem m2_next (d : Dec) (hh : HeadNe d.ds) (hd : Digs d.ds) (h : lessHalf d) : m2 (lsh (ptabV (-d.dp).toNat) d) < m2 d := by
  obtain ⟨p1, p2, _⟩ := ptabV_ok (-d.dp).toNat
  obtain ⟨a, b, c, e⟩ := lsh_spec (ptabV (-d.dp).toNat) p1 (by omega) d hh hd
  have h3 : 1 ≤ d.ds.getD 0 0 := headNe_getD _ hh
  have h4 : (lsh (ptabV (-d.dp).toNat) d).ds.getD 0 0 ≤ 9 := by
    have hdg : Digs (lsh (ptabV (-d.dp).toNat) d).ds := fun x hx => by
      have h5 : x ∈ ((lsOut (ptabV (-d.dp).toNat) d.ds).take 800) := by
        unfold lsh trimD trimL at hx
        exact List.mem_reverse.1 ((List.dropWhile_suffix _).subset (List.mem_reverse.1 hx))
      exact (lsOut_len _ d.ds p1 (by omega) hd hh).2.2.1 x (List.mem_of_mem_take h5)
    obtain ⟨x, r, ex, _⟩ := a
    have := hdg x (by rw [ex]; exact List.mem_cons_self ..)
    rw [ex]
    show x ≤ 9
    omega
  unfold m2
  unfold lessHalf at h
  generalize (lsh (ptabV (-d.dp).toNat) d).ds.getD 0 0 = b0 at *
  generalize (lsh (ptabV (-d.dp).toNat) d).dp = q at *
  generalize d.ds.getD 0 0 = a0 at *
  rcases h with h | h
  · split <;> split <;> omega
  · split <;> split <;> omega
/-- the first digit is at most 9 -/
theorem m1_le (d : Dec) (h : d.dp ≤ 310) : m1 d ≤ 621 := by
  unfold m1
  split <;> omega
theorem m2_le (d : Dec) : (m2 d : Int) ≤ 20 * (-d.dp).toNat + 10 := by
  unfold m2
  split <;> omega
def fbOut (m : Nat) (e : Int) : Nat := m % 4503599627370496 + (e + 1023).toNat * 4503599627370496
/-- where the exponent is too small, the point is moved -/
def fb3 (p : Dec × Int) : Dec × Int := if p.2 - 1 < -1022 then (shR (-1022 - (p.2 - 1)).toNat p.1, -1022) else (p.1, p.2 - 1)
def fb4 (p : Dec × Int) : Nat × Bool :=
  if 1024 ≤ p.2 then (9218868437227405312, true)
  else if rint (lsh 53 p.1) = 9007199254740992 then
    if 1024 ≤ p.2 + 1 then (9218868437227405312, true) else (fbOut 4503599627370496 (p.2 + 1), false)
  else (fbOut (rint (lsh 53 p.1)) (if rint (lsh 53 p.1) / 4503599627370496 % 2 = 0 then -1023 else p.2), false)
/-- the bits of a decimal, and whether it is too great -/
def fbits (d : Dec) : Nat × Bool :=
  if d.ds = [] then (0, false)
  else if 310 < d.dp then (9218868437227405312, true)
  else if d.dp < -330 then (0, false)
  else fb4 (fb3 (fb2 (m2 (fb1 (m1 d) d 0).1) (fb1 (m1 d) d 0).1 (fb1 (m1 d) d 0).2))
end Fl
end Go.Proofs.YthhepfjjmilcnaaDoor
