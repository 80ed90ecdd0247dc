/- Plain Lean: strconv's decimal: digits, their shifts to the left and to the right, as lists of digits. -/
import Derived.Below
import GoSem.PinnedTables
namespace Go.Proofs.YthhepfjjmilcnaaDoor
namespace Fl
def leD (n : Nat) : List Nat := if h : n = 0 then [] else n % 10 :: leD (n / 10)
termination_by n
decreasing_by omega
theorem leD_zero : leD 0 = [] := by rw [leD]; rfl
theorem leD_pos (n : Nat) (h : n ≠ 0) : leD n = n % 10 :: leD (n / 10) := by rw [leD, dif_neg h]
def leVal : List Nat → Nat
  | [] => 0
  | d :: l => d + 10 * leVal l
theorem leVal_leD (n : Nat) : leVal (leD n) = n := by
  induction n using Nat.strongRecOn with
  | _ n ih =>
    by_cases h : n = 0
    · subst h; simp [leD_zero, leVal]
    · rw [leD_pos n h, leVal, ih (n / 10) (by omega)]; omega
def lsGo (k : Nat) : List Nat → Nat → List Nat
  | [], n => leD n
  | d :: l, n => ((n + d * 2 ^ k) % 10) :: lsGo k l ((n + d * 2 ^ k) / 10)
theorem lsGo_val (k : Nat) : ∀ (l : List Nat) (n : Nat), leVal (lsGo k l n) = n + leVal l * 2 ^ k
  | [], n => by simp [lsGo, leVal, leVal_leD]
  | d :: l, n => by
    rw [lsGo, leVal, lsGo_val k l, leVal]
    have : (d + 10 * leVal l) * 2 ^ k = d * 2 ^ k + 10 * (leVal l * 2 ^ k) := by rw [Nat.add_mul, Nat.mul_assoc]
    rw [this]
    omega
def Digs (l : List Nat) : Prop := ∀ d ∈ l, d < 10
theorem leD_digs (n : Nat) : Digs (leD n) := by
  induction n using Nat.strongRecOn with
  | _ n ih =>
    by_cases h : n = 0
    · subst h; rw [leD_zero]; intro d hd; cases hd
    · rw [leD_pos n h]
      intro d hd
      rcases List.mem_cons.1 hd with rfl | hd
      · omega
      · exact ih (n / 10) (by omega) d hd
theorem lsGo_digs (k : Nat) : ∀ (l : List Nat) (n : Nat), Digs (lsGo k l n)
  | [], n => leD_digs n
  | d :: l, n => by
    intro x hx
    rcases List.mem_cons.1 hx with rfl | hx
    · omega
    · exact lsGo_digs k l _ x hx
/-- the greatest digit is none -/
def TopNe (l : List Nat) : Prop := ∃ d r, l.reverse = d :: r ∧ d ≠ 0
theorem topNe_cons (d : Nat) (l : List Nat) (h : TopNe l) : TopNe (d :: l) := by
  obtain ⟨x, r, e, hx⟩ := h
  exact ⟨x, r ++ [d], by simp [e], hx⟩
theorem leD_top (n : Nat) (h : n ≠ 0) : TopNe (leD n) := by
  induction n using Nat.strongRecOn with
  | _ n ih =>
    rw [leD_pos n h]
    by_cases h2 : n / 10 = 0
    · rw [h2, leD_zero]
      exact ⟨n % 10, [], rfl, by omega⟩
    · exact topNe_cons _ _ (ih (n / 10) (by omega) h2)
theorem lsGo_top (k : Nat) : ∀ (l : List Nat) (n : Nat), (l = [] → n ≠ 0) → (l ≠ [] → TopNe l) → TopNe (lsGo k l n)
  | [], n, h, _ => leD_top n (h rfl)
  | [d], n, _, h2 => by
    obtain ⟨x, r, e, hx⟩ := h2 (by simp)
    simp at e
    obtain ⟨rfl, _⟩ := e
    have hp : 0 < 2 ^ k := Nat.two_pow_pos k
    have : 0 < d * 2 ^ k := Nat.mul_pos (by omega) hp
    rw [lsGo, lsGo]
    by_cases hz : (n + d * 2 ^ k) / 10 = 0
    · rw [hz, leD_zero]
      exact ⟨_, [], rfl, by omega⟩
    · exact topNe_cons _ _ (leD_top _ hz)
  | d :: e :: l, n, _, h2 => by
    rw [lsGo]
    refine topNe_cons _ _ (lsGo_top k (e :: l) _ (by simp) (fun _ => ?_))
    obtain ⟨x, r, er, hx⟩ := h2 (by simp)
    rw [List.reverse_cons] at er
    cases hr : (e :: l).reverse with
    | nil => simp at hr
    | cons y s =>
      rw [hr] at er
      simp at er
      exact ⟨y, s, hr, by omega⟩
theorem leVal_lt : ∀ (l : List Nat), Digs l → leVal l < 10 ^ l.length
  | [], _ => by simp [leVal]
  | d :: l, h => by
    have h1 := leVal_lt l (fun x hx => h x (List.mem_cons_of_mem _ hx))
    have h2 := h d (List.mem_cons_self ..)
    rw [leVal, List.length_cons, Nat.pow_succ]
    omega
theorem leVal_append : ∀ (a b : List Nat), leVal (a ++ b) = leVal a + 10 ^ a.length * leVal b
  | [], b => by simp [leVal]
  | d :: a, b => by
    have : 10 ^ a.length * 10 * leVal b = 10 * (10 ^ a.length * leVal b) := by rw [Nat.mul_comm (10 ^ a.length) 10, Nat.mul_assoc]
    rw [List.cons_append, leVal, leVal_append a b, leVal, List.length_cons, Nat.pow_succ, this]
    omega
theorem leVal_ge (l : List Nat) (h : TopNe l) : 10 ^ (l.length - 1) ≤ leVal l := by
  obtain ⟨d, r, e, hd⟩ := h
  have : l = r.reverse ++ [d] := by rw [← List.reverse_reverse l, e]; simp
  rw [this, leVal_append]
  simp only [List.length_append, List.length_reverse, List.length_cons, List.length_nil, Nat.zero_add, Nat.add_sub_cancel, leVal, Nat.mul_zero, Nat.add_zero]
  have := Nat.mul_le_mul_left (10 ^ r.length) (show 1 ≤ d by omega)
  omega
/-- how long it is hangs on the number alone -/
theorem len_of (l : List Nat) (m : Nat) (hd : Digs l) (ht : TopNe l) (h1 : 10 ^ m ≤ leVal l) (h2 : leVal l < 10 ^ (m + 1)) : l.length = m + 1 := by
  have a := leVal_lt l hd
  have b := leVal_ge l ht
  have c : m < l.length := (Nat.pow_lt_pow_iff_right (by decide : 1 < 10)).1 (Nat.lt_of_le_of_lt h1 a)
  have d : l.length - 1 < m + 1 := (Nat.pow_lt_pow_iff_right (by decide : 1 < 10)).1 (Nat.lt_of_le_of_lt b h2)
  omega
/-- is the beginning of some digits less than others? -/
def pless : List Nat → List Nat → Bool
  | _, [] => false
  | [], _ :: _ => true
  | b :: bs, s :: ss => if b = s then pless bs ss else decide (b < s)
def beVal (l : List Nat) : Nat := leVal l.reverse
theorem beVal_cons (d : Nat) (l : List Nat) : beVal (d :: l) = d * 10 ^ l.length + beVal l := by
  unfold beVal
  rw [List.reverse_cons, leVal_append]
  simp [leVal]
  rw [Nat.mul_comm]
  omega
theorem beVal_lt (l : List Nat) (h : Digs l) : beVal l < 10 ^ l.length := by
  have := leVal_lt l.reverse (fun d hd => h d (List.mem_reverse.1 hd))
  simpa [beVal] using this
def LastNe : List Nat → Prop
  | [] => True
  | [d] => d ≠ 0
  | _ :: l => LastNe l
theorem lastNe_pos : ∀ (l : List Nat), l ≠ [] → LastNe l → 0 < beVal l
  | [], h, _ => absurd rfl h
  | [d], _, h => by simp [beVal, leVal]; exact Nat.pos_of_ne_zero h
  | d :: e :: l, _, h => by
    rw [beVal_cons]
    have := lastNe_pos (e :: l) (by simp) h
    omega
theorem lastNe_tail (d : Nat) (l : List Nat) (h : LastNe (d :: l)) : LastNe l := by
  cases l with
  | nil => trivial
  | cons e l => exact h
theorem pless_iff : ∀ (b s : List Nat), Digs b → Digs s → LastNe s → (pless b s = true ↔ beVal b * 10 ^ s.length < beVal s * 10 ^ b.length)
  | b, [], _, _, _ => by simp [pless, beVal, leVal]
  | [], s :: ss, _, _, h => by
    have := lastNe_pos (s :: ss) (by simp) h
    have e : beVal ([] : List Nat) = 0 := rfl
    simp only [pless, e, Nat.zero_mul, List.length_nil, Nat.pow_zero, Nat.mul_one, true_iff]
    exact this
  | b :: bs, s :: ss, hb, hs, hl => by
    have hb' : Digs bs := fun x hx => hb x (List.mem_cons_of_mem _ hx)
    have hs' : Digs ss := fun x hx => hs x (List.mem_cons_of_mem _ hx)
    have ih := pless_iff bs ss hb' hs' (lastNe_tail s ss hl)
    have vb := beVal_lt bs hb'
    have vs := beVal_lt ss hs'
    rw [beVal_cons, beVal_cons, List.length_cons, List.length_cons, Nat.pow_succ, Nat.pow_succ, pless]
    generalize beVal bs = B at *
    generalize beVal ss = S at *
    generalize 10 ^ bs.length = p at *
    generalize 10 ^ ss.length = q at *
    by_cases e : b = s
    · subst e
      rw [if_pos rfl, ih, Nat.add_mul, Nat.add_mul]
      have e1 : b * p * (q * 10) = b * q * (p * 10) := by simp only [Nat.mul_assoc, Nat.mul_comm, Nat.mul_left_comm]
      have e2 : B * (q * 10) = 10 * (B * q) := by simp only [Nat.mul_assoc, Nat.mul_comm, Nat.mul_left_comm]
      have e3 : S * (p * 10) = 10 * (S * p) := by simp only [Nat.mul_assoc, Nat.mul_comm, Nat.mul_left_comm]
      rw [e1, e2, e3]
      omega
    · rw [if_neg e]
      have mul_lt : ∀ (x y X Y p q : Nat), x < y → X < p → (x * p + X) * (q * 10) < (y * q + Y) * (p * 10) ∨ q = 0 := by
        intro x y X Y p q h1 h2
        rcases Nat.eq_zero_or_pos q with h | h
        · exact .inr h
        · left
          have h3 : x * p + X < y * p := Nat.lt_of_lt_of_le (by rw [Nat.succ_mul]; omega) (Nat.mul_le_mul_right p h1)
          calc (x * p + X) * (q * 10) < (y * p) * (q * 10) := Nat.mul_lt_mul_of_pos_right h3 (by omega)
            _ = (y * q) * (p * 10) := by simp only [Nat.mul_assoc, Nat.mul_comm, Nat.mul_left_comm]
            _ ≤ (y * q + Y) * (p * 10) := Nat.mul_le_mul_right _ (by omega)
      by_cases h : b < s
      · simp only [h, decide_true, true_iff]
        rcases mul_lt b s B S p q h vb with h | h
        · exact h
        · omega
      · have h' : s < b := by omega
        simp only [h, decide_false, Bool.false_eq_true, false_iff]
        rcases mul_lt s b S B q p h' vs with h | h
        · omega
        · omega
end Fl
end Go.Proofs.YthhepfjjmilcnaaDoor
