/- Plain Lean: strconv's decimal: what a shift makes of the digits; how long it is; what its first digit is. -/
import Derived.Test.YthhepfjjmilcnaaDoorPdec
namespace Go.Proofs.YthhepfjjmilcnaaDoor
namespace Fl
def cutL (k : Nat) : List Nat := (Go.Pinned.cheatRows.getD k (0, [])).2.map fun c => c.toNat - 48
def cutD (k : Nat) : Nat := (Go.Pinned.cheatRows.getD k (0, [])).1
def cutOk (k : Nat) : Bool := decide (beVal (cutL k) = 5 ^ k) && (cutL k).all (fun d => decide (d < 10)) && decide (cutD k + (cutL k).length = k + 1) && decide ((cutL k).getLastD 0 ≠ 0) && decide (1 ≤ (cutL k).length) && decide (10 ^ ((cutL k).length - 1) ≤ 5 ^ k) && decide (5 ^ k < 10 ^ (cutL k).length) && (Go.Pinned.cheatRows.getD k (0, [])).2.all (fun c => decide (48 ≤ c.toNat) && decide (c.toNat ≤ 57)) && decide ((cutL k).length ≤ 60)
theorem cut_all : (List.range 60).all (fun k => cutOk (k + 1)) = true := by decide +kernel
theorem lastNe_of : ∀ (l : List Nat), l.getLastD 0 ≠ 0 → LastNe l
  | [], _ => trivial
  | [d], h => h
  | _ :: e :: l, h => lastNe_of (e :: l) (by simpa [List.getLastD] using h)
theorem cut_ok (k : Nat) (h1 : 1 ≤ k) (h2 : k ≤ 60) : beVal (cutL k) = 5 ^ k ∧ Digs (cutL k) ∧ cutD k + (cutL k).length = k + 1 ∧ LastNe (cutL k) ∧ 1 ≤ (cutL k).length ∧ 10 ^ ((cutL k).length - 1) ≤ 5 ^ k ∧ 5 ^ k < 10 ^ (cutL k).length ∧ (∀ c ∈ (Go.Pinned.cheatRows.getD k (0, [])).2, 48 ≤ c.toNat ∧ c.toNat ≤ 57) ∧ (cutL k).length ≤ 60 := by
  have := List.all_eq_true.1 cut_all (k - 1) (List.mem_range.2 (by omega))
  rw [show k - 1 + 1 = k by omega] at this
  simp only [cutOk, Bool.and_eq_true, decide_eq_true_eq, List.all_eq_true] at this
  obtain ⟨⟨⟨⟨⟨⟨⟨⟨a, b⟩, c⟩, d⟩, e⟩, f⟩, g⟩, h⟩, i⟩ := this
  exact ⟨a, b, c, lastNe_of _ d, e, f, g, h, i⟩
/-- how many digits more a shift to the left brings -/
def lsDelta (k : Nat) (ds : List Nat) : Nat := cutD k - (if pless ds (cutL k) = true then 1 else 0)
/-- its digits, the greatest first -/
def lsOut (k : Nat) (ds : List Nat) : List Nat := (lsGo k ds.reverse 0).reverse
def HeadNe (ds : List Nat) : Prop := ∃ d r, ds = d :: r ∧ d ≠ 0
theorem cutD_pos (k : Nat) (h1 : 1 ≤ k) (h2 : k ≤ 60) : 1 ≤ cutD k ∧ cutD k ≤ 60 := by
  obtain ⟨_, _, c, _, e, f, _, _, i⟩ := cut_ok k h1 h2
  have h5 : (5 : Nat) ^ k < 10 ^ k := Nat.pow_lt_pow_left (by decide) (by omega)
  have : (cutL k).length - 1 < k := (Nat.pow_lt_pow_iff_right (by decide : 1 < 10)).1 (Nat.lt_of_le_of_lt f h5)
  omega
theorem lsOut_len (k : Nat) (ds : List Nat) (h1 : 1 ≤ k) (h2 : k ≤ 60) (hd : Digs ds) (hh : HeadNe ds) :
    (lsOut k ds).length = ds.length + lsDelta k ds ∧ HeadNe (lsOut k ds) ∧ Digs (lsOut k ds) ∧ beVal (lsOut k ds) = beVal ds * 2 ^ k := by
  obtain ⟨d0, r0, rfl, hd0⟩ := hh
  obtain ⟨cv, cd, cl, cn, c1, cf, cg, _, _⟩ := cut_ok k h1 h2
  have hv : leVal (lsGo k (d0 :: r0).reverse 0) = beVal (d0 :: r0) * 2 ^ k := by rw [lsGo_val]; simp [beVal]
  have hdg := lsGo_digs k (d0 :: r0).reverse 0
  have htop : TopNe (lsGo k (d0 :: r0).reverse 0) := lsGo_top k _ 0 (fun e => by simp at e) (fun _ => ⟨d0, r0, by simp, hd0⟩)
  have hpl := pless_iff (d0 :: r0) (cutL k) hd cd cn
  have hN1 : 10 ^ r0.length ≤ beVal (d0 :: r0) := by
    rw [beVal_cons]
    have := Nat.mul_le_mul_right (10 ^ r0.length) (show 1 ≤ d0 by omega)
    omega
  have hN2 : beVal (d0 :: r0) < 10 ^ (r0.length + 1) := beVal_lt _ hd
  obtain ⟨hD1, hD2⟩ := cutD_pos k h1 h2
  have p10 : (10 : Nat) ^ k = 5 ^ k * 2 ^ k := by rw [← Nat.mul_pow]
  have hlen : (lsGo k (d0 :: r0).reverse 0).length = r0.length + 1 + lsDelta k (d0 :: r0) := by
    rw [show r0.length + 1 + lsDelta k (d0 :: r0) = (r0.length + lsDelta k (d0 :: r0)) + 1 by omega]
    refine len_of _ _ hdg htop ?_ ?_
    · rw [hv]
      unfold lsDelta
      by_cases hp : pless (d0 :: r0) (cutL k) = true
      · rw [if_pos hp]
        -- 10^(n-1) * 10^(delta-1) ≤ N * 2^k, for 10^(k-L) ≤ 2^k
        have e1 : 10 ^ (cutD k - 1) ≤ 2 ^ k := by
          have : 10 ^ (cutD k - 1) * 10 ^ (cutL k).length ≤ 2 ^ k * 10 ^ (cutL k).length := by
            rw [← Nat.pow_add, show cutD k - 1 + (cutL k).length = k by omega, p10, Nat.mul_comm]
            exact Nat.mul_le_mul_left _ (Nat.le_of_lt cg)
          exact Nat.le_of_mul_le_mul_right this (Nat.pow_pos (by decide))
        rw [Nat.pow_add]
        exact Nat.mul_le_mul hN1 e1
      · rw [if_neg hp, Nat.sub_zero]
        have hge : beVal (cutL k) * 10 ^ (r0.length + 1) ≤ beVal (d0 :: r0) * 10 ^ (cutL k).length := by
          rw [hpl] at hp
          exact Nat.not_lt.1 hp
        rw [cv] at hge
        -- N * 2^k * 10^L ≥ 5^k * 2^k * 10^n = 10^(k+n)
        have : 10 ^ (r0.length + cutD k) * 10 ^ (cutL k).length ≤ beVal (d0 :: r0) * 2 ^ k * 10 ^ (cutL k).length := by
          rw [← Nat.pow_add, show r0.length + cutD k + (cutL k).length = k + (r0.length + 1) by omega, Nat.pow_add, p10]
          calc 5 ^ k * 2 ^ k * 10 ^ (r0.length + 1) = 5 ^ k * 10 ^ (r0.length + 1) * 2 ^ k := by rw [Nat.mul_right_comm]
            _ ≤ beVal (d0 :: r0) * 10 ^ (cutL k).length * 2 ^ k := Nat.mul_le_mul_right _ hge
            _ = _ := by rw [Nat.mul_right_comm]
        exact Nat.le_of_mul_le_mul_right this (Nat.pow_pos (by decide))
    · rw [hv]
      unfold lsDelta
      by_cases hp : pless (d0 :: r0) (cutL k) = true
      · rw [if_pos hp]
        rw [hpl, cv] at hp
        have : beVal (d0 :: r0) * 2 ^ k * 10 ^ (cutL k).length < 10 ^ (r0.length + (cutD k - 1) + 1) * 10 ^ (cutL k).length := by
          rw [← Nat.pow_add, show r0.length + (cutD k - 1) + 1 + (cutL k).length = k + (r0.length + 1) by omega, Nat.pow_add, p10]
          calc beVal (d0 :: r0) * 2 ^ k * 10 ^ (cutL k).length = beVal (d0 :: r0) * 10 ^ (cutL k).length * 2 ^ k := by rw [Nat.mul_right_comm]
            _ < 5 ^ k * 10 ^ (r0.length + 1) * 2 ^ k := Nat.mul_lt_mul_of_pos_right hp (Nat.two_pow_pos _)
            _ = _ := by rw [Nat.mul_right_comm]
        exact Nat.lt_of_mul_lt_mul_right this
      · rw [if_neg hp, Nat.sub_zero]
        have e1 : 2 ^ k ≤ 10 ^ cutD k := by
          have : 2 ^ k * 10 ^ (cutL k).length ≤ 10 ^ cutD k * 10 ^ (cutL k).length := by
            rw [← Nat.pow_add, show cutD k + (cutL k).length = k + 1 by omega, Nat.pow_succ, p10]
            have h10 : 10 ^ (cutL k).length ≤ 5 ^ k * 10 := by
              have : 10 ^ (cutL k).length = 10 ^ ((cutL k).length - 1) * 10 := by rw [← Nat.pow_succ, Nat.succ_eq_add_one, Nat.sub_add_cancel c1]
              rw [this]
              exact Nat.mul_le_mul_right _ cf
            calc 2 ^ k * 10 ^ (cutL k).length ≤ 2 ^ k * (5 ^ k * 10) := Nat.mul_le_mul_left _ h10
              _ = _ := by rw [← Nat.mul_assoc, Nat.mul_comm (2 ^ k)]
          exact Nat.le_of_mul_le_mul_right this (Nat.pow_pos (by decide))
        rw [show r0.length + cutD k + 1 = (r0.length + 1) + cutD k by omega, Nat.pow_add]
        exact Nat.lt_of_lt_of_le (Nat.mul_lt_mul_of_pos_right hN2 (Nat.two_pow_pos _)) (Nat.mul_le_mul_left _ e1)
  refine ⟨by rw [lsOut, List.length_reverse, hlen, List.length_cons], ?_, fun x hx => hdg x (List.mem_reverse.1 hx), ?_⟩
  · obtain ⟨d, r, e, hd'⟩ := htop
    exact ⟨d, r, e, hd'⟩
  · unfold lsOut beVal
    rw [List.reverse_reverse, hv]
    rfl
/-- where no digit is added, the first one grows with the shift -/
theorem lsOut_head (k : Nat) (ds : List Nat) (h1 : 1 ≤ k) (h2 : k ≤ 60) (hd : Digs ds) (hh : HeadNe ds) (h0 : lsDelta k ds = 0) (a b : Nat) (r s : List Nat) (ha : ds = a :: r) (hb : lsOut k ds = b :: s) : a * 2 ^ k ≤ b := by
  obtain ⟨hl, _, hdg, hv⟩ := lsOut_len k ds h1 h2 hd hh
  subst ha
  rw [hb] at hl hdg hv
  rw [h0] at hl
  simp at hl
  rw [beVal_cons, beVal_cons, hl] at hv
  have hs := beVal_lt s (fun x hx => hdg x (List.mem_cons_of_mem _ hx))
  rw [hl] at hs
  generalize 10 ^ r.length = p at *
  have h3 : a * 2 ^ k * p ≤ b * p + beVal s := by
    rw [hv, Nat.add_mul, Nat.mul_right_comm]
    exact Nat.le_add_right _ _
  rcases Nat.lt_or_ge b (a * 2 ^ k) with h | h
  · exfalso
    have := Nat.mul_le_mul_right p h
    rw [Nat.succ_mul] at this
    omega
  · exact h
def trimL (l : List Nat) : List Nat := (l.reverse.dropWhile (fun d => d == 0)).reverse
structure Dec where
  ds : List Nat
  dp : Int
  tr : Bool
def trimD (d : Dec) : Dec := { d with ds := trimL d.ds, dp := if trimL d.ds = [] then 0 else d.dp }
def lsh (k : Nat) (d : Dec) : Dec :=
  trimD { ds := (lsOut k d.ds).take 800, dp := d.dp + lsDelta k d.ds, tr := d.tr || ((lsOut k d.ds).drop 800).any (fun x => x != 0) }
/-- picking up digits to the right till a quotient shows: the number, how many, what is left; of digits that are not there, zeros -/
def rsPick (k : Nat) : Nat → List Nat → Nat → Nat × Nat × List Nat
  | 0, l, n => (n, 0, l)
  | f + 1, l, n => if n / 2 ^ k ≠ 0 then (n, 0, l) else
    match l with
    | [] => let (m, r, l') := rsPick k f [] (n * 10); (m, r + 1, l')
    | d :: l => let (m, r, l') := rsPick k f l (n * 10 + d); (m, r + 1, l')
def rsTail (k : Nat) : Nat → Nat → List Nat
  | 0, _ => []
  | f + 1, n => if n = 0 then [] else n / 2 ^ k :: rsTail k f (n % 2 ^ k * 10)
def rsOut (k : Nat) : List Nat → Nat → List Nat
  | [], n => rsTail k 64 n
  | d :: l, n => n / 2 ^ k :: rsOut k l (n % 2 ^ k * 10 + d)
def rsh (k : Nat) (d : Dec) : Dec :=
  let p := rsPick k (d.ds.length + 64) d.ds 0
  let out := rsOut k p.2.2 p.1
  trimD { ds := out.take 800, dp := d.dp - (p.2.1 - 1), tr := d.tr || (out.drop 800).any (fun x => x != 0) }
end Fl
end Go.Proofs.YthhepfjjmilcnaaDoor
