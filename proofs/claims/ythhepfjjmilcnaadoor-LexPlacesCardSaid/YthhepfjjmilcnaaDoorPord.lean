/- Plain Lean: what is read as a number is no NaN; where it is too great it is infinite. -/
import Derived.Test.YthhepfjjmilcnaaDoorAtof
import Derived.Laws.BitsAllLaws
namespace Go.Proofs.YthhepfjjmilcnaaDoor
open Fl
theorem sw_eq : Ieee.double.signWeight = 9223372036854775808 := by decide
theorem ir_eq : Ieee.double.infRung = 9218868437227405312 := by decide
theorem read_kind (x : Nat) (h : x ≤ infW) : (∃ s m i, Ieee.double.read x = .number s m i) ∨ Ieee.double.read x = .infinity false := by
  unfold infW at h
  have hm : x % 9223372036854775808 = x := Nat.mod_eq_of_lt (by omega)
  have hd : x / 9223372036854775808 = 0 := Nat.div_eq_of_lt (by omega)
  unfold Ieee.Format.read
  simp only [sw_eq, ir_eq, hm, hd]
  by_cases h1 : x < Ieee.double.binade
  · rw [if_pos h1]; exact .inl ⟨_, _, _, rfl⟩
  · rw [if_neg h1]
    by_cases h2 : x < 9218868437227405312
    · rw [if_pos h2]; exact .inl ⟨_, _, _, rfl⟩
    · rw [if_neg h2, if_pos (by omega)]; exact .inr rfl
theorem read_e15 : ∃ s m i, Ieee.double.read 4831355200913801216 = .number s m i := ⟨_, _, _, rfl⟩
theorem order_some (x : Nat) (h : x ≤ infW) : ∃ o, FloatKind.f64.format.order x 4831355200913801216 = some o := by
  obtain ⟨s, m, i, e2⟩ := read_e15
  show ∃ o, (Ieee.double.read x).order (Ieee.double.read 4831355200913801216) = some o
  rw [e2]
  rcases read_kind x h with ⟨a, b, c, e⟩ | e
  · rw [e]; exact ⟨_, rfl⟩
  · rw [e]; exact ⟨_, rfl⟩
theorem order_inf : FloatKind.f64.format.order 9218868437227405312 4831355200913801216 = some .gt := by decide +kernel
theorem exV_le (d : Nat) (p : Int) : exV d p ≤ infW := by
  unfold exV
  have hn := nearest_nat d
  split
  · exact hn
  · split
    · split
      · exact (fmul_some _ _ (fmul_some _ _ hn (p10_rng _).1 (p10_rng _).2).2 (p10_rng _).1 (p10_rng _).2).2
      · exact (fmul_some _ _ hn (p10_rng _).1 (p10_rng _).2).2
    · exact (fdiv_some _ _ hn (p10_rng _).1 (p10_rng _).2).2
theorem fbOut_le (m : Nat) (e : Int) (h : e < 1024) : fbOut m e ≤ infW := by
  unfold fbOut infW
  have h1 : m % 4503599627370496 < 4503599627370496 := Nat.mod_lt _ (by decide)
  have h2 : (e + 1023).toNat ≤ 2046 := by omega
  have h3 := Nat.mul_le_mul_right 4503599627370496 h2
  omega
theorem fb4_le (p : Dec × Int) (h : -1023 ≤ p.2) : (fb4 p).1 ≤ infW ∧ ((fb4 p).2 = true → (fb4 p).1 = infW) := by
  unfold fb4
  split
  · exact ⟨Nat.le_refl _, fun _ => rfl⟩
  · rename_i h1
    split
    · split
      · exact ⟨Nat.le_refl _, fun _ => rfl⟩
      · refine ⟨?_, fun h => absurd h (by simp)⟩
        exact fbOut_le _ _ (by omega)
    · refine ⟨?_, fun h => absurd h (by simp)⟩
      refine fbOut_le _ _ ?_
      split <;> omega
theorem fb3_ge (p : Dec × Int) : -1023 ≤ (fb3 p).2 := by
  unfold fb3
  split
  · simp only []; omega
  · simp only []; omega
theorem fbits_le (d : Dec) : (fbits d).1 ≤ infW ∧ ((fbits d).2 = true → (fbits d).1 = infW) := by
  unfold fbits
  split
  · exact ⟨Nat.zero_le _, fun h => by cases h⟩
  · split
    · exact ⟨Nat.le_refl _, fun _ => rfl⟩
    · split
      · exact ⟨Nat.zero_le _, fun h => by cases h⟩
      · exact fb4_le _ (fb3_ge _)
theorem low52 (a : Nat) (h : a < 9007199254740992) : a &&& (18446744073709551615 - 4503599627370496) < 2 ^ 52 := by
  apply Nat.lt_pow_two_of_testBit
  intro i hi
  rw [Nat.testBit_and]
  by_cases e : i = 52
  · subst e
    have : (18446744073709551615 - 4503599627370496 : Nat).testBit 52 = false := by decide
    rw [this, Bool.and_false]
  · have h1 : a < 2 ^ i := Nat.lt_of_lt_of_le (show a < 2 ^ 53 from h) (Nat.pow_le_pow_right (show 0 < 2 by decide) (show 53 ≤ i by omega))
    rw [Nat.testBit_lt_two_pow h1, Bool.false_and]
/-- packing makes no NaN -/
theorem pack_le (r : Nat) (e : Int) (hr : r ≤ 9007199254740992) (he : -1074 ≤ e) : (pack r e).1.toNat ≤ infW ∧ ((pack r e).2 = true → (pack r e).1.toNat = infW) := by
  unfold pack
  by_cases h1 : bits .and .u64 (r : Int) 4503599627370496 = 0
  · rw [if_pos h1]
    refine ⟨?_, fun h => absurd h (by simp)⟩
    simp only [Int.toNat_natCast]
    unfold infW
    omega
  · rw [if_neg h1]
    by_cases h2 : 972 ≤ e
    · rw [if_pos h2]
      have e1 : bits .and .u64 (r : Int) 9223372036854775808 = 0 := by
        rw [show (9223372036854775808 : Int) = ((9223372036854775808 : Nat) : Int) from rfl, bits_and_u64_nat _ _ (by omega) (by decide), show (9223372036854775808 : Nat) = 2 ^ 63 from rfl, and_2p, Nat.div_eq_of_lt (by omega)]
        rfl
      rw [e1, show bits .or .u64 0 9218868437227405312 = 9218868437227405312 by decide]
      exact ⟨Nat.le_refl _, fun _ => rfl⟩
    · rw [if_neg h2]
      refine ⟨?_, fun h => absurd h (by simp)⟩
      have hr2 : r < 9007199254740992 := by
        rcases Nat.lt_or_ge r 9007199254740992 with h | h
        · exact h
        · exfalso
          apply h1
          rw [show r = 9007199254740992 by omega]
          decide
      obtain ⟨k, hk⟩ : ∃ k : Nat, 1075 + e = k := ⟨(1075 + e).toNat, by omega⟩
      have hk2 : k ≤ 2046 := by omega
      have hl := low52 r hr2
      have e2 := u64_andNot_nat r 4503599627370496 (by omega) (by decide)
      rw [show (4503599627370496 : Int) = ((4503599627370496 : Nat) : Int) from rfl, e2, hk, show ((k : Int) * ((4503599627370496 : Nat) : Int)) = ((k * 4503599627370496 : Nat) : Int) by simp]
      generalize r &&& (18446744073709551615 - 4503599627370496) = L at *
      have h3 : k * 4503599627370496 ≤ 2046 * 4503599627370496 := Nat.mul_le_mul_right _ hk2
      have hl2 : L < 4503599627370496 := hl
      rw [bits_or_u64_nat _ _ (by omega) (by omega)]
      have h4 := Nat.two_pow_add_eq_or_of_lt hl k
      rw [Nat.or_comm, show k * 4503599627370496 = 2 ^ 52 * k by rw [Nat.mul_comm], ← h4, Int.toNat_natCast]
      unfold infW
      omega
theorem rnd_le (v : Nat) (h : v < 36028797018963968) : rnd v ≤ 9007199254740992 := by unfold rnd; omega
theorem pf64_le (d : Nat) (p : Int) (hb1 : 1 ≤ Lib.bitLen d) (hb2 : Lib.bitLen d ≤ 64) (hd2 : d * 2 ^ (64 - Lib.bitLen d) < 18446744073709551616) (h0 : -345 ≤ p) (h1 : p ≤ 310) :
    (pf64 d p).1.toNat ≤ infW ∧ ((pf64 d p).2 = true → (pf64 d p).1.toNat = infW) := by
  have hl := l2p_rng p h0 h1
  unfold pf64
  by_cases hS : 64 ≤ pfS d p
  · rw [if_pos hS]; exact ⟨Nat.zero_le _, fun h => absurd h (by simp)⟩
  · rw [if_neg hS]
    have hS8 : 8 ≤ (pfS d p).toNat := by unfold pfS pfE; omega
    have hu : pfU d p (pfE d p) < 72057594037927936 := uscN_lt _ _ _ _ hd2 (by have := powHi_lt (p + 348).toNat; omega) hS8
    have he : pfE d p ≤ 1074 := by unfold pfE; omega
    by_cases hc : 36028797018963966 ≤ pfU d p (pfE d p)
    · rw [if_pos hc]
      refine pack_le _ _ (rnd_le _ ?_) (by omega)
      unfold pfV
      show _ < 2 ^ 55
      exact Nat.or_lt_two_pow (by omega) (Nat.lt_of_le_of_lt Nat.and_le_right (by decide))
    · rw [if_neg hc]
      refine pack_le _ _ (rnd_le _ ?_) (by omega)
      unfold pfV
      show _ < 2 ^ 55
      exact Nat.or_lt_two_pow (by omega) (Nat.lt_of_le_of_lt Nat.and_le_right (by decide))
theorem af_le (l : List UInt8) (k : Nat) (h : IsReal l k) : (afBits l).1 ≤ infW ∧ ((afBits l).2 = true → (afBits l).1 = infW) := by
  obtain ⟨hok, _, _⟩ := rf_ok l k h l.length (Nat.le_refl _)
  rw [List.take_length] at hok
  have hm : rfMant l < 10000000000000000000 := Nat.lt_of_lt_of_le hok.1 (Nat.pow_le_pow_right (by decide) hok.2.1)
  unfold afBits
  generalize rfMant l = m at *
  generalize rfExp l = p at *
  by_cases h0 : m = 0
  · rw [if_pos h0]; exact ⟨Nat.zero_le _, fun h => absurd h (by simp)⟩
  · rw [if_neg h0]
    by_cases h1 : 310 < p
    · rw [if_pos h1]; exact ⟨Nat.le_refl _, fun _ => rfl⟩
    · rw [if_neg h1]
      by_cases h2 : p < -345
      · rw [if_pos h2]; exact ⟨Nat.zero_le _, fun h => absurd h (by simp)⟩
      · rw [if_neg h2]
        obtain ⟨b1, b2, b3⟩ := bitLen_facts m h0 (by omega)
        have hp := pf64_le m p b1 b2 b3 (by omega) (by omega)
        by_cases h3 : rfTr l = false
        · rw [if_pos h3]
          by_cases h4 : exB m p = true
          · rw [if_pos h4]; exact ⟨exV_le _ _, fun h => absurd h (by simp)⟩
          · rw [if_neg h4]; exact hp
        · rw [if_neg h3]
          split
          · exact hp
          · exact fbits_le _
theorem af_ord (l : List UInt8) (k : Nat) (h : IsReal l k) : ∃ o, FloatKind.f64.format.order (afBits l).1 4831355200913801216 = some o := order_some _ (af_le l k h).1
theorem af_inf (l : List UInt8) (k : Nat) (h : IsReal l k) (ho : (afBits l).2 = true) : FloatKind.f64.format.order (afBits l).1 4831355200913801216 = some .gt := by
  rw [(af_le l k h).2 ho]
  exact order_inf
end Go.Proofs.YthhepfjjmilcnaaDoor
