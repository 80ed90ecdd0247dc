/- The walk of strconv.parseFloat64: a number of at most 19 digits times a power of ten, as a word. -/
import Derived.Test.YthhepfjjmilcnaaDoorFltA
namespace Go.Proofs.YthhepfjjmilcnaaDoor
open Go.RowKit Fl
/-- the unrounded word, one bit less where it is too great; the exponent -/
def pfU (d : Nat) (p e : Int) : Nat := uscN (d * 2 ^ (64 - Lib.bitLen d)) (powHi (p + 348).toNat).toNat (powLo (p + 348).toNat).toNat (-(e - (64 - (Lib.bitLen d : Int)) + l2p p + 3)).toNat
def pfE (d : Nat) (p : Int) : Int := min 1074 (53 - (Lib.bitLen d : Int) - l2p p)
def pfS (d : Nat) (p : Int) : Int := -(pfE d p - (64 - (Lib.bitLen d : Int)) + l2p p + 3)
def pfV (u s : Nat) : Nat := (u / 2 ^ s) ||| (u &&& 1)
def rnd (v : Nat) : Nat := (v + 1 + v / 4 % 2) / 4
def pf64 (d : Nat) (p : Int) : Int × Bool :=
  if 64 ≤ pfS d p then (0, false)
  else pack (rnd (pfV (pfU d p (pfE d p)) (if 36028797018963966 ≤ pfU d p (pfE d p) then 1 else 0)) : Nat) (-(pfE d p - (if 36028797018963966 ≤ pfU d p (pfE d p) then 1 else 0 : Nat)))
theorem uscN_lt (x H L s : Nat) (hx : x < 18446744073709551616) (hH : H < 18446744073709551616) (hs : 8 ≤ s) : uscN x H L s < 72057594037927936 := by
  have hp : ∀ h, h < 18446744073709551616 → h / 2 ^ s < 2 ^ 56 := fun h hh => by
    have h2 : 2 ^ 8 ≤ 2 ^ s := Nat.pow_le_pow_right (by decide) hs
    rw [Nat.div_lt_iff_lt_mul (Nat.two_pow_pos _)]
    calc h < 2 ^ 56 * 2 ^ 8 := hh
      _ ≤ 2 ^ 56 * 2 ^ s := Nat.mul_le_mul_left _ h2
  have hhi : x * H / 18446744073709551616 < 18446744073709551616 := Nat.div_lt_of_lt_mul (Nat.mul_lt_mul'' hx hH)
  unfold uscN
  show _ < 2 ^ 56
  split
  · exact Nat.or_lt_two_pow (hp _ hhi) (by decide)
  · refine Nat.or_lt_two_pow (hp _ (Nat.mod_lt _ (by decide))) (by split <;> decide)
theorem pfV_one (u : Nat) (hu : u < 72057594037927936) : bits .or .u64 ((u : Int) / 2) (bits .and .u64 (u : Int) 1) = (pfV u 1 : Nat) ∧ pfV u 1 < 72057594037927936 := by
  have h1 := bits_and_u64_nat u 1 (by omega) (by decide)
  have h2 := bits_or_u64_nat (u / 2) (u &&& 1) (by omega) (Nat.lt_of_le_of_lt Nat.and_le_left (by omega))
  refine ⟨?_, ?_⟩
  · rw [show (1 : Int) = ((1 : Nat) : Int) from rfl, h1, show ((u : Int) / 2) = ((u / 2 : Nat) : Int) by simp, h2]; rfl
  · unfold pfV
    show _ < 2 ^ 56
    exact Nat.or_lt_two_pow (by omega) (Nat.lt_of_le_of_lt Nat.and_le_left (by omega))
theorem pfV_zero (u : Nat) (hu : u < 72057594037927936) : bits .or .u64 (u : Int) (bits .and .u64 (u : Int) 1) = (pfV u 0 : Nat) ∧ pfV u 0 < 72057594037927936 := by
  have h1 := bits_and_u64_nat u 1 (by omega) (by decide)
  have h2 := bits_or_u64_nat u (u &&& 1) (by omega) (Nat.lt_of_le_of_lt Nat.and_le_left (by omega))
  refine ⟨?_, ?_⟩
  · rw [show (1 : Int) = ((1 : Nat) : Int) from rfl, h1, h2]; simp [pfV]
  · unfold pfV
    show _ < 2 ^ 56
    exact Nat.or_lt_two_pow (by simpa using hu) (Nat.lt_of_le_of_lt Nat.and_le_left (by omega))
theorem round_nat (v : Nat) (hv : v < 72057594037927936) (w : World) : Calls Tryd.prog 75 #[.int .u64 v] w fun e w' => e = .returned (.int .u64 (rnd v : Nat)) ∧ w = w' := by
  refine (round_any v (by omega) (by omega) w).mono fun e w' ⟨he, hw⟩ => ⟨?_, hw⟩
  rw [he]
  have h1 := bits_and_u64_nat (v / 4) 1 (by omega) (by decide)
  rw [show ((v : Int) / 4) = ((v / 4 : Nat) : Int) by simp, show (1 : Int) = ((1 : Nat) : Int) from rfl, h1]
  have h2 : v / 4 &&& 1 = v / 4 % 2 := Nat.and_two_pow_sub_one_eq_mod (v / 4) 1
  rw [h2, IntKind.wrap_u64, IntKind.wrap_u64]
  congr 2
  unfold rnd
  omega
theorem or_zero_nat (m : Nat) (h : m < 18446744073709551616) : bits .or .u64 0 (m : Int) = m := by
  have := bits_or_u64_nat 0 m (by decide) h
  simpa using this
theorem powHi_lt (i : Nat) : 0 ≤ powHi i ∧ powHi i < 18446744073709551616 := by
  have h : ∀ x ∈ Go.Pinned.pow10Rows, x.1 < 18446744073709551616 := by decide +kernel
  unfold powHi
  refine ⟨by omega, ?_⟩
  rw [List.getD_eq_getElem?_getD]
  cases hx : Go.Pinned.pow10Rows[i]? with
  | none => simp
  | some x => have := h x (List.mem_of_getElem? hx); simp; omega
theorem powLo_lt (i : Nat) : 0 ≤ powLo i ∧ powLo i < 18446744073709551616 := by
  have h : ∀ x ∈ Go.Pinned.pow10Rows, x.2 < 18446744073709551616 := by decide +kernel
  unfold powLo
  refine ⟨by omega, ?_⟩
  rw [List.getD_eq_getElem?_getD]
  cases hx : Go.Pinned.pow10Rows[i]? with
  | none => simp
  | some x => have := h x (List.mem_of_getElem? hx); simp; omega

theorem b2int_t (w : World) : Calls Tryd.prog 72 #[.bool true] w fun e w' => e = .returned (.int .i64 1) ∧ w = w' := b2int_any true w
theorem b2int_f (w : World) : Calls Tryd.prog 72 #[.bool false] w fun e w' => e = .returned (.int .i64 0) ∧ w = w' := b2int_any false w
theorem wrap_shl_nat (d c : Nat) (h : d * 2 ^ c < 18446744073709551616) : IntKind.u64.wrap ((d : Int) * 2 ^ c) = ((d * 2 ^ c : Nat) : Int) := by
  have e : (d : Int) * 2 ^ c = ((d * 2 ^ c : Nat) : Int) := by simp
  rw [e, IntKind.wrap_u64]
  generalize d * 2 ^ c = x at *
  exact Int.emod_eq_of_lt (Int.natCast_nonneg x) (Int.ofNat_lt.2 h)
theorem l2p_rng (p : Int) (h0 : -345 ≤ p) (h1 : p ≤ 310) : -1147 ≤ l2p p ∧ l2p p ≤ 1029 := by unfold l2p; omega
set_option maxRecDepth 100000 in
set_option maxHeartbeats 800000 in
theorem pf64_any (d : Nat) (p : Int) (hd : d < 18446744073709551616) (hb1 : 1 ≤ Lib.bitLen d) (hb2 : Lib.bitLen d ≤ 64) (hd2 : d * 2 ^ (64 - Lib.bitLen d) < 18446744073709551616) (h0 : -345 ≤ p) (h1 : p ≤ 310) (w : World) (hP : Hid (PowAt w)) (hlt : 9 < w.heap.size) :
    Calls Tryd.prog 61 #[.int .u64 d, .int .i64 p, .int .u64 0] w fun r w' => r = .returned (.tuple #[.float .f64 (pf64 d p).1.toNat, ovfV (pf64 d p).2]) ∧ Below w.heap.size w w' := by
  have hl := l2p_rng p h0 h1
  have cL := fun w => Tryd.bits_Len64 (d : Int) w (by omega) (by omega)
  have cM := fun w => l2p_any p (by omega) (by omega) w
  simp only [Int.toNat_natCast] at cL
  have hr : pf64 d p = pf64 d p := rfl
  conv at hr => rhs; unfold pf64
  unfold pfU pfS pfE at hr
  have hfb := frombits_run
  obtain ⟨hl0, hl1⟩ := hl
  generalize Lib.bitLen d = b at *
  generalize l2p p = l at *
  generalize hE : min 1074 (53 - (b : Int) - l) = e at hr
  have he0 : e ≤ 1074 := by omega
  have he1 : -1040 ≤ e := by omega
  have he2 : e ≤ 53 - b - l := by omega
  have HD2 := Lib.hid hd2
  clear hd2
  have HE := Lib.hid hE
  have HR := Lib.hid hr
  have CL := Lib.hid cL
  have CM := Lib.hid cM
  clear hr cL cM hE
  go_enter Tryd.func61, Tryd.ntmps61
  go_wp2_with fail
  refine (CL.out _).mono ?_
  rintro e1 w1 ⟨rfl, rfl⟩
  go_wp2_with fail
  refine (CM.out _).mono ?_
  rintro e1 w1 ⟨rfl, rfl⟩
  go_wp2_with fail
  rw [HE.out]
  have hi : p + 348 = ((p + 348).toNat : Int) := by omega
  refine (prescale_any _ p l (p + 348).toNat hi (by omega) (by omega) (by omega) (by omega) (by omega) _ hP).mono ?_
  clear hi
  generalize (p + 348).toNat = i at *
  have hH := powHi_lt i
  have hL := powLo_lt i
  generalize powHi i = H at *
  generalize powLo i = L at *
  obtain ⟨H, rfl⟩ := Int.eq_ofNat_of_zero_le hH.1
  obtain ⟨L, rfl⟩ := Int.eq_ofNat_of_zero_le hL.1
  have HH2 := Lib.hid (show H < 18446744073709551616 by have := hH.2; omega)
  have HL2 := Lib.hid (show L < 18446744073709551616 by have := hL.2; omega)
  clear hH hL
  rintro e1 w1 ⟨rfl, rfl⟩
  by_cases hS : 64 ≤ -(e - (64 - (b : Int)) + l + 3)
  · go_wp2
    go_ret2
    refine ⟨?_, (Below.refl _ _).alloc (Nat.le_refl _) _⟩
    rw [HR.out, if_pos hS]
    rfl
  · have hS0 : 0 ≤ -(e - (64 - (b : Int)) + l + 3) := by omega
    generalize hS' : -(e - (64 - (b : Int)) + l + 3) = S at *
    obtain ⟨s, rfl⟩ := Int.eq_ofNat_of_zero_le hS0
    rw [if_neg hS] at HR
    simp only [Int.toNat_natCast] at HR
    have hs64 : s < 64 := by omega
    have HS' := Lib.hid hS'
    clear hS' hS
    have HW := Lib.hid (wrap_shl_nat d (64 - b) HD2.out)
    go_wp2_with fail
    rw [HW.out]
    obtain ⟨u, hU⟩ : ∃ u, uscN (d * 2 ^ (64 - b)) H L s = u := ⟨_, rfl⟩
    have cU := fun w => uscale_any (d * 2 ^ (64 - b)) H L s HD2.out HH2.out HL2.out hs64 w
    have HULT := Lib.hid (show u < 72057594037927936 by rw [← hU]; exact uscN_lt _ _ _ _ HD2.out HH2.out (by have := HS'.out; omega))
    simp only [hU] at cU HR
    have CU := Lib.hid cU
    clear cU hU
    refine (CU.out _).mono ?_
    rintro e2 w2 ⟨rfl, hbw2⟩
    go_wp2_with fail
    refine (unmin_any _).mono ?_
    rintro e3 w3 ⟨rfl, rfl⟩
    have hult : u < 72057594037927936 := HULT.out
    have hrl : ∀ v, v < 72057594037927936 → rnd v < 18446744073709551616 ∧ rnd v ≤ 9223372036854775807 := fun v hv => by unfold rnd; omega
    by_cases hu : 36028797018963966 ≤ u
    · have hd1 : decide ((36028797018963966 : Int) ≤ (u : Int)) = true := decide_eq_true (by omega)
      obtain ⟨hv1, hv2⟩ := pfV_one u hult
      rw [if_pos hu] at HR
      generalize pfV u 1 = v at *
      have HV1 := Lib.hid hv1
      have hr1 := (hrl v hv2).1
      have hr2 := (hrl v hv2).2
      have CR := Lib.hid (round_nat v hv2)
      generalize rnd v = r at *
      have HZ := Lib.hid (or_zero_nat r hr1)
      clear hv1 hrl hr1 hv2
      go_wp2_with fail
      refine (b2int_t _).mono ?_
      rintro e3 w3 ⟨rfl, rfl⟩
      go_wp2_with fail
      rw [HV1.out]
      refine (CR.out _).mono ?_
      rintro e3 w3 ⟨rfl, rfl⟩
      go_wp2_with fail
      rw [HZ.out]
      refine (pack_any r _ (by omega) (by omega) (by omega) (by omega) _).mono ?_
      rintro e3 w3 ⟨rfl, rfl⟩
      go_wp2
      go_ret2
      refine ⟨?_, hbw2⟩
      rw [HR.out]
      rfl
    · have hd1 : decide ((36028797018963966 : Int) ≤ (u : Int)) = false := decide_eq_false (by omega)
      obtain ⟨hv1, hv2⟩ := pfV_zero u hult
      rw [if_neg hu] at HR
      generalize pfV u 0 = v at *
      have HV1 := Lib.hid hv1
      have hr1 := (hrl v hv2).1
      have hr2 := (hrl v hv2).2
      have CR := Lib.hid (round_nat v hv2)
      generalize rnd v = r at *
      have HZ := Lib.hid (or_zero_nat r hr1)
      clear hv1 hrl hr1 hv2
      go_wp2_with fail
      refine (b2int_f _).mono ?_
      rintro e3 w3 ⟨rfl, rfl⟩
      go_wp2_with fail
      rw [HV1.out]
      refine (CR.out _).mono ?_
      rintro e3 w3 ⟨rfl, rfl⟩
      go_wp2_with fail
      rw [HZ.out]
      refine (pack_any r _ (by omega) (by omega) (by omega) (by omega) _).mono ?_
      rintro e3 w3 ⟨rfl, rfl⟩
      go_wp2
      go_ret2
      refine ⟨?_, hbw2⟩
      rw [HR.out]
      rw [show (e - ((0 : Nat) : Int)) = e by omega]
      rfl
end Go.Proofs.YthhepfjjmilcnaaDoor
