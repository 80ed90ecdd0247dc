/- The walks of strconv's small functions on bits: bool2, log2Pow10, unmin, round, frombits, pack64, prescale, uscale. -/
import Derived.Test.YthhepfjjmilcnaaDoorUtil
import Derived.Test.YthhepfjjmilcnaaDoorShelf
import Derived.BigQuiet
import Derived.Deep.QuietTactic
import Derived.Laws.Externs
import GoSem.PinnedTables
namespace Go.Proofs.YthhepfjjmilcnaaDoor
open Go.RowKit
namespace Fl
def bi (b : Bool) : Int := if b = true then 1 else 0
theorem bi_true : bi true = 1 := rfl
theorem bi_false : bi false = 0 := rfl
theorem bi_lo (b : Bool) : 0 ≤ bi b := by cases b <;> decide
theorem bi_hi (b : Bool) : bi b ≤ 1 := by cases b <;> decide
def l2p (x : Int) : Int := (x * 108853) / 32768
def powHi (i : Nat) : Int := ((Go.Pinned.pow10Rows.getD i (0, 0)).1 : Nat)
def powLo (i : Nat) : Int := ((Go.Pinned.pow10Rows.getD i (0, 0)).2 : Nat)
end Fl
open Fl
theorem b2u64_any (b : Bool) (w : World) : Calls Tryd.prog 58 #[.bool b] w fun e w' => e = .returned (.int .u64 (bi b)) ∧ w = w' := by
  cases b
  all_goals
    go_enter Tryd.func58, Tryd.ntmps58
    go_wp2
    go_ret
    exact ⟨rfl, rfl⟩
theorem b2int_any (b : Bool) (w : World) : Calls Tryd.prog 72 #[.bool b] w fun e w' => e = .returned (.int .i64 (bi b)) ∧ w = w' := by
  cases b
  all_goals
    go_enter Tryd.func72, Tryd.ntmps72
    go_wp2
    go_ret
    exact ⟨rfl, rfl⟩
theorem l2p_any (x : Int) (h0 : -10000 ≤ x) (h1 : x ≤ 10000) (w : World) : Calls Tryd.prog 69 #[.int .i64 x] w fun e w' => e = .returned (.int .i64 (l2p x)) ∧ w = w' := by
  go_enter Tryd.func69, Tryd.ntmps69
  go_wp2
  go_ret
  exact ⟨rfl, rfl⟩
theorem unmin_any (w : World) : Calls Tryd.prog 73 #[.int .u64 9007199254740992] w fun e w' => e = .returned (.int .u64 36028797018963966) ∧ w = w' := by
  go_enter Tryd.func73, Tryd.ntmps73
  go_wp2
  go_ret
  exact ⟨rfl, rfl⟩
theorem round_any (x : Int) (h0 : 0 ≤ x) (h1 : x ≤ 18446744073709551615) (w : World) : Calls Tryd.prog 75 #[.int .u64 x] w fun e w' => e = .returned (.int .u64 (IntKind.u64.wrap (IntKind.u64.wrap (x + 1) + bits .and .u64 (x / 4) 1) / 4)) ∧ w = w' := by
  go_enter Tryd.func75, Tryd.ntmps75
  go_wp2
  go_ret
  exact ⟨rfl, rfl⟩
theorem frombits_run (x : Int) (w : World) : (callFunc 59 #[.int .u64 x]).run Tryd.prog w = .ok (.value (.float .f64 x.toNat)) w := by
  rw [run_callFunc_extern Tryd.func59 (by kernel_rfl) (by kernel_rfl) (by kernel_rfl) (e := Extern.MathFloatBits.float64frombits) (by kernel_rfl)]
  rfl
def pack (m e : Int) : Int × Bool :=
  if bits .and .u64 m 4503599627370496 = 0 then (m, false)
  else if 972 ≤ e then (bits .or .u64 (bits .and .u64 m 9223372036854775808) 9218868437227405312, true)
  else (bits .or .u64 (bits .andNot .u64 m 4503599627370496) ((1075 + e) * 4503599627370496), false)
def ovfV (b : Bool) : Value := if b = true then .iface 58 (.int .i64 1) else .nilIface
set_option maxRecDepth 100000 in
theorem pack_any (m e : Int) (h0 : 0 ≤ m) (h1 : m ≤ 9223372036854775807) (he0 : -1074 ≤ e) (he1 : e ≤ 2000) (w : World) :
    Calls Tryd.prog 78 #[.int .u64 m, .int .i64 e] w fun r w' => r = .returned (.tuple #[.float .f64 (pack m e).1.toNat, ovfV (pack m e).2]) ∧ w = w' := by
  have hf := frombits_run
  by_cases hz : bits .and .u64 m 4503599627370496 = 0
  · have hz2 : (bits .and .u64 m 4503599627370496 == 0) = true := by simp [hz]
    have hp : pack m e = (m, false) := by rw [pack, if_pos hz]
    have HP := Lib.hid hp
    clear hp hz
    go_enter Tryd.func78, Tryd.ntmps78
    go_wp2
    go_ret2
    exact ⟨by rw [HP.out]; rfl, rfl⟩
  · have hz2 : (bits .and .u64 m 4503599627370496 == 0) = false := by simp [hz]
    by_cases h972 : 972 ≤ e
    · have hp : pack m e = (bits .or .u64 (bits .and .u64 m 9223372036854775808) 9218868437227405312, true) := by rw [pack, if_neg hz, if_pos h972]
      have HP := Lib.hid hp
      clear hp hz
      go_enter Tryd.func78, Tryd.ntmps78
      go_wp2
      go_ret2
      exact ⟨by rw [HP.out]; rfl, rfl⟩
    · have hp : pack m e = (bits .or .u64 (bits .andNot .u64 m 4503599627370496) ((1075 + e) * 4503599627370496), false) := by rw [pack, if_neg hz, if_neg h972]
      have HP := Lib.hid hp
      clear hp hz
      go_enter Tryd.func78, Tryd.ntmps78
      go_wp2
      go_ret2
      refine ⟨?_, rfl⟩
      rw [HP.out]
      rfl
def PowAt (w : World) : Prop := ∀ i : Nat, i < 696 → w.cell? ⟨9, i * 2, none⟩ = some (.int .u64 (powHi i)) ∧ w.cell? ⟨9, i * 2 + 1, none⟩ = some (.int .u64 (powLo i))
set_option maxRecDepth 100000 in
theorem prescale_any (e p lp : Int) (i : Nat) (hi : p + 348 = i) (hi2 : i < 696) (he0 : -5000 ≤ e) (he1 : e ≤ 5000) (hl0 : -5000 ≤ lp) (hl1 : lp ≤ 5000) (w : World) (hP : Hid (PowAt w)) :
    Calls Tryd.prog 70 #[.pointer (some ⟨w.heap.size, 0, none⟩), .int .i64 e, .int .i64 p, .int .i64 lp] (w.alloc (.cells #[.int .u64 0, .int .u64 0, .int .i64 0] 112)) fun r w' => r = .returned (.tuple #[]) ∧
      w.alloc (.cells #[.int .u64 (powHi i), .int .u64 (powLo i), .int .i64 (-(e + lp + 3))] 112) = w' := by
  obtain rfl : p = (i : Int) - 348 := by omega
  have h1 := (hP.out i hi2).1
  have h2 := (hP.out i hi2).2
  have hlt : 9 < w.heap.size := World.block_lt_of_cell? w _ h1
  go_enter Tryd.func70, Tryd.ntmps70
  go_wp2
  go_end0
  exact ⟨rfl, rfl⟩

theorem and63 (s : Nat) (h : s < 64) : bits .and .i64 (s : Int) 63 = s := by
  have : ∀ s : Fin 64, bits .and .i64 ((s : Nat) : Int) 63 = ((s : Nat) : Int) := by decide
  exact this ⟨s, h⟩
/-- a word times 2^e 10^p, unrounded: out of the two words of the table and the shift -/
def uscN (x H L s : Nat) : Nat :=
  if (x * H / 18446744073709551616) / 2 ^ s * 2 ^ s % 18446744073709551616 ≠ x * H / 18446744073709551616 then (x * H / 18446744073709551616) / 2 ^ s ||| 1
  else ((x * H / 18446744073709551616 + 18446744073709551616 - (if x * H % 18446744073709551616 < x * L / 18446744073709551616 then 1 else 0)) % 18446744073709551616) / 2 ^ s |||
    (if 1 < (x * H % 18446744073709551616 + 18446744073709551616 - x * L / 18446744073709551616) % 18446744073709551616 then 1 else 0)
theorem or_shr_one (h s : Nat) (hh : h < 18446744073709551616) : bits .or .u64 ((h : Int) / 2 ^ s) 1 = ((h / 2 ^ s ||| 1 : Nat) : Int) := by
  have := bits_or_u64_nat (h / 2 ^ s) 1 (Nat.lt_of_le_of_lt (Nat.div_le_self _ _) hh) (by decide)
  simpa using this
theorem wrap_shl (h s : Nat) : IntKind.u64.wrap ((h : Int) / 2 ^ s * 2 ^ s) = ((h / 2 ^ s * 2 ^ s % 18446744073709551616 : Nat) : Int) := by
  rw [IntKind.wrap_u64]; simp
theorem sub_mod (h b M : Nat) (hb : b ≤ M) : ((h : Int) - b) % (M : Int) = (((h + M - b) % M : Nat) : Int) := by
  have : ((h + M - b : Nat) : Int) = h - b + M := by omega
  rw [Int.natCast_emod, this, Int.add_emod_right]
theorem wrap_subN (h m : Nat) (hm : m ≤ 18446744073709551616) : IntKind.u64.wrap ((h : Int) - m) = (((h + 18446744073709551616 - m) % 18446744073709551616 : Nat) : Int) := by
  rw [IntKind.wrap_u64]
  exact sub_mod h m 18446744073709551616 hm
theorem wrap_sub1 (h : Nat) (b : Bool) : IntKind.u64.wrap ((h : Int) - bi b) = (((h + 18446744073709551616 - (if b = true then 1 else 0)) % 18446744073709551616 : Nat) : Int) := by
  have : bi b = ((if b = true then 1 else 0 : Nat) : Int) := by cases b <;> rfl
  rw [this]
  exact wrap_subN h _ (by split <;> decide)
theorem or_shr_bi (h s : Nat) (hh : h < 18446744073709551616) (b : Bool) : bits .or .u64 ((h : Int) / 2 ^ s) (bi b) = ((h / 2 ^ s ||| (if b = true then 1 else 0) : Nat) : Int) := by
  have := bits_or_u64_nat (h / 2 ^ s) (if b = true then 1 else 0) (Nat.lt_of_le_of_lt (Nat.div_le_self _ _) hh) (by split <;> decide)
  cases b <;> simpa [bi] using this
set_option maxRecDepth 100000 in
set_option maxHeartbeats 400000 in
theorem uscale_any (x H L s : Nat) (hx : x < 18446744073709551616) (hH : H < 18446744073709551616) (hL : L < 18446744073709551616) (hs : s < 64) (w : World) :
    Calls Tryd.prog 71 #[.int .u64 x, .pointer (some ⟨w.heap.size, 0, none⟩)] (w.alloc (.cells #[.int .u64 H, .int .u64 L, .int .i64 s] 112)) fun r w' => r = .returned (.int .u64 (uscN x H L s)) ∧
      Below w.heap.size w w' := by
  have ha := and63 s hs
  have hhi : x * H / 18446744073709551616 < 18446744073709551616 := Nat.div_lt_of_lt_mul (Nat.mul_lt_mul'' hx hH)
  have hmid : x * H % 18446744073709551616 < 18446744073709551616 := Nat.mod_lt _ (by decide)
  have hmid2 : x * L / 18446744073709551616 < 18446744073709551616 := Nat.div_lt_of_lt_mul (Nat.mul_lt_mul'' hx hL)
  have c1 := fun w => Tryd.bits_Mul64 x H hx hH w
  have c2 := fun w => Tryd.bits_Mul64 x L hx hL w
  have hu : uscN x H L s = uscN x H L s := rfl
  conv at hu => rhs; unfold uscN
  generalize x * H / 18446744073709551616 = hi at *
  generalize x * H % 18446744073709551616 = mid at *
  generalize x * L / 18446744073709551616 = mid2 at *
  have C1 := Lib.hid c1
  have C2 := Lib.hid c2
  have HU := Lib.hid hu
  clear c1 c2 hu
  have hw := wrap_shl hi s
  have hb0 : Below w.heap.size w (w.alloc (.cells #[.int .u64 H, .int .u64 L, .int .i64 s] 112)) := (Below.refl _ _).alloc (Nat.le_refl _) _
  by_cases ht : hi / 2 ^ s * 2 ^ s % 18446744073709551616 ≠ hi
  · have hb : (IntKind.u64.wrap ((hi : Int) / 2 ^ s * 2 ^ s) != (hi : Int)) = true := by rw [hw, bne_iff_ne]; exact fun e => ht (by exact_mod_cast e)
    have hq := or_shr_one hi s hhi
    rw [if_pos ht] at HU
    have HQ := Lib.hid hq
    clear hw hq ht
    go_enter Tryd.func71, Tryd.ntmps71
    go_wp2_with fail
    refine (C1.out _).mono ?_
    rintro e w' ⟨rfl, rfl⟩
    go_wp2_with fail
    go_ret
    exact ⟨by rw [HU.out, ← HQ.out]; rfl, hb0⟩
  · have hb : (IntKind.u64.wrap ((hi : Int) / 2 ^ s * 2 ^ s) != (hi : Int)) = false := by
      rw [hw]; simp only [bne_eq_false_iff_eq]; exact_mod_cast (Classical.not_not.1 ht)
    rw [if_neg ht] at HU
    clear hw ht
    have hq1 := wrap_sub1 hi (decide (mid < mid2))
    have hq2 := wrap_subN mid mid2 (Nat.le_of_lt hmid2)
    have hm2 : (hi + 18446744073709551616 - (if (decide (mid < mid2)) = true then 1 else 0)) % 18446744073709551616 < 18446744073709551616 := Nat.mod_lt _ (by decide)
    have hq3 := or_shr_bi _ s hm2 (decide (1 < (mid + 18446744073709551616 - mid2) % 18446744073709551616))
    have HQ1 := Lib.hid hq1
    have HQ2 := Lib.hid hq2
    have HQ3 := Lib.hid hq3
    clear hq1 hq2 hq3
    go_enter Tryd.func71, Tryd.ntmps71
    go_wp2_with fail
    refine (C1.out _).mono ?_
    rintro e w' ⟨rfl, rfl⟩
    go_wp2_with fail
    refine (C2.out _).mono ?_
    rintro e w' ⟨rfl, rfl⟩
    go_wp2_with fail
    refine (b2u64_any _ _).mono ?_
    rintro e w' ⟨rfl, rfl⟩
    go_wp2_with fail
    go_quiet ((go_at_call 58; exact Calls.quiet_of_same ((b2u64_any _ _).mono fun _ _ ⟨a, b⟩ => ⟨a, b.symm⟩)))
    go_wp2
    go_ret
    refine ⟨?_, pw_drewN hb0 nq⟩
    have e1 : decide ((1 : Int) < IntKind.u64.wrap ((mid : Int) - (mid2 : Int))) = decide (1 < (mid + 18446744073709551616 - mid2) % 18446744073709551616) := by rw [HQ2.out]; simp only [decide_eq_decide]; exact ⟨fun h => by exact_mod_cast h, fun h => by exact_mod_cast h⟩
    show Ending.returned (Value.int IntKind.u64 (bits BinOp.or IntKind.u64 (IntKind.u64.wrap ((hi : Int) - bi (decide (mid < mid2))) / 2 ^ s) (bi (decide ((1 : Int) < IntKind.u64.wrap ((mid : Int) - (mid2 : Int))))))) = _
    rw [e1, HQ1.out, HQ3.out, HU.out]
    simp only [decide_eq_true_eq]
end Go.Proofs.YthhepfjjmilcnaaDoor
