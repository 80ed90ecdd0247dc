/- The walks of strconv.special and readFloat on digits, a point, digits. -/
import Derived.Test.YthhepfjjmilcnaaDoorFltC
import Derived.Test.YthhepfjjmilcnaaDoorPflt
import Derived.Deep.LoopGhost
namespace Go.Proofs.YthhepfjjmilcnaaDoor
open Go.RowKit Fl
theorem byte_at (s : ByteArray) (k : Nat) (h : k < s.size) : (s[k]'h) = s.data.toList.getD k 0 := by
  rw [List.getD_eq_getElem?_getD, List.getElem?_eq_getElem (by simpa using h)]; rfl
set_option maxRecDepth 100000 in
theorem special_any (s : ByteArray) (hs : 0 < s.size) (h0 : 48 ≤ (s[0]'hs).toNat) (h1 : (s[0]'hs).toNat ≤ 57) (hs2 : s.size ≤ 140737488355000) (w : World) :
    Calls Tryd.prog 49 #[.string s] w fun e w' => e = .returned (.tuple #[.float .f64 0, .int .i64 0, .bool false]) ∧ w = w' := by
  have hz : ((s.size : Int) == 0) = false := beq_eq_false_iff_ne.2 (by omega)
  go_enter Tryd.func49, Tryd.ntmps49
  go_wp2
  go_ret3
  exact ⟨rfl, rfl⟩

theorem lower_any (c : Int) (w : World) : Calls Tryd.prog 66 #[.int .u8 c] w fun e w' => e = .returned (.int .u8 (bits .or .u8 c 32)) ∧ w = w' := (Tryd.internal_strconv_lower c w).mono fun _ _ ⟨a, b⟩ => ⟨a, b.symm⟩
def rfMant (l : List UInt8) : Nat := (rf l).mant
def rfExp (l : List UInt8) : Int := if (rf l).mant = 0 then 0 else (rf l).dp - (rf l).ndm
def rfTr (l : List UInt8) : Bool := (rf l).tr
theorem rfStep_dot (st : RF) (c : UInt8) (h : c.toNat = 46) : rfStep st c = { st with dot := true, dp := st.nd } := by rw [rfStep, if_pos h]
theorem rfStep_zero (st : RF) (c : UInt8) (h : c.toNat = 48) (h0 : st.nd = 0) : rfStep st c = { st with dig := true, dp := st.dp - 1 } := by rw [rfStep, if_neg (by omega), if_pos ⟨h, h0⟩]
theorem rfStep_in (st : RF) (c : UInt8) (h : c.toNat ≠ 46) (h0 : ¬ (c.toNat = 48 ∧ st.nd = 0)) (hn : st.ndm < 19) : rfStep st c = { st with dig := true, nd := st.nd + 1, ndm := st.ndm + 1, mant := st.mant * 10 + (c.toNat - 48) } := by rw [rfStep, if_neg h, if_neg h0, if_pos hn]
theorem rfStep_out (st : RF) (c : UInt8) (h : c.toNat ≠ 46) (h0 : ¬ (c.toNat = 48 ∧ st.nd = 0)) (hn : ¬ st.ndm < 19) : rfStep st c = { st with dig := true, nd := st.nd + 1, tr := st.tr || decide (c.toNat ≠ 48) } := by rw [rfStep, if_neg h, if_neg h0, if_neg hn]
theorem mant_lt (m n : Nat) (h : m < 10 ^ n) (hn : n < 19) : m < 1000000000000000000 := Nat.lt_of_lt_of_le h (Nat.le_trans (Nat.pow_le_pow_right (by decide) (show n ≤ 18 by omega)) (by decide))
theorem wrap_mant (m c : Nat) (hm : m < 1000000000000000000) (hc : 48 ≤ c) (hc2 : c ≤ 57) : IntKind.u64.wrap (IntKind.u64.wrap ((m : Int) * 10) + ((c : Int) - 48)) = ((m * 10 + (c - 48) : Nat) : Int) := by
  have e1 : IntKind.u64.wrap ((m : Int) * 10) = ((m * 10 : Nat) : Int) := by
    rw [IntKind.wrap_u64]; push_cast; exact Int.emod_eq_of_lt (by omega) (by omega)
  rw [e1, IntKind.wrap_u64]
  have e2 : ((m * 10 : Nat) : Int) + ((c : Int) - 48) = ((m * 10 + (c - 48) : Nat) : Int) := by omega
  rw [e2]
  exact Int.emod_eq_of_lt (by omega) (by omega)
theorem results_tmp7 {fn : Func} {a b c d e f g : Tmp} (h : fn.results = #[.tmp a, .tmp b, .tmp c, .tmp d, .tmp e, .tmp f, .tmp g]) (tmps : Array Value) (P : Program) (w : World) :
    (results fn tmps).run P w = .ok (.tuple #[tmps.getD a undef, tmps.getD b undef, tmps.getD c undef, tmps.getD d undef, tmps.getD e undef, tmps.getD f undef, tmps.getD g undef]) w := by simp [results, h]
set_option maxRecDepth 100000 in
set_option maxHeartbeats 4000000 in
theorem readFloat_any (s : ByteArray) (d : Nat) (hd : Hid (IsReal s.data.toList d)) (hs : s.size ≤ 1000000) (w : World) :
    Calls Tryd.prog 50 #[.string s] w fun e w' => e = .returned (.tuple #[.int .u64 (rfMant s.data.toList), .int .i64 (rfExp s.data.toList), .bool false, .bool (rfTr s.data.toList), .bool false, .int .i64 s.size, .bool true]) ∧ w = w' := by
  have hsz : 2 < s.size := by have := hd.out.1; have := hd.out.2.1; rw [list_size] at this; omega
  have p0 : 0 < s.size := by omega
  have p1 : 1 < s.size := by omega
  obtain ⟨h00, h01⟩ : 48 ≤ (s[0]'p0).toNat ∧ (s[0]'p0).toNat ≤ 57 := by
    rw [byte_at]; exact hd.out.2.2.1 0 (by rw [list_size]; omega) (by have := hd.out.1; omega)
  obtain ⟨h10, h11⟩ : 46 ≤ (s[1]'p1).toNat ∧ (s[1]'p1).toNat ≤ 57 := by
    rw [byte_at]
    by_cases e : 1 = d
    · have := hd.out.2.2.2; rw [← e] at this; omega
    · have := hd.out.2.2.1 1 (by rw [list_size]; omega) e; omega
  have hlow : ∀ c : UInt8, 46 ≤ c.toNat → c.toNat ≤ 57 → (bits .or .u8 (c.toNat : Int) 32 == 120) = false := by
    intro c a b
    have : ∀ c : Fin 58, (bits .or .u8 ((c : Nat) : Int) 32 == 120) = false := by decide
    exact this ⟨c.toNat, by omega⟩
  have hx := hlow _ h10 h11
  clear hlow
  have hne : decide (s = ByteArray.empty) = false := decide_eq_false (fun e => by rw [e] at hsz; simp at hsz)
  have hne2 : ¬ s = ByteArray.empty := fun e => by rw [e] at hsz; simp at hsz
  by_cases c48 : ((s[0]'p0).toNat : Int) = 48
  all_goals
    go_enter Tryd.func50, Tryd.ntmps50
    go_wp2
    go_step3
    go_wp2_with (go_at_call 66; refine (lower_any _ _).mono ?_; rintro e w' ⟨rfl, rfl⟩)
    go_step3
    go_wp2
    clear hx hne hne2 h00 h01 h10 h11
    go_loopg [2, 5, 7, 9, 13, 14, 15, 16, 17] s.size (fun g m tr i us dot dig nd ndm dp wr => ∃ k : Nat, k ≤ s.size ∧ g = s.size - k ∧ wr = w ∧ m = .int .u64 (rf (s.data.toList.take k)).mant ∧ tr = .bool (rf (s.data.toList.take k)).tr ∧ i = .int .i64 k ∧ us = .bool false ∧ dot = .bool (decide (d < k)) ∧ dig = .bool (decide (0 < k)) ∧ nd = .int .i64 (rf (s.data.toList.take k)).nd ∧ ndm = .int .i64 (rf (s.data.toList.take k)).ndm ∧ dp = .int .i64 (rf (s.data.toList.take k)).dp)
    case atStart => exact ⟨0, by omega, by omega, rfl, rfl, rfl, rfl, rfl, rfl, rfl, rfl, rfl, rfl⟩
    case round =>
      obtain ⟨k, hk, hgk, rfl, rfl, rfl, rfl, rfl, rfl, rfl, rfl, rfl, rfl⟩ := hrel
      have HG := Lib.hid hgk
      clear hgk
      obtain ⟨hok, _, _⟩ := rf_ok s.data.toList d hd.out k (by rw [list_size]; exact hk)
      by_cases hks : k < s.size
      · have hnext := rf_at s.data.toList k (by rw [list_size]; exact hks)
        rw [← byte_at s k hks] at hnext
        have hcb : k = d ∧ (s[k]'hks).toNat = 46 ∨ k ≠ d ∧ 48 ≤ (s[k]'hks).toNat ∧ (s[k]'hks).toNat ≤ 57 := by
          rw [byte_at]
          by_cases e : k = d
          · exact .inl ⟨e, e ▸ hd.out.2.2.2⟩
          · exact .inr ⟨e, hd.out.2.2.1 k (by rw [list_size]; exact hks) e⟩
        generalize hst : rf (s.data.toList.take k) = st at *
        have HN := Lib.hid hnext
        have HST := Lib.hid hst
        clear hnext hst
        rcases st with ⟨sdot, sdig, nd, ndm, dp, mant, tr⟩
        obtain ⟨o1, o2, o3, o4, o5, o6⟩ := hok
        simp only at o1 o2 o3 o4 o5 o6
        have O1 := Lib.hid o1
        clear o1
        rcases hcb with ⟨rfl, hc⟩ | ⟨hkd, hc0, hc1⟩
        · have hdt : decide (k < k) = false := by simp
          have HS := Lib.hid (rfStep_dot ⟨sdot, sdig, nd, ndm, dp, mant, tr⟩ _ hc)
          go_wp2
          go_roundg (s.size - (k + 1))
          case measure => rw [HG.out]; omega
          case rel => exact ⟨k + 1, by omega, rfl, rfl, by rw [HN.out, HS.out], by rw [HN.out, HS.out], by go_num, rfl, by simp, by simp; exact hd.out.1, by rw [HN.out, HS.out], by rw [HN.out, HS.out], by rw [HN.out, HS.out]⟩
        · have edot : decide (d < k + 1) = decide (d < k) := by rw [decide_eq_decide]; omega
          have EDOT := Lib.hid edot
          clear edot
          by_cases hA : (s[k]'hks).toNat = 48 ∧ nd = 0
          · obtain ⟨hA1, rfl⟩ := hA
            have HS := Lib.hid (rfStep_zero ⟨sdot, sdig, 0, ndm, dp, mant, tr⟩ _ hA1 rfl)
            go_wp2
            go_roundg (s.size - (k + 1))
            case measure => rw [HG.out]; omega
            case rel => exact ⟨k + 1, by omega, rfl, rfl, by rw [HN.out, HS.out], by rw [HN.out, HS.out], by go_num, rfl, by rw [EDOT.out], by simp, by rw [HN.out, HS.out]; rfl, by rw [HN.out, HS.out], by rw [HN.out, HS.out]⟩
          · have hA2 : (s[k]'hks).toNat = 48 → 1 ≤ nd := fun e => by omega
            by_cases hB : ndm < 19
            · have hm := mant_lt mant ndm O1.out hB
              have HS := Lib.hid (rfStep_in ⟨sdot, sdig, nd, ndm, dp, mant, tr⟩ _ (by omega) hA hB)
              clear hA
              by_cases hz : (s[k]'hks).toNat = 48
              all_goals
                first | (have hn1 := hA2 hz) | skip
                clear hA2
                go_wp2
                go_roundg (s.size - (k + 1))
                case measure => rw [HG.out]; omega
                case rel => exact ⟨k + 1, by omega, rfl, rfl, by rw [HN.out, HS.out]; show Value.int .u64 _ = Value.int .u64 ((mant * 10 + ((s[k]'hks).toNat - 48) : Nat) : Int); congr 1; omega, by rw [HN.out, HS.out], by go_num, rfl, by rw [EDOT.out], by simp, by rw [HN.out, HS.out]; go_num, by rw [HN.out, HS.out]; go_num, by rw [HN.out, HS.out]⟩
            · have HS := Lib.hid (rfStep_out ⟨sdot, sdig, nd, ndm, dp, mant, tr⟩ _ (by omega) hA hB)
              clear hA
              by_cases hz : (s[k]'hks).toNat = 48
              · have hn1 := hA2 hz
                clear hA2
                go_wp2
                go_roundg (s.size - (k + 1))
                case measure => rw [HG.out]; omega
                case rel => exact ⟨k + 1, by omega, rfl, rfl, by rw [HN.out, HS.out], by rw [HN.out, HS.out]; simp [hz], by go_num, rfl, by rw [EDOT.out], by simp, by rw [HN.out, HS.out]; go_num, by rw [HN.out, HS.out], by rw [HN.out, HS.out]⟩
              · clear hA2
                go_wp2
                go_roundg (s.size - (k + 1))
                case measure => rw [HG.out]; omega
                case rel => exact ⟨k + 1, by omega, rfl, rfl, by rw [HN.out, HS.out], by rw [HN.out, HS.out]; simp [hz], by go_num, rfl, by rw [EDOT.out], by simp, by rw [HN.out, HS.out]; go_num, by rw [HN.out, HS.out], by rw [HN.out, HS.out]⟩
      · obtain rfl : k = s.size := by omega
        have htk : s.data.toList.take s.size = s.data.toList := List.take_of_length_le (by rw [list_size]; omega)
        rw [htk] at hok ⊢
        have hdlt : decide (d < s.size) = true := decide_eq_true (by have := hd.out.2.1; rw [list_size] at this; omega)
        have hplt : decide (0 < s.size) = true := decide_eq_true p0
        have e1 : rfMant s.data.toList = (rf s.data.toList).mant := rfl
        have e2 : rfTr s.data.toList = (rf s.data.toList).tr := rfl
        have e3 : rfExp s.data.toList = if (rf s.data.toList).mant = 0 then 0 else (rf s.data.toList).dp - (rf s.data.toList).ndm := rfl
        generalize rf s.data.toList = st at *
        rcases st with ⟨sdot, sdig, nd, ndm, dp, mant, tr⟩
        obtain ⟨o1, o2, o3, o4, o5, o6⟩ := hok
        simp only at o1 o2 o3 o4 o5 o6 e1 e2 e3
        have E1 := Lib.hid e1
        have E2 := Lib.hid e2
        have E3 := Lib.hid e3
        clear o1 e1 e2 e3
        by_cases hm0 : mant = 0
        · have hm : ((mant : Int) != 0) = false := by rw [bne_eq_false_iff_eq]; omega
          go_wp2
          rw [Exit.noGoto_ret]
          refine bodyPost_ret (results_tmp7 rfl _ _ _) rfl ⟨?_, rfl⟩
          rw [E1.out, E2.out, E3.out, if_pos hm0]
          rfl
        · have hm : ((mant : Int) != 0) = true := by rw [bne_iff_ne]; omega
          go_wp2
          rw [Exit.noGoto_ret]
          refine bodyPost_ret (results_tmp7 rfl _ _ _) rfl ⟨?_, rfl⟩
          rw [E1.out, E2.out, E3.out, if_neg hm0]
          rfl
end Go.Proofs.YthhepfjjmilcnaaDoor
