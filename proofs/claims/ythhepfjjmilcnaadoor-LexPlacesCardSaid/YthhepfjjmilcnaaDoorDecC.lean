/- The walk of strconv.rightShift. -/
import Derived.Test.YthhepfjjmilcnaaDoorDecB
import Derived.Test.YthhepfjjmilcnaaDoorPdec3
namespace Go.Proofs.YthhepfjjmilcnaaDoor
open Go.RowKit Fl
theorem divI_zero (n k : Nat) (h : n / 2 ^ k = 0) : (((n : Int) / 2 ^ k == 0) = true) := by
  have : ((n : Int) / 2 ^ k) = ((n / 2 ^ k : Nat) : Int) := by simp
  rw [this, h]; rfl
theorem divI_ne (n k : Nat) (h : n / 2 ^ k ≠ 0) : (((n : Int) / 2 ^ k == 0) = false) := by
  have : ((n : Int) / 2 ^ k) = ((n / 2 ^ k : Nat) : Int) := by simp
  rw [this, beq_eq_false_iff_ne]; omega
theorem digI (d : Nat) : (48 + (d : Int)) = ((48 + d : Nat) : Int) := by simp
/-- picking up a digit, as the walk writes it -/
theorem rsNums (n d : Nat) (h : n * 10 + d < 18446744073709551000) : IntKind.u64.wrap (IntKind.u64.wrap (IntKind.u64.wrap ((n : Int) * 10) + (48 + (d : Int))) - 48) = ((n * 10 + d : Nat) : Int) := by
  have e1 : ((n : Int) * 10) = ((n * 10 : Nat) : Int) := by simp
  rw [e1, wrap_id _ (by omega)]
  have e2 : (((n * 10 : Nat) : Int) + (48 + (d : Int))) = ((n * 10 + 48 + d : Nat) : Int) := by omega
  rw [e2, wrap_id _ (by omega)]
  have e3 : ((n * 10 + 48 + d : Nat) : Int) - 48 = ((n * 10 + d : Nat) : Int) := by omega
  rw [e3, wrap_id _ (by omega)]
theorem rsNums10 (n : Nat) (h : n * 10 < 18446744073709551616) : IntKind.u64.wrap ((n : Int) * 10) = ((n * 10 : Nat) : Int) := by
  have e1 : ((n : Int) * 10) = ((n * 10 : Nat) : Int) := by simp
  rw [e1, wrap_id _ h]
theorem rsN_le (k n : Nat) (hk : k ≤ 60) (h : RsN k n) : n < 11529215046068469761 := by
  have := pow_le60 k hk
  unfold RsN at h
  generalize 2 ^ k = P at *
  omega
theorem maskI (k : Nat) (hk : k ≤ 60) : IntKind.u64.wrap (IntKind.u64.wrap (2 ^ k) - 1) = ((2 ^ k - 1 : Nat) : Int) := by
  have h1 := pow_le60 k hk
  have h2 := Nat.two_pow_pos k
  have e1 : ((2 : Int) ^ k) = ((2 ^ k : Nat) : Int) := by simp
  rw [e1, wrap_id _ (by omega)]
  have e2 : ((2 ^ k : Nat) : Int) - 1 = ((2 ^ k - 1 : Nat) : Int) := by omega
  rw [e2, wrap_id _ (by omega)]
theorem andI (n k : Nat) (hk : k ≤ 60) (h : n < 18446744073709551616) : bits .and .u64 (n : Int) ((2 ^ k - 1 : Nat) : Int) = ((n % 2 ^ k : Nat) : Int) := by
  have h1 := pow_le60 k hk
  rw [bits_and_u64_nat _ _ h (by omega), Nat.and_two_pow_sub_one_eq_mod]
theorem divI (n k : Nat) : ((n : Int) / 2 ^ k) = ((n / 2 ^ k : Nat) : Int) := by simp
theorem getD_snoc_lt (l : List Nat) (x j : Nat) (h : j < l.length) : (l ++ [x]).getD j 0 = l.getD j 0 := by
  rw [List.getD_eq_getElem?_getD, List.getD_eq_getElem?_getD, List.getElem?_append_left h]
theorem getD_snoc_eq (l : List Nat) (x j : Nat) (h : j = l.length) : (l ++ [x]).getD j 0 = x := by
  subst h
  rw [List.getD_eq_getElem?_getD]
  simp
/-- memory behind the digits that are put down -/
def MemR (done : List Nat) (ww : Nat) (tr : Bool) (D : Nat → Nat) (tr' : Bool) : Prop :=
  ww = min done.length 800 ∧ (∀ j, j < ww → D j = 48 + done.getD j 0) ∧ tr' = (tr || (done.drop 800).any (fun x => x != 0))
theorem memR_in {done : List Nat} {ww : Nat} {tr : Bool} {D : Nat → Nat} {tr' : Bool} (h : MemR done ww tr D tr') (hw : ww < 800) (x d : Nat) (hx : x = 48 + d) : MemR (done ++ [d]) (ww + 1) tr (fun j => if j = ww then x else D j) tr' := by
  obtain ⟨h1, h2, h3⟩ := h
  have hl : done.length = ww := by omega
  refine ⟨by rw [List.length_append]; simp; omega, fun j hj => ?_, ?_⟩
  · by_cases e : j = ww
    · subst e; simp only [if_true]; rw [getD_snoc_eq _ _ _ hl.symm]; exact hx
    · simp only [e, if_false]; rw [getD_snoc_lt _ _ _ (by omega)]; exact h2 j (by omega)
  · rw [h3, List.drop_eq_nil_of_le (by omega), List.drop_eq_nil_of_le (by rw [List.length_append]; simp; omega)]
theorem memR_out {done : List Nat} {ww : Nat} {tr : Bool} {D : Nat → Nat} {tr' : Bool} (h : MemR done ww tr D tr') (hw : ¬ ww < 800) (d : Nat) : MemR (done ++ [d]) ww tr D (tr' || (d != 0)) := by
  obtain ⟨h1, h2, h3⟩ := h
  have hl : 800 ≤ done.length := by omega
  refine ⟨by rw [List.length_append]; omega, fun j hj => ?_, ?_⟩
  · rw [getD_snoc_lt _ _ _ (by omega)]; exact h2 j hj
  · rw [h3, List.drop_append_of_le_length hl, List.any_append]; simp [Bool.or_assoc]
theorem memR_full {done : List Nat} {ww : Nat} {tr : Bool} {D : Nat → Nat} {tr' : Bool} (h : MemR done ww tr D tr') : (∀ j, j < ww → 48 ≤ D j) ∧ dsOf D ww = done.take 800 ∧ tr' = (tr || (done.drop 800).any (fun x => x != 0)) ∧ ww ≤ 800 := by
  obtain ⟨h1, h2, h3⟩ := h
  refine ⟨fun j hj => by rw [h2 j hj]; omega, ?_, h3, by omega⟩
  apply List.ext_getElem
  · simp [dsOf]; omega
  · intro i a b
    have hi : i < ww := by simpa [dsOf] using a
    simp only [dsOf, List.getElem_map, List.getElem_range, List.getElem_take]
    rw [h2 i hi, List.getD_eq_getElem?_getD, List.getElem?_eq_getElem (by omega)]
    simp
set_option maxRecDepth 100000 in
set_option maxHeartbeats 4000000 in
theorem rsh_any (w0 : World) (g : Nat) (hg : w0.heap.size ≤ g) (k : Nat) (hk1 : 1 ≤ k) (hk2 : k ≤ 60) (d : Dec) (w : World) (hI : Hid (DecIs w g d)) (hH : Hid (HeadNe d.ds)) (hdp0 : -1000000000000 ≤ d.dp) (hdp1 : d.dp ≤ 1000000000000) (hc : Hid (Ctx w0 w)) :
    Calls Tryd.prog 82 #[.pointer (some ⟨g, 0, none⟩), .int .u64 k] w fun e w' => e = .returned (.tuple #[]) ∧ DecIs w' g (rsh k d) ∧ Ctx w0 w' := by
  obtain ⟨D, hD0, hDv, hn800, hdg⟩ := hI.out
  obtain ⟨ds, dp, tr⟩ := d
  simp only at hD0 hDv hn800 hdg hdp0 hdp1
  have hcn := hD0.cN
  have HDV := Lib.hid hDv
  have HD0 := Lib.hid hD0
  have HDG := Lib.hid hdg
  clear hDv hD0 hdg hI
  have hl1 : 1 ≤ ds.length := by obtain ⟨d0, r0, e, _⟩ := hH.out; simp only at e; rw [e]; simp
  have hh1 : 1 ≤ ds.getD 0 0 := by obtain ⟨d0, r0, e, h0⟩ := hH.out; simp only at e; rw [e]; exact Nat.pos_of_ne_zero h0
  have HH1 := Lib.hid hh1
  clear hh1
  have hnI : (ds.length : Int) ≤ 800 := by omega
  have hnI0 : (0 : Int) ≤ (ds.length : Int) := by omega
  have hkc : (k : Int) < 64 := by omega
  go_enter Tryd.func82, Tryd.ntmps82
  go_wp2
  go_loopg [4, 6] ds.length (fun m r n wr => ∃ rr nn : Nat, rr + m = ds.length ∧ r = .int .i64 rr ∧ n = .int .u64 nn ∧ wr = w ∧ Hid (RsN k nn) ∧ Hid ((rr = 0 → nn = 0) ∧ (1 ≤ rr → 1 ≤ nn)) ∧ Hid (rsPick k (ds.length + 64) ds 0 = addR rr (rsPick k (ds.length - rr + 64) (ds.drop rr) nn)))
  case atStart => exact ⟨0, 0, by omega, rfl, rfl, rfl, Lib.hid (by unfold RsN; have := Nat.two_pow_pos k; omega), Lib.hid ⟨fun _ => rfl, fun h => by omega⟩, Lib.hid (by rw [addR_zero, Nat.sub_zero, List.drop_zero])⟩
  case round =>
    obtain ⟨rr, nn, hm, rfl, rfl, rfl, HN, HZ, HP⟩ := hrel
    by_cases hq : nn / 2 ^ k = 0
    · have hqb := divI_zero _ _ hq
      have HLT := Lib.hid (lt_of_div0 _ _ hq)
      have HQ := Lib.hid hq
      clear hq
      by_cases hrl : rr < ds.length
      · have hrb : ¬ (ds.length ≤ rr) := by omega
        have hd9 := dig_at ds HDG.out rr
        have hcd := HD0.out.cD (j := rr) (by omega)
        rw [HDV.out rr hrl] at hcd
        have hdc := drop_cons ds rr hrl
        have hp2 := HP.out
        rw [hdc, show ds.length - rr + 64 = (ds.length - (rr + 1) + 64) + 1 by omega, rsPick_cons k _ nn rr _ _ HQ.out] at hp2
        have hn2 := rsN_next k nn _ hd9 HLT.out
        have hz2 : 1 ≤ nn * 10 + ds.getD rr 0 := by
          rcases Nat.eq_zero_or_pos rr with e | e
          · subst e; have := HH1.out; omega
          · have := HZ.out.2 e; omega
        have HP2 := Lib.hid hp2
        have HN2 := Lib.hid hn2
        have HZ2 := Lib.hid hz2
        have hnums := rsNums nn (ds.getD rr 0) (by have := pow_le60 k hk2; have := HLT.out; omega)
        clear hp2 hn2 hz2 hdc
        generalize ds.getD rr 0 = dg at *
        generalize nn * 10 + dg = N at *
        go_wp2
        go_roundg (gk - 1)
        case measure => omega
        case rel => exact ⟨rr + 1, N, by omega, by go_num, rfl, rfl, HN2, Lib.hid ⟨fun h => by omega, fun _ => HZ2.out⟩, HP2⟩
      · obtain rfl : rr = ds.length := by omega
        have hrb : ds.length ≤ ds.length := Nat.le_refl _
        have hz := HZ.out.2 hl1
        have hzb : ((nn : Int) == 0) = false := by rw [beq_eq_false_iff_ne]; omega
        have hp3 := HP.out
        rw [List.drop_length, Nat.sub_self, Nat.zero_add] at hp3
        have HP3 := Lib.hid hp3
        clear hp3 HP
        go_wp2
        go_loopg [4, 6] 64 (fun m r n wr' => ∃ i nn : Nat, i + m = 64 ∧ r = .int .i64 ((ds.length : Int) + i) ∧ n = .int .u64 nn ∧ wr' = wr ∧ Hid (RsN k nn) ∧ Hid (10 ^ i ≤ nn) ∧ Hid (rsPick k (ds.length + 64) ds 0 = addR (ds.length + i) (rsPick k m [] nn)))
        case atStart => exact ⟨0, nn, by omega, by first | rfl | go_num, rfl, rfl, HN, Lib.hid (by omega), HP3⟩
        case round =>
          clear HP3 HN HZ hz hzb hqb HQ HLT hm
          obtain ⟨i, nn, hm, rfl, rfl, rfl, HN, H10, HP⟩ := hrel
          have hi19 : i ≤ 19 := by
            rcases Nat.lt_or_ge 19 i with h | h
            · have a1 := Nat.pow_le_pow_right (show 0 < 10 by decide) h
              have a2 := H10.out
              have a3 := rsN_le k nn hk2 HN.out
              have a4 : (100000000000000000000 : Nat) ≤ nn := Nat.le_trans a1 a2
              omega
            · exact h
          by_cases hq : nn / 2 ^ k = 0
          · have hqb := divI_zero _ _ hq
            have HLT := Lib.hid (lt_of_div0 _ _ hq)
            obtain ⟨m, rfl⟩ : ∃ m, gk = m + 1 := ⟨gk - 1, by omega⟩
            have hp2 := HP.out
            rw [rsPick_nil k m nn (ds.length + i) hq] at hp2
            have hn2 := rsN_next k nn 0 (by omega) HLT.out
            rw [Nat.add_zero] at hn2
            have h102 : 10 ^ (i + 1) ≤ nn * 10 := by rw [Nat.pow_succ]; exact Nat.mul_le_mul_right _ H10.out
            have HP2 := Lib.hid hp2
            have HN2 := Lib.hid hn2
            have H102 := Lib.hid h102
            have hnums := rsNums10 nn (by have := pow_le60 k hk2; have := HLT.out; omega)
            clear hp2 hn2 h102 hq
            generalize nn * 10 = N at *
            go_wp2
            go_roundg m
            case measure => omega
            case rel => exact ⟨i + 1, N, by omega, by go_num, rfl, rfl, HN2, H102, HP2⟩
          · have hqb := divI_ne _ _ hq
            have hp2 := HP.out
            rw [rsPick_stop k gk [] nn hq] at hp2
            have HPF : Hid (rsPick k (ds.length + 64) ds 0 = (nn, ds.length + i, ds.drop (ds.length + i))) := Lib.hid (by rw [hp2, List.drop_eq_nil_of_le (by omega)]; simp [addR])
            have HQ := Lib.hid hq
            obtain ⟨R, hR⟩ : ∃ R, R = ds.length + i := ⟨_, rfl⟩
            have hRI : (ds.length : Int) + i = R := by omega
            have hR1 : 1 ≤ R := by omega
            have hR2 : R ≤ 900 := by omega
            rw [← hR] at HPF
            clear hp2 hq H10 HP hm hi19 hR hrl hrb hnI0
            have hcp := HD0.out.cP
            have hfp := HD0.out.free (j := 801) (by omega)
            have hRI2 : (R : Int) ≤ 900 := by omega
            have hRI1 : 1 ≤ (R : Int) := by omega
            have hmask := maskI k hk2
            have HAND := Lib.hid (fun n h => andI n k hk2 h)
            generalize 2 ^ k - 1 = M at *
            have HSH := Lib.hid (show rsh k ⟨ds, dp, tr⟩ = trimD { ds := (rsOut k (ds.drop R) nn).take 800, dp := dp - ((R : Int) - 1), tr := tr || ((rsOut k (ds.drop R) nn).drop 800).any (fun x => x != 0) } from by unfold rsh; rw [HPF.out])
            have HOD := Lib.hid (rsOut_digs k (ds.drop R) nn (fun x hx => HDG.out x (List.mem_of_mem_drop hx)) HN.out)
            clear HPF HQ
            go_wp2
            go_loopg [4, 5, 6] (ds.length - R) (fun m r wv n wr' => ∃ (ww nn' : Nat) (D' : Nat → Nat) (done : List Nat), ds.length - (R + ww) = m ∧ (1 ≤ ww → R + ww ≤ ds.length) ∧ done.length = ww ∧ r = .int .i64 ((R : Int) + ww) ∧ wv = .int .i64 ww ∧ n = .int .u64 nn' ∧ Hid (RsN k nn') ∧ Hid (Dec0 wr' g D' ds.length (dp - (R - 1)) tr) ∧ Hid (Ctx w0 wr') ∧ Hid (∀ j, R + ww ≤ j → j < ds.length → D' j = 48 + ds.getD j 0) ∧ Hid (MemR done ww tr D' tr) ∧ Hid (rsOut k (ds.drop R) nn = done ++ rsOut k (ds.drop (R + ww)) nn'))
            case atStart => exact ⟨0, nn, D, [], by omega, fun h => by omega, rfl, by first | rfl | go_num, rfl, rfl, HN, Lib.hid (HD0.out.setP _), Lib.hid (hc.out.set hg _), Lib.hid (fun j _ h => HDV.out j h), Lib.hid ⟨by simp, fun j h => by omega, by simp⟩, Lib.hid (by rw [List.nil_append, Nat.add_zero])⟩
            case round =>
              clear hcn hcp hfp HN HD0 hc HDV HH1 hH hqb
              try clear hRI
              obtain ⟨ww, nn', D', done, hm, hwl, hdl, rfl, rfl, rfl, HN', HD, HC, HU, HW, HO⟩ := hrel
              have hcn := HD.out.cN
              have hdq := divI nn' k
              have hq9 := rsN_dig k nn' HN'.out
              have hand := HAND.out nn' (rsN_64 k nn' hk2 HN'.out)
              by_cases hrl : R + ww < ds.length
              · have hrb : (R : Int) + ww < ds.length := by omega
                have hd9 := dig_at ds HDG.out (R + ww)
                have hcd := HD.out.cD (j := R + ww) (by omega)
                rw [HU.out _ (by omega) hrl] at hcd
                have hcw := HD.out.cD (j := ww) (by omega)
                have hfw := HD.out.free (j := ww) (by omega)
                have hrb8 : (R : Int) + ww < 800 := by omega
                have hwb8 : (ww : Int) < 800 := by omega
                have hO2 := HO.out
                rw [drop_cons ds _ hrl, rsOut] at hO2
                have hn2 := rsN_mod k nn' _ hd9
                have hnums := rsNums (nn' % 2 ^ k) (ds.getD (R + ww) 0) (by have := rsN_le k _ hk2 hn2; omega)
                have HO2 := Lib.hid hO2
                have HN2 := Lib.hid hn2
                clear hO2 hn2
                generalize ds.getD (R + ww) 0 = dg at *
                generalize nn' % 2 ^ k * 10 + dg = N at *
                generalize nn' % 2 ^ k = q at *
                generalize nn' / 2 ^ k = dq at *
                go_wp2
                go_roundg (gk - 1)
                case measure => omega
                case rel => exact ⟨ww + 1, N, (fun j => if j = ww then dq + 48 else D' j), done ++ [dq], by omega, fun _ => by omega, by simp [hdl], by go_num, by go_num, rfl, HN2, Lib.hid (HD.out.setDv (by omega) (dq + 48) _ (by omega)), Lib.hid (HC.out.set hg _), Lib.hid (fun j h1 h2 => (if_neg (show ¬ (j = ww) by omega)).trans (HU.out j (by omega) h2)), Lib.hid (memR_in HW.out (by omega) _ _ (by omega)), Lib.hid (by rw [HO2.out, List.append_assoc]; rfl)⟩
              · have hrb : ¬ ((R : Int) + ww < ds.length) := by omega
                have hO2 := HO.out
                rw [show ds.drop (R + ww) = [] from List.drop_eq_nil_of_le (by omega), show rsOut k [] nn' = rsTail k 64 nn' from rfl] at hO2
                have HO3 := Lib.hid (show rsOut k (ds.drop R) nn = done ++ rsTail k (k + 1 + (63 - k)) nn' from by rw [show k + 1 + (63 - k) = 64 by omega]; exact hO2)
                clear hO2 HO HU hwl hdl hdq hq9 hand
                go_wp2
                go_loopg [5, 6] (k + 1) (fun m wv n wr' => ∃ (ww nn' : Nat) (D' : Nat → Nat) (tr' : Bool) (done : List Nat), wv = .int .i64 ww ∧ n = .int .u64 nn' ∧ ww ≤ 800 ∧ Hid (RsN k nn') ∧ Hid (RsD k m nn') ∧ Hid (Dec0 wr' g D' ds.length (dp - (R - 1)) tr') ∧ Hid (Ctx w0 wr') ∧ Hid (MemR done ww tr D' tr') ∧ Hid (rsOut k (ds.drop R) nn = done ++ rsTail k (m + (63 - k)) nn'))
                case atStart => exact ⟨ww, nn', D', tr, done, rfl, rfl, (memR_full HW.out).2.2.2, HN', Lib.hid (rsD_start k nn'), HD, HC, HW, HO3⟩
                case round =>
                  clear HN' HD HC HW HO3 hcn hrl hrb hm
                  obtain ⟨ww, nn', D', tr', done, rfl, rfl, hw8, HN', HR, HD, HC, HW, HO⟩ := hrel
                  by_cases hz : nn' = 0
                  · subst hz
                    have hb0 : decide ((0 : Int) < ((0 : Nat) : Int)) = false := by decide
                    have hb1 : decide ((0 : Int) < 0) = false := by decide
                    have hfn := HD.out.free (j := 800) (by omega)
                    have hcn := HD.out.cN
                    obtain ⟨m1, m2, m3, _⟩ := memR_full HW.out
                    have hO2 := HO.out
                    rw [rsTail_zero, List.append_nil] at hO2
                    have M1 := Lib.hid m1
                    have M2 := Lib.hid m2
                    have M3 := Lib.hid m3
                    have HO2 := Lib.hid hO2
                    clear m1 m2 m3 hO2 HO
                    go_wp2_with fail
                    refine (trim_any w0 g hg D' ww hw8 (dp - (R - 1)) tr' M1 _ (Lib.hid (HD.out.setN ww)) (Lib.hid (HC.out.set hg _))).mono ?_
                    rintro e w' ⟨rfl, hT⟩
                    go_wp2
                    go_end0
                    refine ⟨rfl, ?_⟩
                    rw [HSH.out, HO2.out, ← M3.out]
                    exact decIs_of_trim hT hw8 M1.out _ M2.out (fun x hx => HOD.out x (by rw [HO2.out]; exact List.mem_of_mem_take hx))
                  · have hzb : decide ((0 : Int) < (nn' : Int)) = true := decide_eq_true (by omega)
                    have hz1 : (0 : Int) < (nn' : Int) := by omega
                    have hgk : gk ≠ 0 := fun e => hz (HR.out.1 e)
                    obtain ⟨m, rfl⟩ : ∃ m, gk = m + 1 := ⟨gk - 1, by omega⟩
                    clear hgk
                    have hdq := divI nn' k
                    have hq9 := rsN_dig k nn' HN'.out
                    have hand := HAND.out nn' (rsN_64 k nn' hk2 HN'.out)
                    have hn2 := rsN_mod k nn' 0 (by omega)
                    rw [Nat.add_zero] at hn2
                    have hnums := rsNums10 (nn' % 2 ^ k) (by have := rsN_le k _ hk2 hn2; omega)
                    have hr2 := rsD_next k m nn' HR.out
                    have hO2 := HO.out
                    rw [show m + 1 + (63 - k) = (m + (63 - k)) + 1 by omega, rsTail_step k _ nn' hz] at hO2
                    have HO2 := Lib.hid hO2
                    have HN2 := Lib.hid hn2
                    have HR2 := Lib.hid hr2
                    clear hO2 hn2 hr2 HO HR HN'
                    generalize nn' % 2 ^ k * 10 = N at *
                    generalize nn' % 2 ^ k = q at *
                    generalize nn' / 2 ^ k = dq at *
                    by_cases hw : ww < 800
                    · have hwb : (ww : Int) < 800 := by omega
                      have hcw := HD.out.cD (j := ww) (by omega)
                      have hfw := HD.out.free (j := ww) (by omega)
                      go_wp2
                      go_roundg m
                      case measure => omega
                      case rel => exact ⟨ww + 1, N, (fun j => if j = ww then dq + 48 else D' j), tr', done ++ [dq], by go_num, rfl, by omega, HN2, HR2, Lib.hid (HD.out.setDv hw (dq + 48) _ (by omega)), Lib.hid (HC.out.set hg _), Lib.hid (memR_in HW.out hw _ _ (by omega)), Lib.hid (by rw [HO2.out, List.append_assoc]; rfl)⟩
                    · have hwb : ¬ ((ww : Int) < 800) := by omega
                      have hmo := memR_out HW.out hw dq
                      by_cases hd0 : dq = 0
                      · have hdb : decide ((0 : Int) < (dq : Int)) = false := decide_eq_false (by omega)
                        have hdb1 : ¬ ((0 : Int) < (dq : Int)) := by omega
                        rw [show (tr' || (dq != 0)) = tr' by rw [hd0]; simp] at hmo
                        have HMO := Lib.hid hmo
                        clear hmo hd0
                        go_wp2
                        go_roundg m
                        case measure => omega
                        case rel => exact ⟨ww, N, D', tr', done ++ [dq], rfl, rfl, hw8, HN2, HR2, HD, HC, HMO, Lib.hid (by rw [HO2.out, List.append_assoc]; rfl)⟩
                      · have hdb : decide ((0 : Int) < (dq : Int)) = true := decide_eq_true (by omega)
                        have hdb1 : (0 : Int) < (dq : Int) := by omega
                        rw [show (tr' || (dq != 0)) = true by simp [hd0]] at hmo
                        have HMO := Lib.hid hmo
                        have hft := HD.out.free (j := 803) (by omega)
                        have hct := HD.out.cT
                        clear hmo hd0
                        go_wp2
                        go_roundg m
                        case measure => omega
                        case rel => exact ⟨ww, N, D', true, done ++ [dq], rfl, rfl, hw8, HN2, HR2, Lib.hid HD.out.setT, Lib.hid (HC.out.set hg _), HMO, Lib.hid (by rw [HO2.out, List.append_assoc]; rfl)⟩
    · have hqb := divI_ne _ _ hq
      have hp2 := HP.out
      rw [rsPick_stop k _ _ nn hq] at hp2
      have hR1 : 1 ≤ rr := by
        rcases Nat.eq_zero_or_pos rr with e | e
        · have := HZ.out.1 e; subst this; simp at hq
        · exact e
      have HPF : Hid (rsPick k (ds.length + 64) ds 0 = (nn, rr, ds.drop rr)) := Lib.hid (by rw [hp2]; simp [addR])
      have HQ := Lib.hid hq
      obtain ⟨R, hR⟩ : ∃ R, R = rr := ⟨_, rfl⟩
      rw [← hR] at HPF
      have hR1 : 1 ≤ R := by omega
      have hR2 : R ≤ 900 := by omega
      subst hR
      clear hp2 hq HP hm HZ hnI0
      have hcp := HD0.out.cP
      have hfp := HD0.out.free (j := 801) (by omega)
      have hRI2 : (R : Int) ≤ 900 := by omega
      have hRI1 : 1 ≤ (R : Int) := by omega
      have hmask := maskI k hk2
      have HAND := Lib.hid (fun n h => andI n k hk2 h)
      generalize 2 ^ k - 1 = M at *
      have HSH := Lib.hid (show rsh k ⟨ds, dp, tr⟩ = trimD { ds := (rsOut k (ds.drop R) nn).take 800, dp := dp - ((R : Int) - 1), tr := tr || ((rsOut k (ds.drop R) nn).drop 800).any (fun x => x != 0) } from by unfold rsh; rw [HPF.out])
      have HOD := Lib.hid (rsOut_digs k (ds.drop R) nn (fun x hx => HDG.out x (List.mem_of_mem_drop hx)) HN.out)
      clear HPF HQ
      go_wp2
      go_loopg [4, 5, 6] (ds.length - R) (fun m r wv n wr' => ∃ (ww nn' : Nat) (D' : Nat → Nat) (done : List Nat), ds.length - (R + ww) = m ∧ (1 ≤ ww → R + ww ≤ ds.length) ∧ done.length = ww ∧ r = .int .i64 ((R : Int) + ww) ∧ wv = .int .i64 ww ∧ n = .int .u64 nn' ∧ Hid (RsN k nn') ∧ Hid (Dec0 wr' g D' ds.length (dp - (R - 1)) tr) ∧ Hid (Ctx w0 wr') ∧ Hid (∀ j, R + ww ≤ j → j < ds.length → D' j = 48 + ds.getD j 0) ∧ Hid (MemR done ww tr D' tr) ∧ Hid (rsOut k (ds.drop R) nn = done ++ rsOut k (ds.drop (R + ww)) nn'))
      case atStart => exact ⟨0, nn, D, [], by omega, fun h => by omega, rfl, by first | rfl | go_num, rfl, rfl, HN, Lib.hid (HD0.out.setP _), Lib.hid (hc.out.set hg _), Lib.hid (fun j _ h => HDV.out j h), Lib.hid ⟨by simp, fun j h => by omega, by simp⟩, Lib.hid (by rw [List.nil_append, Nat.add_zero])⟩
      case round =>
        clear hcn hcp hfp HN HD0 hc HDV HH1 hH hqb
        try clear hRI
        obtain ⟨ww, nn', D', done, hm, hwl, hdl, rfl, rfl, rfl, HN', HD, HC, HU, HW, HO⟩ := hrel
        have hcn := HD.out.cN
        have hdq := divI nn' k
        have hq9 := rsN_dig k nn' HN'.out
        have hand := HAND.out nn' (rsN_64 k nn' hk2 HN'.out)
        by_cases hrl : R + ww < ds.length
        · have hrb : (R : Int) + ww < ds.length := by omega
          have hd9 := dig_at ds HDG.out (R + ww)
          have hcd := HD.out.cD (j := R + ww) (by omega)
          rw [HU.out _ (by omega) hrl] at hcd
          have hcw := HD.out.cD (j := ww) (by omega)
          have hfw := HD.out.free (j := ww) (by omega)
          have hrb8 : (R : Int) + ww < 800 := by omega
          have hwb8 : (ww : Int) < 800 := by omega
          have hO2 := HO.out
          rw [drop_cons ds _ hrl, rsOut] at hO2
          have hn2 := rsN_mod k nn' _ hd9
          have hnums := rsNums (nn' % 2 ^ k) (ds.getD (R + ww) 0) (by have := rsN_le k _ hk2 hn2; omega)
          have HO2 := Lib.hid hO2
          have HN2 := Lib.hid hn2
          clear hO2 hn2
          generalize ds.getD (R + ww) 0 = dg at *
          generalize nn' % 2 ^ k * 10 + dg = N at *
          generalize nn' % 2 ^ k = q at *
          generalize nn' / 2 ^ k = dq at *
          go_wp2
          go_roundg (gk - 1)
          case measure => omega
          case rel => exact ⟨ww + 1, N, (fun j => if j = ww then dq + 48 else D' j), done ++ [dq], by omega, fun _ => by omega, by simp [hdl], by go_num, by go_num, rfl, HN2, Lib.hid (HD.out.setDv (by omega) (dq + 48) _ (by omega)), Lib.hid (HC.out.set hg _), Lib.hid (fun j h1 h2 => (if_neg (show ¬ (j = ww) by omega)).trans (HU.out j (by omega) h2)), Lib.hid (memR_in HW.out (by omega) _ _ (by omega)), Lib.hid (by rw [HO2.out, List.append_assoc]; rfl)⟩
        · have hrb : ¬ ((R : Int) + ww < ds.length) := by omega
          have hO2 := HO.out
          rw [show ds.drop (R + ww) = [] from List.drop_eq_nil_of_le (by omega), show rsOut k [] nn' = rsTail k 64 nn' from rfl] at hO2
          have HO3 := Lib.hid (show rsOut k (ds.drop R) nn = done ++ rsTail k (k + 1 + (63 - k)) nn' from by rw [show k + 1 + (63 - k) = 64 by omega]; exact hO2)
          clear hO2 HO HU hwl hdl hdq hq9 hand
          go_wp2
          go_loopg [5, 6] (k + 1) (fun m wv n wr' => ∃ (ww nn' : Nat) (D' : Nat → Nat) (tr' : Bool) (done : List Nat), wv = .int .i64 ww ∧ n = .int .u64 nn' ∧ ww ≤ 800 ∧ Hid (RsN k nn') ∧ Hid (RsD k m nn') ∧ Hid (Dec0 wr' g D' ds.length (dp - (R - 1)) tr') ∧ Hid (Ctx w0 wr') ∧ Hid (MemR done ww tr D' tr') ∧ Hid (rsOut k (ds.drop R) nn = done ++ rsTail k (m + (63 - k)) nn'))
          case atStart => exact ⟨ww, nn', D', tr, done, rfl, rfl, (memR_full HW.out).2.2.2, HN', Lib.hid (rsD_start k nn'), HD, HC, HW, HO3⟩
          case round =>
            clear HN' HD HC HW HO3 hcn hrl hrb hm
            obtain ⟨ww, nn', D', tr', done, rfl, rfl, hw8, HN', HR, HD, HC, HW, HO⟩ := hrel
            by_cases hz : nn' = 0
            · subst hz
              have hb0 : decide ((0 : Int) < ((0 : Nat) : Int)) = false := by decide
              have hb1 : decide ((0 : Int) < 0) = false := by decide
              have hfn := HD.out.free (j := 800) (by omega)
              have hcn := HD.out.cN
              obtain ⟨m1, m2, m3, _⟩ := memR_full HW.out
              have hO2 := HO.out
              rw [rsTail_zero, List.append_nil] at hO2
              have M1 := Lib.hid m1
              have M2 := Lib.hid m2
              have M3 := Lib.hid m3
              have HO2 := Lib.hid hO2
              clear m1 m2 m3 hO2 HO
              go_wp2_with fail
              refine (trim_any w0 g hg D' ww hw8 (dp - (R - 1)) tr' M1 _ (Lib.hid (HD.out.setN ww)) (Lib.hid (HC.out.set hg _))).mono ?_
              rintro e w' ⟨rfl, hT⟩
              go_wp2
              go_end0
              refine ⟨rfl, ?_⟩
              rw [HSH.out, HO2.out, ← M3.out]
              exact decIs_of_trim hT hw8 M1.out _ M2.out (fun x hx => HOD.out x (by rw [HO2.out]; exact List.mem_of_mem_take hx))
            · have hzb : decide ((0 : Int) < (nn' : Int)) = true := decide_eq_true (by omega)
              have hz1 : (0 : Int) < (nn' : Int) := by omega
              have hgk : gk ≠ 0 := fun e => hz (HR.out.1 e)
              obtain ⟨m, rfl⟩ : ∃ m, gk = m + 1 := ⟨gk - 1, by omega⟩
              clear hgk
              have hdq := divI nn' k
              have hq9 := rsN_dig k nn' HN'.out
              have hand := HAND.out nn' (rsN_64 k nn' hk2 HN'.out)
              have hn2 := rsN_mod k nn' 0 (by omega)
              rw [Nat.add_zero] at hn2
              have hnums := rsNums10 (nn' % 2 ^ k) (by have := rsN_le k _ hk2 hn2; omega)
              have hr2 := rsD_next k m nn' HR.out
              have hO2 := HO.out
              rw [show m + 1 + (63 - k) = (m + (63 - k)) + 1 by omega, rsTail_step k _ nn' hz] at hO2
              have HO2 := Lib.hid hO2
              have HN2 := Lib.hid hn2
              have HR2 := Lib.hid hr2
              clear hO2 hn2 hr2 HO HR HN'
              generalize nn' % 2 ^ k * 10 = N at *
              generalize nn' % 2 ^ k = q at *
              generalize nn' / 2 ^ k = dq at *
              by_cases hw : ww < 800
              · have hwb : (ww : Int) < 800 := by omega
                have hcw := HD.out.cD (j := ww) (by omega)
                have hfw := HD.out.free (j := ww) (by omega)
                go_wp2
                go_roundg m
                case measure => omega
                case rel => exact ⟨ww + 1, N, (fun j => if j = ww then dq + 48 else D' j), tr', done ++ [dq], by go_num, rfl, by omega, HN2, HR2, Lib.hid (HD.out.setDv hw (dq + 48) _ (by omega)), Lib.hid (HC.out.set hg _), Lib.hid (memR_in HW.out hw _ _ (by omega)), Lib.hid (by rw [HO2.out, List.append_assoc]; rfl)⟩
              · have hwb : ¬ ((ww : Int) < 800) := by omega
                have hmo := memR_out HW.out hw dq
                by_cases hd0 : dq = 0
                · have hdb : decide ((0 : Int) < (dq : Int)) = false := decide_eq_false (by omega)
                  have hdb1 : ¬ ((0 : Int) < (dq : Int)) := by omega
                  rw [show (tr' || (dq != 0)) = tr' by rw [hd0]; simp] at hmo
                  have HMO := Lib.hid hmo
                  clear hmo hd0
                  go_wp2
                  go_roundg m
                  case measure => omega
                  case rel => exact ⟨ww, N, D', tr', done ++ [dq], rfl, rfl, hw8, HN2, HR2, HD, HC, HMO, Lib.hid (by rw [HO2.out, List.append_assoc]; rfl)⟩
                · have hdb : decide ((0 : Int) < (dq : Int)) = true := decide_eq_true (by omega)
                  have hdb1 : (0 : Int) < (dq : Int) := by omega
                  rw [show (tr' || (dq != 0)) = true by simp [hd0]] at hmo
                  have HMO := Lib.hid hmo
                  have hft := HD.out.free (j := 803) (by omega)
                  have hct := HD.out.cT
                  clear hmo hd0
                  go_wp2
                  go_roundg m
                  case measure => omega
                  case rel => exact ⟨ww, N, D', true, done ++ [dq], rfl, rfl, hw8, HN2, HR2, Lib.hid HD.out.setT, Lib.hid (HC.out.set hg _), HMO, Lib.hid (by rw [HO2.out, List.append_assoc]; rfl)⟩
end Go.Proofs.YthhepfjjmilcnaaDoor
