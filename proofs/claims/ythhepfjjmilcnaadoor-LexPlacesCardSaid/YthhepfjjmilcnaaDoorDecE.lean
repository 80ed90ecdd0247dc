/- The walk of decimal.floatBits. -/
import Derived.Test.YthhepfjjmilcnaaDoorDecD
import Derived.Test.YthhepfjjmilcnaaDoorGoto
import Derived.Test.YthhepfjjmilcnaaDoorPdec5
namespace Go.Proofs.YthhepfjjmilcnaaDoor
open Go.RowKit Fl
theorem DecIs.neg {w : World} {g : Nat} {d : Dec} (h : DecIs w g d) : w.cell? ⟨g, 802, none⟩ = some (.bool false) := by
  obtain ⟨D, h0, _⟩ := h
  exact h0.cG
theorem results_tmp2 {fn : Func} {a b : Tmp} (h : fn.results = #[.tmp a, .tmp b]) (tmps : Array Value) (P : Program) (w : World) :
    (results fn tmps).run P w = .ok (.tuple #[tmps.getD a undef, tmps.getD b undef]) w := by simp [results, h]
theorem and_i64_2047 (e : Int) (h0 : 0 ≤ e) (h1 : e ≤ 2047) : bits .and .i64 e 2047 = e := by
  have key : ∀ j : Fin 2048, bits .and .i64 ((j.val : Nat) : Int) 2047 = ((j.val : Nat) : Int) := by decide +kernel
  have := key ⟨e.toNat, by omega⟩
  rwa [show ((e.toNat : Nat) : Int) = e by omega] at this
/-- the bits, as the walk writes them -/
theorem outBits (m : Nat) (e : Int) (hm : m < 18446744073709551616) (h0 : 0 ≤ e) (h1 : e ≤ 2047) :
    bits .or .u64 (bits .and .u64 (m : Int) 4503599627370495) (IntKind.u64.wrap (IntKind.u64.wrap (bits .and .i64 e 2047) * 4503599627370496)) = ((m % 4503599627370496 + e.toNat * 4503599627370496 : Nat) : Int) := by
  rw [and_i64_2047 e h0 h1]
  obtain ⟨j, rfl⟩ : ∃ j : Nat, e = j := ⟨e.toNat, by omega⟩
  rw [show (4503599627370495 : Int) = ((4503599627370495 : Nat) : Int) from rfl, bits_and_u64_nat _ _ hm (by decide), wrap_id _ (by omega), show ((j : Int) * 4503599627370496) = ((j * 4503599627370496 : Nat) : Int) by simp, wrap_id _ (by omega)]
  rw [show m &&& 4503599627370495 = m % 4503599627370496 from Nat.and_two_pow_sub_one_eq_mod m 52]
  have hlt : m % 4503599627370496 < 2 ^ 52 := Nat.mod_lt _ (by decide)
  rw [bits_or_u64_nat _ _ (by omega) (by omega)]
  have := Nat.two_pow_add_eq_or_of_lt hlt j
  rw [Int.toNat_natCast, Nat.or_comm, show j * 4503599627370496 = 2 ^ 52 * j by rw [Nat.mul_comm], ← this, Nat.add_comm]
theorem rint_lt (d : Dec) : rint d < 18446744073709551616 := by
  unfold rint
  split
  · decide
  · exact Nat.mod_lt _ (by decide)
theorem ptab_cell {w0 w : World} (hc : Hid (Ctx w0 w)) {b off : Nat} (hpc : ∀ i, i < 9 → w0.cell? ⟨b, off + i, none⟩ = some (.int .i64 ([1, 3, 6, 9, 13, 16, 19, 23, 26].getD i 0))) (q : Nat) (hq : q < 9) : w.cell? ⟨b, off + q, none⟩ = some (.int .i64 (ptabV q : Nat)) := by
  have h1 := hc.out.cell (hpc q hq)
  have h2 : ∀ j : Fin 9, (([1, 3, 6, 9, 13, 16, 19, 23, 26] : List Int).getD j.val 0) = ((ptabV j.val : Nat) : Int) := by decide
  rw [h1, h2 ⟨q, hq⟩]
theorem and_2p (R k : Nat) : R &&& 2 ^ k = R / 2 ^ k % 2 * 2 ^ k := by
  apply Nat.eq_of_testBit_eq
  intro i
  rw [Nat.testBit_and, Nat.testBit_two_pow]
  have hb : R.testBit k = decide (R / 2 ^ k % 2 = 1) := Nat.testBit_eq_decide_div_mod_eq
  rcases Nat.mod_two_eq_zero_or_one (R / 2 ^ k) with h | h
  · rw [h, Nat.zero_mul, Nat.zero_testBit]
    by_cases e : k = i
    · subst e; rw [hb, h]; rfl
    · simp [e]
  · rw [h, Nat.one_mul, Nat.testBit_two_pow]
    by_cases e : k = i
    · subst e; rw [hb, h]; simp
    · simp [e]
theorem and52 (R : Nat) (hR : R < 18446744073709551616) : bits .and .u64 (R : Int) 4503599627370496 = ((R / 4503599627370496 % 2 * 4503599627370496 : Nat) : Int) := by
  rw [show (4503599627370496 : Int) = ((4503599627370496 : Nat) : Int) from rfl, bits_and_u64_nat _ _ hR (by decide)]
  congr 1
  exact and_2p R 52
theorem and52_eq (R : Nat) (hR : R < 18446744073709551616) (h : R / 4503599627370496 % 2 = 0) : (bits .and .u64 (R : Int) 4503599627370496 == 0) = true := by
  rw [and52 R hR, h]; rfl
theorem and52_ne (R : Nat) (hR : R < 18446744073709551616) (h : ¬ (R / 4503599627370496 % 2 = 0)) : (bits .and .u64 (R : Int) 4503599627370496 == 0) = false := by
  rw [and52 R hR, beq_eq_false_iff_ne]; omega
set_option maxRecDepth 100000 in
set_option maxHeartbeats 8000000 in
theorem fbits_any (w0 : World) (g : Nat) (hg : w0.heap.size ≤ g) (d : Dec) (w : World) (hI : Hid (DecIs w g d)) (hH : Hid (d.ds ≠ [] → HeadNe d.ds)) (hdp0 : -1000000000 ≤ d.dp) (hdp1 : d.dp ≤ 1000000000) (hc : Hid (Ctx w0 w)) :
    Calls Tryd.prog 57 #[.pointer (some ⟨g, 0, none⟩), .pointer (some ⟨5, 0, none⟩)] w fun e w' => e = .returned (.tuple #[.int .u64 (fbits d).1, .bool (fbits d).2]) ∧ Below w0.heap.size w0 w' := by
  have hcn := hI.out.headN
  have hcp := hI.out.pt
  have hcg := hI.out.neg
  have hl8 := hI.out.len
  have hl8I : (d.ds.length : Int) ≤ 800 := by omega
  have hbi := hc.out.cell hc.out.laid.bias
  have hex := hc.out.cell hc.out.laid.expo
  have hma := hc.out.cell hc.out.laid.mant
  have hv0 := outBits 0 0 (by decide) (by decide) (by decide)
  have hvI := outBits 0 2047 (by decide) (by decide) (by decide)
  have HV0 := Lib.hid hv0
  have HVI := Lib.hid hvI
  clear hv0 hvI
  obtain ⟨pb, poff, pcap, hps, hpc⟩ := hc.out.laid.ptab
  have HPS := Lib.hid hps
  have HPC := Lib.hid hpc
  clear hps hpc
  go_enter Tryd.func57, Tryd.ntmps57
  by_cases h0 : d.ds = []
  · have hb : ((d.ds.length : Int) == 0) = true := by rw [h0]; rfl
    have HFB := Lib.hid (show fbits d = (0, false) from by rw [fbits, if_pos h0])
    go_wp2
    refine wp_scope_jumpsOnce fun J hJ => ?_
    have HJ0 := Lib.hid (hJ 0 _ · · rfl)
    have HJ1 := Lib.hid (hJ 1 _ · · rfl)
    clear hJ
    go_wp2
    go_step3
    go_wp2
    refine HJ0.out _ _ ?_
    go_wp2
    go_quiet (fail)
    go_wp2
    rw [Exit.noGoto_ret]
    refine bodyPost_ret (results_tmp2 rfl _ _ _) rfl ⟨?_, (hc.out.drewN _).bel⟩
    rw [HFB.out]
    exact congrArg (fun x => Ending.returned (.tuple #[.int .u64 x, .bool false])) HV0.out
  · have hh := hH.out h0
    have hb : ((d.ds.length : Int) == 0) = false := by rw [beq_eq_false_iff_ne]; have := headNe_len _ hh; omega
    have HH := Lib.hid hh
    clear hh hH
    by_cases h310 : 310 < d.dp
    · have HFB := Lib.hid (show fbits d = (9218868437227405312, true) from by rw [fbits, if_neg h0, if_pos h310])
      go_wp2
      refine wp_scope_jumpsOnce fun J hJ => ?_
      have HJ0 := Lib.hid (hJ 0 _ · · rfl)
      have HJ1 := Lib.hid (hJ 1 _ · · rfl)
      clear hJ
      go_wp2
      go_step3
      go_wp2
      refine HJ1.out _ _ ?_
      go_wp2
      go_quiet (fail)
      go_wp2
      go_step3
      go_wp2
      go_quiet (fail)
      go_wp2
      rw [Exit.noGoto_ret]
      refine bodyPost_ret (results_tmp2 rfl _ _ _) rfl ⟨?_, (hc.out.drewN _).bel⟩
      rw [HFB.out]
      exact congrArg (fun x => Ending.returned (.tuple #[.int .u64 x, .bool true])) HVI.out
    · by_cases h330 : d.dp < -330
      · have HFB := Lib.hid (show fbits d = (0, false) from by rw [fbits, if_neg h0, if_neg h310, if_pos h330])
        go_wp2
        refine wp_scope_jumpsOnce fun J hJ => ?_
        have HJ0 := Lib.hid (hJ 0 _ · · rfl)
        have HJ1 := Lib.hid (hJ 1 _ · · rfl)
        clear hJ
        go_wp2
        go_step3
        go_wp2
        refine HJ0.out _ _ ?_
        go_wp2
        go_quiet (fail)
        go_wp2
        rw [Exit.noGoto_ret]
        refine bodyPost_ret (results_tmp2 rfl _ _ _) rfl ⟨?_, (hc.out.drewN _).bel⟩
        rw [HFB.out]
        exact congrArg (fun x => Ending.returned (.tuple #[.int .u64 x, .bool false])) HV0.out
      · have HFB := Lib.hid (show fbits d = fb4 (fb3 (fb2 (m2 (fb1 (m1 d) d 0).1) (fb1 (m1 d) d 0).1 (fb1 (m1 d) d 0).2)) from by rw [fbits, if_neg h0, if_neg h310, if_neg h330])
        have hd1 : -330 ≤ d.dp := by omega
        have hd2 : d.dp ≤ 310 := by omega
        have hm1 := m1_le d hd2
        have hn310 : decide (310 < d.dp) = false := decide_eq_false h310
        have hn330 : decide (d.dp < -330) = false := decide_eq_false h330
        go_wp2
        refine wp_scope_jumpsOnce fun J hJ => ?_
        have HJ0 := Lib.hid (hJ 0 _ · · rfl)
        have HJ1 := Lib.hid (hJ 1 _ · · rfl)
        clear hJ
        go_wp2
        clear hn310 hn330 h310 h330 hb h0
        go_loopg [6] (m1 d) (fun m ev wr => ∃ (d' : Dec) (e : Int), ev = .int .i64 e ∧ 0 ≤ e ∧ e + 27 * m ≤ 27 * 621 ∧ m ≤ 621 ∧ d.dp - 900 * (621 - m) ≤ d'.dp + 0 ∧ d'.dp ≤ 310 ∧ m1 d' ≤ m ∧ Hid (HeadNe d'.ds) ∧ Hid (DecIs wr g d') ∧ Hid (Ctx w0 wr) ∧ Hid (fb1 (m1 d) d 0 = fb1 m d' e))
        case atStart => exact ⟨d, 0, rfl, by omega, by omega, hm1, by omega, hd2, Nat.le_refl _, HH, hI, hc, Lib.hid rfl⟩
        case round =>
          clear hI hc HH hcn hcp hcg hl8 hl8I hbi hex hma
          obtain ⟨d', e, rfl, he0, he1, hm6, hp0, hp1, hmm, HH, HI, HC, HF⟩ := hrel
          have hcn := HI.out.headN
          have hps := HC.out.cell HPS.out
          by_cases hpos : 0 < d'.dp
          · have hnx := m1_next d' HH.out HI.out.digs HI.out.len hpos
            obtain ⟨m, rfl⟩ : ∃ m, gk = m + 1 := ⟨gk - 1, by omega⟩
            have HF2 := Lib.hid (show fb1 (m1 d) d 0 = fb1 m (rsh (ptabV d'.dp.toNat) d') (e + ptabV d'.dp.toNat) from by rw [HF.out, fb1_step _ _ _ hpos])
            have hcp := HI.out.pt
            obtain ⟨q, hq⟩ : ∃ q : Nat, d'.dp = q := ⟨d'.dp.toNat, by omega⟩
            obtain ⟨pv1, pv2, _⟩ := ptabV_ok q
            obtain ⟨s1, s2, s3, _, _⟩ := rsh_spec (ptabV q) pv1 (by omega) d' HH.out HI.out.digs HI.out.len
            rw [hq, Int.toNat_natCast] at HF2 hnx
            rw [hq] at hcp s2 s3 hp0 hp1
            have hqp : (0 : Int) < q := by omega
            have hqI : (q : Int) ≤ 310 := by omega
            have heI : e ≤ 16767 := by omega
            have hpvI : (ptabV q : Int) ≤ 27 := by omega
            have hpvI0 : 1 ≤ (ptabV q : Int) := by omega
            by_cases h9 : 9 ≤ q
            · have h9b : (9 : Int) ≤ q := by omega
              have hV : ptabV q = 27 := by rw [ptabV, if_pos h9]
              rw [hV] at HF2 hnx s1 s2 s3
              clear pv1 pv2 hpvI hpvI0
              go_wp2
              go_quiet (fail)
              go_wp2_with fail
              refine (shift_r w0 g hg 27 (by decide) (by decide) d' _ (Lib.hid (HI.out.drewN _)) HH (by omega) (by omega) (Lib.hid (HC.out.drewN _))).mono ?_
              rintro e' w' ⟨rfl, h1, h2, _⟩
              rw [shR_le 27 _ (by decide)] at h1
              have H1 := Lib.hid h1
              have H2 := Lib.hid h2
              clear h1 h2
              go_wp2
              go_roundg m
              case measure => omega
              case rel => exact ⟨rsh 27 d', e + 27, by go_num, by omega, by omega, by omega, by omega, by omega, by omega, Lib.hid s1, H1, H2, HF2⟩
            · have h9b : ¬ ((9 : Int) ≤ q) := by omega
              have h9c : (q : Int) < 9 := by omega
              have hpc := ptab_cell HC HPC.out q (by omega)
              generalize ptabV q = N at *
              go_wp2
              go_quiet (fail)
              go_wp2
              go_quiet (fail)
              go_wp2_with fail
              refine (shift_r w0 g hg N pv1 (by omega) d' _ (Lib.hid (HI.out.drewN _)) HH (by omega) (by omega) (Lib.hid (HC.out.drewN _))).mono ?_
              rintro e' w' ⟨rfl, h1, h2, _⟩
              rw [shR_le N _ (by omega)] at h1
              have H1 := Lib.hid h1
              have H2 := Lib.hid h2
              clear h1 h2
              go_wp2
              go_roundg m
              case measure => omega
              case rel => exact ⟨rsh N d', e + N, by go_num, by omega, by omega, by omega, by omega, by omega, by omega, Lib.hid s1, H1, H2, HF2⟩
          · have hpb : decide (0 < d'.dp) = false := decide_eq_false hpos
            have hcp := HI.out.pt
            have HFB2 := Lib.hid (show fbits d = fb4 (fb3 (fb2 (m2 d') d' e)) from by rw [HFB.out, HF.out, fb1_stop _ _ _ hpos])
            have hF2 := m2_le d'
            have hF3 : m2 d' ≤ 11184610 := by omega
            have hdp2 : -559230 ≤ d'.dp := by omega
            have hdp3 : d'.dp ≤ 60 := by omega
            have he2 : e ≤ 16767 := by omega
            clear HFB HF hF2
            obtain ⟨F2, hF4⟩ : ∃ F2, m2 d' = F2 := ⟨_, rfl⟩
            obtain ⟨d2, hd2e⟩ : ∃ d2, d' = d2 := ⟨_, rfl⟩
            obtain ⟨e2, he2e⟩ : ∃ e2, e = e2 := ⟨_, rfl⟩
            have HFB3 := Lib.hid (show fbits d = fb4 (fb3 (fb2 F2 d2 e2)) from by rw [HFB2.out, hF4, hd2e, he2e])
            have HS0 := Lib.hid (show fb2 F2 d2 e2 = fb2 F2 d' e from by rw [hd2e, he2e])
            rw [hF4] at hF3
            clear HFB2 hd2e he2e
            go_wp2
            go_loopg [6] F2 (fun m ev wr => ∃ (d' : Dec) (e : Int), ev = .int .i64 e ∧ e ≤ 16767 ∧ -27 * ((F2 : Int) - m) ≤ e ∧ m ≤ F2 ∧ -559230 ≤ d'.dp ∧ d'.dp ≤ 60 ∧ m2 d' ≤ m ∧ Hid (HeadNe d'.ds) ∧ Hid (DecIs wr g d') ∧ Hid (Ctx w0 wr) ∧ Hid (fb2 F2 d2 e2 = fb2 m d' e))
            case atStart => exact ⟨d', e, rfl, he2, by omega, Nat.le_refl _, hdp2, hdp3, by omega, HH, HI, HC, HS0⟩
            case round =>
              clear HS0 HH HI HC hcn hcp hps hpb hpos hmm hp0 hp1 he1 he0 hm6 hF4 hdp2 hdp3 he2
              obtain ⟨d', e, rfl, he1, he0, hmF, hp0, hp1, hmm, HH, HI, HC, HF⟩ := hrel
              have hcn := HI.out.headN
              have hcp := HI.out.pt
              have hps := HC.out.cell HPS.out
              have hbi := HC.out.cell HC.out.laid.bias
              have hex := HC.out.cell HC.out.laid.expo
              have hma := HC.out.cell HC.out.laid.mant
              have hcg := HI.out.neg
              have hl1 := headNe_len _ HH.out
              have hcd := HI.out.dig (j := 0) hl1
              have hd9 := dig_at d'.ds HI.out.digs 0
              by_cases hless : lessHalf d'
              · have hnx := m2_next d' HH.out HI.out.digs hless
                obtain ⟨m, rfl⟩ : ∃ m, gk = m + 1 := ⟨gk - 1, by omega⟩
                have HF2 := Lib.hid (show fb2 F2 d2 e2 = fb2 m (lsh (ptabV (-d'.dp).toNat) d') (e - ptabV (-d'.dp).toNat) from by rw [HF.out, fb2_step _ _ _ hless])
                have hneg : d'.dp ≤ 0 := by unfold lessHalf at hless; omega
                obtain ⟨q, hq⟩ : ∃ q : Nat, d'.dp = -(q : Int) := ⟨(-d'.dp).toNat, by omega⟩
                have hq2 : (-d'.dp).toNat = q := by omega
                rw [hq2] at HF2 hnx
                obtain ⟨pv1, pv2, _⟩ := ptabV_ok q
                obtain ⟨s1, s2, s3, _⟩ := lsh_spec (ptabV q) pv1 (by omega) d' HH.out HI.out.digs
                unfold lessHalf at hless
                rw [hq] at hcp s2 s3 hless hp0 hp1
                have heI : -301984500 ≤ e := by omega
                have hpvI : (ptabV q : Int) ≤ 27 := by omega
                have hpvI0 : 1 ≤ (ptabV q : Int) := by omega
                have hqI : (q : Int) ≤ 559230 := by omega
                clear hq2 hcn hbi hex hma hcg HF
                have hpc := fun h => ptab_cell HC HPC.out q h
                have HPCQ := Lib.hid hpc
                clear hpc
                by_cases h9 : 9 ≤ q
                · have h9b : (9 : Int) ≤ q := by omega
                  have hq1 : -(q : Int) < 0 := by omega
                  have hq1b : decide (-(q : Int) < 0) = true := decide_eq_true hq1
                  have hq1c : (0 : Int) < q := by omega
                  have hV : ptabV q = 27 := by rw [ptabV, if_pos h9]
                  rw [hV] at HF2 hnx s1 s2 s3
                  clear pv1 pv2 hpvI hpvI0 HPCQ hV hless
                  go_wp2
                  go_quiet (fail)
                  go_wp2_with fail
                  refine (shift_l w0 g hg 27 (by omega) (by omega) d' _ (Lib.hid (HI.out.drewN _)) HH (by omega) (by omega) (Lib.hid (HC.out.drewN _))).mono ?_
                  rintro e' w' ⟨rfl, h1, h2⟩
                  have H1 := Lib.hid h1
                  have H2 := Lib.hid h2
                  clear h1 h2
                  go_wp2
                  go_roundg m
                  case measure => omega
                  case rel => exact ⟨lsh 27 d', e - 27, by go_num, by omega, by omega, by omega, by omega, by omega, by omega, Lib.hid s1, H1, H2, HF2⟩
                · have h9b : ¬ ((9 : Int) ≤ q) := by omega
                  have h9c : (q : Int) < 9 := by omega
                  have hpc := HPCQ.out (by omega)
                  by_cases hq0 : q = 0
                  · subst hq0
                    have hd5 : d'.ds.getD 0 0 < 5 := by omega
                    have hV : ptabV 0 = 1 := by decide
                    rw [hV] at HF2 hnx s1 s2 s3 hpc
                    have hpc2 : wr.cell? ⟨pb, poff, none⟩ = some (.int .i64 1) := hpc
                    generalize d'.ds.getD 0 0 = a0 at *
                    have hab : decide (((48 + a0 : Nat) : Int) < 53) = true := decide_eq_true (by omega)
                    have hab2 : (48 : Int) + a0 < 53 := by omega
                    clear pv1 pv2 hpvI hpvI0 HPCQ hV hless
                    go_wp2
                    go_quiet (fail)
                    go_wp2
                    go_quiet (fail)
                    go_wp2_with fail
                    refine (shift_l w0 g hg 1 (by omega) (by omega) d' _ (Lib.hid (HI.out.drewN _)) HH (by omega) (by omega) (Lib.hid (HC.out.drewN _))).mono ?_
                    rintro e' w' ⟨rfl, h1, h2⟩
                    have H1 := Lib.hid h1
                    have H2 := Lib.hid h2
                    clear h1 h2
                    go_wp2
                    go_roundg m
                    case measure => omega
                    case rel => exact ⟨lsh 1 d', e - 1, by go_num, by omega, by omega, by omega, by omega, by omega, by omega, Lib.hid s1, H1, H2, HF2⟩
                  · have hq1 : -(q : Int) < 0 := by omega
                    have hq1b : decide (-(q : Int) < 0) = true := decide_eq_true hq1
                    have hq1c : (0 : Int) < q := by omega
                    clear HPCQ hless
                    generalize ptabV q = N at *
                    go_wp2
                    go_quiet (fail)
                    go_wp2
                    go_quiet (fail)
                    go_wp2_with fail
                    refine (shift_l w0 g hg N (by omega) (by omega) d' _ (Lib.hid (HI.out.drewN _)) HH (by omega) (by omega) (Lib.hid (HC.out.drewN _))).mono ?_
                    rintro e' w' ⟨rfl, h1, h2⟩
                    have H1 := Lib.hid h1
                    have H2 := Lib.hid h2
                    clear h1 h2
                    go_wp2
                    go_roundg m
                    case measure => omega
                    case rel => exact ⟨lsh N d', e - N, by go_num, by omega, by omega, by omega, by omega, by omega, by omega, Lib.hid s1, H1, H2, HF2⟩
              · have hpos0 : ¬ (d'.dp < 0) := fun h => hless (.inl h)
                have hpos0b : decide (d'.dp < 0) = false := decide_eq_false hpos0
                by_cases hz : d'.dp = 0
                · have h5 : 5 ≤ d'.ds.getD 0 0 := by
                    rcases Nat.lt_or_ge (d'.ds.getD 0 0) 5 with h | h
                    · exact absurd (.inr ⟨hz, h⟩) hless
                    · exact h
                  have hzb : (d'.dp == 0) = true := by rw [hz]; rfl
                  generalize d'.ds.getD 0 0 = a0 at *
                  have hab : decide (((48 + a0 : Nat) : Int) < 53) = false := decide_eq_false (by omega)
                  have hab2 : ¬ ((48 : Int) + a0 < 53) := by omega
                  have HFB4 := Lib.hid (show fbits d = fb4 (fb3 (d', e)) from by rw [HFB3.out, HF.out, fb2_stop _ _ _ hless])
                  have heI : -301984500 ≤ e := by omega
                  have hwl := HI.out.len
                  clear HFB3 HF hmm
                  by_cases h3 : e - 1 < -1022
                  · obtain ⟨n, hn⟩ : ∃ n : Nat, -1022 - (e - 1) = n := ⟨(-1022 - (e - 1)).toNat, by omega⟩
                    have hn2 : (-1022 - (e - 1)).toNat = n := by omega
                    have h3b : decide (e - 1 < -1022) = true := decide_eq_true h3
                    have he9 : e - 1 + n = -1022 := by omega
                    have HFB5 := Lib.hid (show fbits d = fb4 (shR n d', -1022) from by rw [HFB4.out, fb3, if_pos h3, hn2])
                    have hn9 : (n : Int) ≤ 1000000000 := by omega
                    have hn0 : (1 : Int) ≤ n := by omega
                    go_wp2_with fail
                    refine (shift_r w0 g hg n (by omega) (by omega) d' _ HI HH (by omega) (by omega) HC).mono ?_
                    rintro e' w4 ⟨rfl, h1, h2, h4, h5, h6⟩
                    have H4 := Lib.hid h1
                    have C4 := Lib.hid h2
                    have HH4 := Lib.hid h4
                    have hbi4 := C4.out.cell C4.out.laid.bias
                    have hex4 := C4.out.cell C4.out.laid.expo
                    have hma4 := C4.out.cell C4.out.laid.mant
                    have hwl4 := H4.out.len
                    clear h1 h2 h4 HFB4
                    generalize shR n d' = d4 at *
                    have h1024 : ¬ (1024 ≤ (-1022)) := by omega
                    have HFB6 := Lib.hid (show fbits d = (if rint (lsh 53 d4) = 9007199254740992 then (if 1024 ≤ (-1021) then (9218868437227405312, true) else (fbOut 4503599627370496 ((-1021)), false)) else (fbOut (rint (lsh 53 d4)) (if rint (lsh 53 d4) / 4503599627370496 % 2 = 0 then -1023 else (-1022)), false)) from by rw [HFB5.out, fb4, if_neg h1024, show (-1022) + 1 = (-1021) by omega])
                    obtain ⟨l1, l2, l3, _⟩ := lsh_spec 53 (by omega) (by omega) d4 HH4.out H4.out.digs
                    go_wp2
                    go_quiet (fail)
                    go_wp2_with fail
                    refine (shift_l w0 g hg 53 (by omega) (by omega) d4 _ (Lib.hid (H4.out.drewN _)) HH4 (by omega) (by omega) (Lib.hid (C4.out.drewN _))).mono ?_
                    rintro e' w5 ⟨rfl, h1, h2⟩
                    have H5 := Lib.hid h1
                    have C5 := Lib.hid h2
                    clear h1 h2
                    go_wp2_with fail
                    refine (rint_any g (lsh 53 d4) _ H5 (by omega) (by omega)).mono ?_
                    rintro e' w6 ⟨rfl, q6, rfl⟩
                    have hR := rint_lt (lsh 53 d4)
                    have hma5 := C5.out.cell C5.out.laid.mant
                    have hbi5 := C5.out.cell C5.out.laid.bias
                    have hex5 := C5.out.cell C5.out.laid.expo
                    have hcg5 := H5.out.neg
                    generalize rint (lsh 53 d4) = R at *
                    clear HFB5 l1 l2 l3
                    by_cases hm53 : R = 9007199254740992
                    · subst hm53
                      have hka : (bits BinOp.and IntKind.u64 4503599627370496 4503599627370496 == 0) = false := by decide
                      have h10 : ¬ (1024 ≤ (-1021)) := by omega
                      have HFB9 := Lib.hid (show fbits d = (fbOut 4503599627370496 ((-1021)), false) from by rw [HFB6.out, if_pos rfl, if_neg h10])
                      have hvv := outBits 4503599627370496 (2) (by omega) (by omega) (by omega)
                      have HVV := Lib.hid (show _ = ((fbOut 4503599627370496 ((-1021)) : Nat) : Int) from hvv)
                      clear hvv
                      go_wp2
                      go_quiet (fail)
                      go_wp2
                      go_step3
                      go_wp2
                      refine HJ0.out _ _ ?_
                      go_wp2
                      go_quiet (fail)
                      go_wp2
                      rw [Exit.noGoto_ret]
                      refine bodyPost_ret (results_tmp2 rfl _ _ _) rfl ⟨?_, (C5.out.drewN _).bel⟩
                      rw [HFB9.out]
                      exact congrArg (fun x => Ending.returned (.tuple #[.int .u64 x, .bool false])) HVV.out
                    · have hrb : ((R : Int) == 9007199254740992) = false := by rw [beq_eq_false_iff_ne]; omega
                      have HM53 := Lib.hid hm53
                      by_cases hden : R / 4503599627370496 % 2 = 0
                      · have hka := and52_eq R hR hden
                        have HFB9 := Lib.hid (show fbits d = (fbOut R (-1023), false) from by rw [HFB6.out, if_neg hm53, if_pos hden])
                        have hvv := outBits R 0 hR (by omega) (by omega)
                        have HVV := Lib.hid (show _ = ((fbOut R (-1023) : Nat) : Int) from hvv)
                        clear hvv HFB6
                        go_wp2
                        go_step3
                        go_wp2
                        refine HJ0.out _ _ ?_
                        go_wp2
                        go_quiet (fail)
                        go_wp2
                        rw [Exit.noGoto_ret]
                        refine bodyPost_ret (results_tmp2 rfl _ _ _) rfl ⟨?_, (C5.out.drewN _).bel⟩
                        rw [HFB9.out]
                        exact congrArg (fun x => Ending.returned (.tuple #[.int .u64 x, .bool false])) HVV.out
                      · have hka := and52_ne R hR hden
                        have HFB9 := Lib.hid (show fbits d = (fbOut R (-1022), false) from by rw [HFB6.out, if_neg hm53, if_neg hden])
                        have hvv := outBits R (1) hR (by omega) (by omega)
                        have HVV := Lib.hid (show _ = ((fbOut R (-1022) : Nat) : Int) from hvv)
                        clear hvv HFB6
                        go_wp2
                        go_step3
                        go_wp2
                        refine HJ0.out _ _ ?_
                        go_wp2
                        go_quiet (fail)
                        go_wp2
                        rw [Exit.noGoto_ret]
                        refine bodyPost_ret (results_tmp2 rfl _ _ _) rfl ⟨?_, (C5.out.drewN _).bel⟩
                        rw [HFB9.out]
                        exact congrArg (fun x => Ending.returned (.tuple #[.int .u64 x, .bool false])) HVV.out
                  · have h3b : decide (e - 1 < -1022) = false := decide_eq_false h3
                    have HFB5 := Lib.hid (show fbits d = fb4 (d', e - 1) from by rw [HFB4.out, fb3, if_neg h3])
                    clear HFB4
                    by_cases h1024 : 1024 ≤ (e - 1)
                    · have hov : decide (2047 ≤ (e - 1) + 1023) = true := decide_eq_true (by omega)
                      have hov2 : 2047 ≤ (e - 1) + 1023 := by omega
                      have HFB9 := Lib.hid (show fbits d = (9218868437227405312, true) from by rw [HFB5.out, fb4, if_pos h1024])
                      go_wp2
                      go_quiet (fail)
                      go_wp2
                      go_step3
                      go_wp2
                      refine HJ1.out _ _ ?_
                      go_wp2
                      go_quiet (fail)
                      go_wp2
                      go_step3
                      go_wp2
                      go_quiet (fail)
                      go_wp2
                      rw [Exit.noGoto_ret]
                      refine bodyPost_ret (results_tmp2 rfl _ _ _) rfl ⟨?_, (HC.out.drewN _).bel⟩
                      rw [HFB9.out]
                      exact congrArg (fun x => Ending.returned (.tuple #[.int .u64 x, .bool true])) HVI.out
                    · have hov : decide (2047 ≤ (e - 1) + 1023) = false := decide_eq_false (by omega)
                      have hov2 : ¬ (2047 ≤ (e - 1) + 1023) := by omega
                      have HFB6 := Lib.hid (show fbits d = (if rint (lsh 53 d') = 9007199254740992 then (if 1024 ≤ e then (9218868437227405312, true) else (fbOut 4503599627370496 (e), false)) else (fbOut (rint (lsh 53 d')) (if rint (lsh 53 d') / 4503599627370496 % 2 = 0 then -1023 else (e - 1)), false)) from by rw [HFB5.out, fb4, if_neg h1024, show (e - 1) + 1 = e by omega])
                      obtain ⟨l1, l2, l3, _⟩ := lsh_spec 53 (by omega) (by omega) d' HH.out HI.out.digs
                      go_wp2
                      go_quiet (fail)
                      go_wp2_with fail
                      refine (shift_l w0 g hg 53 (by omega) (by omega) d' _ (Lib.hid (HI.out.drewN _)) HH (by omega) (by omega) (Lib.hid (HC.out.drewN _))).mono ?_
                      rintro e' w5 ⟨rfl, h1, h2⟩
                      have H5 := Lib.hid h1
                      have C5 := Lib.hid h2
                      clear h1 h2
                      go_wp2_with fail
                      refine (rint_any g (lsh 53 d') _ H5 (by omega) (by omega)).mono ?_
                      rintro e' w6 ⟨rfl, q6, rfl⟩
                      have hR := rint_lt (lsh 53 d')
                      have hma5 := C5.out.cell C5.out.laid.mant
                      have hbi5 := C5.out.cell C5.out.laid.bias
                      have hex5 := C5.out.cell C5.out.laid.expo
                      have hcg5 := H5.out.neg
                      generalize rint (lsh 53 d') = R at *
                      clear HFB5 l1 l2 l3
                      by_cases hm53 : R = 9007199254740992
                      · subst hm53
                        have hka : (bits BinOp.and IntKind.u64 4503599627370496 4503599627370496 == 0) = false := by decide
                        by_cases h10 : 1024 ≤ e
                        · have HFB9 := Lib.hid (show fbits d = (9218868437227405312, true) from by rw [HFB6.out, if_pos rfl, if_pos h10])
                          have hov3 : 2047 ≤ e + 1023 := by omega
                          have hov4 : decide (2047 ≤ e + 1023) = true := decide_eq_true hov3
                          go_wp2
                          go_quiet (fail)
                          go_wp2
                          go_step3
                          go_wp2
                          refine HJ1.out _ _ ?_
                          go_wp2
                          go_quiet (fail)
                          go_wp2
                          go_step3
                          go_wp2
                          go_quiet (fail)
                          go_wp2
                          rw [Exit.noGoto_ret]
                          refine bodyPost_ret (results_tmp2 rfl _ _ _) rfl ⟨?_, (C5.out.drewN _).bel⟩
                          rw [HFB9.out]
                          exact congrArg (fun x => Ending.returned (.tuple #[.int .u64 x, .bool true])) HVI.out
                        · have hov3 : ¬ (2047 ≤ e + 1023) := by omega
                          have hov4 : decide (2047 ≤ e + 1023) = false := decide_eq_false hov3
                          have HFB9 := Lib.hid (show fbits d = (fbOut 4503599627370496 (e), false) from by rw [HFB6.out, if_pos rfl, if_neg h10])
                          have hvv := outBits 4503599627370496 (e + 1023) (by omega) (by omega) (by omega)
                          have HVV := Lib.hid (show _ = ((fbOut 4503599627370496 (e) : Nat) : Int) from hvv)
                          clear hvv
                          go_wp2
                          go_quiet (fail)
                          go_wp2
                          go_step3
                          go_wp2
                          refine HJ0.out _ _ ?_
                          go_wp2
                          go_quiet (fail)
                          go_wp2
                          rw [Exit.noGoto_ret]
                          refine bodyPost_ret (results_tmp2 rfl _ _ _) rfl ⟨?_, (C5.out.drewN _).bel⟩
                          rw [HFB9.out]
                          exact congrArg (fun x => Ending.returned (.tuple #[.int .u64 x, .bool false])) HVV.out
                      · have hrb : ((R : Int) == 9007199254740992) = false := by rw [beq_eq_false_iff_ne]; omega
                        have HM53 := Lib.hid hm53
                        by_cases hden : R / 4503599627370496 % 2 = 0
                        · have hka := and52_eq R hR hden
                          have HFB9 := Lib.hid (show fbits d = (fbOut R (-1023), false) from by rw [HFB6.out, if_neg hm53, if_pos hden])
                          have hvv := outBits R 0 hR (by omega) (by omega)
                          have HVV := Lib.hid (show _ = ((fbOut R (-1023) : Nat) : Int) from hvv)
                          clear hvv HFB6
                          go_wp2
                          go_step3
                          go_wp2
                          refine HJ0.out _ _ ?_
                          go_wp2
                          go_quiet (fail)
                          go_wp2
                          rw [Exit.noGoto_ret]
                          refine bodyPost_ret (results_tmp2 rfl _ _ _) rfl ⟨?_, (C5.out.drewN _).bel⟩
                          rw [HFB9.out]
                          exact congrArg (fun x => Ending.returned (.tuple #[.int .u64 x, .bool false])) HVV.out
                        · have hka := and52_ne R hR hden
                          have HFB9 := Lib.hid (show fbits d = (fbOut R (e - 1), false) from by rw [HFB6.out, if_neg hm53, if_neg hden])
                          have hvv := outBits R (e - 1 + 1023) hR (by omega) (by omega)
                          have HVV := Lib.hid (show _ = ((fbOut R (e - 1) : Nat) : Int) from hvv)
                          clear hvv HFB6
                          go_wp2
                          go_step3
                          go_wp2
                          refine HJ0.out _ _ ?_
                          go_wp2
                          go_quiet (fail)
                          go_wp2
                          rw [Exit.noGoto_ret]
                          refine bodyPost_ret (results_tmp2 rfl _ _ _) rfl ⟨?_, (C5.out.drewN _).bel⟩
                          rw [HFB9.out]
                          exact congrArg (fun x => Ending.returned (.tuple #[.int .u64 x, .bool false])) HVV.out
                · have hzb : (d'.dp == 0) = false := by rw [beq_eq_false_iff_ne]; exact hz
                  have HFB4 := Lib.hid (show fbits d = fb4 (fb3 (d', e)) from by rw [HFB3.out, HF.out, fb2_stop _ _ _ hless])
                  have heI : -301984500 ≤ e := by omega
                  have hwl := HI.out.len
                  clear HFB3 HF hmm
                  by_cases h3 : e - 1 < -1022
                  · obtain ⟨n, hn⟩ : ∃ n : Nat, -1022 - (e - 1) = n := ⟨(-1022 - (e - 1)).toNat, by omega⟩
                    have hn2 : (-1022 - (e - 1)).toNat = n := by omega
                    have h3b : decide (e - 1 < -1022) = true := decide_eq_true h3
                    have he9 : e - 1 + n = -1022 := by omega
                    have HFB5 := Lib.hid (show fbits d = fb4 (shR n d', -1022) from by rw [HFB4.out, fb3, if_pos h3, hn2])
                    have hn9 : (n : Int) ≤ 1000000000 := by omega
                    have hn0 : (1 : Int) ≤ n := by omega
                    go_wp2_with fail
                    refine (shift_r w0 g hg n (by omega) (by omega) d' _ HI HH (by omega) (by omega) HC).mono ?_
                    rintro e' w4 ⟨rfl, h1, h2, h4, h5, h6⟩
                    have H4 := Lib.hid h1
                    have C4 := Lib.hid h2
                    have HH4 := Lib.hid h4
                    have hbi4 := C4.out.cell C4.out.laid.bias
                    have hex4 := C4.out.cell C4.out.laid.expo
                    have hma4 := C4.out.cell C4.out.laid.mant
                    have hwl4 := H4.out.len
                    clear h1 h2 h4 HFB4
                    generalize shR n d' = d4 at *
                    have h1024 : ¬ (1024 ≤ (-1022)) := by omega
                    have HFB6 := Lib.hid (show fbits d = (if rint (lsh 53 d4) = 9007199254740992 then (if 1024 ≤ (-1021) then (9218868437227405312, true) else (fbOut 4503599627370496 ((-1021)), false)) else (fbOut (rint (lsh 53 d4)) (if rint (lsh 53 d4) / 4503599627370496 % 2 = 0 then -1023 else (-1022)), false)) from by rw [HFB5.out, fb4, if_neg h1024, show (-1022) + 1 = (-1021) by omega])
                    obtain ⟨l1, l2, l3, _⟩ := lsh_spec 53 (by omega) (by omega) d4 HH4.out H4.out.digs
                    go_wp2
                    go_quiet (fail)
                    go_wp2_with fail
                    refine (shift_l w0 g hg 53 (by omega) (by omega) d4 _ (Lib.hid (H4.out.drewN _)) HH4 (by omega) (by omega) (Lib.hid (C4.out.drewN _))).mono ?_
                    rintro e' w5 ⟨rfl, h1, h2⟩
                    have H5 := Lib.hid h1
                    have C5 := Lib.hid h2
                    clear h1 h2
                    go_wp2_with fail
                    refine (rint_any g (lsh 53 d4) _ H5 (by omega) (by omega)).mono ?_
                    rintro e' w6 ⟨rfl, q6, rfl⟩
                    have hR := rint_lt (lsh 53 d4)
                    have hma5 := C5.out.cell C5.out.laid.mant
                    have hbi5 := C5.out.cell C5.out.laid.bias
                    have hex5 := C5.out.cell C5.out.laid.expo
                    have hcg5 := H5.out.neg
                    generalize rint (lsh 53 d4) = R at *
                    clear HFB5 l1 l2 l3
                    by_cases hm53 : R = 9007199254740992
                    · subst hm53
                      have hka : (bits BinOp.and IntKind.u64 4503599627370496 4503599627370496 == 0) = false := by decide
                      have h10 : ¬ (1024 ≤ (-1021)) := by omega
                      have HFB9 := Lib.hid (show fbits d = (fbOut 4503599627370496 ((-1021)), false) from by rw [HFB6.out, if_pos rfl, if_neg h10])
                      have hvv := outBits 4503599627370496 (2) (by omega) (by omega) (by omega)
                      have HVV := Lib.hid (show _ = ((fbOut 4503599627370496 ((-1021)) : Nat) : Int) from hvv)
                      clear hvv
                      go_wp2
                      go_quiet (fail)
                      go_wp2
                      go_step3
                      go_wp2
                      refine HJ0.out _ _ ?_
                      go_wp2
                      go_quiet (fail)
                      go_wp2
                      rw [Exit.noGoto_ret]
                      refine bodyPost_ret (results_tmp2 rfl _ _ _) rfl ⟨?_, (C5.out.drewN _).bel⟩
                      rw [HFB9.out]
                      exact congrArg (fun x => Ending.returned (.tuple #[.int .u64 x, .bool false])) HVV.out
                    · have hrb : ((R : Int) == 9007199254740992) = false := by rw [beq_eq_false_iff_ne]; omega
                      have HM53 := Lib.hid hm53
                      by_cases hden : R / 4503599627370496 % 2 = 0
                      · have hka := and52_eq R hR hden
                        have HFB9 := Lib.hid (show fbits d = (fbOut R (-1023), false) from by rw [HFB6.out, if_neg hm53, if_pos hden])
                        have hvv := outBits R 0 hR (by omega) (by omega)
                        have HVV := Lib.hid (show _ = ((fbOut R (-1023) : Nat) : Int) from hvv)
                        clear hvv HFB6
                        go_wp2
                        go_step3
                        go_wp2
                        refine HJ0.out _ _ ?_
                        go_wp2
                        go_quiet (fail)
                        go_wp2
                        rw [Exit.noGoto_ret]
                        refine bodyPost_ret (results_tmp2 rfl _ _ _) rfl ⟨?_, (C5.out.drewN _).bel⟩
                        rw [HFB9.out]
                        exact congrArg (fun x => Ending.returned (.tuple #[.int .u64 x, .bool false])) HVV.out
                      · have hka := and52_ne R hR hden
                        have HFB9 := Lib.hid (show fbits d = (fbOut R (-1022), false) from by rw [HFB6.out, if_neg hm53, if_neg hden])
                        have hvv := outBits R (1) hR (by omega) (by omega)
                        have HVV := Lib.hid (show _ = ((fbOut R (-1022) : Nat) : Int) from hvv)
                        clear hvv HFB6
                        go_wp2
                        go_step3
                        go_wp2
                        refine HJ0.out _ _ ?_
                        go_wp2
                        go_quiet (fail)
                        go_wp2
                        rw [Exit.noGoto_ret]
                        refine bodyPost_ret (results_tmp2 rfl _ _ _) rfl ⟨?_, (C5.out.drewN _).bel⟩
                        rw [HFB9.out]
                        exact congrArg (fun x => Ending.returned (.tuple #[.int .u64 x, .bool false])) HVV.out
                  · have h3b : decide (e - 1 < -1022) = false := decide_eq_false h3
                    have HFB5 := Lib.hid (show fbits d = fb4 (d', e - 1) from by rw [HFB4.out, fb3, if_neg h3])
                    clear HFB4
                    by_cases h1024 : 1024 ≤ (e - 1)
                    · have hov : decide (2047 ≤ (e - 1) + 1023) = true := decide_eq_true (by omega)
                      have hov2 : 2047 ≤ (e - 1) + 1023 := by omega
                      have HFB9 := Lib.hid (show fbits d = (9218868437227405312, true) from by rw [HFB5.out, fb4, if_pos h1024])
                      go_wp2
                      go_quiet (fail)
                      go_wp2
                      go_step3
                      go_wp2
                      refine HJ1.out _ _ ?_
                      go_wp2
                      go_quiet (fail)
                      go_wp2
                      go_step3
                      go_wp2
                      go_quiet (fail)
                      go_wp2
                      rw [Exit.noGoto_ret]
                      refine bodyPost_ret (results_tmp2 rfl _ _ _) rfl ⟨?_, (HC.out.drewN _).bel⟩
                      rw [HFB9.out]
                      exact congrArg (fun x => Ending.returned (.tuple #[.int .u64 x, .bool true])) HVI.out
                    · have hov : decide (2047 ≤ (e - 1) + 1023) = false := decide_eq_false (by omega)
                      have hov2 : ¬ (2047 ≤ (e - 1) + 1023) := by omega
                      have HFB6 := Lib.hid (show fbits d = (if rint (lsh 53 d') = 9007199254740992 then (if 1024 ≤ e then (9218868437227405312, true) else (fbOut 4503599627370496 (e), false)) else (fbOut (rint (lsh 53 d')) (if rint (lsh 53 d') / 4503599627370496 % 2 = 0 then -1023 else (e - 1)), false)) from by rw [HFB5.out, fb4, if_neg h1024, show (e - 1) + 1 = e by omega])
                      obtain ⟨l1, l2, l3, _⟩ := lsh_spec 53 (by omega) (by omega) d' HH.out HI.out.digs
                      go_wp2
                      go_quiet (fail)
                      go_wp2_with fail
                      refine (shift_l w0 g hg 53 (by omega) (by omega) d' _ (Lib.hid (HI.out.drewN _)) HH (by omega) (by omega) (Lib.hid (HC.out.drewN _))).mono ?_
                      rintro e' w5 ⟨rfl, h1, h2⟩
                      have H5 := Lib.hid h1
                      have C5 := Lib.hid h2
                      clear h1 h2
                      go_wp2_with fail
                      refine (rint_any g (lsh 53 d') _ H5 (by omega) (by omega)).mono ?_
                      rintro e' w6 ⟨rfl, q6, rfl⟩
                      have hR := rint_lt (lsh 53 d')
                      have hma5 := C5.out.cell C5.out.laid.mant
                      have hbi5 := C5.out.cell C5.out.laid.bias
                      have hex5 := C5.out.cell C5.out.laid.expo
                      have hcg5 := H5.out.neg
                      generalize rint (lsh 53 d') = R at *
                      clear HFB5 l1 l2 l3
                      by_cases hm53 : R = 9007199254740992
                      · subst hm53
                        have hka : (bits BinOp.and IntKind.u64 4503599627370496 4503599627370496 == 0) = false := by decide
                        by_cases h10 : 1024 ≤ e
                        · have HFB9 := Lib.hid (show fbits d = (9218868437227405312, true) from by rw [HFB6.out, if_pos rfl, if_pos h10])
                          have hov3 : 2047 ≤ e + 1023 := by omega
                          have hov4 : decide (2047 ≤ e + 1023) = true := decide_eq_true hov3
                          go_wp2
                          go_quiet (fail)
                          go_wp2
                          go_step3
                          go_wp2
                          refine HJ1.out _ _ ?_
                          go_wp2
                          go_quiet (fail)
                          go_wp2
                          go_step3
                          go_wp2
                          go_quiet (fail)
                          go_wp2
                          rw [Exit.noGoto_ret]
                          refine bodyPost_ret (results_tmp2 rfl _ _ _) rfl ⟨?_, (C5.out.drewN _).bel⟩
                          rw [HFB9.out]
                          exact congrArg (fun x => Ending.returned (.tuple #[.int .u64 x, .bool true])) HVI.out
                        · have hov3 : ¬ (2047 ≤ e + 1023) := by omega
                          have hov4 : decide (2047 ≤ e + 1023) = false := decide_eq_false hov3
                          have HFB9 := Lib.hid (show fbits d = (fbOut 4503599627370496 (e), false) from by rw [HFB6.out, if_pos rfl, if_neg h10])
                          have hvv := outBits 4503599627370496 (e + 1023) (by omega) (by omega) (by omega)
                          have HVV := Lib.hid (show _ = ((fbOut 4503599627370496 (e) : Nat) : Int) from hvv)
                          clear hvv
                          go_wp2
                          go_quiet (fail)
                          go_wp2
                          go_step3
                          go_wp2
                          refine HJ0.out _ _ ?_
                          go_wp2
                          go_quiet (fail)
                          go_wp2
                          rw [Exit.noGoto_ret]
                          refine bodyPost_ret (results_tmp2 rfl _ _ _) rfl ⟨?_, (C5.out.drewN _).bel⟩
                          rw [HFB9.out]
                          exact congrArg (fun x => Ending.returned (.tuple #[.int .u64 x, .bool false])) HVV.out
                      · have hrb : ((R : Int) == 9007199254740992) = false := by rw [beq_eq_false_iff_ne]; omega
                        have HM53 := Lib.hid hm53
                        by_cases hden : R / 4503599627370496 % 2 = 0
                        · have hka := and52_eq R hR hden
                          have HFB9 := Lib.hid (show fbits d = (fbOut R (-1023), false) from by rw [HFB6.out, if_neg hm53, if_pos hden])
                          have hvv := outBits R 0 hR (by omega) (by omega)
                          have HVV := Lib.hid (show _ = ((fbOut R (-1023) : Nat) : Int) from hvv)
                          clear hvv HFB6
                          go_wp2
                          go_step3
                          go_wp2
                          refine HJ0.out _ _ ?_
                          go_wp2
                          go_quiet (fail)
                          go_wp2
                          rw [Exit.noGoto_ret]
                          refine bodyPost_ret (results_tmp2 rfl _ _ _) rfl ⟨?_, (C5.out.drewN _).bel⟩
                          rw [HFB9.out]
                          exact congrArg (fun x => Ending.returned (.tuple #[.int .u64 x, .bool false])) HVV.out
                        · have hka := and52_ne R hR hden
                          have HFB9 := Lib.hid (show fbits d = (fbOut R (e - 1), false) from by rw [HFB6.out, if_neg hm53, if_neg hden])
                          have hvv := outBits R (e - 1 + 1023) hR (by omega) (by omega)
                          have HVV := Lib.hid (show _ = ((fbOut R (e - 1) : Nat) : Int) from hvv)
                          clear hvv HFB6
                          go_wp2
                          go_step3
                          go_wp2
                          refine HJ0.out _ _ ?_
                          go_wp2
                          go_quiet (fail)
                          go_wp2
                          rw [Exit.noGoto_ret]
                          refine bodyPost_ret (results_tmp2 rfl _ _ _) rfl ⟨?_, (C5.out.drewN _).bel⟩
                          rw [HFB9.out]
                          exact congrArg (fun x => Ending.returned (.tuple #[.int .u64 x, .bool false])) HVV.out
end Go.Proofs.YthhepfjjmilcnaaDoor
