/- The walks of decimal.Shift, shouldRoundUp, RoundedInteger. -/
import Derived.Test.YthhepfjjmilcnaaDoorDecC
import Derived.Test.YthhepfjjmilcnaaDoorPdec4
namespace Go.Proofs.YthhepfjjmilcnaaDoor
open Go.RowKit Fl
theorem DecIs.headN {w : World} {g : Nat} {d : Dec} (h : DecIs w g d) : w.cell? ⟨g, 800, none⟩ = some (.int .i64 d.ds.length) := by
  obtain ⟨D, h0, _⟩ := h
  exact h0.cN
theorem DecIs.pt {w : World} {g : Nat} {d : Dec} (h : DecIs w g d) : w.cell? ⟨g, 801, none⟩ = some (.int .i64 d.dp) := by
  obtain ⟨D, h0, _⟩ := h
  exact h0.cP
theorem DecIs.tru {w : World} {g : Nat} {d : Dec} (h : DecIs w g d) : w.cell? ⟨g, 803, none⟩ = some (.bool d.tr) := by
  obtain ⟨D, h0, _⟩ := h
  exact h0.cT
theorem DecIs.dig {w : World} {g : Nat} {d : Dec} (h : DecIs w g d) {j : Nat} (hj : j < d.ds.length) : w.cell? ⟨g, j, none⟩ = some (.int .u8 (48 + d.ds.getD j 0 : Nat)) := by
  obtain ⟨D, h0, h1, h2, _⟩ := h
  rw [← h1 j hj]
  exact h0.cD (by omega)
theorem DecIs.len {w : World} {g : Nat} {d : Dec} (h : DecIs w g d) : d.ds.length ≤ 800 := by
  obtain ⟨D, h0, h1, h2, _⟩ := h
  exact h2
theorem DecIs.digs {w : World} {g : Nat} {d : Dec} (h : DecIs w g d) : Digs d.ds := by
  obtain ⟨D, h0, h1, h2, h3⟩ := h
  exact h3
theorem DecIs.drewN {w : World} {g : Nat} {d : Dec} (h : DecIs w g d) (n : Nat) : DecIs (w.drewN n) g d := by
  obtain ⟨D, h0, h1⟩ := h
  exact ⟨D, h0.drewN n, h1⟩
theorem headNe_len (l : List Nat) (h : HeadNe l) : 1 ≤ l.length := by
  obtain ⟨d, r, rfl, _⟩ := h
  simp
set_option maxRecDepth 100000 in
set_option maxHeartbeats 1600000 in
theorem shift_l (w0 : World) (g : Nat) (hg : w0.heap.size ≤ g) (k : Nat) (hk1 : 1 ≤ k) (hk2 : k ≤ 60) (d : Dec) (w : World) (hI : Hid (DecIs w g d)) (hH : Hid (HeadNe d.ds)) (hdp0 : -1000000000000 ≤ d.dp) (hdp1 : d.dp ≤ 1000000000000) (hc : Hid (Ctx w0 w)) :
    Calls Tryd.prog 76 #[.pointer (some ⟨g, 0, none⟩), .int .i64 k] w fun e w' => e = .returned (.tuple #[]) ∧ DecIs w' g (lsh k d) ∧ Ctx w0 w' := by
  have hcn := hI.out.headN
  have hl1 := headNe_len _ hH.out
  have hb : ((d.ds.length : Int) == 0) = false := by rw [beq_eq_false_iff_ne]; omega
  have hb1 : decide ((0 : Int) < (k : Int)) = true := decide_eq_true (by omega)
  have hb2 : (0 : Int) < (k : Int) := by omega
  have hb3 : decide ((60 : Int) < (k : Int)) = false := decide_eq_false (by omega)
  have hb4 : ¬ ((60 : Int) < (k : Int)) := by omega
  have hkc : (k : Int) ≤ 60 := by omega
  go_enter Tryd.func76, Tryd.ntmps76
  go_wp2
  go_loopg [1] 0 (fun m kv wr => kv = .int .i64 k ∧ wr = w)
  case atStart => exact ⟨rfl, rfl⟩
  case round =>
    obtain ⟨rfl, rfl⟩ := hrel
    go_wp2_with fail
    refine (lsh_any w0 g hg k hk1 hk2 d _ hI hH hdp0 hdp1 hc).mono ?_
    rintro e w' ⟨rfl, h1, h2⟩
    go_wp2
    go_end0
    exact ⟨rfl, h1, h2⟩
set_option maxRecDepth 100000 in
set_option maxHeartbeats 1600000 in
theorem shift_r (w0 : World) (g : Nat) (hg : w0.heap.size ≤ g) (n : Nat) (hn1 : 1 ≤ n) (hn2 : n ≤ 1000000000) (d : Dec) (w : World) (hI : Hid (DecIs w g d)) (hH : Hid (HeadNe d.ds)) (hdp0 : -10000000000 ≤ d.dp) (hdp1 : d.dp ≤ 10000000000) (hc : Hid (Ctx w0 w)) :
    Calls Tryd.prog 76 #[.pointer (some ⟨g, 0, none⟩), .int .i64 (-(n : Int))] w fun e w' => e = .returned (.tuple #[]) ∧ DecIs w' g (shR n d) ∧ Ctx w0 w' ∧ HeadNe (shR n d).ds ∧ d.dp - 900 * (n : Int) ≤ (shR n d).dp ∧ (shR n d).dp ≤ d.dp := by
  have hcn := hI.out.headN
  have hl1 := headNe_len _ hH.out
  have hb : ((d.ds.length : Int) == 0) = false := by rw [beq_eq_false_iff_ne]; omega
  have hb1 : decide ((0 : Int) < -(n : Int)) = false := decide_eq_false (by omega)
  have hb2 : ¬ ((0 : Int) < -(n : Int)) := by omega
  have hb3 : decide (-(n : Int) < 0) = true := decide_eq_true (by omega)
  have hb4 : (-(n : Int) < 0) := by omega
  have hb5 : (0 : Int) < (n : Int) := by omega
  go_enter Tryd.func76, Tryd.ntmps76
  go_wp2
  go_loopg [1] n (fun m kv wr => ∃ d' : Dec, kv = .int .i64 (-(m : Int)) ∧ 1 ≤ m ∧ m ≤ n ∧ d.dp - 900 * ((n : Int) - m) ≤ d'.dp ∧ d'.dp ≤ d.dp ∧ Hid (DecIs wr g d') ∧ Hid (HeadNe d'.ds) ∧ Hid (Ctx w0 wr) ∧ Hid (shR n d = shR m d'))
  case atStart => exact ⟨d, rfl, hn1, Nat.le_refl _, by omega, Int.le_refl _, hI, hH, hc, Lib.hid rfl⟩
  case round =>
    clear hb hb1 hb2 hb3 hb4 hb5 hcn hl1 hI hH hc
    obtain ⟨d', rfl, hm1, hm2, hp0, hp1, HI, HH, HC, HS⟩ := hrel
    by_cases h6 : gk ≤ 60
    · have hb : decide (-(gk : Int) < -60) = false := decide_eq_false (by omega)
      have hb1 : ¬ (-(gk : Int) < -60) := by omega
      have hb2 : ¬ ((60 : Int) < (gk : Int)) := by omega
      have hgk6 : (gk : Int) ≤ 60 := by omega
      obtain ⟨s1, s2, s3, _, _⟩ := rsh_spec gk hm1 h6 d' HH.out HI.out.digs HI.out.len
      go_wp2_with fail
      refine (rsh_any w0 g hg gk hm1 h6 d' _ HI HH (by omega) (by omega) HC).mono ?_
      rintro e w' ⟨rfl, h1, h2⟩
      go_wp2
      go_end0
      rw [HS.out, shR_le _ _ h6]
      exact ⟨rfl, h1, h2, s1, by omega, by omega⟩
    · have hb : decide (-(gk : Int) < -60) = true := decide_eq_true (by omega)
      have hb1 : (-(gk : Int) < -60) := by omega
      have hb2 : ((60 : Int) < (gk : Int)) := by omega
      have hgk6 : (gk : Int) ≤ 1000000000 := by omega
      obtain ⟨s1, s2, s3, _, _⟩ := rsh_spec 60 (by decide) (by decide) d' HH.out HI.out.digs HI.out.len
      have hS := HS.out
      rw [shR_gt _ _ h6] at hS
      have HS2 := Lib.hid hS
      clear hS HS
      go_wp2_with fail
      refine (rsh_any w0 g hg 60 (by decide) (by decide) d' _ HI HH (by omega) (by omega) HC).mono ?_
      rintro e w' ⟨rfl, h1, h2⟩
      have H1 := Lib.hid h1
      have H2 := Lib.hid h2
      clear h1 h2
      go_wp2
      go_roundg (gk - 60)
      case measure => omega
      case rel => exact ⟨rsh 60 d', by go_num, by omega, by omega, by omega, by omega, H1, Lib.hid s1, H2, HS2⟩
/-- memory as it was, but for what was drawn -/
def Drew (w w' : World) : Prop := ∃ n, w' = w.drewN n
theorem Drew.refl (w : World) : Drew w w := ⟨0, rfl⟩
set_option maxRecDepth 100000 in
set_option maxHeartbeats 1600000 in
theorem sru_any (g : Nat) (m : Int) (d : Dec) (w : World) (hI : Hid (DecIs w g d)) (hm0 : -1000000000000 ≤ m) (hm1 : m ≤ 1000000000000) :
    Calls Tryd.prog 83 #[.pointer (some ⟨g, 0, none⟩), .int .i64 m] w fun e w' => e = .returned (.bool (sru d m)) ∧ Drew w w' := by
  have hcn := hI.out.headN
  have hct := hI.out.tru
  have hl8 := hI.out.len
  have hl8I : (d.ds.length : Int) ≤ 800 := by omega
  by_cases h0 : m < 0
  · have hs : sru d m = false := by rw [sru, if_pos (.inl h0)]
    rw [hs]
    go_enter Tryd.func83, Tryd.ntmps83
    go_wp2
    go_ret
    exact ⟨rfl, Drew.refl _⟩
  · obtain ⟨j, rfl⟩ : ∃ j : Nat, m = j := ⟨m.toNat, by omega⟩
    have h0b : decide ((j : Int) < 0) = false := decide_eq_false h0
    by_cases h1 : d.ds.length ≤ j
    · have hs : sru d j = false := by rw [sru, if_pos (.inr (by omega))]
      have h1b : (d.ds.length : Int) ≤ j := by omega
      rw [hs]
      go_enter Tryd.func83, Tryd.ntmps83
      go_wp2
      go_ret
      exact ⟨rfl, Drew.refl _⟩
    · have h1b : ¬ ((d.ds.length : Int) ≤ j) := by omega
      have hlt : j < d.ds.length := by omega
      have hltI : (j : Int) < 800 := by omega
      have hcd := hI.out.dig hlt
      have hd9 := dig_at d.ds hI.out.digs j
      have hd9p := dig_at d.ds hI.out.digs (j - 1)
      have hcp := fun h : 1 ≤ j => hI.out.dig (j := j - 1) (by omega)
      have hsr : sru d j = (if d.ds.getD j 0 = 5 ∧ (j : Int) + 1 = d.ds.length then d.tr || (decide (0 < (j : Int)) && decide (d.ds.getD (j - 1) 0 % 2 ≠ 0)) else decide (5 ≤ d.ds.getD j 0)) := by
        rw [sru, if_neg (by omega)]
        rfl
      rw [hsr]
      clear hsr hI
      have HCP := Lib.hid hcp
      clear hcp
      generalize d.ds.getD j 0 = a at *
      generalize d.ds.getD (j - 1) 0 = b at *
      go_enter Tryd.func83, Tryd.ntmps83
      by_cases ha : a = 5
      · have hab : (((48 + a : Nat) : Int) == 53) = true := by rw [ha]; rfl
        have hab2 : ((48 + (a : Int)) == 53) = true := by rw [ha]; rfl
        by_cases hj : (j : Int) + 1 = d.ds.length
        · have hjb : ((j : Int) + 1 == d.ds.length) = true := by rw [hj]; simp
          rw [if_pos ⟨ha, hj⟩]
          cases htr : d.tr with
          | true =>
            rw [htr] at hct
            go_wp2
            go_ret
            exact ⟨rfl, Drew.refl _⟩
          | false =>
            rw [htr] at hct
            by_cases hj0 : j = 0
            · subst hj0
              have hjc : ((1 : Int) == (d.ds.length : Int)) = true := by rw [beq_iff_eq]; omega
              go_wp2
              all_goals (go_ret; exact ⟨rfl, Drew.refl _⟩)
            · have hj0b : decide ((0 : Int) < (j : Int)) = true := decide_eq_true (by omega)
              have hj0c : (0 : Int) < (j : Int) := by omega
              have hcp := HCP.out (by omega)
              rw [hj0b]
              go_wp2
              go_ret
              refine ⟨congrArg (fun x => Ending.returned (Value.bool x)) ?_, Drew.refl _⟩
              rw [Bool.eq_iff_iff, bne_iff_ne, decide_eq_true_iff]
              omega
        · have hjb : ((j : Int) + 1 == d.ds.length) = false := by rw [beq_eq_false_iff_ne]; exact hj
          rw [if_neg (fun h => hj h.2)]
          go_wp2
          go_ret
          exact ⟨rfl, Drew.refl _⟩
      · have hab : (((48 + a : Nat) : Int) == 53) = false := by rw [beq_eq_false_iff_ne]; omega
        have hab2 : ((48 + (a : Int)) == 53) = false := by rw [beq_eq_false_iff_ne]; omega
        rw [if_neg (fun h => ha h.1)]
        go_wp2
        go_ret
        refine ⟨congrArg (fun x => Ending.returned (Value.bool x)) ?_, Drew.refl _⟩
        rw [decide_eq_decide]
        omega
theorem riGo_lt (ds : List Nat) (m : Nat) : riGo ds m < 18446744073709551616 := by
  cases m with
  | zero => simp [riGo]
  | succ m => exact Nat.mod_lt _ (by decide)
/-- a digit more, as the walk writes it -/
theorem riNums (n a : Nat) : IntKind.u64.wrap (IntKind.u64.wrap ((n : Int) * 10) + (a : Int)) = (((n * 10 + a) % 18446744073709551616 : Nat) : Int) := by
  rw [IntKind.wrap_u64, IntKind.wrap_u64]
  omega
theorem riNums0 (n : Nat) : IntKind.u64.wrap ((n : Int) * 10) = (((n * 10 + 0) % 18446744073709551616 : Nat) : Int) := by
  rw [IntKind.wrap_u64]
  omega
set_option maxRecDepth 100000 in
set_option maxHeartbeats 1600000 in
theorem rint_any (g : Nat) (d : Dec) (w : World) (hI : Hid (DecIs w g d)) (hm0 : -1000000000000 ≤ d.dp) (hm1 : d.dp ≤ 1000000000000) :
    Calls Tryd.prog 77 #[.pointer (some ⟨g, 0, none⟩)] w fun e w' => e = .returned (.int .u64 (rint d)) ∧ Drew w w' := by
  have hcn := hI.out.headN
  have hcp := hI.out.pt
  have hl8 := hI.out.len
  have hl8I : (d.ds.length : Int) ≤ 800 := by omega
  by_cases h20 : 20 < d.dp
  · have hr : rint d = 18446744073709551615 := by rw [rint, if_pos h20]
    rw [hr]
    go_enter Tryd.func77, Tryd.ntmps77
    go_wp2
    go_ret
    exact ⟨rfl, Drew.refl _⟩
  · have hr : rint d = (riGo d.ds d.dp.toNat + (if sru d d.dp = true then 1 else 0)) % 18446744073709551616 := by rw [rint, if_neg h20]
    have HR := Lib.hid hr
    clear hr
    go_enter Tryd.func77, Tryd.ntmps77
    go_wp2
    go_loopg [3, 4] 21 (fun m i n wr' => ∃ j nn : Nat, j + m = 21 ∧ i = .int .i64 j ∧ n = .int .u64 nn ∧ wr' = w ∧ (j = 0 ∨ (j : Int) ≤ d.dp) ∧ Hid (nn = riGo d.ds j))
    case atStart => exact ⟨0, 0, by omega, rfl, rfl, rfl, .inl rfl, Lib.hid rfl⟩
    case round =>
      obtain ⟨j, nn, hm, rfl, rfl, rfl, hjd, HN⟩ := hrel
      by_cases hja : (j : Int) < d.dp
      · have hb : decide ((j : Int) < d.dp) = true := decide_eq_true hja
        by_cases hjl : j < d.ds.length
        · have hlb : decide ((j : Int) < d.ds.length) = true := decide_eq_true (by omega)
          have hlb1 : (j : Int) < d.ds.length := by omega
          have hcd := hI.out.dig hjl
          have hd9 := dig_at d.ds hI.out.digs j
          have hst := riNums nn (d.ds.getD j 0)
          have HN2 := Lib.hid (show (nn * 10 + d.ds.getD j 0) % 18446744073709551616 = riGo d.ds (j + 1) from by rw [riGo, HN.out])
          generalize d.ds.getD j 0 = a at *
          generalize (nn * 10 + a) % 18446744073709551616 = N at *
          have hj8 : (j : Int) < 800 := by omega
          have hj20 : (j : Int) < 21 := by omega
          have ea : 48 + (a : Int) - 48 = a := by omega
          go_wp2
          go_roundg (20 - j)
          case measure => omega
          case rel => exact ⟨j + 1, N, by omega, by go_num, rfl, rfl, .inr (by omega), HN2⟩
        · have hlb : decide ((j : Int) < d.ds.length) = false := decide_eq_false (by omega)
          have hlb1 : ¬ ((j : Int) < d.ds.length) := by omega
          go_wp2
          go_loopg [3, 4] (21 - j) (fun m i n wr' => ∃ j2 nn2 : Nat, j2 + m = 21 ∧ i = .int .i64 j2 ∧ n = .int .u64 nn2 ∧ Hid (wr' = wr) ∧ (j2 = 0 ∨ (j2 : Int) ≤ d.dp) ∧ (d.ds.length ≤ j2 ∨ ¬ ((j2 : Int) < d.dp)) ∧ Hid (nn2 = riGo d.ds j2))
          case atStart => exact ⟨j, nn, by omega, rfl, rfl, Lib.hid rfl, hjd, by omega, HN⟩
          case round =>
            clear HN hjd hm
            try clear hb
            try clear hb1
            try clear hlb
            try clear hlb1
            obtain ⟨j, nn, hm, rfl, rfl, HW, hjd, hjx, HN⟩ := hrel
            rw [HW.out]
            clear HW
            by_cases hja : (j : Int) < d.dp
            · have hb : decide ((j : Int) < d.dp) = true := decide_eq_true hja
              have hst := riNums0 nn
              have hz : d.ds.getD j 0 = 0 := by rw [List.getD_eq_getElem?_getD, List.getElem?_eq_none (by omega)]; rfl
              have HN2 := Lib.hid (show (nn * 10 + 0) % 18446744073709551616 = riGo d.ds (j + 1) from by rw [riGo, hz, HN.out])
              generalize (nn * 10 + 0) % 18446744073709551616 = N at *
              have hj20 : (j : Int) < 21 := by omega
              clear hz
              go_wp2
              go_roundg (20 - j)
              case measure => omega
              case rel => exact ⟨j + 1, N, by omega, by go_num, rfl, Lib.hid rfl, .inr (by omega), by omega, HN2⟩
            · have hb : decide ((j : Int) < d.dp) = false := decide_eq_false hja
              have hje : d.dp.toNat = j := by omega
              have HJE := Lib.hid hje
              have hlt := riGo_lt d.ds j
              rw [← HN.out] at hlt
              clear hje
              go_wp2_with fail
              refine (sru_any g d.dp d _ hI hm0 hm1).mono ?_
              rintro e w' ⟨rfl, q, rfl⟩
              cases hs : sru d d.dp with
              | true =>
                have e9 : IntKind.u64.wrap ((nn : Int) + 1) = (((nn + 1) % 18446744073709551616 : Nat) : Int) := by rw [IntKind.wrap_u64]; omega
                have HS := Lib.hid hs
                clear hs
                go_wp2
                go_ret
                refine ⟨?_, ⟨_, rfl⟩⟩
                rw [HR.out, HJE.out, ← HN.out, HS.out, if_pos rfl]
                rfl
              | false =>
                have e9 : (nn + 0) % 18446744073709551616 = nn := Nat.mod_eq_of_lt hlt
                have HS := Lib.hid hs
                clear hs
                go_wp2
                go_ret
                refine ⟨?_, ⟨_, rfl⟩⟩
                rw [HR.out, HJE.out, ← HN.out, HS.out, if_neg (by simp), e9]
                rfl
      · have hb : decide ((j : Int) < d.dp) = false := decide_eq_false hja
        go_wp2
        go_loopg [3, 4] (21 - j) (fun m i n wr' => ∃ j2 nn2 : Nat, j2 + m = 21 ∧ i = .int .i64 j2 ∧ n = .int .u64 nn2 ∧ Hid (wr' = wr) ∧ (j2 = 0 ∨ (j2 : Int) ≤ d.dp) ∧ (d.ds.length ≤ j2 ∨ ¬ ((j2 : Int) < d.dp)) ∧ Hid (nn2 = riGo d.ds j2))
        case atStart => exact ⟨j, nn, by omega, rfl, rfl, Lib.hid rfl, hjd, by omega, HN⟩
        case round =>
          clear HN hjd hm
          try clear hb
          try clear hb1
          try clear hlb
          try clear hlb1
          obtain ⟨j, nn, hm, rfl, rfl, HW, hjd, hjx, HN⟩ := hrel
          rw [HW.out]
          clear HW
          by_cases hja : (j : Int) < d.dp
          · have hb : decide ((j : Int) < d.dp) = true := decide_eq_true hja
            have hst := riNums0 nn
            have hz : d.ds.getD j 0 = 0 := by rw [List.getD_eq_getElem?_getD, List.getElem?_eq_none (by omega)]; rfl
            have HN2 := Lib.hid (show (nn * 10 + 0) % 18446744073709551616 = riGo d.ds (j + 1) from by rw [riGo, hz, HN.out])
            generalize (nn * 10 + 0) % 18446744073709551616 = N at *
            have hj20 : (j : Int) < 21 := by omega
            clear hz
            go_wp2
            go_roundg (20 - j)
            case measure => omega
            case rel => exact ⟨j + 1, N, by omega, by go_num, rfl, Lib.hid rfl, .inr (by omega), by omega, HN2⟩
          · have hb : decide ((j : Int) < d.dp) = false := decide_eq_false hja
            have hje : d.dp.toNat = j := by omega
            have HJE := Lib.hid hje
            have hlt := riGo_lt d.ds j
            rw [← HN.out] at hlt
            clear hje
            go_wp2_with fail
            refine (sru_any g d.dp d _ hI hm0 hm1).mono ?_
            rintro e w' ⟨rfl, q, rfl⟩
            cases hs : sru d d.dp with
            | true =>
              have e9 : IntKind.u64.wrap ((nn : Int) + 1) = (((nn + 1) % 18446744073709551616 : Nat) : Int) := by rw [IntKind.wrap_u64]; omega
              have HS := Lib.hid hs
              clear hs
              go_wp2
              go_ret
              refine ⟨?_, ⟨_, rfl⟩⟩
              rw [HR.out, HJE.out, ← HN.out, HS.out, if_pos rfl]
              rfl
            | false =>
              have e9 : (nn + 0) % 18446744073709551616 = nn := Nat.mod_eq_of_lt hlt
              have HS := Lib.hid hs
              clear hs
              go_wp2
              go_ret
              refine ⟨?_, ⟨_, rfl⟩⟩
              rw [HR.out, HJE.out, ← HN.out, HS.out, if_neg (by simp), e9]
              rfl
end Go.Proofs.YthhepfjjmilcnaaDoor
