/- The walk of the document's answer: number. -/
import Derived.Test.YthhepfjjmilcnaaGreatDoorRefN
namespace Go.Proofs.YthhepfjjmilcnaaGreatDoor
open Go.RowKit Lx Fl
set_option maxHeartbeats 1600000 in
set_option maxRecDepth 100000 in
theorem rnumber_any (s : ByteArray) (hs : s.size ≤ 1000000) (at0 : Nat) (p0 : at0 < s.size) (hd0 : digitB (s[at0]'p0).toNat = true) (w : World) (hL : Hid (FltLaid w)) (hE : Hid (ErrAt w)) :
    Calls Tryz.prog 21 #[.string s, .int .i64 at0] w (RefPost (numP (s.data.toList.drop at0)) at0 w) := by
  have hatI : (at0 : Int) < s.size := by omega
  have hlen : (s.data.toList.drop at0).length = s.size - at0 := by rw [List.length_drop, list_size]
  have hh : (s.data.toList.drop at0).getD 0 0 = s[at0]'p0 := by
    rw [byte_at, List.getD_eq_getElem?_getD, List.getElem?_drop, ← List.getD_eq_getElem?_getD]
    rfl
  have hn1 := spanN_pos digitB (s.data.toList.drop at0) (by omega) (by rw [hh]; exact hd0)
  have hn := spanN_le digitB (s.data.toList.drop at0)
  rw [hlen] at hn
  have cD := digits_any s at0 (by omega) hs
  obtain ⟨n, hN⟩ : ∃ n, spanN digitB (s.data.toList.drop at0) = n := ⟨_, rfl⟩
  rw [hN] at hn hn1 cD
  have HN := Lib.hid hN
  have HHD := Lib.hid hh
  have CD := Lib.hid cD
  clear hN hh cD hd0
  have hnI : (at0 : Int) + n ≤ s.size := by omega
  have hnI1 : (1 : Int) ≤ n := by omega
  by_cases hform : 1 < n ∧ (s[at0]'p0).toNat = 48
  · obtain ⟨hf1, hf2⟩ := hform
    have hf3 : decide ((at0 : Int) + 1 < at0 + n) = true := decide_eq_true (by omega)
    have hf4 : (at0 : Int) + 1 < at0 + n := by omega
    have hf5 : (((s[at0]'p0).toNat : Int) == 48) = true := by rw [hf2]; rfl
    go_enter Tryz.func21, Tryz.ntmps21
    go_wp2_with fail
    refine (CD.out _).mono ?_
    rintro e w1 ⟨rfl, rfl⟩
    have HP := Lib.hid (show numP (s.data.toList.drop at0) = ((0, []), 0, 7) from by rw [numP, HN.out, if_pos ⟨hf1, by rw [HHD.out]; exact hf2⟩])
    go_wp2_with fail
    refine bodyPost_ret (v := .tuple #[tokV 3 ⟨#[]⟩ at0, .int .i64 at0, .int .i64 7]) (by simp [results, Tryz.results21, go_sem, tokV, *]) rfl (refErr _ _ _ _ 7 (by decide) (by rw [HP.out]) (Below.alloc (Below.alloc (Below.refl _ _) (Nat.le_refl _) _) (by simp) _))
  · by_cases hdot : ∃ h : at0 + n + 1 < s.size, (s[at0 + n]'(by omega)).toNat = 46 ∧ digitB (s[at0 + n + 1]'h).toNat = true
    · have hfa : (at0 : Int) + 1 < at0 + n → (((s[at0]'p0).toNat : Int) == 48) = false := fun h => by rw [beq_eq_false_iff_ne]; intro e; exact hform ⟨by omega, by omega⟩
      by_cases hz : (((s[at0]'p0).toNat : Int) == 48) = true
      all_goals
        first | (have hz2 : ¬ ((at0 : Int) + 1 < at0 + n) := fun h => by rw [hfa h] at hz; cases hz) | (have hz2 : (((s[at0]'p0).toNat : Int) == 48) = false := by simpa using hz)
        clear hfa
        obtain ⟨q1, q2, q3⟩ := hdot
        have q1I : (at0 : Int) + n + 1 < s.size := by omega
        have q2b : (((s[at0 + n]'(by omega)).toNat : Int) == 46) = true := by rw [q2]; rfl
        have hk := kindN_digit (s[at0 + n + 1]'q1).toNat
        rw [q3] at hk
        have cK := fun w => kind_any (s[at0 + n + 1]'q1).toNat (s[at0 + n + 1]'q1).toNat_lt w
        have CK := Lib.hid cK
        clear cK
        have hsub : (s.data.toList.drop at0).drop (n + 1) = s.data.toList.drop (at0 + n + 1) := by rw [List.drop_drop]; rfl
        have cD2 := digits_any s (at0 + n + 1) (by omega) hs
        have hMp := spanN_pos digitB (s.data.toList.drop (at0 + n + 1)) (by rw [List.length_drop, list_size]; omega) (by
          rw [List.getD_eq_getElem?_getD, List.getElem?_drop, ← List.getD_eq_getElem?_getD, ← byte_at s (at0 + n + 1 + 0) (by omega)]; exact q3)
        have hMl0 := spanN_le digitB (s.data.toList.drop (at0 + n + 1))
        rw [List.length_drop, list_size] at hMl0
        obtain ⟨M, hM⟩ : ∃ M, spanN digitB (s.data.toList.drop (at0 + n + 1)) = M := ⟨_, rfl⟩
        rw [hM] at cD2 hMp hMl0
        have CD2 := Lib.hid cD2
        clear cD2 q3
        have hMI : (at0 : Int) + n + 1 + M ≤ s.size := by omega
        have hMI2 : (at0 : Int) ≤ at0 + n + 1 + M := by omega
        have hMI3 : (0 : Int) ≤ (at0 : Int) + n + 1 + M := by omega
        have hMI4 : (0 : Int) ≤ (at0 : Int) := by omega
        have hd46 : ((s.data.toList.drop at0).getD n 0).toNat = 46 := by
          rw [List.getD_eq_getElem?_getD, List.getElem?_drop, ← List.getD_eq_getElem?_getD, ← byte_at s (at0 + n) (by omega)]; exact q2
        have hM2 : spanN digitB ((s.data.toList.drop at0).drop (n + 1)) = M := by rw [hsub]; exact hM
        have hx : (s.extract at0 (at0 + n + 1 + M)).data.toList = (s.data.toList.drop at0).take (n + (1 + M)) := by
          rw [ByteArray.data_extract, Array.toList_extract]
          simp only [List.extract]
          congr 1
          omega
        have hreal := isReal_take (s.data.toList.drop at0) n M HN.out hn1 hd46 hM2 hMp
        have hord := Lib.hid (af_ord _ n hreal)
        have hinf := Lib.hid (af_inf _ n hreal)
        have HP := Lib.hid (show numP (s.data.toList.drop at0) = (if badR ((s.data.toList.drop at0).take (n + (1 + M))) = true then ((0, []), 0, 4) else ((4, (s.data.toList.drop at0).take (n + (1 + M))), n + (1 + M), 0)) from by
          rw [numP, HN.out, if_neg (by rw [HHD.out]; exact hform), hM2, if_pos ⟨hd46, hMp⟩])
        have HREAL := Lib.hid (show IsReal (s.extract at0 (at0 + n + 1 + M)).data.toList n by rw [hx]; exact hreal)
        have HX := Lib.hid hx
        have hxs : (s.extract at0 (at0 + n + 1 + M)).size ≤ 1000000 := by rw [ByteArray.size_extract]; omega
        clear hx hreal hM2 hd46 hsub hM
        go_enter Tryz.func21, Tryz.ntmps21
        go_wp2_with fail
        refine (CD.out _).mono ?_
        rintro e w1 ⟨rfl, rfl⟩
        go_wp2_with fail
        refine (CK.out _).mono ?_
        rintro e w1 ⟨rfl, rfl⟩
        go_wp2_with fail
        refine (CD2.out _).mono ?_
        rintro e w1 ⟨rfl, rfl⟩
        go_wp2_with fail
        go_region_held3 (fun _ => True) (trivial) (fail)
        all_goals
          go_wp2_with fail
          have hT := tok2 w 0 4 ⟨#[]⟩ (s.extract at0 (at0 + n + 1 + M)) 0 at0
          obtain ⟨hT1, hT2, hT3⟩ := hT
          generalize ((w.alloc (.cells #[.int .i64 0, .string ⟨#[]⟩, .int .i64 0] 30)).alloc (.cells #[.int .i64 4, .string (s.extract at0 (at0 + n + 1 + M)), .int .i64 at0] 30)).drew = W at *
          have hlW : w.heap.size + 1 < W.heap.size := World.block_lt_of_cell? W _ (hT2.cell (j := 0) (by decide))
          have HT1 := Lib.hid hT1
          have HT2 := Lib.hid hT2
          have HT3 := Lib.hid hT3
          clear hT1 hT2 hT3
          refine (pf_any _ n HREAL hxs _ (Lib.hid (hL.out.below HT3.out)) (Lib.hid (hE.out.below HT3.out))).mono ?_
          rintro e w3 ⟨⟨v, rfl, hv⟩, hb⟩
          have HB3 := Lib.hid hb
          clear hb
          rw [HX.out] at hv ⊢
          generalize (s.data.toList.drop at0).take (n + (1 + M)) = t at *
          have hR2 := HT1.out.below HB3.out (by omega)
          have hS2 := HT2.out.below HB3.out hlW
          have hc0 := hR2.cell (j := 0) (by decide)
          have hc1 := hR2.cell (j := 1) (by decide)
          have hc2 := hR2.cell (j := 2) (by decide)
          have hf0 := hR2.free (j := 0) (by decide)
          have hf1 := hR2.free (j := 1) (by decide)
          have hf2 := hR2.free (j := 2) (by decide)
          have hk0 : w3.cell? ⟨w.heap.size + 1, 0, none⟩ = some (.int .i64 4) := hS2.cell (j := 0) (by decide)
          have hk1 : w3.cell? ⟨w.heap.size + 1, 1, none⟩ = some (.string (s.extract at0 (at0 + n + 1 + M))) := hS2.cell (j := 1) (by decide)
          have hk2 : w3.cell? ⟨w.heap.size + 1, 2, none⟩ = some (.int .i64 at0) := hS2.cell (j := 2) (by decide)
          have hg0 := hS2.free (j := 0) (by decide)
          have hg1 := hS2.free (j := 1) (by decide)
          have hg2 := hS2.free (j := 2) (by decide)
          have HBL := Lib.hid (below_then' HT3.out HT3.out.size HB3.out)
          clear hR2 hS2
          have hlt : (FloatKind.f64.format.order (afBits t).1 4831355200913801216 == some Ordering.lt) = !badR t := by
            unfold badR
            cases hov : (afBits t).2 with
            | true => rw [hinf.out hov]; rfl
            | false => simp
          clear hv
          cases hbt : badR t with
          | true =>
            rw [hbt] at hlt HP
            have HP2 := Lib.hid (show numP (s.data.toList.drop at0) = ((0, []), 0, 4) from by rw [HP.out, if_pos rfl])
            clear hbt HP
            go_wp2_with fail
            refine bodyPost_ret (v := .tuple #[tokV 4 (s.extract at0 (at0 + n + 1 + M)) at0, .int .i64 at0, .int .i64 4]) (by simp [results, Tryz.results21, go_sem, tokV, *]) rfl (refErr _ _ _ _ 4 (by decide) (by rw [HP2.out]) (tokBelB HBL.out _ _ _))
          | false =>
            rw [hbt] at hlt HP
            have HP2 := Lib.hid (show numP (s.data.toList.drop at0) = ((4, t), n + (1 + M), 0) from by rw [HP.out, if_neg (by simp)])
            clear hbt HP
            go_wp2_with fail
            refine bodyPost_ret (v := .tuple #[tokV 4 (s.extract at0 (at0 + n + 1 + M)) at0, .int .i64 ((at0 : Int) + n + 1 + M), .int .i64 0]) (by simp [results, Tryz.results21, go_sem, tokV, *]) rfl (refOk _ _ _ _ (by rw [HP2.out]) (by rw [HP2.out]) (by rw [HP2.out]; exact arr_eq _ _ HX.out) rfl (by rw [HP2.out]; show (at0 : Int) + n + 1 + M = ((at0 + (n + (1 + M)) : Nat) : Int); omega) (tokBelB HBL.out _ _ _))
    · exact rnumber_int s hs at0 n p0 hn1 (by omega) CD HN hform (fun h e => by
        cases hd : digitB (s[at0 + n + 1]'h).toNat with
        | true => exact absurd ⟨h, e, hd⟩ hdot
        | false => rfl) w
end Go.Proofs.YthhepfjjmilcnaaGreatDoor
