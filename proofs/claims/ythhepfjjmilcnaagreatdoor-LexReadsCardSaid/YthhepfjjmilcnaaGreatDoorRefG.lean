/- The walk of the document's answer: word, at a sign. -/
import Derived.Test.YthhepfjjmilcnaaGreatDoorRefE
import Derived.Test.YthhepfjjmilcnaaGreatDoorPback
namespace Go.Proofs.YthhepfjjmilcnaaGreatDoor
open Go.RowKit Lx Fl
theorem sign2_ext (s : ByteArray) (at0 : Nat) (h : at0 + 1 < s.size) : sign2 (s.data.toList.drop at0) = (((s.extract at0 (at0 + 2)).toList == [60, 62]) || ((s.extract at0 (at0 + 2)).toList == [60, 61]) || ((s.extract at0 (at0 + 2)).toList == [62, 61])) := by
  rw [toList_eq, ext_mid, show at0 + 2 - at0 = 2 by omega]
  have h2 : 2 ≤ (s.data.toList.drop at0).length := by rw [List.length_drop, list_size]; omega
  match s.data.toList.drop at0, h2 with
  | a :: b :: r, _ =>
    rw [sign2_cons]
    have e : ∀ p q : UInt8, ([a, b] == [p, q]) = (p == a && q == b) := fun p q => by
      rw [Bool.eq_iff_iff, beq_iff_eq, Bool.and_eq_true, beq_iff_eq, beq_iff_eq]
      constructor
      · intro h; injection h with h1 h2; injection h2 with h2 _; exact ⟨h1.symm, h2.symm⟩
      · rintro ⟨rfl, rfl⟩; rfl
    show _ = (([a, b] == [60, 62]) || ([a, b] == [60, 61]) || ([a, b] == [62, 61]))
    rw [e, e, e]
theorem sign2_short (s : ByteArray) (at0 : Nat) (h : s.size ≤ at0 + 1) (h0 : at0 < s.size) : sign2 (s.data.toList.drop at0) = false := by
  have h2 : (s.data.toList.drop at0).length = 1 := by rw [List.length_drop, list_size]; omega
  match s.data.toList.drop at0, h2 with
  | [a], _ => exact sign2_one a
theorem sign_made (w : World) (at0 : Nat) : ∃ W, (w.alloc (.cells #[.int .i64 0, .string ⟨#[]⟩, .int .i64 0] 30)).alloc (.cells #[.int .i64 6, .string ⟨#[]⟩, .int .i64 at0] 30) = W ∧
    Hid (RowF W w.heap.size 3 (tokF 0 ⟨#[]⟩ 0)) ∧ Hid (RowF W (w.heap.size + 1) 3 (tokF 6 ⟨#[]⟩ at0)) ∧ Hid (Below w.heap.size w W) ∧ Hid (w.heap.size + 1 < W.heap.size) := by
  obtain ⟨h1, h2, _⟩ := tok2 w 0 6 ⟨#[]⟩ ⟨#[]⟩ 0 at0
  exact ⟨_, rfl, Lib.hid h1, Lib.hid h2, Lib.hid (intBel _ _ _), Lib.hid (by simp)⟩
set_option maxHeartbeats 3200000 in
set_option maxRecDepth 100000 in
theorem rword_sign (s : ByteArray) (hs : s.size ≤ 1000000) (at0 : Nat) (p0 : at0 < s.size) (hl : letterB (s[at0]'p0).toNat = false) (hd : digitB (s[at0]'p0).toNat = false) (hq : (s[at0]'p0).toNat ≠ 39) (w : World) :
    Calls Tryz.prog 11 #[.string s, .int .i64 at0] w (RefPost (nextP (s.data.toList.drop at0)) at0 w) := by
  have HP := Lib.hid (show nextP (s.data.toList.drop at0) = signP (s.data.toList.drop at0) from by rw [nextP, if_neg (drop_ne s at0 p0), drop_head s at0 p0, if_neg (by rw [hl]; simp), if_neg (by rw [hd]; simp), if_neg hq])
  have hne : ((at0 : Int) == s.size) = false := by rw [beq_eq_false_iff_ne]; omega
  have hatI : (at0 : Int) < s.size := by omega
  obtain ⟨kk, hk1, hk2, CK⟩ := kind_other (s[at0]'p0) hl hd
  have hqb : (((s[at0]'p0).toNat : Int) == 39) = false := by rw [beq_eq_false_iff_ne]; omega
  clear hl hd hq
  rcases Nat.lt_or_ge (at0 + 1) s.size with hr | hr
  · have hrI : (at0 : Int) + 1 < s.size := by omega
    have hrI2 : (at0 : Int) + 2 ≤ s.size := by omega
    have HS2 := Lib.hid (sign2_ext s at0 hr)
    have HX := Lib.hid (ext_mid s at0 (at0 + 2))
    rw [show at0 + 2 - at0 = 2 by omega] at HX
    cases h1 : ((s.extract at0 (at0 + 2)).toList == [60, 62]) with
    | true =>
      have HK := Lib.hid (show nextP (s.data.toList.drop at0) = ((6, (s.data.toList.drop at0).take 2), 2, 0) from by
        rw [HP.out, signP, if_pos (by rw [HS2.out, h1]; simp)])
      clear HS2
      go_enter Tryz.func11, Tryz.ntmps11
      go_wp2_with fail
      refine (CK.out _).mono ?_
      rintro e w1 ⟨rfl, rfl⟩
      go_wp2_with fail
      refine (CK.out _).mono ?_
      rintro e w1 ⟨rfl, rfl⟩
      go_wp2_with fail
      refine bodyPost_ret (v := .tuple #[tokV 6 (s.extract at0 (at0 + 2)) at0, .int .i64 ((at0 : Int) + 2), .int .i64 0]) (by simp [results, Tryz.results11, go_sem, tokV, *]) rfl (refOk _ _ _ _ (by rw [HK.out]) (by rw [HK.out]) (by rw [HK.out]; exact arr_eq _ _ HX.out) rfl (by rw [HK.out]; rfl) (intBel _ _ _))
    | false =>
      cases h2 : ((s.extract at0 (at0 + 2)).toList == [60, 61]) with
      | true =>
        have HK := Lib.hid (show nextP (s.data.toList.drop at0) = ((6, (s.data.toList.drop at0).take 2), 2, 0) from by
          rw [HP.out, signP, if_pos (by rw [HS2.out, h1, h2]; simp)])
        clear HS2
        go_enter Tryz.func11, Tryz.ntmps11
        go_wp2_with fail
        refine (CK.out _).mono ?_
        rintro e w1 ⟨rfl, rfl⟩
        go_wp2_with fail
        refine (CK.out _).mono ?_
        rintro e w1 ⟨rfl, rfl⟩
        go_wp2_with fail
        refine bodyPost_ret (v := .tuple #[tokV 6 (s.extract at0 (at0 + 2)) at0, .int .i64 ((at0 : Int) + 2), .int .i64 0]) (by simp [results, Tryz.results11, go_sem, tokV, *]) rfl (refOk _ _ _ _ (by rw [HK.out]) (by rw [HK.out]) (by rw [HK.out]; exact arr_eq _ _ HX.out) rfl (by rw [HK.out]; rfl) (intBel _ _ _))
      | false =>
        cases h3 : ((s.extract at0 (at0 + 2)).toList == [62, 61]) with
        | true =>
          have HK := Lib.hid (show nextP (s.data.toList.drop at0) = ((6, (s.data.toList.drop at0).take 2), 2, 0) from by
            rw [HP.out, signP, if_pos (by rw [HS2.out, h1, h2, h3]; simp)])
          clear HS2
          go_enter Tryz.func11, Tryz.ntmps11
          go_wp2_with fail
          refine (CK.out _).mono ?_
          rintro e w1 ⟨rfl, rfl⟩
          go_wp2_with fail
          refine (CK.out _).mono ?_
          rintro e w1 ⟨rfl, rfl⟩
          go_wp2_with fail
          refine bodyPost_ret (v := .tuple #[tokV 6 (s.extract at0 (at0 + 2)) at0, .int .i64 ((at0 : Int) + 2), .int .i64 0]) (by simp [results, Tryz.results11, go_sem, tokV, *]) rfl (refOk _ _ _ _ (by rw [HK.out]) (by rw [HK.out]) (by rw [HK.out]; exact arr_eq _ _ HX.out) rfl (by rw [HK.out]; rfl) (intBel _ _ _))
        | false =>
          rw [h1, h2, h3] at HS2
          go_enter Tryz.func11, Tryz.ntmps11
          go_wp2_with fail
          refine (CK.out _).mono ?_
          rintro e w1 ⟨rfl, rfl⟩
          go_wp2_with fail
          refine (CK.out _).mono ?_
          rintro e w1 ⟨rfl, rfl⟩
          go_wp2_with fail
          obtain ⟨W, hW, HR, HS, HBEL, HLT⟩ := sign_made w at0
          rw [hW]
          clear hW
          have hSGs : (⟨#[40, 41, 44, 46, 61, 60, 62, 43, 45, 42, 59]⟩ : ByteArray).data.toList = signsL := rfl
          generalize (⟨#[40, 41, 44, 46, 61, 60, 62, 43, 45, 42, 59]⟩ : ByteArray) = SG at *
          have HSG := Lib.hid hSGs
          have hsz : SG.size = 11 := by rw [← list_size, hSGs]; rfl
          have HSZ := Lib.hid hsz
          have hle : SG.size ≤ 11 := by omega
          have hge : 11 ≤ SG.size := by omega
          clear hSGs hsz
          go_loopg [11] 11 (fun m i wr => ∃ j : Nat, j ≤ 11 ∧ m = 11 - j ∧ i = .int .i64 j ∧ Hid (RowF wr w.heap.size 3 (tokF 0 ⟨#[]⟩ 0)) ∧ Hid (RowF wr (w.heap.size + 1) 3 (tokF 6 ⟨#[]⟩ at0)) ∧ Hid (Below w.heap.size w wr) ∧ Hid (∀ t, t < j → signsL.getD t 0 ≠ s[at0]'p0))
          case atStart => exact ⟨0, by omega, rfl, rfl, HR, HS, HBEL, Lib.hid (fun t h => by omega)⟩
          case round =>
            clear HR HS HBEL HLT
            obtain ⟨j, hj, hg, rfl, HR, HS, HBEL, HJ⟩ := hrel
            have HG := Lib.hid hg
            clear hg
            have hS1 := HS.out
            have hR1 := HR.out
            have hc0 := hR1.cell (j := 0) (by decide)
            have hc1 := hR1.cell (j := 1) (by decide)
            have hc2 := hR1.cell (j := 2) (by decide)
            have hf0 := hR1.free (j := 0) (by decide)
            have hf1 := hR1.free (j := 1) (by decide)
            have hf2 := hR1.free (j := 2) (by decide)
            have hd0 : wr.cell? ⟨w.heap.size + 1, 0, none⟩ = some (.int .i64 6) := hS1.cell (j := 0) (by decide)
            have hd1 : wr.cell? ⟨w.heap.size + 1, 1, none⟩ = some (.string ⟨#[]⟩) := hS1.cell (j := 1) (by decide)
            have hd2 : wr.cell? ⟨w.heap.size + 1, 2, none⟩ = some (.int .i64 at0) := hS1.cell (j := 2) (by decide)
            have hg1 := hS1.free (j := 1) (by decide)
            clear hS1 hR1
            by_cases hjs : j < SG.size
            · have hjI : (j : Int) < SG.size := by omega
              have HB := Lib.hid (show SG[j]'hjs = signsL.getD j 0 from by rw [byte_at SG j hjs, HSG.out])
              by_cases hc : signsL.getD j 0 = s[at0]'p0
              · have hcb : (((SG[j]'hjs).toNat : Int) == ((s[at0]'p0).toNat : Int)) = true := by rw [HB.out, hc]; exact beq_self_eq_true _
                have HK := Lib.hid (show nextP (s.data.toList.drop at0) = ((6, (s.data.toList.drop at0).take 1), 1, 0) from by
                  rw [HP.out, signP, if_neg (by rw [HS2.out]; simp), drop_head s at0 p0, if_pos (by
                    rw [List.contains_iff_mem, ← hc]; exact getD_ne (show j < 11 by omega))])
                have HXE := Lib.hid (arr_eq _ _ (ext_mid s at0 (at0 + 1)))
                clear hc
                have hw1 : IntKind.i64.wrap ((at0 : Int) + 1) = (at0 : Int) + 1 := IntWalk.i64_in _ (by omega)
                have hw2 : (0 : Int) ≤ (at0 : Int) := by omega
                have hw3 : (at0 : Int) ≤ (at0 : Int) + 1 := by omega
                have hw4 : (at0 : Int) + 1 ≤ s.size := by omega
                have hw5 : ((at0 : Int) + 1).toNat = at0 + 1 := by omega
                go_wp2_with fail
                go_quiet (fail)
                go_wp2_with fail
                refine bodyPost_ret (v := .tuple #[tokV 6 (s.extract at0 (at0 + 1)) at0, .int .i64 ((at0 : Int) + 1), .int .i64 0]) (by simp [results, Tryz.results11, go_sem, tokV, *]) rfl (refOk _ _ _ _ (by rw [HK.out]) (by rw [HK.out]) (by rw [HK.out, HXE.out, show at0 + 1 - at0 = 1 by omega]) rfl (by rw [HK.out]; rfl) ?_)
                exact tokBelB ((pw_drewN HBEL.out _).setCell (by simp) _) _ _ _
              · have hcb : (((SG[j]'hjs).toNat : Int) == ((s[at0]'p0).toNat : Int)) = false := by
                  rw [HB.out, beq_eq_false_iff_ne]
                  intro e
                  exact hc (UInt8.toNat_inj.1 (by omega))
                have HJ2 := Lib.hid (show ∀ t, t < j + 1 → signsL.getD t 0 ≠ s[at0]'p0 from fun t ht => by
                  rcases Nat.lt_or_ge t j with h | h
                  · exact HJ.out t h
                  · obtain rfl : t = j := by omega
                    exact hc)
                clear hc
                go_wp2_with fail
                go_quiet (fail)
                go_wp2_with fail
                go_roundg (11 - (j + 1))
                case measure => rw [HG.out]; omega
                case rel => exact ⟨j + 1, by omega, rfl, by go_num, Lib.hid HR.out, Lib.hid HS.out, Lib.hid (pw_drewN HBEL.out _), HJ2⟩
            · have HK := Lib.hid (show nextP (s.data.toList.drop at0) = ((0, []), 0, 100) from by
                rw [HP.out, signP, if_neg (by rw [HS2.out]; simp), drop_head s at0 p0, if_neg (fun h => by
                  rw [List.contains_iff_mem] at h
                  obtain ⟨t, ht, e⟩ := List.getElem_of_mem h
                  refine HJ.out t (by have : signsL.length = 11 := rfl; omega) ?_
                  rw [List.getD_eq_getElem?_getD, List.getElem?_eq_getElem ht, ← e]; rfl)])
              have hjI : ¬ ((j : Int) < SG.size) := by omega
              go_wp2_with fail
              refine bodyPost_ret (v := .tuple #[tokV 6 ⟨#[]⟩ at0, .int .i64 at0, .int .i64 100]) (by simp [results, Tryz.results11, go_sem, tokV, *]) rfl (refErr _ _ _ _ 100 (by decide) (by rw [HK.out]) (tokBelB HBEL.out _ _ _))
  · have hrI : ¬ ((at0 : Int) + 1 < s.size) := by omega
    have HS2 := Lib.hid (sign2_short s at0 hr p0)
    go_enter Tryz.func11, Tryz.ntmps11
    go_wp2_with fail
    refine (CK.out _).mono ?_
    rintro e w1 ⟨rfl, rfl⟩
    go_wp2_with fail
    refine (CK.out _).mono ?_
    rintro e w1 ⟨rfl, rfl⟩
    go_wp2_with fail
    obtain ⟨W, hW, HR, HS, HBEL, HLT⟩ := sign_made w at0
    rw [hW]
    clear hW
    have hSGs : (⟨#[40, 41, 44, 46, 61, 60, 62, 43, 45, 42, 59]⟩ : ByteArray).data.toList = signsL := rfl
    generalize (⟨#[40, 41, 44, 46, 61, 60, 62, 43, 45, 42, 59]⟩ : ByteArray) = SG at *
    have HSG := Lib.hid hSGs
    have hsz : SG.size = 11 := by rw [← list_size, hSGs]; rfl
    have HSZ := Lib.hid hsz
    have hle : SG.size ≤ 11 := by omega
    have hge : 11 ≤ SG.size := by omega
    clear hSGs hsz
    go_loopg [11] 11 (fun m i wr => ∃ j : Nat, j ≤ 11 ∧ m = 11 - j ∧ i = .int .i64 j ∧ Hid (RowF wr w.heap.size 3 (tokF 0 ⟨#[]⟩ 0)) ∧ Hid (RowF wr (w.heap.size + 1) 3 (tokF 6 ⟨#[]⟩ at0)) ∧ Hid (Below w.heap.size w wr) ∧ Hid (∀ t, t < j → signsL.getD t 0 ≠ s[at0]'p0))
    case atStart => exact ⟨0, by omega, rfl, rfl, HR, HS, HBEL, Lib.hid (fun t h => by omega)⟩
    case round =>
      clear HR HS HBEL HLT
      obtain ⟨j, hj, hg, rfl, HR, HS, HBEL, HJ⟩ := hrel
      have HG := Lib.hid hg
      clear hg
      have hS1 := HS.out
      have hR1 := HR.out
      have hc0 := hR1.cell (j := 0) (by decide)
      have hc1 := hR1.cell (j := 1) (by decide)
      have hc2 := hR1.cell (j := 2) (by decide)
      have hf0 := hR1.free (j := 0) (by decide)
      have hf1 := hR1.free (j := 1) (by decide)
      have hf2 := hR1.free (j := 2) (by decide)
      have hd0 : wr.cell? ⟨w.heap.size + 1, 0, none⟩ = some (.int .i64 6) := hS1.cell (j := 0) (by decide)
      have hd1 : wr.cell? ⟨w.heap.size + 1, 1, none⟩ = some (.string ⟨#[]⟩) := hS1.cell (j := 1) (by decide)
      have hd2 : wr.cell? ⟨w.heap.size + 1, 2, none⟩ = some (.int .i64 at0) := hS1.cell (j := 2) (by decide)
      have hg1 := hS1.free (j := 1) (by decide)
      clear hS1 hR1
      by_cases hjs : j < SG.size
      · have hjI : (j : Int) < SG.size := by omega
        have HB := Lib.hid (show SG[j]'hjs = signsL.getD j 0 from by rw [byte_at SG j hjs, HSG.out])
        by_cases hc : signsL.getD j 0 = s[at0]'p0
        · have hcb : (((SG[j]'hjs).toNat : Int) == ((s[at0]'p0).toNat : Int)) = true := by rw [HB.out, hc]; exact beq_self_eq_true _
          have HK := Lib.hid (show nextP (s.data.toList.drop at0) = ((6, (s.data.toList.drop at0).take 1), 1, 0) from by
            rw [HP.out, signP, if_neg (by rw [HS2.out]; simp), drop_head s at0 p0, if_pos (by
              rw [List.contains_iff_mem, ← hc]; exact getD_ne (show j < 11 by omega))])
          have HXE := Lib.hid (arr_eq _ _ (ext_mid s at0 (at0 + 1)))
          clear hc
          have hw1 : IntKind.i64.wrap ((at0 : Int) + 1) = (at0 : Int) + 1 := IntWalk.i64_in _ (by omega)
          have hw2 : (0 : Int) ≤ (at0 : Int) := by omega
          have hw3 : (at0 : Int) ≤ (at0 : Int) + 1 := by omega
          have hw4 : (at0 : Int) + 1 ≤ s.size := by omega
          have hw5 : ((at0 : Int) + 1).toNat = at0 + 1 := by omega
          go_wp2_with fail
          go_quiet (fail)
          go_wp2_with fail
          refine bodyPost_ret (v := .tuple #[tokV 6 (s.extract at0 (at0 + 1)) at0, .int .i64 ((at0 : Int) + 1), .int .i64 0]) (by simp [results, Tryz.results11, go_sem, tokV, *]) rfl (refOk _ _ _ _ (by rw [HK.out]) (by rw [HK.out]) (by rw [HK.out, HXE.out, show at0 + 1 - at0 = 1 by omega]) rfl (by rw [HK.out]; rfl) ?_)
          exact tokBelB ((pw_drewN HBEL.out _).setCell (by simp) _) _ _ _
        · have hcb : (((SG[j]'hjs).toNat : Int) == ((s[at0]'p0).toNat : Int)) = false := by
            rw [HB.out, beq_eq_false_iff_ne]
            intro e
            exact hc (UInt8.toNat_inj.1 (by omega))
          have HJ2 := Lib.hid (show ∀ t, t < j + 1 → signsL.getD t 0 ≠ s[at0]'p0 from fun t ht => by
            rcases Nat.lt_or_ge t j with h | h
            · exact HJ.out t h
            · obtain rfl : t = j := by omega
              exact hc)
          clear hc
          go_wp2_with fail
          go_quiet (fail)
          go_wp2_with fail
          go_roundg (11 - (j + 1))
          case measure => rw [HG.out]; omega
          case rel => exact ⟨j + 1, by omega, rfl, by go_num, Lib.hid HR.out, Lib.hid HS.out, Lib.hid (pw_drewN HBEL.out _), HJ2⟩
      · have HK := Lib.hid (show nextP (s.data.toList.drop at0) = ((0, []), 0, 100) from by
          rw [HP.out, signP, if_neg (by rw [HS2.out]; simp), drop_head s at0 p0, if_neg (fun h => by
            rw [List.contains_iff_mem] at h
            obtain ⟨t, ht, e⟩ := List.getElem_of_mem h
            refine HJ.out t (by have : signsL.length = 11 := rfl; omega) ?_
            rw [List.getD_eq_getElem?_getD, List.getElem?_eq_getElem ht, ← e]; rfl)])
        have hjI : ¬ ((j : Int) < SG.size) := by omega
        go_wp2_with fail
        refine bodyPost_ret (v := .tuple #[tokV 6 ⟨#[]⟩ at0, .int .i64 at0, .int .i64 100]) (by simp [results, Tryz.results11, go_sem, tokV, *]) rfl (refErr _ _ _ _ 100 (by decide) (by rw [HK.out]) (tokBelB HBEL.out _ _ _))
theorem rword_any (s : ByteArray) (hs : s.size ≤ 1000000) (at0 : Nat) (h : at0 ≤ s.size) (w : World) (hL : Hid (FltLaid w)) (hE : Hid (ErrAt w)) :
    Calls Tryz.prog 11 #[.string s, .int .i64 at0] w (RefPost (nextP (s.data.toList.drop at0)) at0 w) := by
  by_cases p0 : at0 = s.size
  · subst p0
    exact rword_nil s hs w
  have p1 : at0 < s.size := by omega
  cases hl : letterB (s[at0]'p1).toNat with
  | true => exact rword_name s hs at0 p1 hl w
  | false =>
    cases hd : digitB (s[at0]'p1).toNat with
    | true => exact rword_num s hs at0 p1 hl hd w hL hE
    | false =>
      by_cases hq : (s[at0]'p1).toNat = 39
      · exact rword_text s hs at0 p1 hl hd hq w
      · exact rword_sign s hs at0 p1 hl hd hq w
end Go.Proofs.YthhepfjjmilcnaaGreatDoor
