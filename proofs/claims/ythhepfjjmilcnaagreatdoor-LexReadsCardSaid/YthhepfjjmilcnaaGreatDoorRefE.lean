/- The walk of the document's answer: word. -/
import Derived.Test.YthhepfjjmilcnaaGreatDoorRefC
import Derived.Test.YthhepfjjmilcnaaGreatDoorRefD
import Derived.Test.YthhepfjjmilcnaaGreatDoorLexE
namespace Go.Proofs.YthhepfjjmilcnaaGreatDoor
open Go.RowKit Lx Fl
/-- the two blocks of words that word makes -/
theorem two_made (w : World) (at0 : Nat) : ∃ W, (w.alloc (.cells #[.int .i64 0, .string ⟨#[]⟩, .int .i64 0] 30)).alloc (.cells #[.int .i64 0, .string ⟨#[]⟩, .int .i64 at0] 30) = W ∧
    Hid (RowF W w.heap.size 3 (tokF 0 ⟨#[]⟩ 0)) ∧ Hid (RowF W (w.heap.size + 1) 3 (tokF 0 ⟨#[]⟩ at0)) ∧ Hid (Below w.heap.size w W) ∧ Hid (w.heap.size + 1 < W.heap.size) := by
  obtain ⟨h1, h2, _⟩ := tok2 w 0 0 ⟨#[]⟩ ⟨#[]⟩ 0 at0
  exact ⟨_, rfl, Lib.hid h1, Lib.hid h2, Lib.hid (intBel _ _ _), Lib.hid (by simp)⟩
theorem drop_head (s : ByteArray) (at0 : Nat) (h : at0 < s.size) : (s.data.toList.drop at0).getD 0 0 = s[at0]'h := by
  rw [byte_at, List.getD_eq_getElem?_getD, List.getElem?_drop, ← List.getD_eq_getElem?_getD]
  rfl
theorem drop_ne (s : ByteArray) (at0 : Nat) (h : at0 < s.size) : s.data.toList.drop at0 ≠ [] := fun e => by
  have := congrArg List.length e
  rw [List.length_drop, list_size, List.length_nil] at this
  omega
/-- what kind answers at a byte, in the words of the tests -/
theorem kind_letter (c : UInt8) (h : letterB c.toNat = true) (w : World) : Calls Tryz.prog 10 #[.int .u8 c.toNat] w fun e w' => e = .returned (.int .i64 1) ∧ w = w' := by
  have := kind_any c.toNat c.toNat_lt w
  rwa [show kindN c.toNat = 1 from by rw [kindN, if_pos h]] at this
theorem kind_digit (c : UInt8) (h : letterB c.toNat = false) (h2 : digitB c.toNat = true) (w : World) : Calls Tryz.prog 10 #[.int .u8 c.toNat] w fun e w' => e = .returned (.int .i64 2) ∧ w = w' := by
  have := kind_any c.toNat c.toNat_lt w
  rwa [show kindN c.toNat = 2 from by rw [kindN, if_neg (by rw [h]; simp), if_pos h2]] at this
theorem kind_other (c : UInt8) (h : letterB c.toNat = false) (h2 : digitB c.toNat = false) : ∃ k : Int, (k == 1) = false ∧ (k == 2) = false ∧ Hid (∀ w, Calls Tryz.prog 10 #[.int .u8 c.toNat] w fun e w' => e = .returned (.int .i64 k) ∧ w = w') :=
  ⟨kindN c.toNat, by rw [kindN_letter]; exact h, by rw [kindN_digit]; exact h2, Lib.hid (fun w => kind_any c.toNat c.toNat_lt w)⟩
set_option maxHeartbeats 1600000 in
set_option maxRecDepth 100000 in
theorem rword_nil (s : ByteArray) (hs : s.size ≤ 1000000) (w : World) :
    Calls Tryz.prog 11 #[.string s, .int .i64 s.size] w (RefPost (nextP (s.data.toList.drop s.size)) s.size w) := by
  have HP := Lib.hid (show nextP (s.data.toList.drop s.size) = ((0, []), 0, 0) from by rw [List.drop_eq_nil_of_le (by rw [list_size]; exact Nat.le_refl _)]; rfl)
  go_enter Tryz.func11, Tryz.ntmps11
  go_wp2_with fail
  refine bodyPost_ret (v := .tuple #[tokV 0 ⟨#[]⟩ s.size, .int .i64 s.size, .int .i64 0]) (by simp [results, Tryz.results11, go_sem, tokV, *]) rfl (refOk _ _ _ _ (by rw [HP.out]) (by rw [HP.out]) (by rw [HP.out]) rfl (by rw [HP.out]; rfl) (intBel _ _ _))
set_option maxHeartbeats 1600000 in
set_option maxRecDepth 100000 in
theorem rword_num (s : ByteArray) (hs : s.size ≤ 1000000) (at0 : Nat) (p0 : at0 < s.size) (hl : letterB (s[at0]'p0).toNat = false) (hd : digitB (s[at0]'p0).toNat = true) (w : World) (hL : Hid (FltLaid w)) (hE : Hid (ErrAt w)) :
    Calls Tryz.prog 11 #[.string s, .int .i64 at0] w (RefPost (nextP (s.data.toList.drop at0)) at0 w) := by
  have HP := Lib.hid (show nextP (s.data.toList.drop at0) = numP (s.data.toList.drop at0) from by rw [nextP, if_neg (drop_ne s at0 p0), drop_head s at0 p0, if_neg (by rw [hl]; simp), if_pos hd])
  have hne : ((at0 : Int) == s.size) = false := by rw [beq_eq_false_iff_ne]; omega
  have hatI : (at0 : Int) < s.size := by omega
  have CK := Lib.hid (kind_digit (s[at0]'p0) hl hd)
  have HD := Lib.hid hd
  clear hl hd
  go_enter Tryz.func11, Tryz.ntmps11
  go_wp2_with fail
  obtain ⟨W, hW, HR, HS, HBEL, HLT⟩ := two_made w at0
  rw [hW]
  clear hW
  refine (CK.out _).mono ?_
  rintro e w1 ⟨rfl, rfl⟩
  go_wp2_with fail
  refine (CK.out _).mono ?_
  rintro e w1 ⟨rfl, rfl⟩
  go_wp2_with fail
  refine (rnumber_any s hs at0 p0 HD.out _ (Lib.hid (hL.out.below HBEL.out)) (Lib.hid (hE.out.below HBEL.out))).mono ?_
  rintro e w1 ⟨⟨k, u, a, en, rfl, hok⟩, hb⟩
  have hR1 := HR.out.below hb (by have := HLT.out; omega)
  have HBL := Lib.hid (below_then' HBEL.out HBEL.out.size hb)
  have HOK := Lib.hid hok
  clear hb hok
  have hc0 := hR1.cell (j := 0) (by decide)
  have hc1 := hR1.cell (j := 1) (by decide)
  have hc2 := hR1.cell (j := 2) (by decide)
  have hf0 := hR1.free (j := 0) (by decide)
  have hf1 := hR1.free (j := 1) (by decide)
  have hf2 := hR1.free (j := 2) (by decide)
  clear hR1
  obtain ⟨r, hr⟩ : ∃ r, numP (s.data.toList.drop at0) = r := ⟨_, rfl⟩
  rw [hr] at HP HOK ⊢
  clear hr
  unfold tokV
  go_wp2_with fail
  refine bodyPost_ret (v := .tuple #[tokV k u a, .int .i64 en, .int .i64 r.2.2]) (by simp [results, Tryz.results11, go_sem, tokV, *]) rfl ⟨⟨k, u, a, en, by rw [HP.out], by rw [HP.out]; exact HOK.out⟩, tokBelB HBL.out _ _ _⟩
set_option maxHeartbeats 1600000 in
set_option maxRecDepth 100000 in
theorem rword_text (s : ByteArray) (hs : s.size ≤ 1000000) (at0 : Nat) (p0 : at0 < s.size) (hl : letterB (s[at0]'p0).toNat = false) (hd : digitB (s[at0]'p0).toNat = false) (hq : (s[at0]'p0).toNat = 39) (w : World) :
    Calls Tryz.prog 11 #[.string s, .int .i64 at0] w (RefPost (nextP (s.data.toList.drop at0)) at0 w) := by
  have HP := Lib.hid (show nextP (s.data.toList.drop at0) = textP (s.data.toList.drop at0) from by rw [nextP, if_neg (drop_ne s at0 p0), drop_head s at0 p0, if_neg (by rw [hl]; simp), if_neg (by rw [hd]; simp), if_pos hq])
  have hne : ((at0 : Int) == s.size) = false := by rw [beq_eq_false_iff_ne]; omega
  have hatI : (at0 : Int) < s.size := by omega
  obtain ⟨kk, hk1, hk2, CK⟩ := kind_other (s[at0]'p0) hl hd
  have hqb : (((s[at0]'p0).toNat : Int) == 39) = true := by rw [hq]; rfl
  rw [hq] at CK
  clear hl hd
  go_enter Tryz.func11, Tryz.ntmps11
  go_wp2_with fail
  obtain ⟨W, hW, HR, HS, HBEL, HLT⟩ := two_made w at0
  rw [hW]
  clear hW
  refine (CK.out _).mono ?_
  rintro e w1 ⟨rfl, rfl⟩
  go_wp2_with fail
  refine (CK.out _).mono ?_
  rintro e w1 ⟨rfl, rfl⟩
  go_wp2_with fail
  refine (rtext_any s hs at0 p0 _).mono ?_
  rintro e w1 ⟨⟨k, u, a, en, rfl, hok⟩, hb⟩
  have hR1 := HR.out.below hb (by have := HLT.out; omega)
  have HBL := Lib.hid (below_then' HBEL.out HBEL.out.size hb)
  have HOK := Lib.hid hok
  clear hb hok
  have hc0 := hR1.cell (j := 0) (by decide)
  have hc1 := hR1.cell (j := 1) (by decide)
  have hc2 := hR1.cell (j := 2) (by decide)
  have hf0 := hR1.free (j := 0) (by decide)
  have hf1 := hR1.free (j := 1) (by decide)
  have hf2 := hR1.free (j := 2) (by decide)
  clear hR1
  obtain ⟨r, hr⟩ : ∃ r, textP (s.data.toList.drop at0) = r := ⟨_, rfl⟩
  rw [hr] at HP HOK ⊢
  clear hr
  unfold tokV
  go_wp2_with fail
  refine bodyPost_ret (v := .tuple #[tokV k u a, .int .i64 en, .int .i64 r.2.2]) (by simp [results, Tryz.results11, go_sem, tokV, *]) rfl ⟨⟨k, u, a, en, by rw [HP.out], by rw [HP.out]; exact HOK.out⟩, tokBelB HBL.out _ _ _⟩
theorem span_step (l : List UInt8) (at0 q : Nat) (h : at0 ≤ q) (H : Hid (spanN wordB (l.drop at0) = (q - at0) + spanN wordB (l.drop q))) (hq : q < l.length) (hw : wordB l[q].toNat = true) : Hid (spanN wordB (l.drop at0) = (q + 1 - at0) + spanN wordB (l.drop (q + 1))) :=
  Lib.hid (by rw [H.out, spanN_drop wordB l q hq, if_pos hw]; omega)
theorem span_stop (l : List UInt8) (at0 q : Nat) (H : Hid (spanN wordB (l.drop at0) = (q - at0) + spanN wordB (l.drop q))) (hw : ∀ hq : q < l.length, wordB l[q].toNat = false) : spanN wordB (l.drop at0) = q - at0 := by
  rw [H.out]
  rcases Nat.lt_or_ge q l.length with h | h
  · rw [spanN_drop wordB l q h, if_neg (by rw [hw h]; simp)]; omega
  · rw [List.drop_eq_nil_of_le h, spanN_nil]; omega
theorem name_world (w W : World) (at0 : Nat) (X : ByteArray) (HR : Hid (RowF W w.heap.size 3 (tokF 0 ⟨#[]⟩ 0))) (HS : Hid (RowF W (w.heap.size + 1) 3 (tokF 0 ⟨#[]⟩ at0))) (HB : Hid (Below w.heap.size w W)) (HL : Hid (w.heap.size + 1 < W.heap.size)) :
    ∃ V, ((W.setCell ⟨w.heap.size + 1, 0, none⟩ (.int .i64 1)).setCell ⟨w.heap.size + 1, 1, none⟩ (.string X)).drew = V ∧ Hid (RowF V w.heap.size 3 (tokF 0 ⟨#[]⟩ 0)) ∧ Hid (RowF V (w.heap.size + 1) 3 (tokF 1 X at0)) ∧ Hid (Below w.heap.size w V) ∧ Hid (w.heap.size + 1 < V.heap.size) := by
  refine ⟨_, rfl, Lib.hid ((HR.out.other _ (by simp) _).other _ (by simp) _).drew, Lib.hid (tok_put (k := 1) (a := at0) (u := ⟨#[]⟩) ?_ X).drew, Lib.hid (Below.drew ((HB.out.setCell (by simp) _).setCell (by simp) _)), Lib.hid ?_⟩
  · exact (HS.out.set (i := 0) (by decide) (.int .i64 1)).ext fun j hj => by
      rcases j with _ | _ | _ | j
      · rfl
      · rfl
      · rfl
      · omega
  · show w.heap.size + 1 < ((W.setCell _ _).setCell _ _).heap.size
    rw [size_setCell, size_setCell]; exact HL.out
theorem ext_mid (s : ByteArray) (a b : Nat) : (s.extract a b).data.toList = (s.data.toList.drop a).take (b - a) := by
  rw [ByteArray.data_extract, Array.toList_extract]
  try simp only [List.extract]
theorem kwS_some (u : List UInt8) (h : kwB u = true) : (!(kwS u).isEmpty) = true := by
  rw [kwS, if_pos h]
  unfold kwB at h
  rw [Bool.and_eq_true, Bool.and_eq_true] at h
  cases u with
  | nil => simp at h
  | cons _ _ => rfl
theorem refKw_eq (l : List UInt8) : refKw l = kwS l := by
  unfold refKw kwS
  rw [kwB_eq]
set_option maxHeartbeats 1600000 in
set_option maxRecDepth 100000 in
theorem rword_name (s : ByteArray) (hs : s.size ≤ 1000000) (at0 : Nat) (p0 : at0 < s.size) (hl : letterB (s[at0]'p0).toNat = true) (w : World) :
    Calls Tryz.prog 11 #[.string s, .int .i64 at0] w (RefPost (nextP (s.data.toList.drop at0)) at0 w) := by
  have HP := Lib.hid (show nextP (s.data.toList.drop at0) = nameP (s.data.toList.drop at0) from by rw [nextP, if_neg (drop_ne s at0 p0), drop_head s at0 p0, if_pos hl])
  have hne : ((at0 : Int) == s.size) = false := by rw [beq_eq_false_iff_ne]; omega
  have hatI : (at0 : Int) < s.size := by omega
  have CK := Lib.hid (kind_letter (s[at0]'p0) hl)
  clear hl
  go_enter Tryz.func11, Tryz.ntmps11
  go_wp2_with fail
  obtain ⟨W, hW, HR, HS, HBEL, HLT⟩ := two_made w at0
  rw [hW]
  clear hW
  refine (CK.out _).mono ?_
  rintro e w1 ⟨rfl, rfl⟩
  go_wp2_with fail
  go_loopg [8] (s.size - at0) (fun m i wr => ∃ q : Nat, at0 ≤ q ∧ q ≤ s.size ∧ m = s.size - q ∧ i = .int .i64 q ∧ W = wr ∧ Hid (spanN wordB (s.data.toList.drop at0) = (q - at0) + spanN wordB (s.data.toList.drop q)))
  case atStart => exact ⟨at0, Nat.le_refl _, by omega, rfl, rfl, rfl, Lib.hid (by omega)⟩
  case round =>
    obtain ⟨q, hq0, hq, hg, rfl, rfl, HN⟩ := hrel
    have HG := Lib.hid hg
    clear hg
    have hqI : (q : Int) ≤ s.size := by omega
    by_cases hks : q < s.size
    · have hksI : (q : Int) < s.size := by omega
      have hqd : s.data.toList[q]'(by rw [list_size]; exact hks) = s[q]'hks := rfl
      cases hlq : letterB (s[q]'hks).toNat with
      | true =>
        have HN2 := span_step s.data.toList at0 q hq0 HN (by rw [list_size]; exact hks) (by rw [hqd]; unfold wordB; rw [hlq]; rfl)
        have CK2 := Lib.hid (kind_letter (s[q]'hks) hlq)
        clear hlq hqd
        go_wp2_with fail
        refine (CK2.out _).mono ?_
        rintro e w1 ⟨rfl, rfl⟩
        go_wp2_with fail
        go_roundg (s.size - (q + 1))
        case measure => rw [HG.out]; omega
        case rel => exact ⟨q + 1, by omega, by omega, rfl, by go_num, rfl, HN2⟩
      | false =>
        cases hdq : digitB (s[q]'hks).toNat with
        | true =>
          have HN2 := span_step s.data.toList at0 q hq0 HN (by rw [list_size]; exact hks) (by rw [hqd]; unfold wordB; rw [hlq, hdq]; rfl)
          have CK2 := Lib.hid (kind_digit (s[q]'hks) hlq hdq)
          clear hlq hdq hqd
          go_wp2_with fail
          refine (CK2.out _).mono ?_
          rintro e w1 ⟨rfl, rfl⟩
          go_wp2_with fail
          refine (CK2.out _).mono ?_
          rintro e w1 ⟨rfl, rfl⟩
          go_wp2_with fail
          go_roundg (s.size - (q + 1))
          case measure => rw [HG.out]; omega
          case rel => exact ⟨q + 1, by omega, by omega, rfl, by go_num, rfl, HN2⟩
        | false =>
          obtain ⟨kk, hk1, hk2, CK2⟩ := kind_other (s[q]'hks) hlq hdq
          have HE := Lib.hid (span_stop s.data.toList at0 q HN (fun h => by rw [hqd]; unfold wordB; rw [hlq, hdq]; rfl))
          clear hlq hdq hqd
          go_wp2_with fail
          refine (CK2.out _).mono ?_
          rintro e w1 ⟨rfl, rfl⟩
          go_wp2_with fail
          refine (CK2.out _).mono ?_
          rintro e w1 ⟨rfl, rfl⟩
          have hS1 := HS.out
          have hd0 : W.cell? ⟨w.heap.size + 1, 0, none⟩ = some (.int .i64 0) := hS1.cell (j := 0) (by decide)
          have hd1 : W.cell? ⟨w.heap.size + 1, 1, none⟩ = some (.string ⟨#[]⟩) := hS1.cell (j := 1) (by decide)
          have hd2 : W.cell? ⟨w.heap.size + 1, 2, none⟩ = some (.int .i64 at0) := hS1.cell (j := 2) (by decide)
          have hg0 := hS1.free (j := 0) (by decide)
          have hg1 := hS1.free (j := 1) (by decide)
          have hq0I : (at0 : Int) ≤ q := by omega
          clear hS1
          go_wp2_with fail
          go_region
          go_wp2_with fail
          clear hd0 hd1 hd2 hg0 hg1
          obtain ⟨V, hV, HR2, HS2, HBEL2, HLT2⟩ := name_world w W at0 (s.extract at0 q) HR HS HBEL HLT
          rw [hV]
          clear hV
          refine (rkeyword_any (s.extract at0 q) (by rw [ByteArray.size_extract]; omega) _).mono ?_
          rintro e w2 ⟨rfl, hb⟩
          have HX := Lib.hid (ext_mid s at0 q)
          have HPN := Lib.hid (nameP_of (s.data.toList.drop at0) _ HE.out)
          rw [HX.out, refKw_eq]
          have hR1 := HR2.out.below hb (by have := HLT2.out; omega)
          have hS1 := HS2.out.below hb HLT2.out
          have HBL2 := Lib.hid (below_then' HBEL2.out HBEL2.out.size hb)
          clear hb
          have hc0 := hR1.cell (j := 0) (by decide)
          have hc1 := hR1.cell (j := 1) (by decide)
          have hc2 := hR1.cell (j := 2) (by decide)
          have hf0 := hR1.free (j := 0) (by decide)
          have hf1 := hR1.free (j := 1) (by decide)
          have hf2 := hR1.free (j := 2) (by decide)
          have hd0 : w2.cell? ⟨w.heap.size + 1, 0, none⟩ = some (.int .i64 1) := hS1.cell (j := 0) (by decide)
          have hd1 : w2.cell? ⟨w.heap.size + 1, 1, none⟩ = some (.string (s.extract at0 q)) := hS1.cell (j := 1) (by decide)
          have hd2 : w2.cell? ⟨w.heap.size + 1, 2, none⟩ = some (.int .i64 at0) := hS1.cell (j := 2) (by decide)
          have hg0 := hS1.free (j := 0) (by decide)
          have hg1 := hS1.free (j := 1) (by decide)
          clear hR1 hS1
          have HXE := Lib.hid (arr_eq _ _ HX.out)
          generalize (s.data.toList.drop at0).take (q - at0) = u at *
          cases hk : kwB u with
          | true =>
            rw [hk] at HPN
            have hKe := kwS_some u hk
            have HK := Lib.hid (show nextP (s.data.toList.drop at0) = ((2, kwS u), q - at0, 0) from by rw [HP.out, HPN.out, if_pos rfl])
            clear HPN hk
            generalize kwS u = ku at *
            go_wp2_with fail
            refine bodyPost_ret (v := .tuple #[tokV 2 ⟨ku.toArray⟩ at0, .int .i64 q, .int .i64 0]) (by simp [results, Tryz.results11, go_sem, tokV, *]) rfl (refOk _ _ _ _ (by rw [HK.out]) (by rw [HK.out]) (by rw [HK.out]) rfl (by rw [HK.out]; show (q : Int) = ((at0 + (q - at0) : Nat) : Int); omega) (tokBelB ((HBL2.out.setCell (by simp) _).setCell (by simp) _) _ _ _))
          | false =>
            rw [hk] at HPN
            rw [show kwS u = [] from by rw [kwS, hk]; rfl]
            by_cases h12 : 12 < q - at0
            · have hb2 : (12 : Int) < (q : Int) - at0 := by omega
              have HK := Lib.hid (show nextP (s.data.toList.drop at0) = ((0, []), 0, 4) from by rw [HP.out, HPN.out, if_neg (by simp), if_pos h12])
              clear HPN hk
              go_wp2_with fail
              refine bodyPost_ret (v := .tuple #[tokV 1 (s.extract at0 q) at0, .int .i64 q, .int .i64 4]) (by simp [results, Tryz.results11, go_sem, tokV, *]) rfl (refErr _ _ _ _ 4 (by decide) (by rw [HK.out]) (tokBelB HBL2.out _ _ _))
            · have hb2 : ¬ (12 : Int) < (q : Int) - at0 := by omega
              have HK := Lib.hid (show nextP (s.data.toList.drop at0) = ((1, u), q - at0, 0) from by rw [HP.out, HPN.out, if_neg (by simp), if_neg h12])
              clear HPN hk
              go_wp2_with fail
              refine bodyPost_ret (v := .tuple #[tokV 1 (s.extract at0 q) at0, .int .i64 q, .int .i64 0]) (by simp [results, Tryz.results11, go_sem, tokV, *]) rfl (refOk _ _ _ _ (by rw [HK.out]) (by rw [HK.out]) (by rw [HK.out]; exact HXE.out) rfl (by rw [HK.out]; show (q : Int) = ((at0 + (q - at0) : Nat) : Int); omega) (tokBelB HBL2.out _ _ _))
    · have HE := Lib.hid (span_stop s.data.toList at0 q HN (fun h => by rw [list_size] at h; exact absurd h hks))
      obtain hqs : q = s.size := by omega
      have hq0' : ¬ ((q : Int) < s.size) := by omega
      clear hqs
      go_wp2_with fail
      have hS1 := HS.out
      have hd0 : W.cell? ⟨w.heap.size + 1, 0, none⟩ = some (.int .i64 0) := hS1.cell (j := 0) (by decide)
      have hd1 : W.cell? ⟨w.heap.size + 1, 1, none⟩ = some (.string ⟨#[]⟩) := hS1.cell (j := 1) (by decide)
      have hd2 : W.cell? ⟨w.heap.size + 1, 2, none⟩ = some (.int .i64 at0) := hS1.cell (j := 2) (by decide)
      have hg0 := hS1.free (j := 0) (by decide)
      have hg1 := hS1.free (j := 1) (by decide)
      have hq0I : (at0 : Int) ≤ q := by omega
      clear hS1
      go_region
      go_wp2_with fail
      clear hd0 hd1 hd2 hg0 hg1
      obtain ⟨V, hV, HR2, HS2, HBEL2, HLT2⟩ := name_world w W at0 (s.extract at0 q) HR HS HBEL HLT
      rw [hV]
      clear hV
      refine (rkeyword_any (s.extract at0 q) (by rw [ByteArray.size_extract]; omega) _).mono ?_
      rintro e w2 ⟨rfl, hb⟩
      have HX := Lib.hid (ext_mid s at0 q)
      have HPN := Lib.hid (nameP_of (s.data.toList.drop at0) _ HE.out)
      rw [HX.out, refKw_eq]
      have hR1 := HR2.out.below hb (by have := HLT2.out; omega)
      have hS1 := HS2.out.below hb HLT2.out
      have HBL2 := Lib.hid (below_then' HBEL2.out HBEL2.out.size hb)
      clear hb
      have hc0 := hR1.cell (j := 0) (by decide)
      have hc1 := hR1.cell (j := 1) (by decide)
      have hc2 := hR1.cell (j := 2) (by decide)
      have hf0 := hR1.free (j := 0) (by decide)
      have hf1 := hR1.free (j := 1) (by decide)
      have hf2 := hR1.free (j := 2) (by decide)
      have hd0 : w2.cell? ⟨w.heap.size + 1, 0, none⟩ = some (.int .i64 1) := hS1.cell (j := 0) (by decide)
      have hd1 : w2.cell? ⟨w.heap.size + 1, 1, none⟩ = some (.string (s.extract at0 q)) := hS1.cell (j := 1) (by decide)
      have hd2 : w2.cell? ⟨w.heap.size + 1, 2, none⟩ = some (.int .i64 at0) := hS1.cell (j := 2) (by decide)
      have hg0 := hS1.free (j := 0) (by decide)
      have hg1 := hS1.free (j := 1) (by decide)
      clear hR1 hS1
      have HXE := Lib.hid (arr_eq _ _ HX.out)
      generalize (s.data.toList.drop at0).take (q - at0) = u at *
      cases hk : kwB u with
      | true =>
        rw [hk] at HPN
        have hKe := kwS_some u hk
        have HK := Lib.hid (show nextP (s.data.toList.drop at0) = ((2, kwS u), q - at0, 0) from by rw [HP.out, HPN.out, if_pos rfl])
        clear HPN hk
        generalize kwS u = ku at *
        go_wp2_with fail
        refine bodyPost_ret (v := .tuple #[tokV 2 ⟨ku.toArray⟩ at0, .int .i64 q, .int .i64 0]) (by simp [results, Tryz.results11, go_sem, tokV, *]) rfl (refOk _ _ _ _ (by rw [HK.out]) (by rw [HK.out]) (by rw [HK.out]) rfl (by rw [HK.out]; show (q : Int) = ((at0 + (q - at0) : Nat) : Int); omega) (tokBelB ((HBL2.out.setCell (by simp) _).setCell (by simp) _) _ _ _))
      | false =>
        rw [hk] at HPN
        rw [show kwS u = [] from by rw [kwS, hk]; rfl]
        by_cases h12 : 12 < q - at0
        · have hb2 : (12 : Int) < (q : Int) - at0 := by omega
          have HK := Lib.hid (show nextP (s.data.toList.drop at0) = ((0, []), 0, 4) from by rw [HP.out, HPN.out, if_neg (by simp), if_pos h12])
          clear HPN hk
          go_wp2_with fail
          refine bodyPost_ret (v := .tuple #[tokV 1 (s.extract at0 q) at0, .int .i64 q, .int .i64 4]) (by simp [results, Tryz.results11, go_sem, tokV, *]) rfl (refErr _ _ _ _ 4 (by decide) (by rw [HK.out]) (tokBelB HBL2.out _ _ _))
        · have hb2 : ¬ (12 : Int) < (q : Int) - at0 := by omega
          have HK := Lib.hid (show nextP (s.data.toList.drop at0) = ((1, u), q - at0, 0) from by rw [HP.out, HPN.out, if_neg (by simp), if_neg h12])
          clear HPN hk
          go_wp2_with fail
          refine bodyPost_ret (v := .tuple #[tokV 1 (s.extract at0 q) at0, .int .i64 q, .int .i64 0]) (by simp [results, Tryz.results11, go_sem, tokV, *]) rfl (refOk _ _ _ _ (by rw [HK.out]) (by rw [HK.out]) (by rw [HK.out]; exact HXE.out) rfl (by rw [HK.out]; show (q : Int) = ((at0 + (q - at0) : Nat) : Int); omega) (tokBelB HBL2.out _ _ _))
end Go.Proofs.YthhepfjjmilcnaaGreatDoor
