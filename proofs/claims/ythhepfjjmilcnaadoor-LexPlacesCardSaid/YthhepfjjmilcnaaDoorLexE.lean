/- The walk of lex.next. -/
import Derived.Test.YthhepfjjmilcnaaDoorLexD
import Derived.Lib.IndexAny
namespace Go.Proofs.YthhepfjjmilcnaaDoor
open Go.RowKit Lx Fl
theorem eg_word : ∀ args w, (callFunc 13 args).run Tryd.prog w = .ok (.enter 13 args) w := fun args w =>
  run_enter Tryd.func13 (by kernel_rfl) rfl args w
theorem words_span (s : ByteArray) (w : World) (hs : s.size ≤ 9223372036854775807) : Calls Tryd.prog 9 #[.string s, .func (.func 13) #[] #[]] w fun e w' => e = .returned (.int .i64 (spanN wordB s.data.toList)) ∧ Below w.heap.size w w' :=
  span_any 13 wordB word_any wordB_high eg_word s w hs
/-- a word's block as it is made, and what the walk asks of it -/
theorem tok_made (w : World) : ∃ W, w.alloc (.cells #[.int .i64 0, .string ⟨#[]⟩, .int .i64 0] 29) = W ∧ Hid (RowF W w.heap.size 3 (tokF 0 ⟨#[]⟩ 0)) ∧ Hid (Below w.heap.size w W) ∧ Hid (w.heap.size < W.heap.size) :=
  ⟨_, rfl, Lib.hid (tok_new w 0 ⟨#[]⟩ 0), Lib.hid (Below.alloc (Below.refl _ _) (Nat.le_refl _) _), Lib.hid (by simp)⟩
theorem head_byte (s : ByteArray) (p0 : 0 < s.size) : s.data.toList.getD 0 0 = s[0]'p0 := (byte_at s 0 p0).symm
theorem nameP_of (l : List UInt8) (n : Nat) (hn : spanN wordB l = n) : nameP l = if kwB (l.take n) = true then ((2, kwS (l.take n)), n, 0) else if 12 < n then ((0, []), 0, 4) else ((1, l.take n), n, 0) := by
  subst hn; rfl
theorem signs_any (c : UInt8) (w : World) : Calls Tryd.prog 19 #[.string ⟨#[40, 41, 44, 46, 61, 60, 62, 43, 45, 42, 59]⟩, .int .u8 c.toNat] w fun e w' => e = .returned (.int .i64 (Lib.indexByte signsL c)) ∧ w = w' := by
  refine (Tryd.strings_IndexByte _ _ w).mono ?_
  rintro e w' ⟨rfl, rfl⟩
  refine ⟨?_, rfl⟩
  congr 3
  simp
theorem prefix_any (s p : ByteArray) (w : World) : Calls Tryd.prog 18 #[.string s, .string p] w fun e w' => e = .returned (.bool (Lib.hasPrefix s.data.toList p.data.toList)) ∧ w = w' := by
  refine (Tryd.strings_HasPrefix s p w).mono ?_
  rintro e w' ⟨rfl, rfl⟩
  exact ⟨rfl, rfl⟩
theorem take_ext (s : ByteArray) (n : Nat) : s.extract 0 n = ⟨(s.data.toList.take n).toArray⟩ := by
  apply ByteArray.ext
  rw [← ext_take]
  first | done | simp
theorem prefix_take (l p : List UInt8) (h : Lib.hasPrefix l p = true) : l.take p.length = p := by
  unfold Lib.hasPrefix at h
  exact List.prefix_iff_eq_take.1 (List.isPrefixOf_iff_prefix.1 h) |>.symm
theorem not_nil (s : ByteArray) (p0 : 0 < s.size) : s.data.toList ≠ [] := fun h => by have := congrArg List.length h; rw [list_size, List.length_nil] at this; omega
theorem not_empty (s : ByteArray) (p0 : 0 < s.size) : s.toList.isEmpty = false := by
  rw [toList_eq]
  cases h : s.data.toList with
  | nil => exact absurd h (not_nil s p0)
  | cons _ _ => rfl
set_option maxHeartbeats 1600000 in
set_option maxRecDepth 100000 in
theorem next_nil (s : ByteArray) (p0 : s.size = 0) (w : World) :
    Calls Tryd.prog 11 #[.string s] w (WordPost (nextP s.data.toList) w) := by
  have h : s.data.toList = [] := List.eq_nil_of_length_eq_zero (by rw [list_size]; exact p0)
  have HP := Lib.hid (show nextP s.data.toList = ((0, []), 0, 0) from by rw [h]; rfl)
  have ht : s.toList.isEmpty = true := by rw [toList_eq, h]; rfl
  clear h p0
  go_enter Tryd.func11, Tryd.ntmps11
  go_wp2_with fail
  refine bodyPost_ret (v := .tuple #[tokV 0 ⟨#[]⟩ 0, .int .i64 0, .int .i64 0]) (by simp [results, Tryd.results11, go_sem, tokV, *]) rfl ⟨?_, ?_⟩
  · rw [HP.out]; rfl
  · exact Below.alloc (Below.refl _ _) (Nat.le_refl _) _
set_option maxHeartbeats 1600000 in
set_option maxRecDepth 100000 in
theorem next_name (s : ByteArray) (hs : s.size ≤ 1000000) (p0 : 0 < s.size) (hl : letterB (s[0]'p0).toNat = true) (w : World) (hm : Hid (∃ m, w.cell? ⟨0, 0, none⟩ = some (.int .i64 m))) :
    Calls Tryd.prog 11 #[.string s] w (WordPost (nextP s.data.toList) w) := by
  have HP := Lib.hid (show nextP s.data.toList = nameP s.data.toList from by rw [nextP, if_neg (not_nil s p0), head_byte s p0, if_pos hl])
  have ht := not_empty s p0
  have h256 : (s[0]'p0).toNat < 256 := (s[0]'p0).toNat_lt
  have cL := fun w => letter_any (s[0]'p0).toNat w
  rw [hl] at cL
  have CL := Lib.hid cL
  clear cL hl
  go_enter Tryd.func11, Tryd.ntmps11
  go_wp2_with fail
  obtain ⟨W, hW, HR, HBEL, HLT⟩ := tok_made w
  rw [hW]
  clear hW
  refine (CL.out _).mono ?_
  rintro e w1 ⟨rfl, rfl⟩
  go_wp2_with fail
  refine (words_span s _ (by omega)).mono ?_
  rintro e w1 ⟨rfl, hb⟩
  have hR1 := HR.out.below hb HLT.out
  have HBL := Lib.hid (below_then' HBEL.out HBEL.out.size hb)
  have HLT1 := Lib.hid (Nat.lt_of_lt_of_le HLT.out hb.size)
  clear hb
  have HR1 := Lib.hid hR1
  clear hR1
  have hn := spanN_le wordB s.data.toList
  rw [list_size] at hn
  have HX := Lib.hid (ext_take s (spanN wordB s.data.toList))
  have HPN := Lib.hid (nameP_of s.data.toList _ rfl)
  obtain ⟨n, hN⟩ : ∃ n, spanN wordB s.data.toList = n := ⟨_, rfl⟩
  rw [hN] at hn HX HPN ⊢
  clear hN
  have hnI : (n : Int) ≤ s.size := by omega
  have HM1 := Lib.hid (hm.out.imp fun m h => below_cellS HBL.out h)
  have hxs : (s.extract 0 n).size ≤ 140737488355000 := by rw [ByteArray.size_extract]; omega
  have HXS := Lib.hid hxs
  clear hxs
  go_wp2_with fail
  refine (keyword_any (s.extract 0 n) _ HXS.out HM1.out).mono ?_
  rintro e w2 ⟨rfl, hb⟩
  rw [HX.out]
  have hR1 := HR1.out.below hb HLT1.out
  have HBL2 := Lib.hid (below_then' HBL.out HBL.out.size hb)
  clear hb
  have hc0 := hR1.cell (j := 0) (by decide)
  have hc1 := hR1.cell (j := 1) (by decide)
  have hc2 := hR1.cell (j := 2) (by decide)
  have hf0 := hR1.free (j := 0) (by decide)
  have hf1 := hR1.free (j := 1) (by decide)
  have hf2 := hR1.free (j := 2) (by decide)
  clear hR1
  cases hk : kwB (s.data.toList.take n) with
  | true =>
    rw [hk] at HPN
    have HK := Lib.hid (show nextP s.data.toList = ((2, kwS (s.data.toList.take n)), n, 0) from by rw [HP.out, HPN.out, if_pos rfl])
    clear HPN hk
    go_wp2_with fail
    refine bodyPost_ret (v := .tuple #[tokV 2 ⟨(kwS (s.data.toList.take n)).toArray⟩ 0, .int .i64 n, .int .i64 0]) (by simp [results, Tryd.results11, go_sem, tokV, *]) rfl ⟨?_, ?_⟩
    · rw [HK.out]
    · exact tokBelB HBL2.out _ _ _
  | false =>
    rw [hk] at HPN
    have HXE := Lib.hid (show s.extract 0 n = ⟨(s.data.toList.take n).toArray⟩ from by
      apply ByteArray.ext
      rw [← ext_take]
      first | done | simp)
    by_cases h12 : 12 < n
    · have hb1 : decide ((12 : Int) < n) = true := decide_eq_true (by omega)
      have hb2 : (12 : Int) < n := by omega
      have HK := Lib.hid (show nextP s.data.toList = ((0, []), 0, 4) from by rw [HP.out, HPN.out, if_neg (by simp), if_pos h12])
      clear HPN hk
      go_wp2_with fail
      refine bodyPost_ret (v := .tuple #[tokV 0 ⟨#[]⟩ 0, .int .i64 0, .int .i64 4]) (by simp [results, Tryd.results11, go_sem, tokV, *]) rfl ⟨?_, ?_⟩
      · rw [HK.out]; rfl
      · exact tokBelB HBL2.out _ _ _
    · have hb2 : ¬ (12 : Int) < n := by omega
      have HK := Lib.hid (show nextP s.data.toList = ((1, s.data.toList.take n), n, 0) from by rw [HP.out, HPN.out, if_neg (by simp), if_neg h12])
      clear HPN hk
      go_wp2_with fail
      refine bodyPost_ret (v := .tuple #[tokV 1 (s.extract 0 n) 0, .int .i64 n, .int .i64 0]) (by simp [results, Tryd.results11, go_sem, tokV, *]) rfl ⟨?_, ?_⟩
      · rw [HK.out, HXE.out]
      · exact tokBelB HBL2.out _ _ _
set_option maxHeartbeats 1600000 in
set_option maxRecDepth 100000 in
theorem next_num (s : ByteArray) (hs : s.size ≤ 1000000) (p0 : 0 < s.size) (hl : letterB (s[0]'p0).toNat = false) (hd : digitB (s[0]'p0).toNat = true) (w : World) (hL : Hid (FltLaid w)) (hE : Hid (ErrAt w)) :
    Calls Tryd.prog 11 #[.string s] w (WordPost (nextP s.data.toList) w) := by
  have HP := Lib.hid (show nextP s.data.toList = numP s.data.toList from by rw [nextP, if_neg (not_nil s p0), head_byte s p0, if_neg (by rw [hl]; simp), if_pos hd])
  have ht := not_empty s p0
  have h256 : (s[0]'p0).toNat < 256 := (s[0]'p0).toNat_lt
  have cL := fun w => letter_any (s[0]'p0).toNat w
  rw [hl] at cL
  have CL := Lib.hid cL
  have cD := fun w => digit_any (s[0]'p0).toNat w
  rw [hd] at cD
  have CD := Lib.hid cD
  have HD := Lib.hid hd
  clear cL cD hl hd
  go_enter Tryd.func11, Tryd.ntmps11
  go_wp2_with fail
  obtain ⟨W, hW, HR, HBEL, HLT⟩ := tok_made w
  rw [hW]
  clear hW
  refine (CL.out _).mono ?_
  rintro e w1 ⟨rfl, rfl⟩
  go_wp2_with fail
  refine (CD.out _).mono ?_
  rintro e w1 ⟨rfl, rfl⟩
  go_wp2_with fail
  refine (number_any s hs p0 HD.out _ (Lib.hid (hL.out.below HBEL.out)) (Lib.hid (hE.out.below HBEL.out))).mono ?_
  rintro e w1 ⟨rfl, hb⟩
  have hR1 := HR.out.below hb HLT.out
  have HBL := Lib.hid (below_then' HBEL.out HBEL.out.size hb)
  clear hb
  have hc0 := hR1.cell (j := 0) (by decide)
  have hc1 := hR1.cell (j := 1) (by decide)
  have hc2 := hR1.cell (j := 2) (by decide)
  have hf0 := hR1.free (j := 0) (by decide)
  have hf1 := hR1.free (j := 1) (by decide)
  have hf2 := hR1.free (j := 2) (by decide)
  clear hR1
  obtain ⟨r, hr⟩ : ∃ r, numP s.data.toList = r := ⟨_, rfl⟩
  rw [hr] at HP ⊢
  clear hr
  unfold tokV
  go_wp2_with fail
  refine bodyPost_ret (v := .tuple #[tokV r.1.1 ⟨r.1.2.toArray⟩ 0, .int .i64 r.2.1, .int .i64 r.2.2]) (by simp [results, Tryd.results11, go_sem, tokV, *]) rfl ⟨?_, ?_⟩
  · rw [HP.out]
  · exact tokBelB HBL.out _ _ _
set_option maxHeartbeats 1600000 in
set_option maxRecDepth 100000 in
theorem next_text (s : ByteArray) (hs : s.size ≤ 1000000) (p0 : 0 < s.size) (hl : letterB (s[0]'p0).toNat = false) (hd : digitB (s[0]'p0).toNat = false) (hq : (s[0]'p0).toNat = 39) (w : World) :
    Calls Tryd.prog 11 #[.string s] w (WordPost (nextP s.data.toList) w) := by
  have HP := Lib.hid (show nextP s.data.toList = textP s.data.toList from by rw [nextP, if_neg (not_nil s p0), head_byte s p0, if_neg (by rw [hl]; simp), if_neg (by rw [hd]; simp), if_pos hq])
  have ht := not_empty s p0
  have h256 : (s[0]'p0).toNat < 256 := (s[0]'p0).toNat_lt
  have cL := fun w => letter_any 39 w
  rw [show letterB 39 = false from by decide] at cL
  have CL := Lib.hid cL
  have cD := fun w => digit_any 39 w
  rw [show digitB 39 = false from by decide] at cD
  have CD := Lib.hid cD
  clear cL cD hl hd
  go_enter Tryd.func11, Tryd.ntmps11
  go_wp2_with fail
  obtain ⟨W, hW, HR, HBEL, HLT⟩ := tok_made w
  rw [hW]
  clear hW
  refine (CL.out _).mono ?_
  rintro e w1 ⟨rfl, rfl⟩
  go_wp2_with fail
  refine (CD.out _).mono ?_
  rintro e w1 ⟨rfl, rfl⟩
  go_wp2_with fail
  refine (text_any s hs p0 _).mono ?_
  rintro e w1 ⟨rfl, hb⟩
  have hR1 := HR.out.below hb HLT.out
  have HBL := Lib.hid (below_then' HBEL.out HBEL.out.size hb)
  clear hb
  have hc0 := hR1.cell (j := 0) (by decide)
  have hc1 := hR1.cell (j := 1) (by decide)
  have hc2 := hR1.cell (j := 2) (by decide)
  have hf0 := hR1.free (j := 0) (by decide)
  have hf1 := hR1.free (j := 1) (by decide)
  have hf2 := hR1.free (j := 2) (by decide)
  clear hR1
  obtain ⟨r, hr⟩ : ∃ r, textP s.data.toList = r := ⟨_, rfl⟩
  rw [hr] at HP ⊢
  clear hr
  unfold tokV
  go_wp2_with fail
  refine bodyPost_ret (v := .tuple #[tokV r.1.1 ⟨r.1.2.toArray⟩ 0, .int .i64 r.2.1, .int .i64 r.2.2]) (by simp [results, Tryd.results11, go_sem, tokV, *]) rfl ⟨?_, ?_⟩
  · rw [HP.out]
  · exact tokBelB HBL.out _ _ _
set_option maxHeartbeats 1600000 in
set_option maxRecDepth 100000 in
theorem next_sign (s : ByteArray) (hs : s.size ≤ 1000000) (p0 : 0 < s.size) (hl : letterB (s[0]'p0).toNat = false) (hd : digitB (s[0]'p0).toNat = false) (hq : (s[0]'p0).toNat ≠ 39) (w : World) :
    Calls Tryd.prog 11 #[.string s] w (WordPost (nextP s.data.toList) w) := by
  have HP := Lib.hid (show nextP s.data.toList = signP s.data.toList from by rw [nextP, if_neg (not_nil s p0), head_byte s p0, if_neg (by rw [hl]; simp), if_neg (by rw [hd]; simp), if_neg hq])
  have ht := not_empty s p0
  have h256 : (s[0]'p0).toNat < 256 := (s[0]'p0).toNat_lt
  have cL := fun w => letter_any (s[0]'p0).toNat w
  rw [hl] at cL
  have CL := Lib.hid cL
  have cD := fun w => digit_any (s[0]'p0).toNat w
  rw [hd] at cD
  have CD := Lib.hid cD
  have hqb : (((s[0]'p0).toNat : Int) == 39) = false := by rw [beq_eq_false_iff_ne]; omega
  clear cL cD hl hd
  go_enter Tryd.func11, Tryd.ntmps11
  go_wp2_with fail
  obtain ⟨W, hW, HR, HBEL, HLT⟩ := tok_made w
  rw [hW]
  clear hW
  refine (CL.out _).mono ?_
  rintro e w1 ⟨rfl, rfl⟩
  go_wp2_with fail
  refine (CD.out _).mono ?_
  rintro e w1 ⟨rfl, rfl⟩
  go_wp2_with fail
  have hbl : Below w.heap.size W (W.alloc (.cells #[.string ⟨#[60, 62]⟩, .string ⟨#[60, 61]⟩, .string ⟨#[62, 61]⟩] 9)) := Below.alloc (Below.refl _ _) (Nat.le_of_lt HLT.out) _
  have hR1 := HR.out.belowB (B := w.heap.size + 1) (Below.alloc (Below.refl _ W) (Nat.succ_le_of_lt HLT.out) (.cells #[.string ⟨#[60, 62]⟩, .string ⟨#[60, 61]⟩, .string ⟨#[62, 61]⟩] 9)) (Nat.lt_succ_self _)
  have HBL := Lib.hid (HBEL.out.trans hbl)
  have hcell : ∀ j (h : j < 3), (W.alloc (.cells #[.string ⟨#[60, 62]⟩, .string ⟨#[60, 61]⟩, .string ⟨#[62, 61]⟩] 9)).cell? ⟨W.heap.size, j, none⟩ = #[Value.string ⟨#[60, 62]⟩, .string ⟨#[60, 61]⟩, .string ⟨#[62, 61]⟩][j]? := fun j h => by
    rw [World.cell?_alloc_at _ _ _ _ rfl]
  have hk0 := hcell 0 (by decide)
  have hk1 := hcell 1 (by decide)
  have hk2 := hcell 2 (by decide)
  simp only [List.getElem?_toArray, List.getElem?_cons_zero, List.getElem?_cons_succ] at hk0 hk1 hk2
  clear hbl hcell HBEL HR
  generalize W.alloc (.cells #[.string ⟨#[60, 62]⟩, .string ⟨#[60, 61]⟩, .string ⟨#[62, 61]⟩] 9) = V at *
  generalize W.heap.size = N at *
  have hc0 := hR1.cell (j := 0) (by decide)
  have hc1 := hR1.cell (j := 1) (by decide)
  have hc2 := hR1.cell (j := 2) (by decide)
  have hf0 := hR1.free (j := 0) (by decide)
  have hf1 := hR1.free (j := 1) (by decide)
  have hf2 := hR1.free (j := 2) (by decide)
  clear hR1 HLT
  refine wp_loop_rounds 4 ?_
  rw [rounds_succ]
  go_wp2_with fail
  refine (prefix_any s _ _).mono ?_
  rintro e w1 ⟨rfl, rfl⟩
  cases h1 : Lib.hasPrefix s.data.toList (⟨#[60, 62]⟩ : ByteArray).data.toList with
  | true =>
    have H1 := Lib.hid (show Lib.hasPrefix s.data.toList [60, 62] = true from h1)
    clear h1
    have HS := Lib.hid (show nextP s.data.toList = ((6, [60, 62]), 2, 0) from by
      have h2 : sign2 s.data.toList = true := by unfold sign2; rw [H1.out]; simp
      have h3 := prefix_take _ _ H1.out
      rw [HP.out, signP, if_pos h2]
      rw [show s.data.toList.take 2 = [60, 62] from h3])
    go_wp2_with fail
    refine bodyPost_ret (v := .tuple #[tokV 6 ⟨#[60, 62]⟩ 0, .int .i64 2, .int .i64 0]) (by simp [results, Tryd.results11, go_sem, tokV, *]) rfl ⟨?_, ?_⟩
    · rw [HS.out]; try rfl
    · exact tokBelB HBL.out _ _ _
  | false =>
    have H1 := Lib.hid (show Lib.hasPrefix s.data.toList [60, 62] = false from h1)
    clear h1
    go_wp2_with fail
    rw [rounds_succ]
    go_wp2_with fail
    refine (prefix_any s _ _).mono ?_
    rintro e w1 ⟨rfl, rfl⟩
    cases h1 : Lib.hasPrefix s.data.toList (⟨#[60, 61]⟩ : ByteArray).data.toList with
    | true =>
      have H2 := Lib.hid (show Lib.hasPrefix s.data.toList [60, 61] = true from h1)
      clear h1
      have HS := Lib.hid (show nextP s.data.toList = ((6, [60, 61]), 2, 0) from by
        have h2 : sign2 s.data.toList = true := by unfold sign2; rw [H2.out]; simp
        have h3 := prefix_take _ _ H2.out
        rw [HP.out, signP, if_pos h2]
        rw [show s.data.toList.take 2 = [60, 61] from h3])
      go_wp2_with fail
      refine bodyPost_ret (v := .tuple #[tokV 6 ⟨#[60, 61]⟩ 0, .int .i64 2, .int .i64 0]) (by simp [results, Tryd.results11, go_sem, tokV, *]) rfl ⟨?_, ?_⟩
      · rw [HS.out]; try rfl
      · exact tokBelB HBL.out _ _ _
    | false =>
      have H2 := Lib.hid (show Lib.hasPrefix s.data.toList [60, 61] = false from h1)
      clear h1
      go_wp2_with fail
      rw [rounds_succ]
      go_wp2_with fail
      refine (prefix_any s _ _).mono ?_
      rintro e w1 ⟨rfl, rfl⟩
      cases h1 : Lib.hasPrefix s.data.toList (⟨#[62, 61]⟩ : ByteArray).data.toList with
      | true =>
        have H3 := Lib.hid (show Lib.hasPrefix s.data.toList [62, 61] = true from h1)
        clear h1
        have HS := Lib.hid (show nextP s.data.toList = ((6, [62, 61]), 2, 0) from by
          have h2 : sign2 s.data.toList = true := by unfold sign2; rw [H3.out]; simp
          have h3 := prefix_take _ _ H3.out
          rw [HP.out, signP, if_pos h2]
          rw [show s.data.toList.take 2 = [62, 61] from h3])
        go_wp2_with fail
        refine bodyPost_ret (v := .tuple #[tokV 6 ⟨#[62, 61]⟩ 0, .int .i64 2, .int .i64 0]) (by simp [results, Tryd.results11, go_sem, tokV, *]) rfl ⟨?_, ?_⟩
        · rw [HS.out]; try rfl
        · exact tokBelB HBL.out _ _ _
      | false =>
        have H3 := Lib.hid (show Lib.hasPrefix s.data.toList [62, 61] = false from h1)
        clear h1
        go_wp2_with fail
        rw [rounds_succ]
        have H4 := Lib.hid (show nextP s.data.toList = if signsL.contains (s[0]'p0) = true then ((6, s.data.toList.take 1), 1, 0) else ((0, []), 0, 100) from by
          have h2 : sign2 s.data.toList = false := by unfold sign2; rw [H1.out, H2.out, H3.out]; rfl
          rw [HP.out, signP, h2, head_byte s p0]; rfl)
        rw [Lib.contains_iff_indexByte] at H4
        go_wp2_with fail
        refine (signs_any _ _).mono ?_
        rintro e w1 ⟨rfl, rfl⟩
        generalize Lib.indexByte signsL (s[0]'p0) = ix at *
        by_cases h0 : ix < 0
        · have hix : decide (0 ≤ ix) = false := decide_eq_false (by omega)
          rw [hix] at H4
          have HS := Lib.hid (show nextP s.data.toList = ((0, []), 0, 100) from by rw [H4.out]; rfl)
          clear H4 hix
          go_wp2_with fail
          refine bodyPost_ret (v := .tuple #[tokV 0 ⟨#[]⟩ 0, .int .i64 0, .int .i64 100]) (by simp [results, Tryd.results11, go_sem, tokV, *]) rfl ⟨?_, ?_⟩
          · rw [HS.out]; try rfl
          · exact tokBelB HBL.out _ _ _
        · have hix : decide (0 ≤ ix) = true := decide_eq_true (by omega)
          rw [hix] at H4
          have HS := Lib.hid (show nextP s.data.toList = ((6, s.data.toList.take 1), 1, 0) from by rw [H4.out]; rfl)
          have HXE := Lib.hid (take_ext s 1)
          have h1s : (1 : Int) ≤ s.size := by omega
          clear H4 hix
          go_wp2_with fail
          refine bodyPost_ret (v := .tuple #[tokV 6 (s.extract 0 1) 0, .int .i64 1, .int .i64 0]) (by simp [results, Tryd.results11, go_sem, tokV, *]) rfl ⟨?_, ?_⟩
          · rw [HS.out, HXE.out]; try rfl
          · exact tokBelB HBL.out _ _ _
theorem next_any (s : ByteArray) (hs : s.size ≤ 1000000) (w : World) (hL : Hid (FltLaid w)) (hE : Hid (ErrAt w)) (hm : Hid (∃ m, w.cell? ⟨0, 0, none⟩ = some (.int .i64 m))) :
    Calls Tryd.prog 11 #[.string s] w (WordPost (nextP s.data.toList) w) := by
  by_cases p0 : s.size = 0
  · exact next_nil s p0 w
  have p1 : 0 < s.size := by omega
  cases hl : letterB (s[0]'p1).toNat with
  | true => exact next_name s hs p1 hl w hm
  | false =>
    cases hd : digitB (s[0]'p1).toNat with
    | true => exact next_num s hs p1 hl hd w hL hE
    | false =>
      by_cases hq : (s[0]'p1).toNat = 39
      · exact next_text s hs p1 hl hd hq w
      · exact next_sign s hs p1 hl hd hq w
end Go.Proofs.YthhepfjjmilcnaaDoor
