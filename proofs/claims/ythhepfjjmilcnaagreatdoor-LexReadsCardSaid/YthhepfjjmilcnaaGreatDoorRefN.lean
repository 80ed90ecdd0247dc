/- The walk of the document's answer: number, where it is a whole number. -/
import Derived.Test.YthhepfjjmilcnaaGreatDoorLexD
import Derived.Deep.RegionHeld3
namespace Go.Proofs.YthhepfjjmilcnaaGreatDoor
open Go.RowKit Lx Fl
/-- what the reference's word answers: where there is an error, the word is left open -/
def RefPost (r : (Int × List UInt8) × Nat × Int) (at0 : Nat) (w : World) (e : Ending) (w' : World) : Prop :=
  (∃ (k : Int) (u : ByteArray) (a en : Int), e = .returned (.tuple #[tokV k u a, .int .i64 en, .int .i64 r.2.2]) ∧ (r.2.2 = 0 → k = r.1.1 ∧ u = ⟨r.1.2.toArray⟩ ∧ a = at0 ∧ en = (at0 + r.2.1 : Nat))) ∧ Below w.heap.size w w'
theorem tok2 (w : World) (k1 k2 : Int) (u1 u2 : ByteArray) (a1 a2 : Int) :
    let W := ((w.alloc (.cells #[.int .i64 k1, .string u1, .int .i64 a1] 30)).alloc (.cells #[.int .i64 k2, .string u2, .int .i64 a2] 30)).drew
    RowF W w.heap.size 3 (tokF k1 u1 a1) ∧ RowF W (w.heap.size + 1) 3 (tokF k2 u2 a2) ∧ Below w.heap.size w W := by
  have h1 := tok_new w k1 u1 a1
  have hs : (w.alloc (.cells #[.int .i64 k1, .string u1, .int .i64 a1] 30)).heap.size = w.heap.size + 1 := by simp
  have h2 := tok_new (w.alloc (.cells #[.int .i64 k1, .string u1, .int .i64 a1] 30)) k2 u2 a2
  rw [hs] at h2
  refine ⟨?_, h2, Below.drew (Below.alloc (Below.alloc (Below.refl _ _) (Nat.le_refl _) _) (by omega) _)⟩
  exact RowF.below h1 (Below.drew (Below.alloc (Below.refl _ _) (Nat.le_refl _) _)) (by omega)
theorem refErr {r : (Int × List UInt8) × Nat × Int} {at0 : Nat} {w w' : World} (k : Int) (u : ByteArray) (a en : Int) (e : Int) (he : e ≠ 0) (hr : r.2.2 = e) (hb : Below w.heap.size w w') : RefPost r at0 w (.returned (.tuple #[tokV k u a, .int .i64 en, .int .i64 e])) w' :=
  ⟨⟨k, u, a, en, by rw [hr], fun h => absurd (hr.symm.trans h) he⟩, hb⟩
theorem refOk {r : (Int × List UInt8) × Nat × Int} {at0 : Nat} {w w' : World} (k : Int) (u : ByteArray) (a en : Int) (h0 : r.2.2 = 0) (h1 : k = r.1.1) (h2 : u = ⟨r.1.2.toArray⟩) (h3 : a = at0) (h4 : en = (at0 + r.2.1 : Nat)) (hb : Below w.heap.size w w') : RefPost r at0 w (.returned (.tuple #[tokV k u a, .int .i64 en, .int .i64 0])) w' :=
  ⟨⟨k, u, a, en, by rw [h0], fun _ => ⟨h1, h2, h3, h4⟩⟩, hb⟩
theorem arr_eq (s : ByteArray) (l : List UInt8) (h : s.data.toList = l) : s = ⟨l.toArray⟩ := by
  apply ByteArray.ext
  rw [← h, Array.toArray_toList]
theorem numP_int (l : List UInt8) (n : Nat) (hn : spanN digitB l = n) (h1 : ¬ (1 < n ∧ (l.getD 0 0).toNat = 48)) (h2 : ¬ ((l.getD n 0).toNat = 46 ∧ 0 < spanN digitB (l.drop (n + 1)))) : numP l = if 19 < n ∨ n = 19 ∧ gt19 (l.take n) = true then ((0, []), 0, 4) else ((3, l.take n), n, 0) := by
  subst hn
  rw [numP, if_neg h1, if_neg h2]
/-- why no real number begins here -/
def NoReal (s : ByteArray) (p : Nat) : Prop := ∀ h : p + 1 < s.size, (s[p]'(by omega)).toNat = 46 → digitB (s[p + 1]'h).toNat = false
theorem noReal_plain (s : ByteArray) (at0 n : Nat) (h : NoReal s (at0 + n)) (hn : at0 + n ≤ s.size) : ¬ (((s.data.toList.drop at0).getD n 0).toNat = 46 ∧ 0 < spanN digitB ((s.data.toList.drop at0).drop (n + 1))) := by
  rintro ⟨h1, h2⟩
  rw [List.drop_drop, show at0 + (n + 1) = at0 + n + 1 by omega] at h2
  have h3 := spanN_le digitB (s.data.toList.drop (at0 + n + 1))
  rw [List.length_drop, list_size] at h3
  have h4 : at0 + n + 1 < s.size := by omega
  have h5 : (s[at0 + n]'(by omega)).toNat = 46 := by
    rw [byte_at s (at0 + n) (by omega), ← h1, List.getD_eq_getElem?_getD, List.getD_eq_getElem?_getD, List.getElem?_drop]
  have h6 := h h4 h5
  have h7 := spanN_digit digitB _ 0 h2
  rw [List.getD_eq_getElem?_getD, List.getElem?_drop, ← List.getD_eq_getElem?_getD, ← byte_at s (at0 + n + 1 + 0) (by omega)] at h7
  rw [show s[at0 + n + 1 + 0]'(by omega) = s[at0 + n + 1]'h4 from rfl, h6] at h7
  cases h7
theorem int_err1 {l : List UInt8} {at0 n : Nat} {R : (Int × List UInt8) × Nat × Int} (H : Hid (R = if 19 < n ∨ n = 19 ∧ gt19 (l.take n) = true then ((0, []), 0, 4) else ((3, l.take n), n, 0))) (h : 19 < (at0 : Int) + n - at0) : R.2.2 = 4 := by
  rw [H.out, if_pos (.inl (by omega))]
theorem int_err2 {l : List UInt8} {X : ByteArray} {at0 n : Nat} {R : (Int × List UInt8) × Nat × Int} (H : Hid (R = if 19 < n ∨ n = 19 ∧ gt19 (l.take n) = true then ((0, []), 0, 4) else ((3, l.take n), n, 0))) (HX : Hid (X.toList = l.take n)) (h : (at0 : Int) + n - at0 = 19)
    (hg : (!Op.bytesLess X.toList [57, 50, 50, 51, 51, 55, 50, 48, 51, 54, 56, 53, 52, 55, 55, 53, 56, 48, 55]) = true ∧ (!X.toList == [57, 50, 50, 51, 51, 55, 50, 48, 51, 54, 56, 53, 52, 55, 55, 53, 56, 48, 55]) = true) : R.2.2 = 4 := by
  rw [H.out, if_pos (.inr ⟨by omega, by rw [← HX.out, gt19]; exact Bool.and_eq_true_iff.2 hg⟩)]
theorem int_ok1 {l : List UInt8} {X : ByteArray} {at0 n : Nat} {R : (Int × List UInt8) × Nat × Int} (H : Hid (R = if 19 < n ∨ n = 19 ∧ gt19 (l.take n) = true then ((0, []), 0, 4) else ((3, l.take n), n, 0))) (HX : Hid (X.toList = l.take n)) (h : (at0 : Int) + n - at0 = 19)
    (hg : (!Op.bytesLess X.toList [57, 50, 50, 51, 51, 55, 50, 48, 51, 54, 56, 53, 52, 55, 55, 53, 56, 48, 55]) = false ∨ (!X.toList == [57, 50, 50, 51, 51, 55, 50, 48, 51, 54, 56, 53, 52, 55, 55, 53, 56, 48, 55]) = false) : R = ((3, l.take n), n, 0) := by
  rw [H.out, if_neg]
  rintro (h1 | ⟨_, h2⟩)
  · omega
  · rw [← HX.out, gt19, Bool.and_eq_true_iff] at h2
    have h3 : (!Op.bytesLess X.toList [57, 50, 50, 51, 51, 55, 50, 48, 51, 54, 56, 53, 52, 55, 55, 53, 56, 48, 55]) = true := h2.1
    have h4 : (!X.toList == [57, 50, 50, 51, 51, 55, 50, 48, 51, 54, 56, 53, 52, 55, 55, 53, 56, 48, 55]) = true := h2.2
    rcases hg with h | h
    · rw [h] at h3; cases h3
    · rw [h] at h4; cases h4
theorem int_ok2 {l : List UInt8} {at0 n : Nat} {R : (Int × List UInt8) × Nat × Int} (H : Hid (R = if 19 < n ∨ n = 19 ∧ gt19 (l.take n) = true then ((0, []), 0, 4) else ((3, l.take n), n, 0))) (h : (at0 : Int) + n - at0 ≤ 19) (h2 : ¬ (at0 : Int) + n - at0 = 19) : R = ((3, l.take n), n, 0) := by
  rw [H.out, if_neg]
  rintro (h1 | ⟨h1, _⟩) <;> omega
theorem intBel (w : World) (o p : Obj) : Below w.heap.size w ((w.alloc o).alloc p) := Below.alloc (Below.alloc (Below.refl _ _) (Nat.le_refl _) _) (by simp) _
set_option maxHeartbeats 3200000 in
set_option maxRecDepth 100000 in
theorem rnumber_int (s : ByteArray) (hs : s.size ≤ 1000000) (at0 n : Nat) (p0 : at0 < s.size) (hn1 : 1 ≤ n) (hnl : at0 + n ≤ s.size) (CD : Hid (∀ w, Calls Tryz.prog 31 #[.string s, .int .i64 at0] w fun e w' => e = .returned (.int .i64 (at0 + n : Nat)) ∧ w = w'))
    (HN : Hid (spanN digitB (s.data.toList.drop at0) = n)) (hform : ¬ (1 < n ∧ (s[at0]'p0).toNat = 48)) (hreal : NoReal s (at0 + n)) (w : World) :
    Calls Tryz.prog 21 #[.string s, .int .i64 at0] w (RefPost (numP (s.data.toList.drop at0)) at0 w) := by
  have hh : (s.data.toList.drop at0).getD 0 0 = s[at0]'p0 := by
    rw [byte_at, List.getD_eq_getElem?_getD, List.getElem?_drop, ← List.getD_eq_getElem?_getD]
    rfl
  have HP := Lib.hid (numP_int _ n HN.out (by rw [hh]; exact hform) (noReal_plain s at0 n hreal hnl))
  clear hh
  have hatI : (at0 : Int) < s.size := by omega
  have hnI : (at0 : Int) + n ≤ s.size := by omega
  have hnI1 : (1 : Int) ≤ n := by omega
  have hx : (s.extract at0 (at0 + n)).data.toList = (s.data.toList.drop at0).take n := by
    rw [ByteArray.data_extract, Array.toList_extract]
    simp only [List.extract]
    congr 1
    omega
  have HX := Lib.hid hx
  have HTK := Lib.hid (show (s.extract at0 (at0 + n)).toList = (s.data.toList.drop at0).take n from by rw [toList_eq, hx])
  clear hx
  rcases Nat.lt_or_ge (at0 + n + 1) s.size with ha | ha
  · have hA : (at0 : Int) + n + 1 < s.size := by omega
    by_cases hb : (s[at0 + n]'(by omega)).toNat = 46
    · have hB : (((s[at0 + n]'(by omega)).toNat : Int) == 46) = true := by rw [hb]; rfl
      have hk := kindN_digit (s[at0 + n + 1]'ha).toNat
      rw [hreal ha hb] at hk
      have cK := fun w => kind_any (s[at0 + n + 1]'ha).toNat (s[at0 + n + 1]'ha).toNat_lt w
      have CK := Lib.hid cK
      clear cK hreal hb
      rcases Nat.lt_or_ge 1 n with h1 | h1
      · have hz : (((s[at0]'p0).toNat : Int) == 48) = false := by rw [beq_eq_false_iff_ne]; intro e; exact hform ⟨h1, by omega⟩
        clear hform
        go_enter Tryz.func21, Tryz.ntmps21
        go_wp2_with fail
        refine (CD.out _).mono ?_
        rintro e w1 ⟨rfl, rfl⟩
        go_wp2_with fail
        refine (CK.out _).mono ?_
        rintro e w1 ⟨rfl, rfl⟩
        go_wp2_with fail
        all_goals
          first
            | (have hv : (numP (s.data.toList.drop at0)).2.2 = 4 := by first | exact int_err1 HP ‹_› | exact int_err2 HP HTK ‹_› ‹_›
               exact bodyPost_ret (v := .tuple #[tokV 3 (s.extract at0 (at0 + n)) at0, .int .i64 at0, .int .i64 4]) (by simp [results, Tryz.results21, go_sem, tokV, *]) rfl (refErr _ _ _ _ 4 (by decide) hv (intBel _ _ _)))
            | (have hv : numP (s.data.toList.drop at0) = ((3, (s.data.toList.drop at0).take n), n, 0) := by first | exact int_ok1 HP HTK ‹_› ‹_› | exact int_ok2 HP ‹_› ‹_›
               exact bodyPost_ret (v := .tuple #[tokV 3 (s.extract at0 (at0 + n)) at0, .int .i64 ((at0 : Int) + n), .int .i64 0]) (by simp [results, Tryz.results21, go_sem, tokV, *]) rfl (refOk _ _ _ _ (by rw [hv]) (by rw [hv]) (by rw [hv]; exact arr_eq _ _ HX.out) rfl (by rw [hv]; rfl) (intBel _ _ _)))
      · have hz : ¬ ((at0 : Int) + 1 < at0 + n) := by omega
        clear hform
        go_enter Tryz.func21, Tryz.ntmps21
        go_wp2_with fail
        refine (CD.out _).mono ?_
        rintro e w1 ⟨rfl, rfl⟩
        go_wp2_with fail
        all_goals
          refine (CK.out _).mono ?_
          rintro e w1 ⟨rfl, rfl⟩
          go_wp2_with fail
        all_goals
          first
            | (have hv : (numP (s.data.toList.drop at0)).2.2 = 4 := by first | exact int_err1 HP ‹_› | exact int_err2 HP HTK ‹_› ‹_›
               exact bodyPost_ret (v := .tuple #[tokV 3 (s.extract at0 (at0 + n)) at0, .int .i64 at0, .int .i64 4]) (by simp [results, Tryz.results21, go_sem, tokV, *]) rfl (refErr _ _ _ _ 4 (by decide) hv (intBel _ _ _)))
            | (have hv : numP (s.data.toList.drop at0) = ((3, (s.data.toList.drop at0).take n), n, 0) := by first | exact int_ok1 HP HTK ‹_› ‹_› | exact int_ok2 HP ‹_› ‹_›
               exact bodyPost_ret (v := .tuple #[tokV 3 (s.extract at0 (at0 + n)) at0, .int .i64 ((at0 : Int) + n), .int .i64 0]) (by simp [results, Tryz.results21, go_sem, tokV, *]) rfl (refOk _ _ _ _ (by rw [hv]) (by rw [hv]) (by rw [hv]; exact arr_eq _ _ HX.out) rfl (by rw [hv]; rfl) (intBel _ _ _)))
    · have hB : (((s[at0 + n]'(by omega)).toNat : Int) == 46) = false := by rw [beq_eq_false_iff_ne]; omega
      clear hreal hb
      rcases Nat.lt_or_ge 1 n with h1 | h1
      · have hz : (((s[at0]'p0).toNat : Int) == 48) = false := by rw [beq_eq_false_iff_ne]; intro e; exact hform ⟨h1, by omega⟩
        clear hform
        go_enter Tryz.func21, Tryz.ntmps21
        go_wp2_with fail
        refine (CD.out _).mono ?_
        rintro e w1 ⟨rfl, rfl⟩
        go_wp2_with fail
        all_goals
          first
            | (have hv : (numP (s.data.toList.drop at0)).2.2 = 4 := by first | exact int_err1 HP ‹_› | exact int_err2 HP HTK ‹_› ‹_›
               exact bodyPost_ret (v := .tuple #[tokV 3 (s.extract at0 (at0 + n)) at0, .int .i64 at0, .int .i64 4]) (by simp [results, Tryz.results21, go_sem, tokV, *]) rfl (refErr _ _ _ _ 4 (by decide) hv (intBel _ _ _)))
            | (have hv : numP (s.data.toList.drop at0) = ((3, (s.data.toList.drop at0).take n), n, 0) := by first | exact int_ok1 HP HTK ‹_› ‹_› | exact int_ok2 HP ‹_› ‹_›
               exact bodyPost_ret (v := .tuple #[tokV 3 (s.extract at0 (at0 + n)) at0, .int .i64 ((at0 : Int) + n), .int .i64 0]) (by simp [results, Tryz.results21, go_sem, tokV, *]) rfl (refOk _ _ _ _ (by rw [hv]) (by rw [hv]) (by rw [hv]; exact arr_eq _ _ HX.out) rfl (by rw [hv]; rfl) (intBel _ _ _)))
      · have hz : ¬ ((at0 : Int) + 1 < at0 + n) := by omega
        clear hform
        go_enter Tryz.func21, Tryz.ntmps21
        go_wp2_with fail
        refine (CD.out _).mono ?_
        rintro e w1 ⟨rfl, rfl⟩
        go_wp2_with fail
        all_goals
          first
            | (have hv : (numP (s.data.toList.drop at0)).2.2 = 4 := by first | exact int_err1 HP ‹_› | exact int_err2 HP HTK ‹_› ‹_›
               exact bodyPost_ret (v := .tuple #[tokV 3 (s.extract at0 (at0 + n)) at0, .int .i64 at0, .int .i64 4]) (by simp [results, Tryz.results21, go_sem, tokV, *]) rfl (refErr _ _ _ _ 4 (by decide) hv (intBel _ _ _)))
            | (have hv : numP (s.data.toList.drop at0) = ((3, (s.data.toList.drop at0).take n), n, 0) := by first | exact int_ok1 HP HTK ‹_› ‹_› | exact int_ok2 HP ‹_› ‹_›
               exact bodyPost_ret (v := .tuple #[tokV 3 (s.extract at0 (at0 + n)) at0, .int .i64 ((at0 : Int) + n), .int .i64 0]) (by simp [results, Tryz.results21, go_sem, tokV, *]) rfl (refOk _ _ _ _ (by rw [hv]) (by rw [hv]) (by rw [hv]; exact arr_eq _ _ HX.out) rfl (by rw [hv]; rfl) (intBel _ _ _)))
  · have hA : ¬ ((at0 : Int) + n + 1 < s.size) := by omega
    clear hreal
    rcases Nat.lt_or_ge 1 n with h1 | h1
    · have hz : (((s[at0]'p0).toNat : Int) == 48) = false := by rw [beq_eq_false_iff_ne]; intro e; exact hform ⟨h1, by omega⟩
      clear hform
      go_enter Tryz.func21, Tryz.ntmps21
      go_wp2_with fail
      refine (CD.out _).mono ?_
      rintro e w1 ⟨rfl, rfl⟩
      go_wp2_with fail
      all_goals
        first
          | (have hv : (numP (s.data.toList.drop at0)).2.2 = 4 := by first | exact int_err1 HP ‹_› | exact int_err2 HP HTK ‹_› ‹_›
             exact bodyPost_ret (v := .tuple #[tokV 3 (s.extract at0 (at0 + n)) at0, .int .i64 at0, .int .i64 4]) (by simp [results, Tryz.results21, go_sem, tokV, *]) rfl (refErr _ _ _ _ 4 (by decide) hv (intBel _ _ _)))
          | (have hv : numP (s.data.toList.drop at0) = ((3, (s.data.toList.drop at0).take n), n, 0) := by first | exact int_ok1 HP HTK ‹_› ‹_› | exact int_ok2 HP ‹_› ‹_›
             exact bodyPost_ret (v := .tuple #[tokV 3 (s.extract at0 (at0 + n)) at0, .int .i64 ((at0 : Int) + n), .int .i64 0]) (by simp [results, Tryz.results21, go_sem, tokV, *]) rfl (refOk _ _ _ _ (by rw [hv]) (by rw [hv]) (by rw [hv]; exact arr_eq _ _ HX.out) rfl (by rw [hv]; rfl) (intBel _ _ _)))
    · have hz : ¬ ((at0 : Int) + 1 < at0 + n) := by omega
      clear hform
      go_enter Tryz.func21, Tryz.ntmps21
      go_wp2_with fail
      refine (CD.out _).mono ?_
      rintro e w1 ⟨rfl, rfl⟩
      go_wp2_with fail
      all_goals
        first
          | (have hv : (numP (s.data.toList.drop at0)).2.2 = 4 := by first | exact int_err1 HP ‹_› | exact int_err2 HP HTK ‹_› ‹_›
             exact bodyPost_ret (v := .tuple #[tokV 3 (s.extract at0 (at0 + n)) at0, .int .i64 at0, .int .i64 4]) (by simp [results, Tryz.results21, go_sem, tokV, *]) rfl (refErr _ _ _ _ 4 (by decide) hv (intBel _ _ _)))
          | (have hv : numP (s.data.toList.drop at0) = ((3, (s.data.toList.drop at0).take n), n, 0) := by first | exact int_ok1 HP HTK ‹_› ‹_› | exact int_ok2 HP ‹_› ‹_›
             exact bodyPost_ret (v := .tuple #[tokV 3 (s.extract at0 (at0 + n)) at0, .int .i64 ((at0 : Int) + n), .int .i64 0]) (by simp [results, Tryz.results21, go_sem, tokV, *]) rfl (refOk _ _ _ _ (by rw [hv]) (by rw [hv]) (by rw [hv]; exact arr_eq _ _ HX.out) rfl (by rw [hv]; rfl) (intBel _ _ _)))
end Go.Proofs.YthhepfjjmilcnaaGreatDoor
