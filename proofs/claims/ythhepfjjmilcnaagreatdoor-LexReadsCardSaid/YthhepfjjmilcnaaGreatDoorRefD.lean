/- The walk of the document's answer: text. -/
import Derived.Test.YthhepfjjmilcnaaGreatDoorRefN
import Derived.IntWalk
namespace Go.Proofs.YthhepfjjmilcnaaGreatDoor
open Go.RowKit Lx Fl
theorem RowF.drew {w : World} {b n : Nat} {f : Nat → Value} (h : RowF w b n f) : RowF w.drew b n f := h
theorem RowF.other {w : World} {b n : Nat} {f : Nat → Value} (h : RowF w b n f) (a : Addr) (ha : a.block ≠ b) (v : Value) : RowF (w.setCell a v) b n f := fun j hj =>
  ⟨(World.cell?_setCell_other w a ⟨b, j, none⟩ v (fun e => ha (by rw [e]))).trans (h.cell hj), (frozen_setCell_any w a _ v).trans (h.free hj)⟩
theorem tok_put {w : World} {b : Nat} {k a : Int} {u : ByteArray} (h : RowF w b 3 (tokF k u a)) (u' : ByteArray) : RowF (w.setCell ⟨b, 1, none⟩ (.string u')) b 3 (tokF k u' a) :=
  (h.set (i := 1) (by decide) (.string u')).ext fun j hj => by
    rcases j with _ | _ | _ | j
    · rfl
    · rfl
    · rfl
    · omega
def RTextRel (s : ByteArray) (at0 : Nat) (w : World) (B : Nat) (m : Nat) (i : Value) (wr : World) : Prop :=
  ∃ (q : Nat) (acc : List UInt8) (U : ByteArray), at0 + 1 ≤ q ∧ q ≤ s.size ∧ m = s.size - q ∧ i = .int .i64 q ∧ U.size ≤ q ∧ Hid (U = ⟨acc.toArray⟩) ∧ Hid (RowF wr B 3 (tokF 0 ⟨#[]⟩ 0)) ∧ Hid (RowF wr (B + 1) 3 (tokF 5 U at0)) ∧ Hid (Below B w wr) ∧ Hid (TextAt (s.data.toList.drop at0) acc (q - at0))
theorem drop_get (s : ByteArray) (at0 q : Nat) (h0 : at0 ≤ q) (h : q < s.size) : ∃ h2 : q - at0 < (s.data.toList.drop at0).length, (s.data.toList.drop at0)[q - at0]'h2 = s[q]'h :=
  ⟨by rw [List.length_drop, list_size]; omega, by
    rw [List.getElem_drop]
    have : s.data.toList[at0 + (q - at0)]'(by rw [list_size]; omega) = s.data.toList[q]'(by rw [list_size]; omega) := by congr 1; omega
    rw [this]; rfl⟩
theorem TextAt.two' {s : ByteArray} {at0 q : Nat} {acc : List UInt8} (H : TextAt (s.data.toList.drop at0) acc (q - at0)) (h0 : at0 + 1 ≤ q) (h : q + 1 < s.size) (hc : (s[q]'(by omega)).toNat = 39) (hd : (s[q + 1]'h).toNat = 39) : TextAt (s.data.toList.drop at0) (acc ++ [39]) (q + 2 - at0) := by
  obtain ⟨hl, hle⟩ := drop_get s at0 q (by omega) (by omega)
  obtain ⟨hl2, hle2⟩ := drop_get s at0 (q + 1) (by omega) h
  have e : q + 1 - at0 = q - at0 + 1 := by omega
  simp only [e] at hl2 hle2
  have := H.two (by omega) hl2 (by rw [hle]; exact hc) (by rw [hle2]; exact hd)
  rw [hle2, show s[q + 1]'h = 39 from UInt8.toNat_inj.1 hd] at this
  rw [show q + 2 - at0 = q - at0 + 2 by omega]
  exact this
theorem TextAt.other' {s : ByteArray} {at0 q : Nat} {acc : List UInt8} (H : TextAt (s.data.toList.drop at0) acc (q - at0)) (h0 : at0 + 1 ≤ q) (h : q < s.size) (hc : (s[q]'h).toNat ≠ 39) : TextAt (s.data.toList.drop at0) (acc ++ [s[q]'h]) (q + 1 - at0) := by
  obtain ⟨hl, hle⟩ := drop_get s at0 q (by omega) h
  have := H.other (by omega) hl (by rw [hle]; exact hc)
  rw [hle] at this
  rw [show q + 1 - at0 = q - at0 + 1 by omega]
  exact this
theorem TextAt.close' {s : ByteArray} {at0 q : Nat} {acc : List UInt8} (H : TextAt (s.data.toList.drop at0) acc (q - at0)) (h0 : at0 + 1 ≤ q) (h : q < s.size) (hc : (s[q]'h).toNat = 39) (hd : ¬ ∃ h : q + 1 < s.size, (s[q + 1]'h).toNat = 39) : textP (s.data.toList.drop at0) = ((5, acc), q - at0 + 1, 0) := by
  obtain ⟨hl, hle⟩ := drop_get s at0 q (by omega) h
  refine H.close (by omega) hl (by rw [hle]; exact hc) (fun h2 e => ?_)
  have h3 : q + 1 < s.size := by rw [List.length_drop, list_size] at h2; omega
  obtain ⟨hl2, hle2⟩ := drop_get s at0 (q + 1) (by omega) h3
  have e2 : q + 1 - at0 = q - at0 + 1 := by omega
  simp only [e2] at hl2 hle2
  exact hd ⟨h3, by rw [← hle2]; exact e⟩
theorem ext_one (s : ByteArray) (i : Nat) (h : i < s.size) : s.extract i (i + 1) = ⟨#[s[i]'h]⟩ := by
  apply ByteArray.ext
  rw [ByteArray.data_extract]
  apply Array.ext'
  rw [Array.toList_extract]
  simp only [List.extract]
  rw [show i + 1 - i = 1 by omega, List.drop_eq_getElem_cons (by rw [list_size]; exact h)]
  rfl
set_option maxHeartbeats 1600000 in
set_option maxRecDepth 100000 in
theorem rtext_any (s : ByteArray) (hs : s.size ≤ 1000000) (at0 : Nat) (p0 : at0 < s.size) (w : World) :
    Calls Tryz.prog 22 #[.string s, .int .i64 at0] w (RefPost (textP (s.data.toList.drop at0)) at0 w) := by
  have hatI : (at0 : Int) < s.size := by omega
  go_enter Tryz.func22, Tryz.ntmps22
  go_wp2_with fail
  have hT := tok2 w 0 5 ⟨#[]⟩ ⟨#[]⟩ 0 at0
  obtain ⟨hT1, hT2, hT3⟩ := hT
  have HT1 : Hid (RowF ((w.alloc (.cells #[.int .i64 0, .string ⟨#[]⟩, .int .i64 0] 30)).alloc (.cells #[.int .i64 5, .string ⟨#[]⟩, .int .i64 at0] 30)) w.heap.size 3 (tokF 0 ⟨#[]⟩ 0)) := Lib.hid hT1
  have HT2 : Hid (RowF ((w.alloc (.cells #[.int .i64 0, .string ⟨#[]⟩, .int .i64 0] 30)).alloc (.cells #[.int .i64 5, .string ⟨#[]⟩, .int .i64 at0] 30)) (w.heap.size + 1) 3 (tokF 5 ⟨#[]⟩ at0)) := Lib.hid hT2
  have HT3 := Lib.hid (intBel w (.cells #[.int .i64 0, .string ⟨#[]⟩, .int .i64 0] 30) (.cells #[.int .i64 5, .string ⟨#[]⟩, .int .i64 at0] 30))
  clear hT1 hT2 hT3
  generalize (w.alloc (.cells #[.int .i64 0, .string ⟨#[]⟩, .int .i64 0] 30)).alloc (.cells #[.int .i64 5, .string ⟨#[]⟩, .int .i64 at0] 30) = W at *
  obtain ⟨B, hBe⟩ : ∃ B, w.heap.size = B := ⟨_, rfl⟩
  rw [hBe] at HT1 HT2 HT3 ⊢
  have HBe := Lib.hid hBe
  clear hBe
  go_loopg [8] (s.size - (at0 + 1)) (fun m i wr => RTextRel s at0 w B m i wr)
  case atStart => exact ⟨at0 + 1, [], ⟨#[]⟩, Nat.le_refl _, p0, rfl, by go_num, Nat.zero_le _, Lib.hid rfl, HT1, HT2, HT3, Lib.hid (by rw [show at0 + 1 - at0 = 1 by omega]; exact TextAt.start _)⟩
  case round =>
    obtain ⟨q, acc, U, hk1, hk, hg, rfl, hU, HU, HR, HS, HBEL, HT⟩ := hrel
    have HG := Lib.hid hg
    clear hg
    have hkI : (q : Int) ≤ s.size := by omega
    have hR1 := HR.out
    have hS1 := HS.out
    have hc0 := hR1.cell (j := 0) (by decide)
    have hc1 := hR1.cell (j := 1) (by decide)
    have hc2 := hR1.cell (j := 2) (by decide)
    have hf0 := hR1.free (j := 0) (by decide)
    have hf1 := hR1.free (j := 1) (by decide)
    have hf2 := hR1.free (j := 2) (by decide)
    have hk0 : wr.cell? ⟨B + 1, 0, none⟩ = some (.int .i64 5) := hS1.cell (j := 0) (by decide)
    have hk1' : wr.cell? ⟨B + 1, 1, none⟩ = some (.string U) := hS1.cell (j := 1) (by decide)
    have hk2 : wr.cell? ⟨B + 1, 2, none⟩ = some (.int .i64 at0) := hS1.cell (j := 2) (by decide)
    have hg1 := hS1.free (j := 1) (by decide)
    clear hR1 hS1
    by_cases hks : q < s.size
    · by_cases hq : (s[q]'hks).toNat = 39
      · have hqb : (((s[q]'hks).toNat : Int) != 39) = false := by rw [hq]; rfl
        by_cases hn : ∃ h : q + 1 < s.size, (s[q + 1]'h).toNat = 39
        · obtain ⟨hn1, hn2⟩ := hn
          have HT2 := Lib.hid (HT.out.two' hk1 hn1 hq hn2)
          have hnb : ((q : Int) + 1 == s.size) = false := by rw [beq_eq_false_iff_ne]; omega
          have hnc : (((s[q + 1]'hn1).toNat : Int) != 39) = false := by rw [hn2]; rfl
          have hni : (q : Int) + 1 < s.size := by omega
          go_wp2_with fail
          go_roundg (s.size - (q + 2))
          case measure => rw [HG.out]; omega
          case rel => exact ⟨q + 2, acc ++ [39], _, by omega, by omega, rfl, by go_num, by rw [ByteArray.size_append]; show U.size + 1 ≤ _; omega, Lib.hid (by rw [HU.out, ← bytes_append]), Lib.hid (HR.out.other _ (by simp) _), Lib.hid (tok_put HS.out _), Lib.hid (HBEL.out.setCell (by simp) _), HT2⟩
        · have HP := Lib.hid (HT.out.close' hk1 hks hq hn)
          rcases Nat.lt_or_ge (q + 1) s.size with hn1 | hn1
          · have hnb : ((q : Int) + 1 == s.size) = false := by rw [beq_eq_false_iff_ne]; omega
            have hnc : (((s[q + 1]'hn1).toNat : Int) != 39) = true := by rw [bne_iff_ne]; intro e; exact hn ⟨hn1, by omega⟩
            have hni : (q : Int) + 1 < s.size := by omega
            clear hn
            go_wp2_with fail
            refine bodyPost_ret (v := .tuple #[tokV 5 U at0, .int .i64 ((q : Int) + 1), .int .i64 0]) (by simp [results, Tryz.results22, go_sem, tokV, *]) rfl (refOk _ _ _ _ (by rw [HP.out]) (by rw [HP.out]) (by rw [HP.out]; exact HU.out) rfl (by rw [HP.out]; show (q : Int) + 1 = ((at0 + (q - at0 + 1) : Nat) : Int); omega) (by rw [HBe.out]; exact tokBelB HBEL.out _ _ _))
          · obtain hne : s.size = q + 1 := by omega
            have hnb : ((q : Int) + 1 == s.size) = true := by rw [beq_iff_eq]; omega
            have HNE := Lib.hid hne
            clear hn hne
            go_wp2_with fail
            refine bodyPost_ret (v := .tuple #[tokV 5 U at0, .int .i64 ((q : Int) + 1), .int .i64 0]) (by simp [results, Tryz.results22, go_sem, tokV, *]) rfl (refOk _ _ _ _ (by rw [HP.out]) (by rw [HP.out]) (by rw [HP.out]; exact HU.out) rfl (by rw [HP.out]; show (q : Int) + 1 = ((at0 + (q - at0 + 1) : Nat) : Int); omega) (by rw [HBe.out]; exact tokBelB HBEL.out _ _ _))
      · have hqb : (((s[q]'hks).toNat : Int) != 39) = true := by rw [bne_iff_ne]; omega
        have HT2 := Lib.hid (HT.out.other' hk1 hks hq)
        have HXE := Lib.hid (ext_one s q hks)
        go_wp2_with fail
        have hw1 : IntKind.i64.wrap ((q : Int) + 1) = (q : Int) + 1 := IntWalk.i64_in _ (by omega)
        have hw2 : (0 : Int) ≤ (q : Int) := by omega
        have hw3 : (q : Int) ≤ (q : Int) + 1 := by omega
        have hw4 : (q : Int) + 1 ≤ s.size := by omega
        have hw5 : ((q : Int) + 1).toNat = q + 1 := by omega
        go_region
        all_goals
          clear hw1
          go_wp2_with fail
          go_roundg (s.size - (q + 1))
          case measure => rw [HG.out]; omega
          case rel => exact ⟨q + 1, acc ++ [s[q]'hks], U ++ s.extract q (q + 1), by omega, by omega, rfl, by go_num, by rw [ByteArray.size_append, HXE.out]; show U.size + 1 ≤ _; omega, Lib.hid (by rw [HU.out, HXE.out, ← bytes_append]), Lib.hid (HR.out.other _ (by simp) _).drew, Lib.hid (tok_put HS.out _).drew, Lib.hid (Below.drew (HBEL.out.setCell (by simp) _)), HT2⟩
    · obtain hse : s.size = q := by omega
      have HP := Lib.hid (show textP (s.data.toList.drop at0) = ((0, []), 0, 10) from TextAt.cut (acc := acc) (by rw [List.length_drop, list_size, hse]; exact HT.out))
      have hks2 : ¬ ((q : Int) < s.size) := by omega
      clear hse
      go_wp2_with fail
      refine bodyPost_ret (v := .tuple #[tokV 5 U at0, .int .i64 at0, .int .i64 10]) (by simp [results, Tryz.results22, go_sem, tokV, *]) rfl (refErr _ _ _ _ 10 (by decide) (by rw [HP.out]) (by rw [HBe.out]; exact tokBelB HBEL.out _ _ _))
end Go.Proofs.YthhepfjjmilcnaaGreatDoor
