/- The walk of lex.text. -/
import Derived.Test.YthhepfjjmilcnaaDoorBld
import Derived.Test.YthhepfjjmilcnaaDoorPnext
namespace Go.Proofs.YthhepfjjmilcnaaDoor
open Go.RowKit Lx Fl
theorem RowF.belowB {w w' : World} {b n B : Nat} {f : Nat → Value} (h : RowF w b n f) (hb : Below B w w') (hlt : b < B) : RowF w' b n f := fun j hj =>
  ⟨(hb.cell (p := ⟨b, j, none⟩) hlt).trans (h.cell hj), (hb.frozen (p := ⟨b, j, none⟩) hlt).trans (h.free hj)⟩
theorem tokBelB {B : Nat} {w w1 : World} (h : Below B w w1) (a b c : Value) : Below B w (((w1.setCell ⟨B, 0, none⟩ a).setCell ⟨B, 1, none⟩ b).setCell ⟨B, 2, none⟩ c) :=
  ((h.setCell (Nat.le_refl _) a).setCell (Nat.le_refl _) b).setCell (Nat.le_refl _) c
theorem textGo_other (l : List UInt8) (k : Nat) (h : k < l.length) (hc : l[k].toNat ≠ 39) : textGo (l.drop k) = (textGo (l.drop (k + 1))).map fun p => (l[k] :: p.1, p.2 + 1) := by
  rw [List.drop_eq_getElem_cons h]
  generalize l.drop (k + 1) = r
  conv => lhs; rw [textGo.eq_def]
  simp only
  rw [if_neg hc]
theorem textGo_two (l : List UInt8) (k : Nat) (h : k + 1 < l.length) (hc : (l[k]'(by omega)).toNat = 39) (hd : l[k + 1].toNat = 39) : textGo (l.drop k) = (textGo (l.drop (k + 2))).map fun p => (39 :: p.1, p.2 + 2) := by
  rw [List.drop_eq_getElem_cons (show k < l.length by omega), List.drop_eq_getElem_cons h]
  generalize l.drop (k + 1 + 1) = r
  conv => lhs; rw [textGo.eq_def]
  simp only
  rw [if_pos hc, if_pos hd]
theorem textGo_close (l : List UInt8) (k : Nat) (h : k < l.length) (hc : l[k].toNat = 39) (hd : ∀ h : k + 1 < l.length, l[k + 1].toNat ≠ 39) : textGo (l.drop k) = some ([], 1) := by
  rw [List.drop_eq_getElem_cons h]
  conv => lhs; rw [textGo.eq_def]
  simp only
  rw [if_pos hc]
  rcases Nat.lt_or_ge (k + 1) l.length with h1 | h1
  · rw [List.drop_eq_getElem_cons h1]
    simp only
    rw [if_neg (hd h1)]
  · rw [List.drop_eq_nil_of_le h1]
def TextAt (l acc : List UInt8) (k : Nat) : Prop := textGo (l.drop 1) = (textGo (l.drop k)).map fun p => (acc ++ p.1, (k - 1) + p.2)
theorem TextAt.start (l : List UInt8) : TextAt l [] 1 := by
  unfold TextAt
  cases textGo (l.drop 1) <;> simp
theorem TextAt.other {l acc : List UInt8} {k : Nat} (H : TextAt l acc k) (h1 : 1 ≤ k) (h : k < l.length) (hc : l[k].toNat ≠ 39) : TextAt l (acc ++ [l[k]]) (k + 1) := by
  unfold TextAt at H ⊢
  rw [H, textGo_other l k h hc]
  cases textGo (l.drop (k + 1)) <;> simp
  omega
theorem TextAt.two {l acc : List UInt8} {k : Nat} (H : TextAt l acc k) (h1 : 1 ≤ k) (h : k + 1 < l.length) (hc : (l[k]'(by omega)).toNat = 39) (hd : l[k + 1].toNat = 39) : TextAt l (acc ++ [l[k + 1]]) (k + 2) := by
  unfold TextAt at H ⊢
  have e : l[k + 1] = 39 := UInt8.toNat_inj.1 hd
  rw [H, textGo_two l k h hc hd, e]
  cases textGo (l.drop (k + 2)) <;> simp
  omega
theorem TextAt.close {l acc : List UInt8} {k : Nat} (H : TextAt l acc k) (h1 : 1 ≤ k) (h : k < l.length) (hc : l[k].toNat = 39) (hd : ∀ h : k + 1 < l.length, l[k + 1].toNat ≠ 39) : textP l = ((5, acc), k + 1, 0) := by
  unfold TextAt at H
  rw [textGo_close l k h hc hd] at H
  rw [textP, H]
  simp
  omega
theorem TextAt.cut {l acc : List UInt8} (H : TextAt l acc l.length) : textP l = ((0, []), 0, 10) := by
  unfold TextAt at H
  rw [List.drop_length] at H
  rw [textP, H]
  rfl
theorem cells_snoc (acc : List UInt8) (c : UInt8) : Lib.byteCells acc ++ [.int .u8 c.toNat] = Lib.byteCells (acc ++ [c]) := by simp [Lib.byteCells]
def TextRel (s : ByteArray) (w : World) (B : Nat) (m : Nat) (i : Value) (wr : World) : Prop :=
  ∃ (k : Nat) (acc : List UInt8), 1 ≤ k ∧ k ≤ s.size ∧ m = s.size - k ∧ i = .int .i64 k ∧ acc.length ≤ k ∧ Hid (Bld (B + 1) (B + 1) (Lib.byteCells acc) wr) ∧ Hid (RowF wr B 3 (tokF 0 ⟨#[]⟩ 0)) ∧ Hid (Below B w wr) ∧ Hid (B + 1 < wr.heap.size) ∧ Hid (TextAt s.data.toList acc k)
set_option maxHeartbeats 1600000 in
set_option maxRecDepth 100000 in
theorem text_any (s : ByteArray) (hs : s.size ≤ 1000000) (p0 : 0 < s.size) (w : World) :
    Calls Tryd.prog 17 #[.string s] w (WordPost (textP s.data.toList) w) := by
  go_enter Tryd.func17, Tryd.ntmps17
  go_wp2_with fail
  have hbel : Below w.heap.size w ((w.alloc (.cells #[.int .i64 0, .string ⟨#[]⟩, .int .i64 0] 29)).alloc (.cells #[.pointer none, .slice none 0 0] 50)) := ((Below.refl _ _).alloc (Nat.le_refl _) _).alloc (by simp) _
  have hsz : ((w.alloc (.cells #[.int .i64 0, .string ⟨#[]⟩, .int .i64 0] 29)).alloc (.cells #[.pointer none, .slice none 0 0] 50)).heap.size = w.heap.size + 2 := by simp
  have hR : RowF ((w.alloc (.cells #[.int .i64 0, .string ⟨#[]⟩, .int .i64 0] 29)).alloc (.cells #[.pointer none, .slice none 0 0] 50)) w.heap.size 3 (tokF 0 ⟨#[]⟩ 0) := (tok_new w 0 ⟨#[]⟩ 0).below ((Below.refl _ _).alloc (Nat.le_refl _) _) (by simp)
  have hB : Bld (w.heap.size + 1) (w.heap.size + 1) (Lib.byteCells []) ((w.alloc (.cells #[.int .i64 0, .string ⟨#[]⟩, .int .i64 0] 29)).alloc (.cells #[.pointer none, .slice none 0 0] 50)) :=
    .inl ⟨Nat.le_refl _, .slice none 0 0, by simpa using heap_alloc_new (w.alloc (.cells #[.int .i64 0, .string ⟨#[]⟩, .int .i64 0] 29)) (.cells #[.pointer none, .slice none 0 0] 50), World.ownsRowF_nil _ _ _ _, by simp [Value.ownBlock]⟩
  generalize (w.alloc (.cells #[.int .i64 0, .string ⟨#[]⟩, .int .i64 0] 29)).alloc (.cells #[.pointer none, .slice none 0 0] 50) = W at *
  have HBEL := Lib.hid hbel
  have HSZ := Lib.hid hsz
  have HR := Lib.hid hR
  have HB := Lib.hid hB
  clear hbel hsz hR hB
  obtain ⟨B, hBe⟩ : ∃ B, w.heap.size = B := ⟨_, rfl⟩
  rw [hBe] at HBEL HSZ HR HB ⊢
  have HBe := Lib.hid hBe
  clear hBe
  go_loopg [6] (s.size - 1) (fun m i wr => TextRel s w B m i wr)
  case atStart => exact ⟨1, [], Nat.le_refl _, p0, rfl, rfl, by simp, HB, HR, HBEL, Lib.hid (by rw [HSZ.out]; omega), Lib.hid (TextAt.start _)⟩
  case round =>
    obtain ⟨k, acc, hk1, hk, hg, rfl, hacc, HB, HR, HBEL, HLT, HT⟩ := hrel
    have HG := Lib.hid hg
    clear hg
    by_cases hks : k < s.size
    · by_cases hq : (s[k]'hks).toNat = 39
      · have hqb : (((s[k]'hks).toNat : Int) == 39) = true := by rw [hq]; rfl
        by_cases hn : ∃ h : k + 1 < s.size, (s[k + 1]'h).toNat = 39
        · obtain ⟨hn1, hn2⟩ := hn
          have hnb : ((k : Int) + 1 == s.size) = false := by rw [beq_eq_false_iff_ne]; omega
          have hnc : (((s[k + 1]'hn1).toNat : Int) != 39) = false := by rw [hn2]; rfl
          have hni : (k : Int) + 1 < s.size := by omega
          have HT2 := Lib.hid (HT.out.two hk1 (by rw [list_size]; exact hn1) hq hn2)
          have HX := Lib.hid (show Lib.byteCells acc ++ [.int .u8 39] = Lib.byteCells (acc ++ [s[k + 1]'hn1]) from by rw [← cells_snoc, hn2]; rfl)
          go_wp2_with fail
          refine (writeByte_any (B + 1) (B + 1) _ _ _ HB.out (by rw [Lib.byteCells_length]; omega) (by have := HLT.out; omega)).mono ?_
          rintro e w' ⟨rfl, h1, h2⟩
          rw [HX.out] at h1
          have H1 := Lib.hid h1
          have H2 := Lib.hid h2
          clear h1 h2
          go_wp2_with fail
          go_roundg (s.size - (k + 2))
          case measure => rw [HG.out]; omega
          case rel => exact ⟨k + 2, _, by omega, by omega, rfl, by go_num, by simp; omega, H1, Lib.hid (HR.out.belowB H2.out (by omega)), Lib.hid (HBEL.out.trans (H2.out.mono (by omega))), Lib.hid (by have := H2.out.size; have := HLT.out; omega), HT2⟩
        · have HP := Lib.hid (HT.out.close hk1 (by rw [list_size]; exact hks) hq (fun h e => hn ⟨by rw [list_size] at h; exact h, e⟩))
          rcases Nat.lt_or_ge (k + 1) s.size with hn1 | hn1
          · have hnb : ((k : Int) + 1 == s.size) = false := by rw [beq_eq_false_iff_ne]; omega
            have hnc : (((s[k + 1]'hn1).toNat : Int) != 39) = true := by rw [bne_iff_ne]; intro e; exact hn ⟨hn1, by omega⟩
            have hni : (k : Int) + 1 < s.size := by omega
            clear hn
            go_wp2_with fail
            refine (Tryd.Builder_String_any_k (B + 1) (B + 1) acc _ HB.out (by have := HLT.out; omega)).mono ?_
            rintro e w' ⟨rfl, _, h2, _⟩
            have hR1 := HR.out.belowB h2 (by omega : B < B + 1)
            have HBL := Lib.hid (HBEL.out.trans (h2.mono (by omega)))
            clear h2
            have hc0 := hR1.cell (j := 0) (by decide)
            have hc1 := hR1.cell (j := 1) (by decide)
            have hc2 := hR1.cell (j := 2) (by decide)
            have hf0 := hR1.free (j := 0) (by decide)
            have hf1 := hR1.free (j := 1) (by decide)
            have hf2 := hR1.free (j := 2) (by decide)
            clear hR1
            go_wp2_with fail
            refine bodyPost_ret (v := .tuple #[tokV 5 ⟨acc.toArray⟩ 0, .int .i64 (k + 1 : Nat), .int .i64 0]) (by simp [results, Tryd.results17, go_sem, tokV, *]) rfl ⟨?_, ?_⟩
            · rw [HP.out]
            · rw [HBe.out]; exact tokBelB HBL.out _ _ _
          · have hnb : ((k : Int) + 1 == s.size) = true := by rw [beq_iff_eq]; omega
            have hne : (k : Int) + 1 = s.size := by omega
            clear hn
            go_wp2_with fail
            refine (Tryd.Builder_String_any_k (B + 1) (B + 1) acc _ HB.out (by have := HLT.out; omega)).mono ?_
            rintro e w' ⟨rfl, _, h2, _⟩
            have hR1 := HR.out.belowB h2 (by omega : B < B + 1)
            have HBL := Lib.hid (HBEL.out.trans (h2.mono (by omega)))
            clear h2
            have hc0 := hR1.cell (j := 0) (by decide)
            have hc1 := hR1.cell (j := 1) (by decide)
            have hc2 := hR1.cell (j := 2) (by decide)
            have hf0 := hR1.free (j := 0) (by decide)
            have hf1 := hR1.free (j := 1) (by decide)
            have hf2 := hR1.free (j := 2) (by decide)
            clear hR1
            go_wp2_with fail
            refine bodyPost_ret (v := .tuple #[tokV 5 ⟨acc.toArray⟩ 0, .int .i64 (k + 1 : Nat), .int .i64 0]) (by simp [results, Tryd.results17, go_sem, tokV, *]) rfl ⟨?_, ?_⟩
            · rw [HP.out]
            · rw [HBe.out]; exact tokBelB HBL.out _ _ _
      · have hqb : (((s[k]'hks).toNat : Int) == 39) = false := by rw [beq_eq_false_iff_ne]; omega
        have HT2 := Lib.hid (HT.out.other hk1 (by rw [list_size]; exact hks) hq)
        have HX := Lib.hid (cells_snoc acc (s[k]'hks))
        go_wp2_with fail
        refine (writeByte_any (B + 1) (B + 1) _ _ _ HB.out (by rw [Lib.byteCells_length]; omega) (by have := HLT.out; omega)).mono ?_
        rintro e w' ⟨rfl, h1, h2⟩
        rw [HX.out] at h1
        have H1 := Lib.hid h1
        have H2 := Lib.hid h2
        clear h1 h2
        go_wp2_with fail
        go_roundg (s.size - (k + 1))
        case measure => rw [HG.out]; omega
        case rel => exact ⟨k + 1, _, by omega, by omega, rfl, by go_num, by simp; omega, H1, Lib.hid (HR.out.belowB H2.out (by omega)), Lib.hid (HBEL.out.trans (H2.out.mono (by omega))), Lib.hid (by have := H2.out.size; have := HLT.out; omega), HT2⟩
    · obtain rfl : k = s.size := by omega
      have HP := Lib.hid (show textP s.data.toList = ((0, []), 0, 10) from TextAt.cut (acc := acc) (by rw [list_size]; exact HT.out))
      have hR1 := HR.out
      have hc0 := hR1.cell (j := 0) (by decide)
      have hc1 := hR1.cell (j := 1) (by decide)
      have hc2 := hR1.cell (j := 2) (by decide)
      have hf0 := hR1.free (j := 0) (by decide)
      have hf1 := hR1.free (j := 1) (by decide)
      have hf2 := hR1.free (j := 2) (by decide)
      clear hR1
      go_wp2_with fail
      refine bodyPost_ret (v := .tuple #[tokV 0 ⟨#[]⟩ 0, .int .i64 0, .int .i64 10]) (by simp [results, Tryd.results17, go_sem, tokV, *]) rfl ⟨?_, ?_⟩
      · rw [HP.out]; rfl
      · rw [HBe.out]; exact tokBelB HBEL.out _ _ _
end Go.Proofs.YthhepfjjmilcnaaDoor
