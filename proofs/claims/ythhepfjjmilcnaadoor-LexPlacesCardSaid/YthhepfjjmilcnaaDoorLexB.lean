/- The walk of lex.Keyword: it tells just the keywords, in capitals. -/
import Derived.Test.YthhepfjjmilcnaaDoorUtil
import Derived.Test.YthhepfjjmilcnaaDoorPlex
import Derived.Test.YthhepfjjmilcnaaDoorShelf
import Derived.BigQuiet
namespace Go.Proofs.YthhepfjjmilcnaaDoor
open Go.RowKit Lx
/-- element j of the letters while they are made capitals: k are -/
def upAt (s : ByteArray) (k j : Nat) : Value := .int .u8 ((if j < k then upB (s.data.toList.getD j 0) else s.data.toList.getD j 0).toNat : Nat)
theorem upAt_zero (s : ByteArray) (j : Nat) : upAt s 0 j = .int .u8 (s.data.toList.getD j 0).toNat := by simp [upAt]
theorem upAt_here (s : ByteArray) (k : Nat) : upAt s k k = .int .u8 (s.data.toList.getD k 0).toNat := by simp [upAt]
theorem upAt_low (s : ByteArray) (k : Nat) (h : 97 ≤ (s.data.toList.getD k 0).toNat) (h2 : (s.data.toList.getD k 0).toNat ≤ 122) (j : Nat) :
    (if j = k then Value.int .u8 (((s.data.toList.getD k 0).toNat : Int) - 32) else upAt s k j) = upAt s (k + 1) j := by
  by_cases e : j = k
  · subst e
    have := upB_low _ h h2
    simp only [if_true, upAt, Nat.lt_succ_self, this]
    congr 1
    omega
  · rw [if_neg e]
    unfold upAt
    have : (j < k + 1) ↔ (j < k) := by omega
    simp only [this]
theorem upAt_cap (s : ByteArray) (k : Nat) (h : ¬ (97 ≤ (s.data.toList.getD k 0).toNat ∧ (s.data.toList.getD k 0).toNat ≤ 122)) (j : Nat) : upAt s k j = upAt s (k + 1) j := by
  by_cases e : j = k
  · subst e
    simp only [upAt, Nat.lt_irrefl, if_false, Nat.lt_succ_self, if_true, upB_other _ h]
  · unfold upAt
    have : (j < k + 1) ↔ (j < k) := by omega
    simp only [this]
def alphaTo (s : ByteArray) (k : Nat) : Prop := ∀ j, j < k → (lowB (s.data.toList.getD j 0) || capB (s.data.toList.getD j 0)) = true
theorem kw_not (s : ByteArray) (k : Nat) (hk : k < s.size) (h : (lowB (s.data.toList.getD k 0) || capB (s.data.toList.getD k 0)) = false) : kwB s.data.toList = false := by
  have : ¬ (s.data.toList.all (fun c => lowB c || capB c)) = true := fun e => by
    rw [List.all_eq_true] at e
    have := e (s.data.toList.getD k 0) (by rw [List.getD_eq_getElem?_getD, List.getElem?_eq_getElem (by simpa using hk)]; simp)
    rw [h] at this
    cases this
  simp only [kwB]
  simp only [Bool.not_eq_true] at this
  rw [this]
  rfl
theorem kw_all (s : ByteArray) (h : alphaTo s s.size) : s.data.toList.all (fun c => lowB c || capB c) = true := by
  rw [List.all_eq_true]
  intro c hc
  obtain ⟨j, hj, rfl⟩ := List.getElem_of_mem hc
  have := h j (by simpa using hj)
  rwa [List.getD_eq_getElem?_getD, List.getElem?_eq_getElem hj] at this
theorem contains_kw (s p : ByteArray) (l : List UInt8) (b : Bool) (hs : s.data.toList = wordsL) (hp : p.data.toList = l) (hb : Hid (Lib.contains wordsL l = b)) (w : World) (hm : Hid (∃ m, w.cell? ⟨0, 0, none⟩ = some (.int .i64 m))) :
    Calls Tryd.prog 20 #[.string s, .string p] w fun e w' => e = .returned (.bool b) ∧ w = w' := by
  obtain ⟨m, hm⟩ := hm.out
  have h1 : s.size < 4294967281 := by
    rw [← list_size, hs]; decide +kernel
  refine (Tryd.strings_Contains s p m w h1 hm).mono fun e w' ⟨he, hw⟩ => ⟨?_, hw.symm⟩
  rw [he, hs, hp, hb.out]
set_option maxHeartbeats 1600000 in
set_option maxRecDepth 100000 in
theorem keyword_any (s : ByteArray) (w : World) (hs : s.size ≤ 140737488355000) (hm : ∃ m, w.cell? ⟨0, 0, none⟩ = some (.int .i64 m)) :
    Calls Tryd.prog 15 #[.string s] w fun e w' => e = .returned (.tuple #[.string ⟨(kwS s.data.toList).toArray⟩, .bool (kwB s.data.toList)]) ∧ Below w.heap.size w w' := by
  have hcv := fun (w : World) => Lib.run_convert_string_bytes (P := Tryd.prog) w 9 32 5 s Tryd.underlying9 Tryd.underlying32 Tryd.underlying5
  go_enter Tryd.func15, Tryd.ntmps15
  go_wp2_with fail
  go_loopw [11] (fun i wr => ∃ k : Nat, i = .int .i64 k ∧ k ≤ s.size ∧ RowF wr w.heap.size s.size (upAt s k) ∧ Below w.heap.size w wr ∧ w.heap.size < wr.heap.size ∧ alphaTo s k) (fun i _ => s.size - (intOf i).toNat)
  case atStart =>
    refine ⟨0, rfl, by omega, fun j hj => ⟨?_, ?_⟩, ⟨rfl, rfl, rfl, by rw [Lib.bytesWorld_size]; omega, fun i hi => Lib.bytesWorld_at_old w _ s i hi⟩, by rw [Lib.bytesWorld_size]; omega, fun j hj => by omega⟩
    · rw [upAt_zero]; exact Lib.bytesWorld_cell w _ s j hj
    · simp [World.frozen?, Lib.bytesWorld_at_new, Lib.bytesCells]; omega
  case round =>
    obtain ⟨k, rfl, hk, hrow, hb, hlt, hal⟩ := hrel
    have HR := Lib.hid hrow
    have HA := Lib.hid hal
    clear hrow hal
    by_cases hks : k < s.size
    · have hcell : wr.cell? ⟨w.heap.size, k, none⟩ = some (.int .u8 ((s.data.toList.getD k 0).toNat : Nat)) := by rw [← upAt_here]; exact HR.out.cell hks
      have hfree := HR.out.free hks
      have hx255 : (s.data.toList.getD k 0).toNat < 256 := (s.data.toList.getD k 0).toNat_lt
      have HNot : ¬ (97 ≤ (s.data.toList.getD k 0).toNat ∧ (s.data.toList.getD k 0).toNat ≤ 122) → ¬ (65 ≤ (s.data.toList.getD k 0).toNat ∧ (s.data.toList.getD k 0).toNat ≤ 90) → kwB s.data.toList = false := fun h1 h2 => kw_not s k hks (by
        have a1 : lowB (s.data.toList.getD k 0) = false := Bool.eq_false_iff.2 fun e => h1 ((lowB_iff _).1 e)
        have a2 : capB (s.data.toList.getD k 0) = false := Bool.eq_false_iff.2 fun e => h2 ((capB_iff _).1 e)
        rw [a1, a2]; rfl)
      have HLow : 97 ≤ (s.data.toList.getD k 0).toNat → (s.data.toList.getD k 0).toNat ≤ 122 → (∀ j, (if j = k then Value.int .u8 (((s.data.toList.getD k 0).toNat : Int) - 32) else upAt s k j) = upAt s (k + 1) j) ∧ alphaTo s (k + 1) := fun h1 h2 => ⟨upAt_low s k h1 h2, fun j hj => by
        by_cases e : j = k
        · subst e; simp only [(lowB_iff _).2 ⟨h1, h2⟩, Bool.true_or]
        · exact HA.out j (by omega)⟩
      have HCap : 65 ≤ (s.data.toList.getD k 0).toNat → (s.data.toList.getD k 0).toNat ≤ 90 → (∀ j, upAt s k j = upAt s (k + 1) j) ∧ alphaTo s (k + 1) := fun h1 h2 => ⟨upAt_cap s k (by omega), fun j hj => by
        by_cases e : j = k
        · subst e; simp only [(capB_iff _).2 ⟨h1, h2⟩, Bool.or_true]
        · exact HA.out j (by omega)⟩
      generalize (s.data.toList.getD k 0).toNat = x at *
      have H1 := Lib.hid HNot
      have H2 := Lib.hid HLow
      have H3 := Lib.hid HCap
      clear HNot HLow HCap
      by_cases hl : 97 ≤ x
      · by_cases hl2 : x ≤ 122
        · go_wp2
          go_roundw
          case rel => exact ⟨k + 1, by go_num, by omega, (HR.out.set hks _).ext fun j _ => (H2.out hl hl2).1 j, hb.setCell (p := ⟨w.heap.size, k, none⟩) (by simp) _, by rw [size_setCell]; omega, (H2.out hl hl2).2⟩
          case measure => simp [intOf]; omega
        · have hkf := H1.out (by omega) (by omega)
          have HK := Lib.hid hkf
          clear hkf
          go_wp2
          go_ret2
          exact ⟨by simp [kwS, HK.out], hb⟩
      · by_cases hc : 65 ≤ x ∧ x ≤ 90
        · obtain ⟨hc1, hc2⟩ := hc
          go_wp2
          go_roundw
          case rel => exact ⟨k + 1, by go_num, by omega, HR.out.ext fun j _ => (H3.out hc1 hc2).1 j, hb, by omega, (H3.out hc1 hc2).2⟩
          case measure => simp [intOf]; omega
        · have hkf := H1.out (by omega) hc
          have HK := Lib.hid hkf
          clear hkf
          by_cases hc1 : 65 ≤ x
          · have hc2 : 90 < x := by omega
            clear hc
            go_wp2
            go_ret2
            exact ⟨by simp [kwS, HK.out], hb⟩
          · clear hc
            go_wp2
            go_ret2
            exact ⟨by simp [kwS, HK.out], hb⟩
    · obtain rfl : k = s.size := by omega
      have hlen : (upL s.data.toList).length = s.size := by simp [upL]
      have hst : (convert 32 9 (.slice (some ⟨w.heap.size, 0, none⟩) s.size (grownCap w s.size 0 5))).run Tryd.prog wr = .ok (.string ⟨(upL s.data.toList).toArray⟩) wr := by
        have := run_string_of_row (P := Tryd.prog) wr 32 9 5 w.heap.size (grownCap w s.size 0 5) (upL s.data.toList) Tryd.underlying32 Tryd.underlying5 Tryd.underlying9 (fun j hj => by
          rw [hlen] at hj
          rw [HR.out.cell hj]
          simp only [upAt, if_pos hj]
          congr 2
          simp [upL, List.getD, hj])
        rwa [hlen] at this
      have hal2 := Lib.hid (kw_all s HA.out)
      have hm2 : ∃ m, wr.cell? ⟨0, 0, none⟩ = some (.int .i64 m) := hm.imp fun m h => below_cellS hb h
      have HM := Lib.hid hm2
      have HL := Lib.hid hlen
      clear hm2 hm HA HR hlen
      by_cases hz : s.size = 0
      · have hkf : kwB s.data.toList = false := by
          have : s.data.toList = [] := List.eq_nil_of_length_eq_zero (by rw [list_size]; exact hz)
          rw [this]; rfl
        have HK := Lib.hid hkf
        have hz2 : ((s.size : Int) == 0) = true := by simp [hz]
        clear hkf hz
        go_wp2
        go_ret2
        exact ⟨by simp [kwS, HK.out], hb⟩
      · have hz2 : ((s.size : Int) == 0) = false := by simp [hz]
        have hkb : kwB s.data.toList = Lib.contains wordsL (32 :: (upL s.data.toList ++ [32])) := by
          have : s.data.toList.isEmpty = false := by
            cases hh : s.data.toList with
            | nil => exfalso; apply hz; rw [← list_size, hh]; rfl
            | cons _ _ => rfl
          simp only [kwB, hal2.out, this, Bool.not_false, Bool.and_true, Bool.true_and]
        have HK := Lib.hid hkb
        have hsz : (upL s.data.toList).length ≤ 140737488355000 := by rw [HL.out]; exact hs
        clear hkb
        generalize hu : upL s.data.toList = u at *
        have HU := Lib.hid hu
        clear hu
        cases hc : Lib.contains wordsL (32 :: (u ++ [32])) with
        | true =>
          have HC := Lib.hid hc
          clear hc
          go_wp2_with fail
          refine (contains_kw _ _ _ true rfl (by simp) HC _ HM).mono ?_
          rintro e w' ⟨rfl, rfl⟩
          go_wp2
          go_ret2
          exact ⟨by rw [kwS, HK.out, HC.out, HU.out]; rfl, hb⟩
        | false =>
          have HC := Lib.hid hc
          clear hc
          go_wp2_with fail
          refine (contains_kw _ _ _ false rfl (by simp) HC _ HM).mono ?_
          rintro e w' ⟨rfl, rfl⟩
          go_wp2
          go_ret2
          exact ⟨by rw [kwS, HK.out, HC.out]; rfl, hb⟩
end Go.Proofs.YthhepfjjmilcnaaDoor
