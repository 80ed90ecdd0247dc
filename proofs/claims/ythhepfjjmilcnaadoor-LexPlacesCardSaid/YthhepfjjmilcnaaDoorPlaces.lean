/- The walk of the statement LexPlaces. -/
import Derived.Test.YthhepfjjmilcnaaDoorWrite
import Derived.Test.YthhepfjjmilcnaaDoorLawUtil
import Derived.Test.YthhepfjjmilcnaaDoorPagn
namespace Go.Proofs.YthhepfjjmilcnaaDoor
open Go.RowKit Lx Fl
set_option maxHeartbeats 1600000 in
set_option maxRecDepth 100000 in
theorem places_long (s : ByteArray) (h : 1000 < s.size) (hs : s.size ≤ 9223372036854775807) (w : World) (hL : Hid (FltLaid w)) (hE : Hid (ErrAt w)) (hm : Hid (∃ m, w.cell? ⟨0, 0, none⟩ = some (.int .i64 m))) :
    Calls Tryd.prog 4 #[.string s] w fun e w' => e = .returned (.bool true) ∧ Below w.heap.size w w' := by
  have hI : (1000 : Int) < s.size := by omega
  clear h
  go_enter Tryd.func4, Tryd.ntmps4
  go_wp2_with fail
  refine (lives_any _ hL hE hm).mono ?_
  rintro e w1 ⟨rfl, hb⟩
  have HB := Lib.hid hb
  clear hb
  go_wp2_with fail
  refine (lives_any _ (Lib.hid (hL.out.below HB.out)) (Lib.hid (hE.out.below HB.out)) (Lib.hid (hm.out.imp fun m h => below_cellS HB.out h))).mono ?_
  rintro e w2 ⟨rfl, hb⟩
  have HB2 := Lib.hid (below_then' HB.out HB.out.size hb)
  clear hb
  go_wp2_with fail
  go_ret
  exact ⟨rfl, HB2.out⟩
theorem places_world (w : World) (k : Int) (u : List UInt8) (a : Nat) (x : ByteArray) : ∃ V, Lib.bytesWorld (w.alloc (.cells #[.int .i64 k, .string ⟨u.toArray⟩, .int .i64 a] 29)) 5 x = V ∧ V.cell? ⟨w.heap.size, 0, none⟩ = some (.int .i64 k) ∧ V.cell? ⟨w.heap.size, 1, none⟩ = some (.string ⟨u.toArray⟩) ∧ V.cell? ⟨w.heap.size, 2, none⟩ = some (.int .i64 a) ∧
    Hid (∀ j, j < x.size → V.cell? ⟨w.heap.size + 1, j, none⟩ = some (.int .u8 (x.data.toList.getD j 0).toNat)) ∧ Hid (Below w.heap.size w V) := by
  obtain ⟨W, hW, t0, t1, t2, HBA⟩ := word_laid w k u a
  have hs : W.heap.size = w.heap.size + 1 := by rw [← hW]; simp
  rw [hW]
  have hb := Lib.bytesWorld_below W 5 x
  refine ⟨_, rfl, below_cellS hb t0, below_cellS hb t1, below_cellS hb t2, Lib.hid (fun j hj => ?_), Lib.hid (HBA.out.trans (hb.mono HBA.out.size))⟩
  have := Lib.bytesWorld_cell W 5 x j hj
  rwa [hs] at this
theorem ext_get (s : ByteArray) (a b j : Nat) (hj : a + j < b) : (s.extract a b).data.toList.getD j 0 = s.data.toList.getD (a + j) 0 := by
  rw [ByteArray.data_extract, Array.toList_extract]
  simp only [List.extract]
  rw [List.getD_eq_getElem?_getD, List.getElem?_take_of_lt (by omega), List.getElem?_drop, ← List.getD_eq_getElem?_getD]
theorem blank_four (c : Nat) (h : blankB c = true) : c = 32 ∨ c = 9 ∨ c = 10 ∨ c = 13 := by
  simp only [blankB, Bool.or_eq_true, decide_eq_true_eq] at h
  omega
theorem ext_is (s : ByteArray) (a n : Nat) (W : List UInt8) (hn : W.length = n) (h : (s.data.toList.drop a).take n = W) : s.extract a (a + n) = ⟨W.toArray⟩ := by
  apply ByteArray.ext
  rw [ByteArray.data_extract]
  apply Array.ext'
  rw [Array.toList_extract]
  simp only [List.extract]
  rw [show a + n - a = n by omega, h]
set_option maxHeartbeats 1600000 in
set_option maxRecDepth 100000 in
theorem places_short (s : ByteArray) (hs : s.size ≤ 1000) (w : World) (hL : Hid (FltLaid w)) (hE : Hid (ErrAt w)) (hm : Hid (∃ m, w.cell? ⟨0, 0, none⟩ = some (.int .i64 m))) :
    Calls Tryd.prog 4 #[.string s] w fun e w' => e = .returned (.bool true) ∧ Below w.heap.size w w' := by
  have hI : ¬ (1000 : Int) < s.size := by omega
  have HPN := Lib.hid (lexP_places s.data.toList 1000)
  have HNONE := Lib.hid (lexP_none s.data.toList 1000)
  have hcv := fun (w : World) (x : ByteArray) => Lib.run_convert_string_bytes (P := Tryd.prog) w 9 32 5 x Tryd.underlying9 Tryd.underlying32 Tryd.underlying5
  go_enter Tryd.func4, Tryd.ntmps4
  go_wp2_with fail
  refine (lives_any _ hL hE hm).mono ?_
  rintro e w1 ⟨rfl, hb⟩
  have HB := Lib.hid hb
  clear hb
  go_wp2_with fail
  refine (lex_any s (by omega) 1000 _ (Lib.hid (hL.out.below HB.out)) (Lib.hid (hE.out.below HB.out)) (Lib.hid (hm.out.imp fun m h => below_cellS HB.out h))).mono ?_
  rintro e w2 ⟨v, rfl, hb, hown⟩
  have HB2 := Lib.hid (below_then' HB.out HB.out.size hb)
  have HOWN := Lib.hid hown
  clear hb hown
  obtain ⟨r, hr⟩ : ∃ r, lexP s.data.toList 1000 = r := ⟨_, rfl⟩
  rw [hr] at HPN HNONE HOWN ⊢
  clear hr
  obtain ⟨ts, r1, re⟩ := r
  dsimp only at HPN HNONE HOWN ⊢
  by_cases h0 : re = 0
  · have hb0 : (re != 0) = false := by rw [h0]; rfl
    obtain ⟨hne, hpl⟩ := HPN.out h0
    have HPL := Lib.hid (show PlacesAt s.data.toList ts 0 0 from hpl)
    have HBY := Lib.hid (places_bytes s.data.toList ts 0 hpl)
    obtain ⟨g, cap, rfl, _, hc⟩ := owns_slice HOWN.out hne
    have hlen := (places_len s.data.toList ts 0 hpl []).2
    rw [list_size] at hlen
    have HC := Lib.hid hc
    clear hc HOWN HPN HNONE h0 hpl hne
    go_wp2_with fail
    obtain ⟨wo, hwo⟩ : ∃ wo : World, wo = w2 := ⟨_, rfl⟩
    subst hwo
    go_loopg [6, 33] ts.length (fun m en i wr => ∃ j e : Nat, j ≤ ts.length ∧ m = ts.length - j ∧ en = .int .i64 e ∧ i = .int .i64 j ∧ Hid (PlacesAt s.data.toList ts j e) ∧ Hid (Below wo.heap.size wo wr))
    case atStart => exact ⟨0, 0, Nat.zero_le _, rfl, rfl, rfl, HPL, Lib.hid (Below.refl _ _)⟩
    case round =>
      obtain ⟨j, e, hj, hg, rfl, rfl, HAT, HBW⟩ := hrel
      have HG := Lib.hid hg
      clear hg
      by_cases hjs : j < ts.length
      · have hjI : (j : Int) < ts.length := by omega
        obtain ⟨q1, q2, q3, q4, q5, q6, q7⟩ := HAT.out.step hjs
        have hby := HBY.out j hjs
        obtain ⟨a0, a1, a2⟩ := HC.out j hjs
        have c0 := below_cellS HBW.out a0
        have c1 := below_cellS HBW.out a1
        have c2 := below_cellS HBW.out a2
        rw [list_size] at q2 q5 hby
        clear a0 a1 a2
        generalize ts[j].1 = tk at *
        generalize ts[j].2.1 = tu at *
        generalize ts[j].2.2 = ta at *
        have Q3 := Lib.hid q3
        have Q4 := Lib.hid q4
        have Q6 := Lib.hid q6
        have Q7 := Lib.hid q7
        clear q3 q4 q6 q7
        have hA1 : ¬ ((ta : Int) < e) := by omega
        have hA2 : ¬ ((s.size : Int) < ta) := by omega
        have hA3 : (e : Int) ≤ ta := by omega
        have hA4 : (ta : Int) ≤ s.size := by omega
        obtain ⟨wp, hwp⟩ : ∃ wp : World, wp = wr := ⟨_, rfl⟩
        subst hwp
        go_wp2_with fail
        obtain ⟨V, hV, t0, t1, t2, HBC, HBV⟩ := places_world wp tk tu ta (s.extract e ta)
        rw [hV]
        clear hV c0 c1 c2
        generalize grownCap _ (ta - e) 0 5 = cp
        have hxs : (s.extract e ta).size = ta - e := by rw [ByteArray.size_extract]; omega
        rw [hxs] at HBC
        clear hxs
        have HBX := Lib.hid (HBW.out.trans (HBV.out.mono HBW.out.size))
        clear HBV
        generalize wp.heap.size = N at *
        go_loopg [56] (ta - e) (fun m i wi => ∃ q : Nat, q ≤ ta - e ∧ m = ta - e - q ∧ i = .int .i64 q ∧ V = wi)
        case atStart => exact ⟨0, Nat.zero_le _, rfl, rfl, rfl⟩
        case round =>
          obtain ⟨q, hq, hg2, rfl, rfl⟩ := hrel
          have HG2 := Lib.hid hg2
          clear hg2
          by_cases hqs : q < ta - e
          · have hqI : (q : Int) < ((ta - e : Nat) : Int) := by omega
            have hcell := HBC.out q hqs
            rw [ext_get s e ta q (by omega)] at hcell
            have hb := blank_four _ (Q3.out (e + q) (by omega) (by omega))
            generalize (s.data.toList.getD (e + q) 0).toNat = cc at *
            rcases hb with hb | hb | hb | hb
            all_goals
              subst hb
              go_wp2_with fail
              go_roundg (ta - e - (q + 1))
              case measure => rw [HG2.out]; omega
              case rel => exact ⟨q + 1, by omega, rfl, by go_num, rfl⟩
          · have hqI : ¬ ((q : Int) < ((ta - e : Nat) : Int)) := by omega
            have HTE := Lib.hid (show ∃ b, (tk == 0) = b ∧ ((j : Int) == (ts.length : Int) - 1) = b from by
              by_cases hz : tk = 0
              · have h1 := Q4.out.1 hz
                exact ⟨true, by rw [hz]; rfl, by rw [beq_iff_eq]; omega⟩
              · have h1 : ¬ j + 1 = ts.length := fun h => hz (Q4.out.2 h)
                exact ⟨false, by rw [beq_eq_false_iff_ne]; exact hz, by rw [beq_eq_false_iff_ne]; omega⟩)
            obtain ⟨bb, hb1, hb2⟩ := HTE.out
            clear HTE
            cases bb
            all_goals
              go_wp2_with fail
              refine (write_any tk tu (by omega) ta _).mono ?_
              rintro e' w4 ⟨rfl, hb⟩
              have s0 := below_cellS hb t0
              have s1 := below_cellS hb t1
              have s2 := below_cellS hb t2
              have HBZ := Lib.hid (HBX.out.trans (hb.mono HBX.out.size))
              clear hb t0 t1 t2 hb1 hb2
              obtain ⟨n, hn⟩ : ∃ n, (writeL tk tu).length = n := ⟨_, rfl⟩
              rw [hn] at q5 Q6 Q7
              have HEX := Lib.hid (fun h2 => ext_is s ta n (writeL tk tu) hn (Q6.out h2))
              obtain ⟨WB, hWB⟩ : ∃ WB : ByteArray, (⟨(writeL tk tu).toArray⟩ : ByteArray) = WB := ⟨_, rfl⟩
              have hWs : WB.size = n := by rw [← hWB, ← hn]; show (writeL tk tu).toArray.size = _; simp
              rw [hWB] at HEX ⊢
              clear hWB hn Q6
              have hlI : ¬ ((s.size : Int) - ta < WB.size) := by omega
              have hlJ : (ta : Int) + WB.size ≤ s.size := by omega
              rw [← hWs] at HEX Q7
              clear hWs q5
              by_cases h2 : tk = 2
              · have hk2 : (tk != 2) = false := by rw [h2]; rfl
                clear h2 HEX
                go_wp2_with fail
                go_roundg (ts.length - (j + 1))
                case measure => rw [HG.out]; omega
                case rel => exact ⟨j + 1, ta + WB.size, by omega, rfl, by go_num, by go_num, Q7, HBZ⟩
              · have hk2 : (tk != 2) = true := by rw [bne_iff_ne]; exact h2
                have hxe := HEX.out h2
                clear h2 HEX
                go_wp2_with fail
                go_roundg (ts.length - (j + 1))
                case measure => rw [HG.out]; omega
                case rel => exact ⟨j + 1, ta + WB.size, by omega, rfl, by go_num, by go_num, Q7, HBZ⟩
      · obtain hjl : j = ts.length := by omega
        have HE := Lib.hid (show e = s.size from by rw [← list_size]; exact (show PlacesAt s.data.toList ts ts.length e by rw [← hjl]; exact HAT.out).done)
        have hee : ((e : Int) == s.size) = true := by rw [HE.out]; exact beq_self_eq_true _
        have hjI : ¬ ((j : Int) < ts.length) := by omega
        clear hjl
        go_wp2_with fail
        go_ret
        exact ⟨by first | rfl | simp [*], below_then' HB2.out HB2.out.size HBW.out⟩
  · have hb0 : (re != 0) = true := by rw [bne_iff_ne]; exact h0
    have hn := HNONE.out h0
    subst hn
    obtain ⟨ao, g, cap, rfl, _, _⟩ := owns_form HOWN.out
    clear HPN HNONE h0 HOWN
    go_wp2_with fail
    go_ret
    exact ⟨by first | rfl | simp [*], HB2.out⟩
theorem places_any (s : ByteArray) (hs : s.size ≤ 9223372036854775807) (w : World) (hL : Hid (FltLaid w)) (hE : Hid (ErrAt w)) (hm : Hid (∃ m, w.cell? ⟨0, 0, none⟩ = some (.int .i64 m))) :
    Calls Tryd.prog 4 #[.string s] w fun e w' => e = .returned (.bool true) ∧ Below w.heap.size w w' := by
  rcases Nat.lt_or_ge 1000 s.size with h | h
  · exact places_long s h hs w hL hE hm
  · exact places_short s h w hL hE hm
end Go.Proofs.YthhepfjjmilcnaaDoor
