/- The walks of the document's answer: Words, Keyword. -/
import Derived.Deep.LoopGhost
import Derived.Test.YthhepfjjmilcnaaGreatDoorRefA
import Derived.Test.YthhepfjjmilcnaaGreatDoorPkw
namespace Go.Proofs.YthhepfjjmilcnaaGreatDoor
open Go.RowKit Lx
set_option maxHeartbeats 1600000 in
set_option maxRecDepth 100000 in
theorem words_any (w : World) : Calls Tryz.prog 30 #[] w fun e w' => e = .returned (.slice (some ⟨w.heap.size, 0, none⟩) 35 35) ∧ w' = w.alloc (.cells (kwList.map fun u => Value.string ⟨u.toArray⟩).toArray 9) := by
  go_enter Tryz.func30, Tryz.ntmps30
  go_wp2
  go_ret
  exact ⟨rfl, rfl⟩
theorem conv1 (w : World) (x : Int) (c : UInt8) (hx : x = c.toNat) : (convert 45 9 (.slice (some ⟨w.heap.size, 0, none⟩) 1 1)).run Tryz.prog (w.alloc (.cells #[.int .u8 x] 5)) = .ok (.string ⟨#[c]⟩) (w.alloc (.cells #[.int .u8 x] 5)) := by
  have h := run_string_of_row (P := Tryz.prog) (w.alloc (.cells #[.int .u8 x] 5)) 45 9 5 w.heap.size 1 [c] Tryz.underlying45 Tryz.underlying5 Tryz.underlying9 (fun j hj => by
    obtain rfl : j = 0 := by simp at hj; omega
    rw [World.cell?_alloc_at _ _ _ _ rfl]
    simp [hx])
  exact h
theorem bytes_append (a b : List UInt8) : ((⟨a.toArray⟩ : ByteArray) ++ ⟨b.toArray⟩) = ⟨(a ++ b).toArray⟩ := by
  apply ByteArray.ext
  rw [ByteArray.data_append]
  simp
theorem upL_snoc (l : List UInt8) (k : Nat) (h : k < l.length) : upL (l.take (k + 1)) = upL (l.take k) ++ [upB l[k]] := by
  rw [List.take_succ_eq_append_getElem h, upL, List.map_append]
  rfl
/-- the word in capitals, if it is a keyword -/
def refKw (l : List UInt8) : List UInt8 := if kwList.contains (upL l) = true then upL l else []
set_option maxHeartbeats 1600000 in
set_option maxRecDepth 100000 in
theorem rkeyword_any (s : ByteArray) (hs : s.size ≤ 1000000) (w : World) : Calls Tryz.prog 20 #[.string s] w fun e w' => e = .returned (.string ⟨(refKw s.data.toList).toArray⟩) ∧ Below w.heap.size w w' := by
  go_enter Tryz.func20, Tryz.ntmps20
  go_wp2
  go_loopg [3, 4] s.size (fun m up i wr => ∃ k : Nat, k ≤ s.size ∧ m = s.size - k ∧ i = .int .i64 k ∧ (∃ U : ByteArray, up = .string U ∧ U.size = k ∧ Hid (U = ⟨(upL (s.data.toList.take k)).toArray⟩)) ∧ Hid (Below w.heap.size w wr))
  case atStart => exact ⟨0, by omega, rfl, rfl, ⟨⟨#[]⟩, rfl, rfl, Lib.hid rfl⟩, Lib.hid (Below.refl _ _)⟩
  case round =>
    obtain ⟨k, hk, hg, rfl, ⟨U, rfl, hU, HU⟩, HB⟩ := hrel
    have HG := Lib.hid hg
    clear hg
    by_cases hks : k < s.size
    · have hc256 : (s[k]'hks).toNat < 256 := (s[k]'hks).toNat_lt
      have hup := upL_snoc s.data.toList k (by rw [list_size]; exact hks)
      rw [show s.data.toList[k]'(by rw [list_size]; exact hks) = s[k]'hks from rfl] at hup
      have HUP := Lib.hid hup
      clear hup
      by_cases hlow : 97 ≤ (s[k]'hks).toNat ∧ (s[k]'hks).toNat ≤ 122
      · obtain ⟨l1, l2⟩ := hlow
        have hcv := conv1 wr ((s[k]'hks).toNat - 97 + 65) (upB (s[k]'hks)) (by rw [upB_low _ l1 l2]; omega)
        go_wp2
        go_roundg (s.size - (k + 1))
        case measure => rw [HG.out]; omega
        case rel => exact ⟨k + 1, by omega, rfl, by go_num, ⟨_, rfl, by rw [ByteArray.size_append, hU]; rfl, Lib.hid (by rw [HUP.out, ← bytes_append, HU.out])⟩, Lib.hid (Below.alloc HB.out HB.out.size _)⟩
      · have hcv := conv1 wr (s[k]'hks).toNat (upB (s[k]'hks)) (by rw [upB_other _ hlow])
        go_wp2
        all_goals
          go_roundg (s.size - (k + 1))
          case measure => rw [HG.out]; omega
          case rel => exact ⟨k + 1, by omega, rfl, by go_num, ⟨_, rfl, by rw [ByteArray.size_append, hU]; rfl, Lib.hid (by rw [HUP.out, ← bytes_append, HU.out])⟩, Lib.hid (Below.alloc HB.out HB.out.size _)⟩
    · obtain rfl : k = s.size := by omega
      have htk : s.data.toList.take s.size = s.data.toList := List.take_of_length_le (by rw [list_size]; exact Nat.le_refl _)
      rw [htk] at HU
      clear htk
      have HSZ := Lib.hid (show (upL s.data.toList).length = s.size from by rw [upL, List.length_map, list_size])
      have HRK := Lib.hid (show refKw s.data.toList = if kwList.contains (upL s.data.toList) = true then upL s.data.toList else [] from rfl)
      generalize upL s.data.toList = u at *
      have hU2 := HU.out
      subst hU2
      clear HU hU
      go_wp2_with fail
      refine (words_any _).mono ?_
      rintro e w1 ⟨rfl, rfl⟩
      have hbel : Below w.heap.size w (wr.alloc (.cells (kwList.map fun u => Value.string ⟨u.toArray⟩).toArray 9)) := Below.alloc HB.out HB.out.size _
      have hcell : ∀ j (h : j < kwList.length), (wr.alloc (.cells (kwList.map fun u => Value.string ⟨u.toArray⟩).toArray 9)).cell? ⟨wr.heap.size, j, none⟩ = some (.string ⟨(kwList[j]).toArray⟩) := fun j h => by
        rw [World.cell?_alloc_at _ _ _ _ rfl]
        simp [h]
      have HBEL := Lib.hid hbel
      have HCELL := Lib.hid hcell
      clear hbel hcell
      generalize hW : wr.alloc (.cells (kwList.map fun u => Value.string ⟨u.toArray⟩).toArray 9) = W at *
      generalize hN : wr.heap.size = N at *
      clear hW hN HB HG
      go_wp2
      go_loopg [7] 35 (fun m i wr => ∃ j : Nat, j ≤ 35 ∧ m = 35 - j ∧ i = .int .i64 j ∧ wr = W ∧ Hid ((kwList.take j).contains u = false))
      case atStart => exact ⟨0, by omega, rfl, rfl, rfl, Lib.hid rfl⟩
      case round =>
        obtain ⟨j, hj, hg, rfl, rfl, HJ⟩ := hrel
        by_cases hj35 : j < 35
        · have hl : j < kwList.length := hj35
          have hc := HCELL.out j hl
          have hjI : (j : Int) < 35 := by omega
          have htk := List.take_succ_eq_append_getElem hl
          have HTK := Lib.hid htk
          clear htk
          by_cases he : kwList[j] = u
          · rw [he] at hc
            have HRK2 := Lib.hid (show refKw s.data.toList = u from by rw [HRK.out, if_pos (by rw [List.contains_iff_mem]; exact he ▸ List.getElem_mem hl)])
            go_wp2
            go_ret
            refine ⟨?_, HBEL.out⟩
            rw [HRK2.out]
            rfl
          · have hne : (kwList[j] == u) = false := by
              rw [beq_eq_false_iff_ne]
              exact he
            have HJ2 := Lib.hid (show (kwList.take (j + 1)).contains u = false from by
              rw [HTK.out]
              have h1 := HJ.out
              simp only [List.contains_eq_mem, List.mem_append, decide_eq_false_iff_not, List.mem_singleton] at h1 ⊢
              rintro (h2 | h2)
              · exact h1 h2
              · exact he h2.symm)
            generalize kwList[j] = kw at *
            go_wp2
            go_roundg (35 - (j + 1))
            case measure => omega
            case rel => exact ⟨j + 1, by omega, rfl, by go_num, rfl, HJ2⟩
        · obtain rfl : j = 35 := by omega
          have HRK2 := Lib.hid (show refKw s.data.toList = [] from by
            have h1 := HJ.out
            rw [show kwList.take 35 = kwList from rfl] at h1
            rw [HRK.out, h1, if_neg (by simp)])
          go_wp2
          go_ret
          refine ⟨?_, HBEL.out⟩
          rw [HRK2.out]
          rfl
end Go.Proofs.YthhepfjjmilcnaaGreatDoor
