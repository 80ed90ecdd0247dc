/- The walk of the statements' own write: a word as it may be written. -/
import Derived.Test.YthhepfjjmilcnaaDoorLexF
import Derived.Test.YthhepfjjmilcnaaDoorPlaws
import Derived.IntWalk
namespace Go.Proofs.YthhepfjjmilcnaaDoor
open Go.RowKit Lx Fl
theorem ext_one' (s : ByteArray) (i : Nat) (h : i < s.size) : s.extract i (i + 1) = ⟨#[s[i]'h]⟩ := by
  apply ByteArray.ext
  rw [ByteArray.data_extract]
  apply Array.ext'
  rw [Array.toList_extract]
  simp only [List.extract]
  rw [show i + 1 - i = 1 by omega, List.drop_eq_getElem_cons (by rw [list_size]; exact h)]
  rfl
theorem dblL_app (a b : List UInt8) : dblL (a ++ b) = dblL a ++ dblL b := by
  unfold dblL; rw [List.flatMap_append]
theorem text_laid (w : World) (u : ByteArray) (a : Nat) : ∃ W, w.alloc (.cells #[.int .i64 5, .string u, .int .i64 a] 29) = W ∧ W.cell? ⟨w.heap.size, 0, none⟩ = some (.int .i64 5) ∧ W.cell? ⟨w.heap.size, 1, none⟩ = some (.string u) ∧ W.cell? ⟨w.heap.size, 2, none⟩ = some (.int .i64 a) ∧ Hid (Below w.heap.size w W) :=
  ⟨_, rfl, by rw [World.cell?_alloc_at _ _ _ _ rfl]; rfl, by rw [World.cell?_alloc_at _ _ _ _ rfl]; rfl, by rw [World.cell?_alloc_at _ _ _ _ rfl]; rfl, Lib.hid (Below.alloc (Below.refl _ _) (Nat.le_refl _) _)⟩
set_option maxHeartbeats 1600000 in
set_option maxRecDepth 100000 in
theorem write_other (k : Int) (u : ByteArray) (a : Int) (hk : k ≠ 5) (w : World) : Calls Tryd.prog 8 #[tokV k u a] w fun e w' => e = .returned (.string u) ∧ Below w.heap.size w w' := by
  have hkb : (k != 5) = true := by rw [bne_iff_ne]; exact hk
  unfold tokV
  go_enter Tryd.func8, Tryd.ntmps8
  go_wp2_with fail
  go_ret
  exact ⟨rfl, Below.alloc (Below.refl _ _) (Nat.le_refl _) _⟩
set_option maxHeartbeats 1600000 in
set_option maxRecDepth 100000 in
theorem write_text (u : ByteArray) (hu : u.size ≤ 1000000) (a : Nat) (w : World) : Calls Tryd.prog 8 #[tokV 5 u a] w fun e w' => e = .returned (.string ⟨(writeL 5 u.data.toList).toArray⟩) ∧ Below w.heap.size w w' := by
  unfold tokV
  go_enter Tryd.func8, Tryd.ntmps8
  go_wp2_with fail
  obtain ⟨W, hW, t0, t1, t2, HBA⟩ := text_laid w u a
  rw [hW]
  clear hW
  generalize hN : w.heap.size = N at *
  have HN := Lib.hid hN
  clear hN
  go_loopg [3, 4] u.size (fun m s i wr => ∃ (j : Nat) (U : ByteArray), j ≤ u.size ∧ m = u.size - j ∧ s = .string U ∧ i = .int .i64 j ∧ W = wr ∧ U.size ≤ 2 * j + 1 ∧ Hid (U = ⟨(39 :: dblL (u.data.toList.take j)).toArray⟩))
  case atStart => exact ⟨0, ⟨#[39]⟩, Nat.zero_le _, rfl, rfl, rfl, rfl, by decide, Lib.hid rfl⟩
  case round =>
    obtain ⟨j, U, hj, hg, rfl, rfl, rfl, hU, HU⟩ := hrel
    have HG := Lib.hid hg
    clear hg
    by_cases hjs : j < u.size
    · have hjI : (j : Int) < u.size := by omega
      have HXE := Lib.hid (ext_one' u j hjs)
      have htk := List.take_succ_eq_append_getElem (l := u.data.toList) (i := j) (by rw [list_size]; exact hjs)
      rw [show u.data.toList[j]'(by rw [list_size]; exact hjs) = u[j]'hjs from rfl] at htk
      by_cases hq : (u[j]'hjs).toNat = 39
      · have hqb : (((u[j]'hjs).toNat : Int) == 39) = true := by rw [hq]; rfl
        have HS := Lib.hid (show dblL (u.data.toList.take (j + 1)) = dblL (u.data.toList.take j) ++ [u[j]'hjs, 39] from by
          rw [htk, dblL_app, show dblL [u[j]'hjs] = [u[j]'hjs, 39] from by rw [dblL_cons, if_pos hq, show u[j]'hjs = 39 from UInt8.toNat_inj.1 hq]; rfl])
        clear hq htk
        go_wp2_with fail
        go_roundg (u.size - (j + 1))
        case measure => rw [HG.out]; omega
        case rel => exact ⟨j + 1, U ++ u.extract j (j + 1) ++ ⟨#[39]⟩, by omega, rfl, by first | rfl | go_num, by go_num, rfl, by rw [ByteArray.size_append, ByteArray.size_append, HXE.out]; show U.size + 1 + 1 ≤ _; omega, Lib.hid (by rw [HS.out, HU.out, HXE.out]; apply ByteArray.ext; rw [ByteArray.data_append, ByteArray.data_append]; simp)⟩
      · have hqb : (((u[j]'hjs).toNat : Int) == 39) = false := by rw [beq_eq_false_iff_ne]; omega
        have HS := Lib.hid (show dblL (u.data.toList.take (j + 1)) = dblL (u.data.toList.take j) ++ [u[j]'hjs] from by
          rw [htk, dblL_app, show dblL [u[j]'hjs] = [u[j]'hjs] from by rw [dblL_cons, if_neg hq]; rfl])
        clear hq htk
        go_wp2_with fail
        go_roundg (u.size - (j + 1))
        case measure => rw [HG.out]; omega
        case rel => exact ⟨j + 1, U ++ u.extract j (j + 1), by omega, rfl, by first | rfl | go_num, by go_num, rfl, by rw [ByteArray.size_append, HXE.out]; show U.size + 1 ≤ _; omega, Lib.hid (by rw [HS.out, HU.out, HXE.out]; apply ByteArray.ext; rw [ByteArray.data_append]; simp)⟩
    · have hjI : ¬ ((j : Int) < u.size) := by omega
      have HF := Lib.hid (show U ++ ⟨#[39]⟩ = ⟨(writeL 5 u.data.toList).toArray⟩ from by
        rw [HU.out, List.take_of_length_le (by rw [list_size]; omega), writeL, if_neg (by decide)]
        apply ByteArray.ext
        rw [ByteArray.data_append]
        simp)
      go_wp2_with fail
      go_ret
      exact ⟨by rw [← HF.out]; rfl, by rw [HN.out]; exact HBA.out⟩
theorem write_any (k : Int) (u : List UInt8) (hu : u.length ≤ 1000000) (a : Nat) (w : World) : Calls Tryd.prog 8 #[tokV k ⟨u.toArray⟩ a] w fun e w' => e = .returned (.string ⟨(writeL k u).toArray⟩) ∧ Below w.heap.size w w' := by
  by_cases hk : k = 5
  · subst hk
    exact write_text ⟨u.toArray⟩ (show u.toArray.size ≤ 1000000 by simpa using hu) a w
  · have h := write_other k ⟨u.toArray⟩ a hk w
    have e : writeL k u = u := by rw [writeL, if_pos hk]
    rw [e]
    exact h
end Go.Proofs.YthhepfjjmilcnaaDoor
