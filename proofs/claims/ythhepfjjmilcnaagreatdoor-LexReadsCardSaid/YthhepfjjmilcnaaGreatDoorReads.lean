/- The walk of the statement LexReads: the words of any text are the document's. -/
import Derived.Test.YthhepfjjmilcnaaGreatDoorLives
import Derived.Test.YthhepfjjmilcnaaGreatDoorRefF
namespace Go.Proofs.YthhepfjjmilcnaaGreatDoor
open Go.RowKit Lx Fl
/-- the words where they lie, if there are any -/
theorem owns_form {w : World} {B : Nat} {v : Value} {ts : List Tok} (h : w.ownsRow B 30 3 v ts.length (tokCells ts)) :
    ∃ ao g cap, v = .slice ao ts.length cap ∧ ts.length ≤ 9223372036854775807 ∧ (∀ (i : Nat) (hi : i < ts.length), ao = some ⟨g, 0, none⟩ ∧ g < w.heap.size ∧ w.cell? ⟨g, i * 3, none⟩ = some (.int .i64 ts[i].1) ∧ w.cell? ⟨g, i * 3 + 1, none⟩ = some (.string ⟨ts[i].2.1.toArray⟩) ∧ w.cell? ⟨g, i * 3 + 2, none⟩ = some (.int .i64 ts[i].2.2)) := by
  rcases h.2 with ⟨hv, h0⟩ | ⟨g, cap, cur, hv, hg, _, hl, hm, _⟩
  · exact ⟨none, 0, 0, by rw [hv, h0], by omega, fun i hi => by omega⟩
  · refine ⟨_, g, cap, hv, by unfold maxLen at hm; omega, fun i hi => ⟨rfl, (h.lt g (by rw [hv]; rfl)).2, ?_⟩⟩
    obtain ⟨g2, cap2, hv2, _, hc⟩ := owns_slice h (fun e => by rw [e] at hi; simp at hi)
    rw [hv] at hv2
    injection hv2 with e1 _ _
    injection e1 with e1
    injection e1 with e1 _ _
    subst e1
    exact hc i hi
set_option maxHeartbeats 1600000 in
set_option maxRecDepth 100000 in
theorem reads_long (s : ByteArray) (most : Int) (h : 1500 < s.size) (hs : s.size ≤ 9223372036854775807) (w : World) (hL : Hid (FltLaid w)) (hE : Hid (ErrAt w)) (hm : Hid (∃ m, w.cell? ⟨0, 0, none⟩ = some (.int .i64 m))) :
    Calls Tryz.prog 3 #[.string s, .int .i64 most] w fun e w' => e = .returned (.bool true) ∧ Below w.heap.size w w' := by
  have hI : (1500 : Int) < s.size := by omega
  go_enter Tryz.func3, Tryz.ntmps3
  go_wp2_with fail
  refine (lives_any _ hL hE hm).mono ?_
  rintro e w1 ⟨rfl, hb⟩
  have HB := Lib.hid hb
  clear hb
  go_wp2_with fail
  refine (lives_any _ (Lib.hid (hL.out.below HB.out)) (Lib.hid (hE.out.below HB.out)) (Lib.hid (hm.out.imp fun m h => below_cellS HB.out h))).mono ?_
  rintro e w2 ⟨rfl, hb⟩
  have HB2 := Lib.hid (below_then' HB.out HB.out.size hb)
  clear hb
  go_wp2_with fail
  go_ret
  exact ⟨rfl, HB2.out⟩
theorem word_laid (w : World) (k : Int) (u : List UInt8) (a : Nat) : ∃ W, w.alloc (.cells #[.int .i64 k, .string ⟨u.toArray⟩, .int .i64 a] 30) = W ∧ W.cell? ⟨w.heap.size, 0, none⟩ = some (.int .i64 k) ∧ W.cell? ⟨w.heap.size, 1, none⟩ = some (.string ⟨u.toArray⟩) ∧ W.cell? ⟨w.heap.size, 2, none⟩ = some (.int .i64 a) ∧ Hid (Below w.heap.size w W) :=
  ⟨_, rfl, by rw [World.cell?_alloc_at _ _ _ _ rfl]; rfl, by rw [World.cell?_alloc_at _ _ _ _ rfl]; rfl, by rw [World.cell?_alloc_at _ _ _ _ rfl]; rfl, Lib.hid (Below.alloc (Below.refl _ _) (Nat.le_refl _) _)⟩
set_option maxHeartbeats 1600000 in
set_option maxRecDepth 100000 in
theorem reads_short (s : ByteArray) (most : Int) (h : s.size ≤ 1500) (w : World) (hL : Hid (FltLaid w)) (hE : Hid (ErrAt w)) (hm : Hid (∃ m, w.cell? ⟨0, 0, none⟩ = some (.int .i64 m))) :
    Calls Tryz.prog 3 #[.string s, .int .i64 most] w fun e w' => e = .returned (.bool true) ∧ Below w.heap.size w w' := by
  have hI : ¬ (1500 : Int) < s.size := by omega
  go_enter Tryz.func3, Tryz.ntmps3
  go_wp2_with fail
  refine (lives_any _ hL hE hm).mono ?_
  rintro e w1 ⟨rfl, hb⟩
  have HB := Lib.hid hb
  clear hb
  go_wp2_with fail
  refine (lex_any s (by omega) most _ (Lib.hid (hL.out.below HB.out)) (Lib.hid (hE.out.below HB.out)) (Lib.hid (hm.out.imp fun m h => below_cellS HB.out h))).mono ?_
  rintro e w2 ⟨v, rfl, hb, hown⟩
  have HB2 := Lib.hid (below_then' HB.out HB.out.size hb)
  have HOWN := Lib.hid hown
  clear hb hown
  go_wp2_with fail
  refine (rlex_any s (by omega) most _ (Lib.hid (hL.out.below HB2.out)) (Lib.hid (hE.out.below HB2.out))).mono ?_
  rintro e w3 ⟨v2, rfl, hb, hown⟩
  have HB3 := Lib.hid (below_then' HB2.out HB2.out.size hb)
  have HOWN1 := Lib.hid (owns_below HOWN.out hb)
  have HOWN2 := Lib.hid hown
  clear hb hown
  obtain ⟨r, hr⟩ : ∃ r, lexP s.data.toList most = r := ⟨_, rfl⟩
  rw [hr] at HOWN1 HOWN2 ⊢
  clear hr
  generalize r.2.1 = r1 at *
  generalize r.2.2 = r2 at *
  obtain ⟨ts, hts⟩ : ∃ ts, r.1 = ts := ⟨_, rfl⟩
  rw [hts] at HOWN1 HOWN2
  clear hts
  obtain ⟨ao, g, cap, rfl, hln, hc⟩ := owns_form HOWN1.out
  obtain ⟨ao2, g2, cap2, rfl, _, hc2⟩ := owns_form HOWN2.out
  have HC := Lib.hid hc
  have HC2 := Lib.hid hc2
  clear hc hc2 HOWN HOWN1 HOWN2
  go_wp2_with fail
  obtain ⟨wo, hwo⟩ : ∃ wo : World, wo = w3 := ⟨_, rfl⟩
  subst hwo
  go_loopg [52] ts.length (fun m i wr => ∃ j : Nat, j ≤ ts.length ∧ m = ts.length - j ∧ i = .int .i64 j ∧ Hid (Below wo.heap.size wo wr))
  case atStart => exact ⟨0, Nat.zero_le _, rfl, rfl, Lib.hid (Below.refl _ _)⟩
  case round =>
    obtain ⟨j, hj, hg, rfl, HBW⟩ := hrel
    have HG := Lib.hid hg
    clear hg
    by_cases hjs : j < ts.length
    · have hjI : (j : Int) < ts.length := by omega
      obtain ⟨rfl, hgl, a0, a1, a2⟩ := HC.out j hjs
      obtain ⟨rfl, hgl2, b0, b1, b2⟩ := HC2.out j hjs
      have c0 := below_cellS HBW.out a0
      have c1 := below_cellS HBW.out a1
      have c2 := below_cellS HBW.out a2
      have d0 := below_cellS HBW.out b0
      have d1 := below_cellS HBW.out b1
      have d2 := below_cellS HBW.out b2
      clear a0 a1 a2 b0 b1 b2
      generalize ts[j].1 = tk at *
      generalize ts[j].2.1 = tu at *
      generalize ts[j].2.2 = ta at *
      go_wp2_with fail
      obtain ⟨W, hW, t0, t1, t2, HBA⟩ := word_laid wr tk tu ta
      rw [hW]
      clear hW
      have e0 := below_cellS HBA.out d0
      have e1 := below_cellS HBA.out d1
      have e2 := below_cellS HBA.out d2
      clear c0 c1 c2 d0 d1 d2
      have HBW2 := Lib.hid (HBW.out.trans (HBA.out.mono HBW.out.size))
      clear HBA
      generalize wr.heap.size = N at *
      go_quiet (fail)
      go_wp2_with fail
      go_roundg (ts.length - (j + 1))
      case measure => rw [HG.out]; omega
      case rel => exact ⟨j + 1, by omega, rfl, by go_num, Lib.hid (pw_drewN HBW2.out _)⟩
    · have hjI : ¬ ((j : Int) < ts.length) := by omega
      go_wp2_with fail
      go_ret
      exact ⟨rfl, below_then' HB3.out HB3.out.size HBW.out⟩
theorem reads_any (s : ByteArray) (most : Int) (hs : s.size ≤ 9223372036854775807) (w : World) (hL : Hid (FltLaid w)) (hE : Hid (ErrAt w)) (hm : Hid (∃ m, w.cell? ⟨0, 0, none⟩ = some (.int .i64 m))) :
    Calls Tryz.prog 3 #[.string s, .int .i64 most] w fun e w' => e = .returned (.bool true) ∧ Below w.heap.size w w' := by
  rcases Nat.lt_or_ge 1500 s.size with h | h
  · exact reads_long s most h hs w hL hE hm
  · exact reads_short s most h w hL hE hm
end Go.Proofs.YthhepfjjmilcnaaGreatDoor
