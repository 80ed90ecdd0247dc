/- The walk of the statements' own lives: two words. -/
import Derived.Test.YthhepfjjmilcnaaDoorLexF
namespace Go.Proofs.YthhepfjjmilcnaaDoor
open Go.RowKit Lx Fl
theorem lives_plain : lexP [97, 60, 61, 49] 9 = ([(1, [97], 0), (6, [60, 61], 1), (3, [49], 3), (0, [], 4)], 0, 0) := by decide +kernel
/-- the words where they lie -/
theorem owns_slice {w : World} {B : Nat} {v : Value} {ts : List Tok} (h : w.ownsRow B 29 3 v ts.length (tokCells ts)) (hn : ts ≠ []) :
    ∃ g cap, v = .slice (some ⟨g, 0, none⟩) ts.length cap ∧ B ≤ g ∧ ∀ (i : Nat) (hi : i < ts.length), w.cell? ⟨g, i * 3, none⟩ = some (.int .i64 ts[i].1) ∧ w.cell? ⟨g, i * 3 + 1, none⟩ = some (.string ⟨ts[i].2.1.toArray⟩) ∧ w.cell? ⟨g, i * 3 + 2, none⟩ = some (.int .i64 ts[i].2.2) := by
  rcases h.2 with ⟨_, h0⟩ | ⟨g, cap, cur, hv, hg, _⟩
  · exact absurd (List.eq_nil_of_length_eq_zero h0) hn
  · refine ⟨g, cap, hv, hg, fun i hi => ?_⟩
    have hc := h.cells (g := g) (by rw [hv]; rfl)
    have ea : ∀ j, ((⟨g, 0, none⟩ : Addr).add j) = ⟨g, j, none⟩ := fun j => by unfold Addr.add; split <;> simp_all
    obtain ⟨c1, c2, c3⟩ := tokCells_get ts i hi
    exact ⟨by rw [← ea]; exact hc _ _ c1, by rw [← ea]; exact hc _ _ c2, by rw [← ea]; exact hc _ _ c3⟩
set_option maxHeartbeats 1600000 in
set_option maxRecDepth 100000 in
theorem lives_any (w : World) (hL : Hid (FltLaid w)) (hE : Hid (ErrAt w)) (hm : Hid (∃ m, w.cell? ⟨0, 0, none⟩ = some (.int .i64 m))) :
    Calls Tryd.prog 6 #[] w fun e w' => e = .returned (.bool true) ∧ Below w.heap.size w w' := by
  go_enter Tryd.func6, Tryd.ntmps6
  go_wp2_with fail
  refine (lex_any _ (by decide) _ _ hL hE hm).mono ?_
  rintro e w1 ⟨v, rfl, hb, hown⟩
  rw [show lexP (⟨#[97, 60, 61, 49]⟩ : ByteArray).data.toList 9 = ([(1, [97], 0), (6, [60, 61], 1), (3, [49], 3), (0, [], 4)], 0, 0) from lives_plain] at hown ⊢
  obtain ⟨g, cap, rfl, hg, hc⟩ := owns_slice hown (by simp)
  have hc10 := (hc 1 (by decide)).1
  have hc11 := (hc 1 (by decide)).2.1
  have hc12 := (hc 1 (by decide)).2.2
  have hc30 := (hc 3 (by decide)).1
  have hc31 := (hc 3 (by decide)).2.1
  have hc32 := (hc 3 (by decide)).2.2
  have HB := Lib.hid hb
  clear hb hown hc
  simp at hc10 hc11 hc12 hc30 hc31 hc32
  go_wp2_with fail
  go_ret
  exact ⟨rfl, HB.out⟩
end Go.Proofs.YthhepfjjmilcnaaDoor
