/- What Lex's row of words gives the walks of the statements. -/
import Derived.Test.YthhepfjjmilcnaaDoorLives
namespace Go.Proofs.YthhepfjjmilcnaaDoor
open Go.RowKit Lx Fl
/-- the words where they lie, if there are any -/
theorem owns_form {w : World} {B : Nat} {v : Value} {ts : List Tok} (h : w.ownsRow B 29 3 v ts.length (tokCells ts)) :
    ∃ ao g cap, v = .slice ao ts.length cap ∧ ts.length ≤ 9223372036854775807 ∧ (∀ (i : Nat) (hi : i < ts.length), ao = some ⟨g, 0, none⟩ ∧ g < w.heap.size ∧ w.cell? ⟨g, i * 3, none⟩ = some (.int .i64 ts[i].1) ∧ w.cell? ⟨g, i * 3 + 1, none⟩ = some (.string ⟨ts[i].2.1.toArray⟩) ∧ w.cell? ⟨g, i * 3 + 2, none⟩ = some (.int .i64 ts[i].2.2)) := by
  rcases h.2 with ⟨hv, h0⟩ | ⟨g, cap, cur, hv, hg, _, hl, hm, _⟩
  · exact ⟨none, 0, 0, by rw [hv, h0], by omega, fun i hi => by omega⟩
  · refine ⟨_, g, cap, hv, by unfold maxLen at hm; omega, fun i hi => ⟨rfl, (h.lt g (by rw [hv]; rfl)).2, ?_⟩⟩
    obtain ⟨g2, cap2, hv2, _, hc⟩ := owns_slice h (fun e => by rw [e] at hi; simp at hi)
    rw [hv] at hv2
    injection hv2 with e1 _ _
    injection e1 with e1
    injection e1 with e1 _ _
    subst e1
    exact hc i hi
theorem word_laid (w : World) (k : Int) (u : List UInt8) (a : Nat) : ∃ W, w.alloc (.cells #[.int .i64 k, .string ⟨u.toArray⟩, .int .i64 a] 29) = W ∧ W.cell? ⟨w.heap.size, 0, none⟩ = some (.int .i64 k) ∧ W.cell? ⟨w.heap.size, 1, none⟩ = some (.string ⟨u.toArray⟩) ∧ W.cell? ⟨w.heap.size, 2, none⟩ = some (.int .i64 a) ∧ Hid (Below w.heap.size w W) :=
  ⟨_, rfl, by rw [World.cell?_alloc_at _ _ _ _ rfl]; rfl, by rw [World.cell?_alloc_at _ _ _ _ rfl]; rfl, by rw [World.cell?_alloc_at _ _ _ _ rfl]; rfl, Lib.hid (Below.alloc (Below.refl _ _) (Nat.le_refl _) _)⟩
/-- a word as it stands in its row -/
theorem row_at {w wx : World} {ao : Option Addr} {g j : Nat} {ts : List Tok} (h : ∀ (i : Nat) (hi : i < ts.length), ao = some ⟨g, 0, none⟩ ∧ g < w.heap.size ∧ w.cell? ⟨g, i * 3, none⟩ = some (.int .i64 ts[i].1) ∧ w.cell? ⟨g, i * 3 + 1, none⟩ = some (.string ⟨ts[i].2.1.toArray⟩) ∧ w.cell? ⟨g, i * 3 + 2, none⟩ = some (.int .i64 ts[i].2.2))
    (hb : Below w.heap.size w wx) (hj : j < ts.length) : ao = some ⟨g, 0, none⟩ ∧ g < w.heap.size ∧ wx.cell? ⟨g, j * 3, none⟩ = some (.int .i64 ts[j].1) ∧ wx.cell? ⟨g, j * 3 + 1, none⟩ = some (.string ⟨ts[j].2.1.toArray⟩) ∧ wx.cell? ⟨g, j * 3 + 2, none⟩ = some (.int .i64 ts[j].2.2) := by
  obtain ⟨h1, h2, h3, h4, h5⟩ := h j hj
  exact ⟨h1, h2, below_cellS hb h3, below_cellS hb h4, below_cellS hb h5⟩
end Go.Proofs.YthhepfjjmilcnaaDoor
