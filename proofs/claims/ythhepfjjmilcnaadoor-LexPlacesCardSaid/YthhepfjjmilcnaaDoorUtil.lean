/- Small lemmas on worlds, rows of cells, and what a conversion gives; of no function of the program. -/
import Derived.Test.YthhepfjjmilcnaaDoorRows
import Derived.WalkKit
import Derived.WalkSpells
import Derived.WalkLawsBesides
import Derived.Handy
import Derived.Lib.Hide
import Derived.Outline
import Derived.Lib.OthersKept
import Derived.Lib.ConvBytes
import Derived.Laws.BytesString
import Derived.Laws.Cells
import Derived.BigCall
namespace Go.Proofs.YthhepfjjmilcnaaDoor
open Go.RowKit
/-- A row of cells of one block, none of them frozen. -/
def RowF (w : World) (b n : Nat) (f : Nat → Value) : Prop := ∀ j, j < n → w.cell? ⟨b, j, none⟩ = some (f j) ∧ w.frozen? ⟨b, j, none⟩ = false
theorem RowF.cell {w : World} {b n : Nat} {f : Nat → Value} (h : RowF w b n f) {j : Nat} (hj : j < n) : w.cell? ⟨b, j, none⟩ = some (f j) := (h j hj).1
theorem RowF.free {w : World} {b n : Nat} {f : Nat → Value} (h : RowF w b n f) {j : Nat} (hj : j < n) : w.frozen? ⟨b, j, none⟩ = false := (h j hj).2
theorem RowF.ext {w : World} {b n : Nat} {f g : Nat → Value} (h : RowF w b n f) (e : ∀ j, j < n → f j = g j) : RowF w b n g := fun j hj => e j hj ▸ h j hj
theorem RowF.below {w w' : World} {b n : Nat} {f : Nat → Value} (h : RowF w b n f) (hb : Below w.heap.size w w') (hlt : b < w.heap.size) : RowF w' b n f := fun j hj =>
  ⟨(hb.cell (p := ⟨b, j, none⟩) hlt).trans (h.cell hj), (hb.frozen (p := ⟨b, j, none⟩) hlt).trans (h.free hj)⟩
theorem frozen_setCell_any (w : World) (a q : Addr) (v : Value) : (w.setCell a v).frozen? q = w.frozen? q := by
  unfold World.frozen? World.setCell
  simp only [Array.getElem?_modify]
  by_cases h : a.block = q.block
  · rw [if_pos h]
    cases w.heap[q.block]? with
    | none => rfl
    | some o => cases o <;> rfl
  · rw [if_neg h]
theorem RowF.set {w : World} {b n : Nat} {f : Nat → Value} (h : RowF w b n f) {i : Nat} (hi : i < n) (v : Value) : RowF (w.setCell ⟨b, i, none⟩ v) b n (fun j => if j = i then v else f j) := fun j hj => by
  refine ⟨?_, by rw [frozen_setCell_any]; exact h.free hj⟩
  have h1 := h.cell hj
  have h2 := h.cell hi
  by_cases e : j = i
  · subst e
    simp [World.cell?, World.setCell, Array.getElem?_modify] at h1 ⊢
    cases hb : w.heap[b]? with
    | none => simp [hb] at h1
    | some o =>
      cases o <;> simp [hb] at h1 ⊢
      have := (Array.getElem?_eq_some_iff.1 h1).1
      rw [Array.getElem?_setIfInBounds_self_of_lt this]
  · simp only [e, if_false]
    rw [← h1]
    simp [World.cell?, World.setCell, Array.getElem?_modify]
    cases hb : w.heap[b]? with
    | none => simp
    | some o => cases o <;> simp [Array.getElem?_setIfInBounds, Ne.symm e]
theorem size_setCell (w : World) (a : Addr) (v : Value) : (w.setCell a v).heap.size = w.heap.size := by simp [World.setCell]
theorem foldl_bytes (l : List UInt8) : ∀ s : ByteArray, (l.map (fun c => (c.toNat : Int))).foldl (fun r n => r.push (UInt8.ofNat n.toNat)) s = ⟨(s.data.toList ++ l).toArray⟩ := by
  induction l with
  | nil => intro s; simp
  | cons c l ih =>
    intro s
    simp only [List.map_cons, List.foldl_cons]
    rw [ih]
    simp [ByteArray.push]
/-- string(b) of a row of bytes. -/
theorem run_string_of_row {P : Program} (w : World) (src dst e : TypeId) (b c : Nat) (l : List UInt8) (hs : P.underlying src = some (.slice e)) (he : P.underlying e = some (.int .u8)) (hd : P.underlying dst = some .string)
    (h : ∀ j, j < l.length → w.cell? ⟨b, j, none⟩ = some (.int .u8 (l.getD j 0).toNat)) :
    (convert src dst (.slice (some ⟨b, 0, none⟩) l.length c)).run P w = .ok (.string ⟨l.toArray⟩) w := by
  rw [run_convert_bytes_string w src dst e _ _ c hs he hd]
  have hl : (loadCells ⟨b, 0, none⟩ l.length).run P w = .ok ((l.map (fun c => (c.toNat : Int))).map (Value.int .u8)).toArray w := by
    have := run_loadCells_list (P := P) w ⟨b, 0, none⟩ ((l.map (fun c => (c.toNat : Int))).map (Value.int .u8)) (fun j v hv => by
      have hj : j < l.length := by have := (List.getElem?_eq_some_iff.1 hv).1; simpa using this
      have e1 : (⟨b, 0, none⟩ : Addr).add j = ⟨b, j, none⟩ := by unfold Addr.add; split <;> simp_all
      rw [e1, h j hj]
      simp [List.getElem?_map, List.getElem?_eq_getElem hj] at hv
      rw [← hv]
      simp [List.getD, List.getElem?_eq_getElem hj])
    simpa using this
  rw [run_bytesToString w _ _ c _ hl, foldl_bytes]
  simp
theorem below_then' {B : Nat} {w w1 w2 : World} (h : Below B w w1) (hB : B ≤ w1.heap.size) (k : Below w1.heap.size w1 w2) : Below B w w2 := h.trans (k.mono hB)
theorem below_cellS {w w1 : World} (h : Below w.heap.size w w1) {a : Addr} {v : Value} (hc : w.cell? a = some v) : w1.cell? a = some v := (h.cell (World.block_lt_of_cell? w a hc)).trans hc
theorem pw_drewN {B : Nat} {a w : World} (h : Below B a w) (n : Nat) : Below B a (w.drewN n) := ⟨h.os, h.tape, h.output, h.size, h.block⟩
theorem list_size (s : ByteArray) : s.data.toList.length = s.size := by simp
end Go.Proofs.YthhepfjjmilcnaaDoor
