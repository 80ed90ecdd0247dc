/- strconv's decimal in memory; the walks of trim and prefixIsLessThan. -/
import Derived.Test.YthhepfjjmilcnaaDoorFltD
import Derived.Test.YthhepfjjmilcnaaDoorPdec2
namespace Go.Proofs.YthhepfjjmilcnaaDoor
open Go.RowKit Fl
def decF (D : Nat → Nat) (nd : Nat) (dp : Int) (tr : Bool) (j : Nat) : Value :=
  if j < 800 then .int .u8 (D j) else if j = 800 then .int .i64 nd else if j = 801 then .int .i64 dp else if j = 802 then .bool false else .bool tr
def Dec0 (w : World) (g : Nat) (D : Nat → Nat) (nd : Nat) (dp : Int) (tr : Bool) : Prop := RowF w g 804 (decF D nd dp tr)
section
variable {w : World} {g : Nat} {D : Nat → Nat} {nd : Nat} {dp : Int} {tr : Bool}
theorem Dec0.lt (h : Dec0 w g D nd dp tr) : g < w.heap.size := World.block_lt_of_cell? w _ (h.cell (j := 0) (by omega))
theorem Dec0.cD (h : Dec0 w g D nd dp tr) {j : Nat} (hj : j < 800) : w.cell? ⟨g, j, none⟩ = some (.int .u8 (D j)) := by rw [h.cell (by omega), decF, if_pos hj]
theorem Dec0.cN (h : Dec0 w g D nd dp tr) : w.cell? ⟨g, 800, none⟩ = some (.int .i64 nd) := by rw [h.cell (by omega)]; rfl
theorem Dec0.cP (h : Dec0 w g D nd dp tr) : w.cell? ⟨g, 801, none⟩ = some (.int .i64 dp) := by rw [h.cell (by omega)]; rfl
theorem Dec0.cG (h : Dec0 w g D nd dp tr) : w.cell? ⟨g, 802, none⟩ = some (.bool false) := by rw [h.cell (by omega)]; rfl
theorem Dec0.cT (h : Dec0 w g D nd dp tr) : w.cell? ⟨g, 803, none⟩ = some (.bool tr) := by rw [h.cell (by omega)]; rfl
theorem Dec0.free (h : Dec0 w g D nd dp tr) {j : Nat} (hj : j < 804) : w.frozen? ⟨g, j, none⟩ = false := (h j hj).2
theorem Dec0.setD (h : Dec0 w g D nd dp tr) {i : Nat} (hi : i < 800) (x : Nat) : Dec0 (w.setCell ⟨g, i, none⟩ (.int .u8 x)) g (fun j => if j = i then x else D j) nd dp tr :=
  (RowF.set h (by omega) _).ext fun j hj => by
    unfold decF
    by_cases e : j = i
    · subst e; simp [hi]
    · simp only [e, if_false]
theorem Dec0.setDv (h : Dec0 w g D nd dp tr) {i : Nat} (hi : i < 800) (x : Nat) (v : Int) (hv : v = x) : Dec0 (w.setCell ⟨g, i, none⟩ (.int .u8 v)) g (fun j => if j = i then x else D j) nd dp tr := by subst hv; exact h.setD hi x
theorem Dec0.setN (h : Dec0 w g D nd dp tr) (x : Nat) : Dec0 (w.setCell ⟨g, 800, none⟩ (.int .i64 x)) g D x dp tr :=
  (RowF.set h (by omega) _).ext fun j hj => by
    unfold decF
    by_cases e : j = 800
    · subst e; rfl
    · simp only [e, if_false]
theorem Dec0.setNv (h : Dec0 w g D nd dp tr) (x : Nat) (v : Int) (hv : v = x) : Dec0 (w.setCell ⟨g, 800, none⟩ (.int .i64 v)) g D x dp tr := by subst hv; exact h.setN x
theorem Dec0.setP (h : Dec0 w g D nd dp tr) (x : Int) : Dec0 (w.setCell ⟨g, 801, none⟩ (.int .i64 x)) g D nd x tr :=
  (RowF.set h (by omega) _).ext fun j hj => by
    unfold decF
    by_cases e : j = 801
    · subst e; rfl
    · simp only [e, if_false]
theorem Dec0.setT (h : Dec0 w g D nd dp tr) : Dec0 (w.setCell ⟨g, 803, none⟩ (.bool true)) g D nd dp true :=
  (RowF.set h (by omega) _).ext fun j hj => by
    unfold decF
    by_cases e : j = 803
    · subst e; rfl
    · have h1 : ¬ (j = 803) := e
      simp only [e, if_false]
      split
      · rfl
      · split
        · rfl
        · split
          · rfl
          · split
            · rfl
            · omega
theorem Dec0.drewN (h : Dec0 w g D nd dp tr) (n : Nat) : Dec0 (w.drewN n) g D nd dp tr := h
end
/-- The block g is the decimal d. -/
def DecIs (w : World) (g : Nat) (d : Dec) : Prop := ∃ D, Dec0 w g D d.ds.length d.dp d.tr ∧ (∀ j, j < d.ds.length → D j = 48 + d.ds.getD j 0) ∧ d.ds.length ≤ 800 ∧ Digs d.ds
/-- the digits that a row holds -/
def dsOf (D : Nat → Nat) (n : Nat) : List Nat := (List.range n).map fun j => D j - 48
theorem dsOf_len (D : Nat → Nat) (n : Nat) : (dsOf D n).length = n := by simp [dsOf]
theorem dsOf_succ (D : Nat → Nat) (n : Nat) : dsOf D (n + 1) = dsOf D n ++ [D n - 48] := by simp [dsOf, List.range_succ]
theorem dsOf_at (D : Nat → Nat) (n j : Nat) (h : j < n) : (dsOf D n).getD j 0 = D j - 48 := by simp [dsOf, List.getD, h]
theorem dsOf_eq (D : Nat → Nat) (ds : List Nat) (h : ∀ j, j < ds.length → D j = 48 + ds.getD j 0) : dsOf D ds.length = ds := by
  apply List.ext_getElem
  · simp [dsOf]
  · intro i h1 h2
    simp only [dsOf, List.getElem_map, List.getElem_range]
    rw [h i h2, List.getD_eq_getElem?_getD, List.getElem?_eq_getElem h2]
    simp
theorem trimL_zero (l : List Nat) : trimL (l ++ [0]) = trimL l := by simp [trimL]
theorem trimL_ne (l : List Nat) (d : Nat) (h : d ≠ 0) : trimL (l ++ [d]) = l ++ [d] := by
  have : (d == 0) = false := by simp [h]
  simp [trimL, List.dropWhile, this]
theorem trimL_nil : trimL [] = [] := rfl
structure Ctx (w0 w : World) : Prop where
  laid : FltLaid w0
  bel : Below w0.heap.size w0 w
theorem Ctx.set {w0 w : World} (h : Ctx w0 w) {a : Addr} (ha : w0.heap.size ≤ a.block) (v : Value) : Ctx w0 (w.setCell a v) := ⟨h.laid, h.bel.setCell ha v⟩
theorem Ctx.drewN {w0 w : World} (h : Ctx w0 w) (n : Nat) : Ctx w0 (w.drewN n) := ⟨h.laid, pw_drewN h.bel n⟩
theorem Ctx.cell {w0 w : World} (h : Ctx w0 w) {a : Addr} {v : Value} (hc : w0.cell? a = some v) : w.cell? a = some v := (h.bel.cell (World.block_lt_of_cell? w0 a hc)).trans hc
/-- where the point stands behind a trim -/
def tdp (T : List Nat) (dp : Int) : Int := if T = [] then 0 else dp
theorem tdp_nil (dp : Int) : tdp [] dp = 0 := if_pos rfl
theorem tdp_ne (T : List Nat) (dp : Int) (h : T ≠ []) : tdp T dp = dp := if_neg h
/-- what trim leaves -/
def Trimmed (w0 w' : World) (g : Nat) (D : Nat → Nat) (nd : Nat) (dp : Int) (tr : Bool) : Prop :=
  Dec0 w' g D (trimL (dsOf D nd)).length (tdp (trimL (dsOf D nd)) dp) tr ∧ (trimL (dsOf D nd)).length ≤ nd ∧ dsOf D (trimL (dsOf D nd)).length = trimL (dsOf D nd) ∧ Ctx w0 w'
set_option maxRecDepth 100000 in
set_option maxHeartbeats 1600000 in
theorem trim_any (w0 : World) (g : Nat) (hg : w0.heap.size ≤ g) (D : Nat → Nat) (nd : Nat) (hnd : nd ≤ 800) (dp : Int) (tr : Bool) (hD : Hid (∀ j, j < nd → 48 ≤ D j)) (w : World) (hI : Hid (Dec0 w g D nd dp tr)) (hc : Hid (Ctx w0 w)) :
    Calls Tryd.prog 89 #[.pointer (some ⟨g, 0, none⟩)] w fun e w' => e = .returned (.tuple #[]) ∧ Trimmed w0 w' g D nd dp tr := by
  go_enter Tryd.func89, Tryd.ntmps89
  go_wp2
  go_loopg [] nd (fun gk wr => gk ≤ nd ∧ Hid (Dec0 wr g D gk dp tr) ∧ Hid (Ctx w0 wr) ∧ Hid (trimL (dsOf D gk) = trimL (dsOf D nd)))
  case atStart => exact ⟨Nat.le_refl _, hI, hc, Lib.hid rfl⟩
  case round =>
    obtain ⟨hle, HI, HC, HT⟩ := hrel
    have cn := HI.out.cN
    by_cases hz : gk = 0
    · subst hz
      have hb0 : decide ((0 : Int) < ((0 : Nat) : Int)) = false := by decide
      have hb1 : decide ((0 : Int) < 0) = false := by decide
      go_wp2
      go_quiet (fail)
      have cn' := cn
      have fp := HI.out.free (j := 801) (by omega)
      have cp := HI.out.cP
      go_wp2
      go_end0
      have hT : trimL (dsOf D nd) = [] := by rw [← HT.out]; rfl
      unfold Trimmed
      rw [hT, tdp_nil]
      exact ⟨rfl, (HI.out.drewN _).setP 0, by simp, rfl, (HC.out.drewN _).set hg _⟩
    · obtain ⟨m, rfl⟩ : ∃ m, gk = m + 1 := ⟨gk - 1, by omega⟩
      have cd := HI.out.cD (j := m) (by omega)
      have hd48 := hD.out m (by omega)
      have fn := HI.out.free (j := 800) (by omega)
      have hb0 : decide ((0 : Int) < ((m + 1 : Nat) : Int)) = true := decide_eq_true (by omega)
      have hb1 : (0 : Int) < ((m : Int) + 1) := by omega
      have hb2 : decide ((0 : Int) < ((m : Int) + 1)) = true := decide_eq_true (by omega)
      have hb3 : ((m : Int) + 1 - 1) = m := by omega
      have hm8 : (m : Int) < 800 := by omega
      by_cases h48 : D m = 48
      · have hb : ((D m : Int) == 48) = true := by rw [h48]; rfl
        go_wp2
        go_quiet (fail)
        go_wp2
        go_roundg m
        case measure => omega
        case rel => exact ⟨by omega, Lib.hid ((HI.out.drewN _).setN m), Lib.hid ((HC.out.drewN _).set hg _), Lib.hid (by rw [← HT.out, dsOf_succ, h48]; exact (trimL_zero _).symm)⟩
      · have hb : ((D m : Int) == 48) = false := by rw [beq_eq_false_iff_ne]; omega
        go_wp2
        go_quiet (fail)
        go_wp2
        go_end0
        have hT : trimL (dsOf D nd) = dsOf D (m + 1) := by rw [← HT.out, dsOf_succ]; exact trimL_ne _ _ (by omega)
        have hne : ¬ (dsOf D (m + 1) = []) := by rw [dsOf_succ]; simp
        unfold Trimmed
        rw [hT, tdp_ne _ _ hne, dsOf_len]
        exact ⟨rfl, HI.out.drewN _, hle, rfl, HC.out.drewN _⟩

theorem drop_cons (l : List Nat) (k : Nat) (h : k < l.length) : l.drop k = l.getD k 0 :: l.drop (k + 1) := by
  rw [List.drop_eq_getElem_cons h, List.getD_eq_getElem?_getD, List.getElem?_eq_getElem h]; rfl
def DrawnB (b : Bool) (w : World) (e : Ending) (w' : World) : Prop := e = .returned (.bool b) ∧ ∃ n, w' = w.drewN n
set_option maxRecDepth 100000 in
set_option maxHeartbeats 1600000 in
theorem pless_any (g cap : Nat) (ds cut : List Nat) (s : ByteArray) (w : World) (hcell : Hid (∀ j, j < ds.length → w.cell? ⟨g, j, none⟩ = some (.int .u8 (48 + ds.getD j 0 : Nat)))) (hs : Hid (∀ (j : Nat) (h : j < s.size), (s[j]'h).toNat = 48 + cut.getD j 0))
    (hl : Hid (s.size = cut.length)) (h1 : ds.length ≤ 800) (h2 : s.size ≤ 1000) :
    Calls Tryd.prog 88 #[.slice (some ⟨g, 0, none⟩) ds.length cap, .string s] w (DrawnB (pless ds cut) w) := by
  go_enter Tryd.func88, Tryd.ntmps88
  go_wp2
  go_loopw [5] (fun i wr => ∃ k q : Nat, i = .int .i64 k ∧ k ≤ s.size ∧ k ≤ ds.length ∧ Hid (wr = w.drewN q) ∧ Hid (pless ds cut = pless (ds.drop k) (cut.drop k))) (fun i _ => s.size - (intOf i).toNat)
  case atStart => exact ⟨0, 0, rfl, by omega, by omega, Lib.hid rfl, Lib.hid rfl⟩
  case round =>
    obtain ⟨k, q, rfl, hk1, hk2, HW, HP⟩ := hrel
    by_cases hks : k < s.size
    · have hcut := drop_cons cut k (by rw [← hl.out]; exact hks)
      have HCUT := Lib.hid hcut
      clear hcut
      by_cases hkd : k < ds.length
      · have hds := drop_cons ds k hkd
        have HDS := Lib.hid hds
        clear hds
        have hc : wr.cell? ⟨g, k, none⟩ = some (.int .u8 ((48 + ds.getD k 0 : Nat) : Int)) := by rw [HW.out]; exact hcell.out k hkd
        have hsk := hs.out k hks
        generalize ds.getD k 0 = b at *
        generalize cut.getD k 0 = c at *
        have hkb : (k : Int) < (ds.length : Int) := by omega
        have hsc : ((s[k]'hks).toNat : Int) = 48 + c := by omega
        have HSC := Lib.hid hsc
        have HSK := Lib.hid hsk
        clear hsc hsk
        by_cases hbc : b = c
        · have hne : (((48 + b : Nat) : Int) != ((s[k]'hks).toNat : Int)) = false := by rw [bne_eq_false_iff_eq, HSC.out]; omega
          have hne2 : ((48 + (b : Int)) != ((s[k]'hks).toNat : Int)) = false := by rw [bne_eq_false_iff_eq, HSC.out]; omega
          go_wp2
          go_quiet (fail)
          go_wp2
          go_roundw
          case rel => exact ⟨k + 1, q + nq, by go_num, by omega, by omega, Lib.hid (by rw [HW.out, World.drewN_drewN]), Lib.hid (by rw [HP.out, HDS.out, HCUT.out, pless, if_pos hbc])⟩
          case measure => simp [intOf]; omega
        · have hne : (((48 + b : Nat) : Int) != ((s[k]'hks).toNat : Int)) = true := by rw [bne_iff_ne, HSC.out]; omega
          have hne2 : ((48 + (b : Int)) != ((s[k]'hks).toNat : Int)) = true := by rw [bne_iff_ne, HSC.out]; omega
          go_wp2
          go_quiet (fail)
          go_wp2
          go_quiet (fail)
          go_wp2
          go_ret
          have hdr : ∀ m n, ∃ x, (wr.drewN m).drewN n = w.drewN x := fun m n => ⟨q + (m + n), by rw [HW.out, World.drewN_drewN, World.drewN_drewN]⟩
          refine ⟨?_, hdr _ _⟩
          rw [HP.out, HDS.out, HCUT.out, pless, if_neg hbc]
          refine congrArg (fun x => Ending.returned (Value.bool x)) ?_
          rw [decide_eq_decide, HSC.out]
          omega
      · have hke : k = ds.length := by omega
        go_wp2
        go_ret
        refine ⟨?_, q, HW.out⟩
        rw [HP.out, HCUT.out, hke, List.drop_length]
        rfl
    · have hke : k = s.size := by omega
      go_wp2
      go_ret
      refine ⟨?_, q, HW.out⟩
      rw [HP.out, hke, hl.out, List.drop_length]
      simp [pless]
end Go.Proofs.YthhepfjjmilcnaaDoor
