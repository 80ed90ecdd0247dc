/- The walk of decimal.set at digits with a point between. -/
import Derived.Test.YthhepfjjmilcnaaDoorDecE
import Derived.Test.YthhepfjjmilcnaaDoorPset
import Derived.Deep.RegionHeld3
namespace Go.Proofs.YthhepfjjmilcnaaDoor
open Go.RowKit Fl
theorem Dec0.setG {w : World} {g : Nat} {D : Nat → Nat} {nd : Nat} {dp : Int} {tr : Bool} (h : Dec0 w g D nd dp tr) : Dec0 (w.setCell ⟨g, 802, none⟩ (.bool false)) g D nd dp tr :=
  (RowF.set h (by omega) _).ext fun j hj => by
    unfold decF
    by_cases e : j = 802
    · subst e; rfl
    · simp only [e, if_false]
theorem Dec0.setTv {w : World} {g : Nat} {D : Nat → Nat} {nd : Nat} {dp : Int} {tr : Bool} (h : Dec0 w g D nd dp tr) (b : Bool) : Dec0 (w.setCell ⟨g, 803, none⟩ (.bool b)) g D nd dp b :=
  (RowF.set h (by omega) _).ext fun j hj => by
    unfold decF
    by_cases e : j = 803
    · subst e; rfl
    · simp only [e, if_false]
      split
      · rfl
      · split
        · rfl
        · split
          · rfl
          · split
            · rfl
            · omega
theorem Ctx.drew {w0 w : World} (h : Ctx w0 w) : Ctx w0 w.drew := ⟨h.laid, Below.drew h.bel⟩
theorem DecIs.setG {w : World} {g : Nat} {d : Dec} (h : DecIs w g d) : DecIs (w.setCell ⟨g, 802, none⟩ (.bool false)) g d := by
  obtain ⟨D, h0, h1⟩ := h
  exact ⟨D, h0.setG, h1⟩
theorem DecIs.setTv {w : World} {g : Nat} {ds : List Nat} {dp : Int} {tr : Bool} (h : DecIs w g ⟨ds, dp, tr⟩) (b : Bool) : DecIs (w.setCell ⟨g, 803, none⟩ (.bool b)) g ⟨ds, dp, b⟩ := by
  obtain ⟨D, h0, h1⟩ := h
  exact ⟨D, h0.setTv b, h1⟩
theorem DecIs.setP {w : World} {g : Nat} {ds : List Nat} {dp : Int} {tr : Bool} (h : DecIs w g ⟨ds, dp, tr⟩) (x : Int) : DecIs (w.setCell ⟨g, 801, none⟩ (.int .i64 x)) g ⟨ds, x, tr⟩ := by
  obtain ⟨D, h0, h1⟩ := h
  exact ⟨D, h0.setP x, h1⟩
theorem DecIs.push {w : World} {g : Nat} {ds : List Nat} {dp : Int} {tr : Bool} (h : DecIs w g ⟨ds, dp, tr⟩) (c : Nat) (hc : c ≤ 9) (hl : ds.length < 800) (v v2 : Int) (hv : v = 48 + c) (hv2 : v2 = ds.length + 1) :
    DecIs ((w.setCell ⟨g, ds.length, none⟩ (.int .u8 v)).setCell ⟨g, 800, none⟩ (.int .i64 v2)) g ⟨ds ++ [c], dp, tr⟩ := by
  obtain ⟨D, h0, h1, h2, h3⟩ := h
  have e := (h0.setDv hl (48 + c) v (by rw [hv]; simp)).setNv (ds.length + 1) v2 (by rw [hv2]; simp)
  refine ⟨_, by rw [List.length_append]; exact e, fun j hj => ?_, by rw [List.length_append]; exact hl, fun x hx => ?_⟩
  · rw [List.length_append] at hj
    simp only [List.length_cons, List.length_nil] at hj
    by_cases ej : j = ds.length
    · subst ej; simp only [if_true]; rw [getD_snoc_eq _ _ _ rfl]
    · simp only [ej, if_false]; rw [getD_snoc_lt _ _ _ (by omega)]; exact h1 j (by simp only; omega)
  · rcases List.mem_append.1 hx with hx | hx
    · exact h3 x hx
    · rw [List.mem_singleton.1 hx]; omega
theorem DecIs.free {w : World} {g : Nat} {d : Dec} (h : DecIs w g d) {j : Nat} (hj : j < 804) : w.frozen? ⟨g, j, none⟩ = false := by
  obtain ⟨D, h0, _⟩ := h
  exact h0.free hj
theorem DecIs.old {w : World} {g : Nat} {d : Dec} (h : DecIs w g d) {j : Nat} (hj : j < 800) : ∃ x : Nat, w.cell? ⟨g, j, none⟩ = some (.int .u8 x) := by
  obtain ⟨D, h0, _⟩ := h
  exact ⟨_, h0.cD hj⟩
set_option maxRecDepth 100000 in
set_option maxHeartbeats 4000000 in
theorem set_any (w0 : World) (g : Nat) (hg : w0.heap.size ≤ g) (s : ByteArray) (p : Nat) (hd : Hid (IsReal s.data.toList p)) (hs : s.size ≤ 1000000) (w : World) (hI : Hid (DecIs w g ⟨[], 0, false⟩)) (hc : Hid (Ctx w0 w)) :
    Calls Tryd.prog 56 #[.pointer (some ⟨g, 0, none⟩), .string s] w fun e w' => e = .returned (.bool true) ∧ DecIs w' g (setD s.data.toList) ∧ Ctx w0 w' := by
  have hsz : 2 < s.size := by have := hd.out.1; have := hd.out.2.1; rw [list_size] at this; omega
  have hp1 := hd.out.1
  have hp2 : p + 1 < s.size := by have := hd.out.2.1; rwa [list_size] at this
  have p0 : 0 < s.size := by omega
  have hcb : ∀ k (hk : k < s.size), k = p ∧ (s[k]'hk).toNat = 46 ∨ k ≠ p ∧ 48 ≤ (s[k]'hk).toNat ∧ (s[k]'hk).toNat ≤ 57 := by
    intro k hk
    rw [byte_at]
    by_cases e : k = p
    · exact .inl ⟨e, e ▸ hd.out.2.2.2⟩
    · exact .inr ⟨e, hd.out.2.2.1 k (by rw [list_size]; exact hk) e⟩
  have hall : ∀ c ∈ s.data.toList, c.toNat = 46 ∨ 48 ≤ c.toNat ∧ c.toNat ≤ 57 := by
    intro c hcm
    obtain ⟨k, hk, rfl⟩ := List.mem_iff_getElem.1 hcm
    have hk2 : k < s.size := by rw [← list_size]; exact hk
    rcases hcb k hk2 with h | h
    · exact .inl h.2
    · exact .inr h.2
  have HCB := Lib.hid hcb
  have HOK := Lib.hid (setD_ok _ hall)
  have h00 : 48 ≤ (s[0]'p0).toNat ∧ (s[0]'p0).toNat ≤ 57 := by
    rcases hcb 0 p0 with h | h
    · omega
    · exact h.2
  clear hcb hall
  have hne : decide (s = ByteArray.empty) = false := decide_eq_false (fun e => by rw [e] at hsz; simp at hsz)
  have hne2 : ¬ s = ByteArray.empty := fun e => by rw [e] at hsz; simp at hsz
  have hb43 : (((s[0]'p0).toNat : Int) == 43) = false := by rw [beq_eq_false_iff_ne]; omega
  have hb45 : (((s[0]'p0).toNat : Int) == 45) = false := by rw [beq_eq_false_iff_ne]; omega
  have hcn := hI.out.headN
  have hcp := hI.out.pt
  have hcg := hI.out.neg
  have hct := hI.out.tru
  have hfg := hI.out.free (j := 802) (by omega)
  have hft := hI.out.free (j := 803) (by omega)
  go_enter Tryd.func56, Tryd.ntmps56
  go_wp2
  go_loopg [5, 6, 7] s.size (fun m i dot dig wr => ∃ k : Nat, k ≤ s.size ∧ m = s.size - k ∧ i = .int .i64 k ∧ dot = .bool (decide (p < k)) ∧ dig = .bool (decide (0 < k)) ∧ Hid (DecIs wr g (setD (s.data.toList.take k))) ∧ Hid (Ctx w0 wr))
  case atStart => exact ⟨0, by omega, by omega, rfl, by simp, rfl, Lib.hid (by simpa [setD] using (hI.out.setG.setTv false)), Lib.hid ((hc.out.set hg _).set hg _)⟩
  case round =>
    clear hcn hcp hcg hct hfg hft hb43 hb45 hI hc h00 hne hne2
    obtain ⟨k, hk, hgk, rfl, rfl, rfl, HI, HC⟩ := hrel
    have HG := Lib.hid hgk
    clear hgk
    obtain ⟨o1, o2, o3, o4, o5⟩ := HOK.out k (by rw [list_size]; exact hk)
    by_cases hks : k < s.size
    · have hnext := setD_at s.data.toList k (by rw [list_size]; exact hks)
      rw [show s.data.toList[k]'(by rw [list_size]; exact hks) = s[k]'hks from rfl] at hnext
      have hcb := HCB.out k hks
      generalize hst : setD (s.data.toList.take k) = st at *
      have HN := Lib.hid hnext
      clear hnext hst
      rcases st with ⟨ds, dp, tr⟩
      simp only at o1 o2 o3 o4 o5
      have hcn := HI.out.headN
      have hcp := HI.out.pt
      have hct := HI.out.tru
      have hfn := HI.out.free (j := 800) (by omega)
      have hfp := HI.out.free (j := 801) (by omega)
      have hft := HI.out.free (j := 803) (by omega)
      have o1I : (ds.length : Int) ≤ 800 := by omega
      rcases hcb with ⟨rfl, hc⟩ | ⟨hkd, hc0, hc1⟩
      · have hdt : decide (k < k) = false := by simp
        have HS := Lib.hid (show setD (s.data.toList.take (k + 1)) = ⟨ds, ds.length, tr⟩ from by rw [HN.out, stStep, if_pos hc])
        go_wp2
        go_roundg (s.size - (k + 1))
        case measure => rw [HG.out]; omega
        case rel => exact ⟨k + 1, by omega, rfl, by go_num, by simp, by simp; exact hd.out.1, Lib.hid (by rw [HS.out]; exact HI.out.setP _), Lib.hid (HC.out.set hg _)⟩
      · have edot : decide (p < k + 1) = decide (p < k) := by rw [decide_eq_decide]; omega
        have EDOT := Lib.hid edot
        clear edot
        have hn46 : ¬ (s[k]'hks).toNat = 46 := by omega
        by_cases hA : (s[k]'hks).toNat = 48 ∧ ds = []
        · have HS := Lib.hid (show setD (s.data.toList.take (k + 1)) = ⟨ds, dp - 1, tr⟩ from by rw [HN.out, stStep, if_neg hn46, if_pos hA])
          obtain ⟨hA1, hA2⟩ := hA
          have hlb : ((ds.length : Int) == 0) = true := by rw [hA2]; rfl
          go_wp2
          go_roundg (s.size - (k + 1))
          case measure => rw [HG.out]; omega
          case rel => exact ⟨k + 1, by omega, rfl, by go_num, by rw [EDOT.out], by simp, Lib.hid (by rw [HS.out]; exact HI.out.setP _), Lib.hid (HC.out.set hg _)⟩
        · have hlb : (s[k]'hks).toNat = 48 → ((ds.length : Int) == 0) = false := fun e => by
            rw [beq_eq_false_iff_ne]
            intro e2
            exact hA ⟨e, List.eq_nil_of_length_eq_zero (by omega)⟩
          by_cases hB : ds.length < 800
          · have HS := Lib.hid (show setD (s.data.toList.take (k + 1)) = ⟨ds ++ [(s[k]'hks).toNat - 48], dp, tr⟩ from by rw [HN.out, stStep, if_neg hn46, if_neg hA, if_pos hB])
            obtain ⟨x, hold⟩ := HI.out.old hB
            have hfd := HI.out.free (j := ds.length) (by omega)
            have hBI : (ds.length : Int) < 800 := by omega
            have hne8 : ¬ (ds.length = 800) := by omega
            have hne9 : ¬ (800 = ds.length) := by omega
            have hkp : ∀ v : Value, (wr.setCell ⟨g, ds.length, none⟩ v).cell? ⟨g, 800, none⟩ = some (.int .i64 ds.length) := fun v => by
              obtain ⟨D, h0, _⟩ := HI.out
              have h1 := (RowF.set h0 (i := ds.length) (by omega) v).cell (j := 800) (by omega)
              rw [h1, if_neg hne9]; rfl
            clear hA
            by_cases hz : (s[k]'hks).toNat = 48
            all_goals
              first | (have hn1 := hlb hz) | skip
              clear hlb
              go_wp2
              go_region_held3 (fun w' => w'.cell? ⟨g, 800, none⟩ = some (.int .i64 ds.length)) (go_keep) (fail)
              go_wp2
              go_roundg (s.size - (k + 1))
              case measure => rw [HG.out]; omega
              case rel => exact ⟨k + 1, by omega, rfl, by go_num, by rw [EDOT.out], by simp, Lib.hid (by rw [HS.out]; exact HI.out.push _ (by omega) hB _ _ (by omega) (by omega)), Lib.hid (Ctx.drew ((HC.out.set hg _).set hg _))⟩
          · have HS := Lib.hid (show setD (s.data.toList.take (k + 1)) = ⟨ds, dp, tr || decide ((s[k]'hks).toNat ≠ 48)⟩ from by rw [HN.out, stStep, if_neg hn46, if_neg hA, if_neg hB])
            have hBI : ¬ ((ds.length : Int) < 800) := by omega
            clear hA
            by_cases hz : (s[k]'hks).toNat = 48
            · have hn1 := hlb hz
              clear hlb
              go_wp2
              go_roundg (s.size - (k + 1))
              case measure => rw [HG.out]; omega
              case rel => exact ⟨k + 1, by omega, rfl, by go_num, by rw [EDOT.out], by simp, Lib.hid (by rw [HS.out]; simpa [hz] using HI.out), HC⟩
            · clear hlb
              go_wp2
              go_roundg (s.size - (k + 1))
              case measure => rw [HG.out]; omega
              case rel => exact ⟨k + 1, by omega, rfl, by go_num, by rw [EDOT.out], by simp, Lib.hid (by rw [HS.out]; simpa [hz] using HI.out.setTv true), Lib.hid (HC.out.set hg _)⟩
    · obtain rfl : k = s.size := by omega
      have htk : s.data.toList.take s.size = s.data.toList := List.take_of_length_le (by rw [list_size]; omega)
      rw [htk] at HI
      have hdlt : decide (p < s.size) = true := decide_eq_true (by omega)
      have hplt : decide (0 < s.size) = true := decide_eq_true (by omega)
      go_wp2
      go_ret
      exact ⟨rfl, HI.out, HC.out⟩
end Go.Proofs.YthhepfjjmilcnaaDoor
