/- The walk of strconv.atof64exact; what is a number is none that isn't. -/
import Derived.Test.YthhepfjjmilcnaaDoorFltB
namespace Go.Proofs.YthhepfjjmilcnaaDoor
open Go.RowKit Fl
def infW : Nat := 9218868437227405312
def p10L : List Nat := [4607182418800017408, 4621819117588971520, 4636737291354636288, 4652007308841189376, 4666723172467343360, 4681608360884174848, 4696837146684686336, 4711630319722168320, 4726483295884279808, 4741671816366391296, 4756540486875873280, 4771362005757984768, 4786511204640096256, 4801453603149578240, 4816244402031689728, 4831355200913801216, 4846369599423283200, 4861130398305394688, 4876203697187506176, 4891288408196988160, 4906019910204099648, 4921056587992461136, 4936209963552724370]
def p10 (i : Nat) : Nat := p10L.getD i 1
theorem p10_rng (i : Nat) : 1 ≤ p10 i ∧ p10 i < infW := by
  have h : ∀ x ∈ p10L, 1 ≤ x ∧ x < infW := by decide
  unfold p10
  rw [List.getD_eq_getElem?_getD]
  cases hx : p10L[i]? with
  | none => simp [infW]
  | some x => exact h x (List.mem_of_getElem? hx)
/-! what a finite word stands for -/
theorem read_num (x : Nat) (h : x < infW) : ∃ m e, Ieee.double.read x = .number false m e ∧ (1 ≤ x → m ≠ 0) := by
  unfold infW at h
  have hs : Ieee.double.signWeight = 9223372036854775808 := by decide
  have hb : Ieee.double.binade = 4503599627370496 := by decide
  have hi : Ieee.double.infRung = 9218868437227405312 := by decide
  have h1 : x / 9223372036854775808 % 2 = 0 := by omega
  have h2 : x % 9223372036854775808 = x := by omega
  unfold Ieee.Format.read
  simp only [hs, hb, hi, h1, h2]
  by_cases c : x < 4503599627370496
  · refine ⟨x, Ieee.double.leastPlace, ?_, by omega⟩
    simp [c]
  · refine ⟨_, _, by rw [if_neg c, if_pos h]; rfl, by omega⟩
theorem nearest_le (m : Nat) (e : Int) : Ieee.double.nearest false m e ≤ infW := by
  have hi : Ieee.double.infRung = infW := by decide
  unfold Ieee.Format.nearest
  dsimp only
  split
  · simp [Ieee.Format.word]
  · simp only [Ieee.Format.word, Bool.false_eq_true, if_false, hi]
    exact Nat.min_le_right _ _
def fmul (x y : Nat) : Nat := (Ieee.double.mul x y).getD 0
def fdiv (x y : Nat) : Nat := (Ieee.double.div x y).getD 0
theorem read_inf : Ieee.double.read infW = .infinity false := by decide +kernel
theorem write_inf : Ieee.double.write (.infinity false) = infW := by decide +kernel
theorem fmul_some (x y : Nat) (hx : x ≤ infW) (hy1 : 1 ≤ y) (hy : y < infW) : Ieee.double.mul x y = some (fmul x y) ∧ fmul x y ≤ infW := by
  obtain ⟨n, f, h2, hn⟩ := read_num y hy
  have : ∃ r, Ieee.double.mul x y = some r ∧ r ≤ infW := by
    rcases Nat.lt_or_ge x infW with h | h
    · obtain ⟨m, e, h1, _⟩ := read_num x h
      refine ⟨_, by unfold Ieee.Format.mul; rw [h1, h2]; rfl, nearest_le _ _⟩
    · obtain rfl : x = infW := by omega
      refine ⟨infW, ?_, Nat.le_refl _⟩
      unfold Ieee.Format.mul
      rw [read_inf, h2]
      simp only [Ieee.Datum.product, if_neg (hn hy1)]
      exact congrArg some write_inf
  obtain ⟨r, h, hr⟩ := this
  unfold fmul
  rw [h]
  exact ⟨rfl, hr⟩
theorem fdiv_some (x y : Nat) (hx : x ≤ infW) (hy1 : 1 ≤ y) (hy : y < infW) : Ieee.double.div x y = some (fdiv x y) ∧ fdiv x y ≤ infW := by
  obtain ⟨n, f, h2, hn⟩ := read_num y hy
  have hn := hn hy1
  have : ∃ r, Ieee.double.div x y = some r ∧ r ≤ infW := by
    rcases Nat.lt_or_ge x infW with h | h
    · obtain ⟨m, e, h1, _⟩ := read_num x h
      unfold Ieee.Format.div
      rw [h1, h2]
      simp only [Ieee.Datum.quotient, if_neg hn]
      exact ⟨_, rfl, nearest_le _ _⟩
    · obtain rfl : x = infW := by omega
      refine ⟨infW, ?_, Nat.le_refl _⟩
      unfold Ieee.Format.div
      rw [read_inf, h2]
      exact congrArg some write_inf
  obtain ⟨r, h, hr⟩ := this
  unfold fdiv
  rw [h]
  exact ⟨rfl, hr⟩
theorem run_fmul {P : Program} (t : TypeId) (x y : Nat) (hx : x ≤ infW) (hy1 : 1 ≤ y) (hy : y < infW) (w : World) : (binOp .mul t (.float .f64 x) (.float .f64 y)).run P w = .ok (.float .f64 (fmul x y)) w := by
  have := (fmul_some x y hx hy1 hy).1
  simp [binOp, Op.floatArith, FloatKind.format, this, Sem.run_pure]
theorem run_fdiv {P : Program} (t : TypeId) (x y : Nat) (hx : x ≤ infW) (hy1 : 1 ≤ y) (hy : y < infW) (w : World) : (binOp .quo t (.float .f64 x) (.float .f64 y)).run P w = .ok (.float .f64 (fdiv x y)) w := by
  have := (fdiv_some x y hx hy1 hy).1
  simp [binOp, Op.floatArith, FloatKind.format, this, Sem.run_pure]
/-- the number of a whole mantissa below 2^52 and a small power of ten: is there one, and which -/
def exB (d : Nat) (p : Int) : Bool :=
  if d / 4503599627370496 ≠ 0 then false
  else if p = 0 then true
  else if 0 < p ∧ p ≤ 37 then
    let f := if 22 < p then fmul (FloatKind.f64.nearest d) (p10 (p - 22).toNat) else FloatKind.f64.nearest d
    !(Ieee.double.order f 4831355200913801216 == some .gt) && !(Ieee.double.order f 14054727237768577024 == some .lt)
  else decide (p < 0) && decide (-22 ≤ p)
def exV (d : Nat) (p : Int) : Nat :=
  if p = 0 then FloatKind.f64.nearest d
  else if 0 < p then
    if 22 < p then fmul (fmul (FloatKind.f64.nearest d) (p10 (p - 22).toNat)) (p10 22) else fmul (FloatKind.f64.nearest d) (p10 p.toNat)
  else fdiv (FloatKind.f64.nearest d) (p10 (-p).toNat)
structure FltLaid (w : World) : Prop where
  pow : PowAt w
  mant : w.cell? ⟨5, 0, none⟩ = some (.int .u64 52)
  expo : w.cell? ⟨5, 1, none⟩ = some (.int .u64 11)
  bias : w.cell? ⟨5, 2, none⟩ = some (.int .i64 (-1023))
  opt : w.cell? ⟨4, 0, none⟩ = some (.bool true)
  p10 : ∃ b off cap, w.cell? ⟨8, 0, none⟩ = some (.slice (some ⟨b, off, none⟩) 23 cap) ∧ ∀ i, i < 23 → w.cell? ⟨b, off + i, none⟩ = some (.float .f64 (p10 i))
  ptab : ∃ b off cap, w.cell? ⟨7, 0, none⟩ = some (.slice (some ⟨b, off, none⟩) 9 cap) ∧ ∀ i, i < 9 → w.cell? ⟨b, off + i, none⟩ = some (.int .i64 ([1, 3, 6, 9, 13, 16, 19, 23, 26].getD i 0))
  cheat : ∃ b off cap, w.cell? ⟨10, 0, none⟩ = some (.slice (some ⟨b, off, none⟩) 61 cap) ∧ ∀ i, i < 61 → w.cell? ⟨b, off + i * 2, none⟩ = some (.int .i64 (Go.Pinned.cheatRows.getD i (0, [])).1) ∧ w.cell? ⟨b, off + i * 2 + 1, none⟩ = some (.string ⟨(Go.Pinned.cheatRows.getD i (0, [])).2.toArray⟩)
theorem shr52 (d : Nat) : ((d : Int) / 4503599627370496) = ((d / 4503599627370496 : Nat) : Int) := by simp
theorem shr52_ne (d : Nat) (h : d / 4503599627370496 ≠ 0) : ((d : Int) / 4503599627370496 != 0) = true := by
  rw [bne_iff_ne, shr52]
  generalize d / 4503599627370496 = x at *
  omega
theorem shr52_eq (d : Nat) (h : d / 4503599627370496 = 0) : ((d : Int) / 4503599627370496 != 0) = false := by
  rw [bne_eq_false_iff_eq, shr52, h]
  rfl
theorem nearest_nat (d : Nat) : FloatKind.f64.nearest (d : Int) ≤ infW := by
  unfold FloatKind.nearest FloatKind.encode FloatKind.format Ieee.Format.write
  have : decide ((d : Int) < 0) = false := by simp
  simp only [this]
  exact nearest_le _ _
set_option maxRecDepth 100000 in
theorem exact_no (d : Nat) (p : Int) (hd : d < 18446744073709551616) (hb : d / 4503599627370496 ≠ 0) (w : World) (hL : Hid (FltLaid w)) :
    Calls Tryd.prog 60 #[.int .u64 d, .int .i64 p, .bool false] w fun r w' => (∃ f, r = .returned (.tuple #[.float .f64 f, .bool (exB d p)])) ∧ w = w' := by
  have hm := hL.out.mant
  have hx : exB d p = false := by rw [exB, if_pos hb]
  have h0 := shr52_ne d hb
  clear hb hd
  rw [hx]
  go_enter Tryd.func60, Tryd.ntmps60
  go_wp2
  go_ret2
  exact ⟨⟨_, rfl⟩, rfl⟩
set_option maxRecDepth 100000 in
theorem exact_yes (d : Nat) (p : Int) (hd : d / 4503599627370496 = 0) (hp0 : -100000 ≤ p) (hp1 : p ≤ 100000) (w : World) (hL : Hid (FltLaid w)) :
    Calls Tryd.prog 60 #[.int .u64 d, .int .i64 p, .bool false] w fun r w' => (∃ f, r = .returned (.tuple #[.float .f64 f, .bool (exB d p)]) ∧ (exB d p = true → f = exV d p)) ∧ w = w' := by
  have hm := hL.out.mant
  obtain ⟨b, off, cap, hs, hcs⟩ := hL.out.p10
  have HCS := Lib.hid hcs
  have h0 := shr52_eq d hd
  have hn := nearest_nat d
  have hf0 : ∀ w, (convert 80 43 (.int .u64 (d : Int))).run Tryd.prog w = .ok (.float .f64 (FloatKind.f64.nearest d)) w := fun w => run_convert_int_float w _ _ _ _ _ (by kernel_rfl) Tryd.underlying43
  have hB : exB d p = exB d p := rfl
  conv at hB => rhs; unfold exB
  rw [if_neg (fun e => e hd)] at hB
  clear hd
  have hV : exV d p = exV d p := rfl
  conv at hV => rhs; unfold exV
  generalize FloatKind.f64.nearest (d : Int) = f0 at *
  have HB := Lib.hid hB
  have HV := Lib.hid hV
  clear hB hV hcs
  by_cases e0 : p = 0
  · subst e0
    go_enter Tryd.func60, Tryd.ntmps60
    go_wp2
    go_ret2
    refine ⟨⟨f0, ?_, fun _ => ?_⟩, rfl⟩
    · rw [HB.out, if_pos trivial]; rfl
    · rw [HV.out, if_pos trivial]
  by_cases e1 : p < 0
  · by_cases e2 : -22 ≤ p
    · obtain ⟨k, hk⟩ : ∃ k : Nat, p = -(k : Int) := ⟨(-p).toNat, by omega⟩
      subst hk
      have hc := HCS.out k (by omega)
      have hq := p10_rng k
      have hdv := fun w => run_fdiv (P := Tryd.prog) 43 f0 (p10 k) hn hq.1 hq.2 w
      have e0' : (-(k : Int) == 0) = false := by simp; omega
      go_enter Tryd.func60, Tryd.ntmps60
      go_wp2
      go_ret2
      refine ⟨⟨fdiv f0 (p10 k), ?_, fun _ => ?_⟩, rfl⟩
      · rw [HB.out, if_neg e0, if_neg (by omega)]; simp only [e1, e2, decide_true]; rfl
      · rw [HV.out, if_neg e0, if_neg (by omega), show (- -(k : Int)).toNat = k by omega]
    · have e0' : (p == 0) = false := by simp; omega
      go_enter Tryd.func60, Tryd.ntmps60
      go_wp2
      go_ret2
      refine ⟨⟨f0, ?_, fun h => ?_⟩, rfl⟩
      · rw [HB.out, if_neg e0, if_neg (by omega)]; rw [decide_eq_false (show ¬ (-22 ≤ p) by omega), Bool.and_false]; rfl
      · rw [HB.out, if_neg e0, if_neg (by omega), decide_eq_false (show ¬ (-22 ≤ p) by omega), Bool.and_false] at h; cases h
  · have e0' : (p == 0) = false := by simp; omega
    by_cases e2 : p ≤ 37
    · rw [if_neg e0, if_pos (show 0 < p ∧ p ≤ 37 by omega)] at HB
      rw [if_neg e0, if_pos (show 0 < p by omega)] at HV
      have hq22 := p10_rng 22
      have e3 : 0 < p := by omega
      have hc22 := HCS.out 22 (by omega)
      by_cases e4 : 22 < p
      · obtain ⟨k, hk⟩ : ∃ k : Nat, p = (k : Int) + 22 := ⟨(p - 22).toNat, by omega⟩
        subst hk
        have hc := HCS.out k (by omega)
        have hq := p10_rng k
        simp only [if_pos e4, show ((k : Int) + 22 - 22).toNat = k by omega] at HB HV
        have hm1 := fun w => run_fmul (P := Tryd.prog) 43 f0 (p10 k) hn hq.1 hq.2 w
        have hn1 := (fmul_some f0 (p10 k) hn hq.1 hq.2).2
        generalize fmul f0 (p10 k) = f1 at *
        have hm2 := fun w => run_fmul (P := Tryd.prog) 43 f1 (p10 22) hn1 hq22.1 hq22.2 w
        cases hg : (Ieee.double.order f1 4831355200913801216 == some Ordering.gt) with
        | true =>
          have hg' : (FloatKind.f64.format.order f1 4831355200913801216 == some Ordering.gt) = true := hg
          rw [hg] at HB
          clear hg
          go_enter Tryd.func60, Tryd.ntmps60
          go_wp2
          go_ret2
          refine ⟨⟨f1, ?_, fun h => ?_⟩, rfl⟩
          · rw [HB.out]; rfl
          · rw [HB.out] at h; cases h
        | false =>
          have hg' : (FloatKind.f64.format.order f1 4831355200913801216 == some Ordering.gt) = false := hg
          rw [hg] at HB
          clear hg
          cases hl : (Ieee.double.order f1 14054727237768577024 == some Ordering.lt) with
          | true =>
            have hl' : (FloatKind.f64.format.order f1 14054727237768577024 == some Ordering.lt) = true := hl
            rw [hl] at HB
            clear hl
            go_enter Tryd.func60, Tryd.ntmps60
            go_wp2
            go_ret2
            refine ⟨⟨f1, ?_, fun h => ?_⟩, rfl⟩
            · rw [HB.out]; rfl
            · rw [HB.out] at h; cases h
          | false =>
            have hl' : (FloatKind.f64.format.order f1 14054727237768577024 == some Ordering.lt) = false := hl
            rw [hl] at HB
            clear hl
            go_enter Tryd.func60, Tryd.ntmps60
            go_wp2
            go_ret2
            refine ⟨⟨fmul f1 (p10 22), ?_, fun h => ?_⟩, rfl⟩
            · rw [HB.out]; rfl
            · rw [HV.out]
      · obtain ⟨k, hk⟩ : ∃ k : Nat, p = (k : Int) := ⟨p.toNat, by omega⟩
        subst hk
        have hc := HCS.out k (by omega)
        have hq := p10_rng k
        simp only [if_neg e4, show ((k : Int)).toNat = k by omega] at HB HV
        have hm1 := fun w => run_fmul (P := Tryd.prog) 43 f0 (p10 k) hn hq.1 hq.2 w
        cases hg : (Ieee.double.order f0 4831355200913801216 == some Ordering.gt) with
        | true =>
          have hg' : (FloatKind.f64.format.order f0 4831355200913801216 == some Ordering.gt) = true := hg
          rw [hg] at HB
          clear hg
          go_enter Tryd.func60, Tryd.ntmps60
          go_wp2
          go_ret2
          refine ⟨⟨f0, ?_, fun h => ?_⟩, rfl⟩
          · rw [HB.out]; rfl
          · rw [HB.out] at h; cases h
        | false =>
          have hg' : (FloatKind.f64.format.order f0 4831355200913801216 == some Ordering.gt) = false := hg
          rw [hg] at HB
          clear hg
          cases hl : (Ieee.double.order f0 14054727237768577024 == some Ordering.lt) with
          | true =>
            have hl' : (FloatKind.f64.format.order f0 14054727237768577024 == some Ordering.lt) = true := hl
            rw [hl] at HB
            clear hl
            go_enter Tryd.func60, Tryd.ntmps60
            go_wp2
            go_ret2
            refine ⟨⟨f0, ?_, fun h => ?_⟩, rfl⟩
            · rw [HB.out]; rfl
            · rw [HB.out] at h; cases h
          | false =>
            have hl' : (FloatKind.f64.format.order f0 14054727237768577024 == some Ordering.lt) = false := hl
            rw [hl] at HB
            clear hl
            go_enter Tryd.func60, Tryd.ntmps60
            go_wp2
            go_ret2
            refine ⟨⟨fmul f0 (p10 k), ?_, fun h => ?_⟩, rfl⟩
            · rw [HB.out]; rfl
            · rw [HV.out]
    · go_enter Tryd.func60, Tryd.ntmps60
      go_wp2
      go_ret2
      refine ⟨⟨f0, ?_, fun h => ?_⟩, rfl⟩
      · rw [HB.out, if_neg e0, if_neg (by omega)]; rw [decide_eq_false (show ¬ (p < 0) by omega), Bool.false_and]; rfl
      · rw [HB.out, if_neg e0, if_neg (by omega), decide_eq_false (show ¬ (p < 0) by omega), Bool.false_and] at h; cases h
end Go.Proofs.YthhepfjjmilcnaaDoor
