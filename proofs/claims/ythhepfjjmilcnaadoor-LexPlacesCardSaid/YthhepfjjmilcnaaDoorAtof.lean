/- The walk of strconv.atof64 at digits with a point between. -/
import Derived.Test.YthhepfjjmilcnaaDoorDecF
namespace Go.Proofs.YthhepfjjmilcnaaDoor
open Go.RowKit Fl
theorem results_tmp3 {fn : Func} {a b c : Tmp} (h : fn.results = #[.tmp a, .tmp b, .tmp c]) (tmps : Array Value) (P : Program) (w : World) :
    (results fn tmps).run P w = .ok (.tuple #[tmps.getD a undef, tmps.getD b undef, tmps.getD c undef]) w := by simp [results, h]
def feq (a b : Nat) : Bool := FloatKind.f64.format.order a b == some .eq
def afBits (l : List UInt8) : Nat × Bool :=
  if rfMant l = 0 then (0, false)
  else if 310 < rfExp l then (9218868437227405312, true)
  else if rfExp l < -345 then (0, false)
  else if rfTr l = false then (if exB (rfMant l) (rfExp l) = true then (exV (rfMant l) (rfExp l), false) else ((pf64 (rfMant l) (rfExp l)).1.toNat, (pf64 (rfMant l) (rfExp l)).2))
  else if feq (pf64 (rfMant l) (rfExp l)).1.toNat (pf64 (rfMant l + 1) (rfExp l)).1.toNat = true then ((pf64 (rfMant l) (rfExp l)).1.toNat, (pf64 (rfMant l) (rfExp l)).2)
  else fbits (setD l)
theorem bitLen_ok : ∀ (f x : Nat), f ≤ 64 → x < 2 ^ f → x < 2 ^ Lib.bitLen x ∧ Lib.bitLen x ≤ f
  | 0, x, _, h => by
    have : x = 0 := by simpa using h
    subst this
    decide
  | f + 1, x, hf, h => by
    by_cases h0 : x = 0
    · subst h0
      exact ⟨by decide, by rw [show Lib.bitLen 0 = 0 by decide]; exact Nat.zero_le _⟩
    · have hx : x < 2 ^ 64 := Nat.lt_of_lt_of_le h (Nat.pow_le_pow_right (by decide) hf)
      obtain ⟨a, b⟩ := bitLen_ok f (x / 2) (by omega) (by rw [Nat.pow_succ] at h; omega)
      rw [Lib.bitLen_half x h0 hx]
      refine ⟨?_, by omega⟩
      rw [Nat.add_comm, Nat.pow_succ]
      omega
theorem bitLen_facts (m : Nat) (h0 : m ≠ 0) (h : m < 18446744073709551616) : 1 ≤ Lib.bitLen m ∧ Lib.bitLen m ≤ 64 ∧ m * 2 ^ (64 - Lib.bitLen m) < 18446744073709551616 := by
  obtain ⟨a, b⟩ := bitLen_ok 64 m (Nat.le_refl _) h
  refine ⟨?_, b, ?_⟩
  · rw [Lib.bitLen_half m h0 h]; omega
  · have h1 := Nat.mul_lt_mul_of_pos_right a (Nat.two_pow_pos (64 - Lib.bitLen m))
    rw [← Nat.pow_add, show Lib.bitLen m + (64 - Lib.bitLen m) = 64 by omega] at h1
    exact h1
set_option maxRecDepth 100000 in
theorem zeroDec_eq : Tryd.zeroCells95 = ((List.range 804).map (decF (fun _ => 0) 0 0 false)).toArray := by kernel_rfl
theorem decIs_new (w : World) : DecIs (w.alloc (.cells Tryd.zeroCells95 95)) w.heap.size ⟨[], 0, false⟩ := by
  refine ⟨fun _ => 0, fun j hj => ⟨?_, ?_⟩, fun j hj => absurd hj (Nat.not_lt_zero _), Nat.zero_le _, fun x hx => by cases hx⟩
  · rw [World.cell?_alloc_at _ _ _ _ rfl, zeroDec_eq]
    simp [hj]
  · exact World.frozen?_alloc_at _ _ _ _ rfl
set_option maxRecDepth 100000 in
set_option maxHeartbeats 8000000 in
theorem atof_any (s : ByteArray) (k : Nat) (hd : Hid (IsReal s.data.toList k)) (hs : s.size ≤ 1000000) (w : World) (hL : Hid (FltLaid w)) :
    Calls Tryd.prog 44 #[.string s] w fun e w' => e = .returned (.tuple #[.float .f64 (afBits s.data.toList).1, .int .i64 s.size, ovfV (afBits s.data.toList).2]) ∧ Below w.heap.size w w' := by
  have hsz : 2 < s.size := by have := hd.out.1; have := hd.out.2.1; rw [list_size] at this; omega
  have p0 : 0 < s.size := by omega
  obtain ⟨h00, h01⟩ : 48 ≤ (s[0]'p0).toNat ∧ (s[0]'p0).toNat ≤ 57 := by
    rw [byte_at]; exact hd.out.2.2.1 0 (by rw [list_size]; omega) (by have := hd.out.1; omega)
  have hop := hL.out.opt
  have hall : ∀ c ∈ s.data.toList, c.toNat = 46 ∨ 48 ≤ c.toNat ∧ c.toNat ≤ 57 := by
    intro c hcm
    obtain ⟨j, hj, rfl⟩ := List.mem_iff_getElem.1 hcm
    by_cases e : j = k
    · subst e; left; have := hd.out.2.2.2; rw [List.getD_eq_getElem?_getD, List.getElem?_eq_getElem hj] at this; exact this
    · right; have := hd.out.2.2.1 j hj e; rw [List.getD_eq_getElem?_getD, List.getElem?_eq_getElem hj] at this; exact this
  have cS := fun w => special_any s p0 h00 h01 (by omega) w
  have cR := fun w => readFloat_any s k hd hs w
  have hbf := frombits_run
  obtain ⟨hok, _, _⟩ := rf_ok s.data.toList k hd.out s.size (by rw [list_size]; exact Nat.le_refl _)
  rw [List.take_of_length_le (by rw [list_size]; exact Nat.le_refl _)] at hok
  obtain ⟨o1, o2, o3, o3', o4, o5⟩ := hok
  have hm19 : rfMant s.data.toList < 10000000000000000000 := Nat.lt_of_lt_of_le o1 (Nat.pow_le_pow_right (by decide) o2)
  have he0 : -2000000 ≤ rfExp s.data.toList := by unfold rfExp; split <;> omega
  have he1 : rfExp s.data.toList ≤ 2000000 := by unfold rfExp; split <;> omega
  clear o1 o2 o3 o3' o4 o5
  have HAF := Lib.hid (show afBits s.data.toList = (if rfMant s.data.toList = 0 then (0, false)
    else if 310 < rfExp s.data.toList then (9218868437227405312, true)
    else if rfExp s.data.toList < -345 then (0, false)
    else if rfTr s.data.toList = false then (if exB (rfMant s.data.toList) (rfExp s.data.toList) = true then (exV (rfMant s.data.toList) (rfExp s.data.toList), false) else ((pf64 (rfMant s.data.toList) (rfExp s.data.toList)).1.toNat, (pf64 (rfMant s.data.toList) (rfExp s.data.toList)).2))
    else if feq (pf64 (rfMant s.data.toList) (rfExp s.data.toList)).1.toNat (pf64 (rfMant s.data.toList + 1) (rfExp s.data.toList)).1.toNat = true then ((pf64 (rfMant s.data.toList) (rfExp s.data.toList)).1.toNat, (pf64 (rfMant s.data.toList) (rfExp s.data.toList)).2)
    else fbits (setD s.data.toList)) from rfl)
  generalize rfMant s.data.toList = m at *
  generalize rfExp s.data.toList = p at *
  generalize rfTr s.data.toList = tr at *
  have hor0 : bits BinOp.or IntKind.u64 0 0 = 0 := by decide
  have horI : bits BinOp.or IntKind.u64 0 9218868437227405312 = 9218868437227405312 := by decide
  go_enter Tryd.func44, Tryd.ntmps44
  go_wp2_with fail
  refine (cS _).mono ?_
  rintro e w' ⟨rfl, rfl⟩
  go_wp2_with fail
  refine (cR _).mono ?_
  rintro e w' ⟨rfl, rfl⟩
  go_wp2_with fail
  refine (b2u64_any false _).mono ?_
  rintro e w' ⟨he, rfl⟩
  obtain rfl : e = .returned (.int .u64 0) := he
  clear cS cR
  by_cases hm0 : m = 0
  · have hb : ((m : Int) == 0) = true := by rw [hm0]; rfl
    have HA := Lib.hid (show afBits s.data.toList = (0, false) from by rw [HAF.out, if_pos hm0])
    go_wp2
    refine bodyPost_ret (results_tmp3 rfl _ _ _) rfl ⟨?_, Below.refl _ _⟩
    rw [HA.out]
    rfl
  · have hb : ((m : Int) == 0) = false := by rw [beq_eq_false_iff_ne]; omega
    have hm01 : (1 : Int) ≤ m := by omega
    by_cases hp1 : 310 < p
    · have HA := Lib.hid (show afBits s.data.toList = (9218868437227405312, true) from by rw [HAF.out, if_neg hm0, if_pos hp1])
      go_wp2
      refine bodyPost_ret (results_tmp3 rfl _ _ _) rfl ⟨?_, Below.refl _ _⟩
      rw [HA.out]
      rfl
    · by_cases hp2 : p < -345
      · have HA := Lib.hid (show afBits s.data.toList = (0, false) from by rw [HAF.out, if_neg hm0, if_neg hp1, if_pos hp2])
        go_wp2
        refine bodyPost_ret (results_tmp3 rfl _ _ _) rfl ⟨?_, Below.refl _ _⟩
        rw [HA.out]
        rfl
      · have HA0 := Lib.hid (show afBits s.data.toList = (if tr = false then (if exB m p = true then (exV m p, false) else ((pf64 m p).1.toNat, (pf64 m p).2))
            else if feq (pf64 m p).1.toNat (pf64 (m + 1) p).1.toNat = true then ((pf64 m p).1.toNat, (pf64 m p).2)
            else fbits (setD s.data.toList)) from by rw [HAF.out, if_neg hm0, if_neg hp1, if_neg hp2])
        obtain ⟨bl1, bl2, bl3⟩ := bitLen_facts m hm0 (by omega)
        obtain ⟨bm1, bm2, bm3⟩ := bitLen_facts (m + 1) (by omega) (by omega)
        have hlt := World.block_lt_of_cell? w _ (hL.out.pow 0 (by decide)).1
        have cP := fun (w' : World) (hP : Hid (PowAt w')) h => pf64_any m p (by omega) bl1 bl2 bl3 (by omega) (by omega) w' hP h
        have cQ := fun (w' : World) (hP : Hid (PowAt w')) h => pf64_any (m + 1) p (by omega) bm1 bm2 bm3 (by omega) (by omega) w' hP h
        clear HAF bl1 bl2 bl3 bm1 bm2 bm3
        cases htr : tr with
        | false =>
          by_cases hx : exB m p = true
          · have HA := Lib.hid (show afBits s.data.toList = (exV m p, false) from by rw [HA0.out, if_pos htr, if_pos hx])
            have hd52 : m / 4503599627370496 = 0 := by
              rcases Nat.eq_zero_or_pos (m / 4503599627370496) with h | h
              · exact h
              · rw [exB, if_pos (by omega)] at hx; cases hx
            go_wp2_with fail
            refine (exact_yes m p hd52 (by omega) (by omega) _ hL).mono ?_
            rintro e w' ⟨⟨f, rfl, hf⟩, rfl⟩
            have hf2 := hf hx
            subst hf2
            rw [hx]
            go_wp2
            refine bodyPost_ret (results_tmp3 rfl _ _ _) rfl ⟨?_, Below.refl _ _⟩
            rw [HA.out]
            rfl
          · have HA := Lib.hid (show afBits s.data.toList = ((pf64 m p).1.toNat, (pf64 m p).2) from by rw [HA0.out, if_pos htr, if_neg hx])
            have hx2 : exB m p = false := by simpa using hx
            have cE : Calls Tryd.prog 60 #[.int .u64 m, .int .i64 p, .bool false] w fun r w' => (∃ f, r = .returned (.tuple #[.float .f64 f, .bool false])) ∧ w = w' := by
              by_cases hd52 : m / 4503599627370496 = 0
              · refine (exact_yes m p hd52 (by omega) (by omega) _ hL).mono ?_
                rintro e w' ⟨⟨f, rfl, hf⟩, rfl⟩
                exact ⟨⟨f, by rw [hx2]⟩, rfl⟩
              · refine (exact_no m p (by omega) hd52 _ hL).mono ?_
                rintro e w' ⟨⟨f, rfl⟩, rfl⟩
                exact ⟨⟨f, by rw [hx2]⟩, rfl⟩
            go_wp2_with fail
            refine cE.mono ?_
            rintro e w' ⟨⟨f, rfl⟩, rfl⟩
            go_wp2_with fail
            refine (cP _ (Lib.hid hL.out.pow) hlt).mono ?_
            rintro e w' ⟨rfl, hb⟩
            have HB := Lib.hid hb
            clear hb
            go_wp2
            refine bodyPost_ret (results_tmp3 rfl _ _ _) rfl ⟨?_, HB.out⟩
            rw [HA.out]
            rfl
        | true =>
          go_wp2_with fail
          refine (cP _ (Lib.hid hL.out.pow) hlt).mono ?_
          rintro e w1 ⟨rfl, hb1⟩
          have HB1 := Lib.hid hb1
          clear hb1
          have hP1 : PowAt w1 := fun i hi => ⟨(HB1.out.cell hlt).trans (hL.out.pow i hi).1, (HB1.out.cell hlt).trans (hL.out.pow i hi).2⟩
          have HP1 := Lib.hid hP1
          have hsz1 := HB1.out.size
          have hop1 := (HB1.out.cell (World.block_lt_of_cell? w _ hL.out.opt)).trans hL.out.opt
          clear hP1
          go_wp2_with fail
          refine (cQ _ HP1 (by omega)).mono ?_
          rintro e w2 ⟨rfl, hb2⟩
          have HB2 := Lib.hid hb2
          clear hb2
          have HA1 := Lib.hid (show afBits s.data.toList = (if feq (pf64 m p).1.toNat (pf64 (m + 1) p).1.toNat = true then ((pf64 m p).1.toNat, (pf64 m p).2) else fbits (setD s.data.toList)) from by rw [HA0.out, if_neg (by rw [htr]; simp)])
          clear HA0 cP cQ
          generalize (pf64 m p).1.toNat = x at *
          generalize (pf64 (m + 1) p).1.toNat = y at *
          have hbel : Below w.heap.size w w2 := below_then' HB1.out hsz1 HB2.out
          have HBL := Lib.hid hbel
          clear hbel
          by_cases hfe : feq x y = true
          · have HA := Lib.hid (show afBits s.data.toList = (x, (pf64 m p).2) from by rw [HA1.out, if_pos hfe])
            have hfe2 : (FloatKind.f64.format.order x y == some .eq) = true := hfe
            clear hfe
            go_wp2
            refine bodyPost_ret (results_tmp3 rfl _ _ _) rfl ⟨?_, HBL.out⟩
            rw [HA.out]
            rfl
          · have HA := Lib.hid (show afBits s.data.toList = fbits (setD s.data.toList) from by rw [HA1.out, if_neg hfe])
            have hfe2 : (FloatKind.f64.format.order x y == some .eq) = false := by
              unfold feq at hfe
              simpa using hfe
            clear hfe HA1
            have hbf := frombits_run
            obtain ⟨so1, so2, so3, so4, so5⟩ := setD_ok s.data.toList hall s.data.toList.length (Nat.le_refl _)
            rw [List.take_length] at so1 so2 so3 so4 so5
            rw [list_size] at so3 so4
            go_wp2_with fail
            have hC0 : Ctx w (w2.alloc (.cells Tryd.zeroCells95 95)) := ⟨hL.out, Below.alloc HBL.out HBL.out.size _⟩
            refine (set_any w w2.heap.size HBL.out.size s k hd hs _ (Lib.hid (decIs_new w2)) (Lib.hid hC0)).mono ?_
            rintro e w3 ⟨rfl, h1, h2⟩
            have H3 := Lib.hid h1
            have C3 := Lib.hid h2
            clear h1 h2 hC0
            go_wp2_with fail
            refine (fbits_any w w2.heap.size HBL.out.size (setD s.data.toList) _ H3 (Lib.hid so2) (by omega) (by omega) C3).mono ?_
            rintro e w4 ⟨rfl, h1⟩
            have B4 := Lib.hid h1
            clear h1
            cases hov : (fbits (setD s.data.toList)).2 with
            | true =>
              have HOV := Lib.hid hov
              go_wp2
              refine bodyPost_ret (results_tmp3 rfl _ _ _) rfl ⟨?_, B4.out⟩
              rw [HA.out, HOV.out]
              rfl
            | false =>
              have HOV := Lib.hid hov
              go_wp2
              refine bodyPost_ret (results_tmp3 rfl _ _ _) rfl ⟨?_, B4.out⟩
              rw [HA.out, HOV.out]
              rfl
end Go.Proofs.YthhepfjjmilcnaaDoor
