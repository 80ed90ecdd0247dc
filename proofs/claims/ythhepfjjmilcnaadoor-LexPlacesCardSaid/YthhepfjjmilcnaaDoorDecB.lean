/- The walk of strconv.leftShift. -/
import Derived.Test.YthhepfjjmilcnaaDoorDecA
namespace Go.Proofs.YthhepfjjmilcnaaDoor
open Go.RowKit Fl
/-- memory while a shift to the left is written down to place p -/
def MemL (F : List Nat) (p : Nat) (tr : Bool) (D : Nat → Nat) (tr' : Bool) : Prop :=
  (∀ j, p ≤ j → j < F.length → j < 800 → D j = 48 + F.getD j 0) ∧ tr' = (tr || (F.drop (max 800 p)).any (fun x => x != 0))
theorem memL_start (F : List Nat) (p : Nat) (tr : Bool) (D : Nat → Nat) (h : F.length ≤ p) : MemL F p tr D tr := by
  refine ⟨fun j h1 h2 _ => by omega, ?_⟩
  rw [List.drop_eq_nil_of_le (by omega)]
  simp
theorem memL_in {F : List Nat} {p : Nat} {tr : Bool} {D : Nat → Nat} {tr' : Bool} (h : MemL F (p + 1) tr D tr') (hp : p < 800) (x : Nat) (hx : x = 48 + F.getD p 0) : MemL F p tr (fun j => if j = p then x else D j) tr' := by
  refine ⟨fun j h1 h2 h3 => ?_, ?_⟩
  · by_cases e : j = p
    · subst e; simp only [if_true]; exact hx
    · simp only [e, if_false]; exact h.1 j (by omega) h2 h3
  · rw [h.2, show max 800 (p + 1) = max 800 p by omega]
theorem memL_out {F : List Nat} {p : Nat} {tr : Bool} {D : Nat → Nat} {tr' : Bool} (h : MemL F (p + 1) tr D tr') (hp : 800 ≤ p) (hF : p < F.length) : MemL F p tr D (tr' || (F.getD p 0 != 0)) := by
  refine ⟨fun j h1 h2 h3 => by omega, ?_⟩
  rw [h.2, show max 800 (p + 1) = p + 1 by omega, show max 800 p = p by omega, drop_cons F p hF, List.any_cons, Bool.or_assoc, Bool.or_comm (List.any _ _)]
theorem rev_at (l : List Nat) (j : Nat) (h : j < l.length) : l.reverse.getD j 0 = l.getD (l.length - 1 - j) 0 := by
  rw [List.getD_eq_getElem?_getD, List.getD_eq_getElem?_getD, List.getElem?_reverse h]
theorem take_rev (ds : List Nat) (m : Nat) (h : m < ds.length) : (ds.take (m + 1)).reverse = ds.getD m 0 :: (ds.take m).reverse := by
  rw [List.take_succ_eq_append_getElem h, List.reverse_append, List.getD_eq_getElem?_getD, List.getElem?_eq_getElem h]; rfl
/-- one digit more of the shift -/
theorem lsStep (k m nn dl : Nat) (ds : List Nat) (hm : m < ds.length) (hlen : (lsOut k ds).length = ds.length + dl) (h : lsGo k (ds.take (m + 1)).reverse nn = (lsGo k ds.reverse 0).drop (ds.length - (m + 1))) :
    lsGo k (ds.take m).reverse ((nn + ds.getD m 0 * 2 ^ k) / 10) = (lsGo k ds.reverse 0).drop (ds.length - m) ∧ (nn + ds.getD m 0 * 2 ^ k) % 10 = (lsOut k ds).getD (m + dl) 0 := by
  rw [take_rev ds m hm, lsGo] at h
  have hl : (lsGo k ds.reverse 0).length = ds.length + dl := by rw [← hlen, lsOut, List.length_reverse]
  rw [drop_cons _ _ (by omega)] at h
  injection h with h1 h2
  refine ⟨by rw [h2]; congr 1; omega, ?_⟩
  rw [h1, lsOut, rev_at _ _ (by omega), hl]
  congr 1
  omega
/-- one digit more of the carry -/
theorem lsStep2 (k p nn dl : Nat) (ds : List Nat) (hlen : (lsOut k ds).length = ds.length + dl) (hn : nn ≠ 0) (h : leD nn = (lsGo k ds.reverse 0).drop (ds.length + dl - p)) :
    1 ≤ p ∧ (p ≤ ds.length + dl → leD (nn / 10) = (lsGo k ds.reverse 0).drop (ds.length + dl - (p - 1)) ∧ nn % 10 = (lsOut k ds).getD (p - 1) 0) := by
  have hl : (lsGo k ds.reverse 0).length = ds.length + dl := by rw [← hlen, lsOut, List.length_reverse]
  rw [leD_pos nn hn] at h
  have hp : 1 ≤ p := by
    rcases Nat.eq_zero_or_pos p with e | e
    · subst e
      rw [List.drop_eq_nil_of_le (by omega)] at h
      cases h
    · exact e
  refine ⟨hp, fun hple => ?_⟩
  rw [drop_cons _ _ (by omega)] at h
  injection h with h1 h2
  refine ⟨by rw [h2]; congr 1; omega, ?_⟩
  rw [h1, lsOut, rev_at _ _ (by omega), hl]
  congr 1
  omega
theorem lsEnd (k p dl : Nat) (ds : List Nat) (hlen : (lsOut k ds).length = ds.length + dl) (h : leD 0 = (lsGo k ds.reverse 0).drop (ds.length + dl - p)) (hp : p ≤ ds.length + dl) (h1 : 1 ≤ ds.length) : p = 0 := by
  have hl : (lsGo k ds.reverse 0).length = ds.length + dl := by rw [← hlen, lsOut, List.length_reverse]
  rcases Nat.eq_zero_or_pos p with e | e
  · exact e
  · rw [leD_zero, drop_cons _ _ (by omega)] at h
    cases h
theorem dig_at (ds : List Nat) (h : Digs ds) (j : Nat) : ds.getD j 0 ≤ 9 := by
  rw [List.getD_eq_getElem?_getD]
  cases hj : ds[j]? with
  | none => simp
  | some d => have := h d (List.mem_of_getElem? hj); simp; omega
theorem pow_le60 (k : Nat) (h : k ≤ 60) : 2 ^ k ≤ 1152921504606846976 := Nat.le_trans (Nat.pow_le_pow_right (by decide) h) (by decide)
/-- the arithmetic of a round, as the walk writes it -/
theorem ls_sum (nn d k : Nat) (hk : k ≤ 60) (hd : d ≤ 9) (hn : nn < 2 ^ k) : nn + d * 2 ^ k < 18446744073709551616 ∧ (nn + d * 2 ^ k) / 10 < 2 ^ k := by
  have h1 := pow_le60 k hk
  have h2 : d * 2 ^ k ≤ 9 * 2 ^ k := Nat.mul_le_mul_right _ hd
  generalize 2 ^ k = P at *
  generalize d * P = Q at *
  omega
theorem pless_bytes (g cap : Nat) (ds : List Nat) (L : List UInt8) (hL : ∀ c ∈ L, 48 ≤ c.toNat ∧ c.toNat ≤ 57) (hl : L.length ≤ 60) (h8 : ds.length ≤ 800) (w : World) (hcell : Hid (∀ j, j < ds.length → w.cell? ⟨g, j, none⟩ = some (.int .u8 (48 + ds.getD j 0 : Nat)))) :
    Calls Tryd.prog 88 #[.slice (some ⟨g, 0, none⟩) ds.length cap, .string ⟨L.toArray⟩] w fun e w' => e = .returned (.bool (pless ds (L.map fun c => c.toNat - 48))) ∧ ∃ n, w' = w.drewN n := by
  have hsz : (⟨L.toArray⟩ : ByteArray).size = L.length := by simp [ByteArray.size]
  refine pless_any g cap ds _ _ w hcell (Lib.hid fun j hj => ?_) (Lib.hid (by rw [hsz, List.length_map])) h8 (by rw [hsz]; omega)
  have hj' : j < L.length := by rw [← hsz]; exact hj
  have h1 := hL _ (List.getElem_mem hj')
  show (L[j]).toNat = _
  rw [List.getD_eq_getElem?_getD, List.getElem?_map, List.getElem?_eq_getElem hj']
  simp only [Option.map_some, Option.getD_some]
  omega
theorem trimL_mem (l : List Nat) : ∀ x ∈ trimL l, x ∈ l := by
  intro x hx
  unfold trimL at hx
  exact List.mem_reverse.1 ((List.dropWhile_suffix _).subset (List.mem_reverse.1 hx))
theorem decIs_of_trim {w0 w' : World} {g : Nat} {D : Nat → Nat} {nd : Nat} {dp : Int} {tr : Bool} (h : Trimmed w0 w' g D nd dp tr) (hnd : nd ≤ 800) (hge : ∀ j, j < nd → 48 ≤ D j) (F : List Nat) (hF : dsOf D nd = F) (hd : Digs F) : DecIs w' g (trimD ⟨F, dp, tr⟩) ∧ Ctx w0 w' := by
  obtain ⟨h1, h2, h3, h4⟩ := h
  rw [hF] at h1 h2 h3
  refine ⟨⟨D, h1, fun j hj => ?_, Nat.le_trans h2 hnd, fun x hx => hd x (trimL_mem _ x hx)⟩, h4⟩
  have hj' : j < (trimL F).length := hj
  show D j = 48 + (trimL F).getD j 0
  rw [← h3, dsOf_at _ _ _ hj']
  have := hge j (by omega)
  omega
theorem memL_full {F : List Nat} {tr : Bool} {D : Nat → Nat} {tr' : Bool} (h : MemL F 0 tr D tr') (nd : Nat) (hn : nd = min F.length 800) : (∀ j, j < nd → 48 ≤ D j) ∧ dsOf D nd = F.take 800 ∧ tr' = (tr || (F.drop 800).any (fun x => x != 0)) := by
  have h1 := h.1
  refine ⟨fun j hj => by rw [h1 j (by omega) (by omega) (by omega)]; omega, ?_, by rw [h.2]; simp⟩
  apply List.ext_getElem
  · simp [dsOf]; omega
  · intro i a b
    simp only [dsOf, List.getElem_map, List.getElem_range, List.getElem_take]
    have hi : i < nd := by simpa [dsOf] using a
    rw [h1 i (by omega) (by omega) (by omega), List.getD_eq_getElem?_getD, List.getElem?_eq_getElem (by omega)]
    simp
/-- a round's numbers, as the walk writes them -/
structure LsNums (nn dg k N Q T r : Nat) : Prop where
  r1 : IntKind.u64.wrap ((nn : Int) + IntKind.u64.wrap ((48 + (dg : Int) - 48) * 2 ^ k)) = N
  r2 : IntKind.u64.wrap (Int.tdiv (N : Int) 10) = Q
  r2' : IntKind.u64.wrap ((N : Int) / 10) = Q
  r3 : IntKind.u64.wrap (10 * (Q : Int)) = T
  r4 : IntKind.u64.wrap ((N : Int) - T) = r
  q : Q = N / 10
  rr : r = N % 10
theorem wrap_id (x : Nat) (h : x < 18446744073709551616) : IntKind.u64.wrap (x : Int) = x := by
  rw [IntKind.wrap_u64]; exact Int.emod_eq_of_lt (Int.natCast_nonneg x) (Int.ofNat_lt.2 h)
theorem ls_div (N : Nat) (h : N < 18446744073709551616) : IntKind.u64.wrap (Int.tdiv (N : Int) 10) = ((N / 10 : Nat) : Int) ∧ IntKind.u64.wrap ((N : Int) / 10) = ((N / 10 : Nat) : Int) ∧ IntKind.u64.wrap (10 * ((N / 10 : Nat) : Int)) = ((10 * (N / 10) : Nat) : Int) ∧ IntKind.u64.wrap ((N : Int) - ((10 * (N / 10) : Nat) : Int)) = ((N % 10 : Nat) : Int) := by
  have e1 : Int.tdiv (N : Int) 10 = ((N / 10 : Nat) : Int) := by rw [show (10 : Int) = ((10 : Nat) : Int) from rfl, ← Int.ofNat_tdiv]
  have e2 : (N : Int) / 10 = ((N / 10 : Nat) : Int) := by simp
  have e3 : (10 * ((N / 10 : Nat) : Int)) = ((10 * (N / 10) : Nat) : Int) := by simp
  have e4 : (N : Int) - ((10 * (N / 10) : Nat) : Int) = ((N % 10 : Nat) : Int) := by omega
  refine ⟨?_, ?_, ?_, ?_⟩
  · rw [e1]; exact wrap_id _ (Nat.lt_of_le_of_lt (Nat.div_le_self _ _) h)
  · rw [e2]; exact wrap_id _ (Nat.lt_of_le_of_lt (Nat.div_le_self _ _) h)
  · rw [e3]; exact wrap_id _ (Nat.lt_of_le_of_lt (Nat.mul_div_le _ _) h)
  · rw [e4]; exact wrap_id _ (Nat.lt_of_le_of_lt (Nat.mod_le _ _) h)
theorem lsNums (nn dg k : Nat) (hk : k ≤ 60) (hd : dg ≤ 9) (hn : nn < 2 ^ k) : LsNums nn dg k (nn + dg * 2 ^ k) ((nn + dg * 2 ^ k) / 10) (10 * ((nn + dg * 2 ^ k) / 10)) ((nn + dg * 2 ^ k) % 10) := by
  obtain ⟨h1, _⟩ := ls_sum nn dg k hk hd hn
  obtain ⟨a, b, c, d⟩ := ls_div _ h1
  refine ⟨?_, a, b, c, d, rfl, rfl⟩
  have e1 : ((48 + (dg : Int) - 48) * 2 ^ k) = ((dg * 2 ^ k : Nat) : Int) := by rw [show 48 + (dg : Int) - 48 = dg by omega]; simp
  rw [e1, wrap_id _ (Nat.lt_of_le_of_lt (Nat.le_add_left _ _) h1)]
  have e2 : (nn : Int) + ((dg * 2 ^ k : Nat) : Int) = ((nn + dg * 2 ^ k : Nat) : Int) := by simp
  rw [e2, wrap_id _ h1]
set_option maxRecDepth 100000 in
set_option maxHeartbeats 4000000 in
theorem lsh_any (w0 : World) (g : Nat) (hg : w0.heap.size ≤ g) (k : Nat) (hk1 : 1 ≤ k) (hk2 : k ≤ 60) (d : Dec) (w : World) (hI : Hid (DecIs w g d)) (hH : Hid (HeadNe d.ds)) (hdp0 : -1000000000000 ≤ d.dp) (hdp1 : d.dp ≤ 1000000000000) (hc : Hid (Ctx w0 w)) :
    Calls Tryd.prog 81 #[.pointer (some ⟨g, 0, none⟩), .int .u64 k] w fun e w' => e = .returned (.tuple #[]) ∧ DecIs w' g (lsh k d) ∧ Ctx w0 w' := by
  obtain ⟨D, hD0, hDv, hn800, hdg⟩ := hI.out
  obtain ⟨ds, dp, tr⟩ := d
  simp only at hD0 hDv hn800 hdg hdp0 hdp1
  obtain ⟨cb, coff, ccap, hcs, hcc⟩ := hc.out.laid.cheat
  have hcs' := hc.out.cell hcs
  have hc1 := hc.out.cell (hcc k (by omega)).1
  have hc2 := hc.out.cell (hcc k (by omega)).2
  obtain ⟨_, hcd, _, _, _, _, _, hcut, hcl⟩ := cut_ok k hk1 hk2
  obtain ⟨hC1, hC2⟩ := cutD_pos k hk1 hk2
  obtain ⟨hlen, _, hodg, _⟩ := lsOut_len k ds hk1 hk2 hdg hH.out
  have hcn := hD0.cN
  have hcl2 : (Go.Pinned.cheatRows.getD k (0, [])).2.length ≤ 60 := by
    rw [cutL, List.length_map] at hcl
    exact hcl
  have hpl := fun (w' : World) hw => pless_bytes g 800 ds (Go.Pinned.cheatRows.getD k (0, [])).2 hcut hcl2 hn800 w' hw
  have hcutd : cutD k = (Go.Pinned.cheatRows.getD k (0, [])).1 := rfl
  have hcutl : (Go.Pinned.cheatRows.getD k (0, [])).2.map (fun c => c.toNat - 48) = cutL k := rfl
  rw [hcutl] at hpl
  rw [← hcutd] at hc1
  generalize (Go.Pinned.cheatRows.getD k (0, [])).2 = CL at *
  clear hcut hcd hcutl hcl hcutd hcl2
  have hdl : lsDelta k ds = cutD k - (if pless ds (cutL k) = true then 1 else 0) := rfl
  have hsh : lsh k ⟨ds, dp, tr⟩ = trimD { ds := (lsOut k ds).take 800, dp := dp + lsDelta k ds, tr := tr || ((lsOut k ds).drop 800).any (fun x => x != 0) } := rfl
  obtain ⟨C, hC⟩ : ∃ C, cutD k = C := ⟨_, rfl⟩
  rw [hC] at hc1 hC1 hC2 hdl
  clear hC hcc hcs hI
  obtain ⟨dl, hdl2⟩ : ∃ dl, lsDelta k ds = dl := ⟨_, rfl⟩
  rw [hdl2] at hdl hsh hlen
  clear hdl2
  have hcells : ∀ j, j < ds.length → w.cell? ⟨g, j, none⟩ = some (.int .u8 (48 + ds.getD j 0 : Nat)) := fun j hj => by rw [← hDv j hj]; exact hD0.cD (by omega)
  have HPL := Lib.hid hpl
  have HLEN := Lib.hid hlen
  have HSH := Lib.hid hsh
  have HDV := Lib.hid hDv
  have HD0 := Lib.hid hD0
  have HCELLS := Lib.hid hcells
  have HODG := Lib.hid hodg
  have HDG := Lib.hid hdg
  clear hpl hlen hsh hDv hD0 hcells hodg hdg
  have hkc : (k : Int) < 61 := by omega
  have hl1 : 1 ≤ ds.length := by obtain ⟨d0, r0, e, _⟩ := hH.out; simp only at e; rw [e]; simp
  have hnI : (ds.length : Int) ≤ 800 := by omega
  have hnI0 : (0 : Int) ≤ (ds.length : Int) := by omega
  cases hp : pless ds (cutL k) with
  | true =>
    rw [hp] at HPL
    rw [hp, if_pos rfl] at hdl
    obtain rfl : C = dl + 1 := by omega
    clear hdl hp
    go_enter Tryd.func81, Tryd.ntmps81
    go_wp2
    go_quiet ((go_at_call 88; exact Calls.quiet_of (HPL.out _ HCELLS)))
    go_wp2
    clear hkc hnI hnI0 hcs' hc1 hc2 HCELLS HPL
    go_loopg [5, 6, 7] ds.length (fun m r wv n wr => ∃ (nn : Nat) (D' : Nat → Nat) (tr' : Bool), m ≤ ds.length ∧ r = .int .i64 ((m : Int) - 1) ∧ wv = .int .i64 ((m : Int) + dl) ∧ n = .int .u64 nn ∧ Hid (nn < 2 ^ k) ∧ Hid (Dec0 wr g D' ds.length dp tr') ∧ Hid (Ctx w0 wr) ∧ Hid (∀ j, j < m → D' j = 48 + ds.getD j 0) ∧ Hid (MemL (lsOut k ds) (m + dl) tr D' tr') ∧ Hid (lsGo k (ds.take m).reverse nn = (lsGo k ds.reverse 0).drop (ds.length - m)))
    case atStart => exact ⟨0, D, tr, Nat.le_refl _, rfl, rfl, rfl, Lib.hid (Nat.two_pow_pos k), Lib.hid (HD0.out.drewN _), Lib.hid (hc.out.drewN _), HDV, Lib.hid (memL_start _ _ _ _ (by rw [HLEN.out]; omega)), Lib.hid (by rw [List.take_length]; simp)⟩
    case round =>
      obtain ⟨nn, D', tr', hm, rfl, rfl, rfl, HNN, HD, HC, HU, HM, HL⟩ := hrel
      rcases gk with _ | m
      · have h0 : decide ((0 : Int) ≤ ((0 : Nat) : Int) - 1) = false := by decide
        have h0' : decide ((0 : Int) ≤ -1) = false := by decide
        have HLE := Lib.hid (show leD nn = (lsGo k ds.reverse 0).drop (ds.length + dl - dl) from by have := HL.out; rw [Nat.add_sub_cancel]; simpa [lsGo] using this)
        have HM0 := Lib.hid (show MemL (lsOut k ds) dl tr D' tr' from by have := HM.out; rwa [Nat.zero_add] at this)
        have HN64 := Lib.hid (show nn < 18446744073709551616 from Nat.lt_of_lt_of_le HNN.out (Nat.le_trans (pow_le60 k hk2) (by decide)))
        clear HL HM HNN HU
        go_wp2
        go_loopg [6, 7] dl (fun p wv n wr => ∃ (nn : Nat) (D' : Nat → Nat) (tr' : Bool), p ≤ ds.length + dl ∧ wv = .int .i64 p ∧ n = .int .u64 nn ∧ Hid (nn < 18446744073709551616) ∧ Hid (Dec0 wr g D' ds.length dp tr') ∧ Hid (Ctx w0 wr) ∧ Hid (MemL (lsOut k ds) p tr D' tr') ∧ Hid (leD nn = (lsGo k ds.reverse 0).drop (ds.length + dl - p)))
        case atStart => exact ⟨nn, D', tr', by omega, by first | rfl | (congr 1; omega), rfl, HN64, HD, HC, HM0, HLE⟩
        case round =>
          clear HN64 HD HC HM0 HLE
          obtain ⟨nn, D', tr', hp, rfl, rfl, HN64, HD, HC, HM, HL⟩ := hrel
          by_cases hn0 : nn = 0
          · subst hn0
            have hgk := lsEnd k gk dl ds HLEN.out HL.out hp hl1
            subst hgk
            have hcn := HD.out.cN
            have hfn := HD.out.free (j := 800) (by omega)
            have hcp := HD.out.cP
            have hfp := HD.out.free (j := 801) (by omega)
            by_cases h8 : 800 ≤ ds.length + dl
            · have h8' : decide ((800 : Int) ≤ (ds.length : Int) + dl) = true := decide_eq_true (by omega)
              obtain ⟨m1, m2, m3⟩ := memL_full HM.out 800 (by rw [HLEN.out]; omega)
              have M1 := Lib.hid m1
              have M2 := Lib.hid m2
              have M3 := Lib.hid m3
              clear m1 m2 m3
              go_wp2_with fail
              refine (trim_any w0 g hg D' 800 (by omega) (dp + dl) tr' M1 _ (Lib.hid (((HD.out.setNv (ds.length + dl) _ (by omega)).setN 800).setP (dp + dl))) (Lib.hid (((HC.out.set hg _).set hg _).set hg _))).mono ?_
              rintro e w' ⟨rfl, hT⟩
              go_wp2
              go_end0
              refine ⟨rfl, ?_⟩
              rw [HSH.out, ← M3.out]
              exact decIs_of_trim hT (by omega) M1.out _ M2.out (fun x hx => HODG.out x (List.mem_of_mem_take hx))
            · have h8' : decide ((800 : Int) ≤ (ds.length : Int) + dl) = false := decide_eq_false (by omega)
              obtain ⟨m1, m2, m3⟩ := memL_full HM.out (ds.length + dl) (by rw [HLEN.out]; omega)
              have M1 := Lib.hid m1
              have M2 := Lib.hid m2
              have M3 := Lib.hid m3
              clear m1 m2 m3
              go_wp2_with fail
              refine (trim_any w0 g hg D' (ds.length + dl) (by omega) (dp + dl) tr' M1 _ (Lib.hid ((HD.out.setNv (ds.length + dl) _ (by omega)).setP (dp + dl))) (Lib.hid ((HC.out.set hg _).set hg _))).mono ?_
              rintro e w' ⟨rfl, hT⟩
              go_wp2
              go_end0
              refine ⟨rfl, ?_⟩
              rw [HSH.out, ← M3.out]
              exact decIs_of_trim hT (by omega) M1.out _ M2.out (fun x hx => HODG.out x (List.mem_of_mem_take hx))
          · have hst2 := lsStep2 k gk nn dl ds HLEN.out hn0 HL.out
            obtain ⟨hp1, hst3⟩ := hst2
            obtain ⟨p, rfl⟩ : ∃ p, gk = p + 1 := ⟨gk - 1, by omega⟩
            obtain ⟨r2, r2', r3, r4⟩ := ls_div nn HN64.out
            have hst4 := hst3 hp
            rw [Nat.add_sub_cancel] at hst4
            have HST := Lib.hid hst4
            have HQ := Lib.hid (show nn / 10 < 18446744073709551616 from Nat.lt_of_le_of_lt (Nat.div_le_self _ _) HN64.out)
            have hr9 : nn % 10 ≤ 9 := by omega
            have hnb : decide ((0 : Int) < (nn : Int)) = true := decide_eq_true (by omega)
            have ew : (p : Int) + 1 - 1 = p := by omega
            clear hst3 hst4 HL
            generalize 10 * (nn / 10) = T at *
            generalize nn / 10 = Q at *
            generalize nn % 10 = rm at *
            by_cases hw : p < 800
            · have hfr := HD.out.free (j := p) (by omega)
              have hcw := HD.out.cD (j := p) (by omega)
              have hw1 : (p : Int) < 800 := by omega
              go_wp2
              go_roundg p
              case measure => omega
              case rel => exact ⟨Q, (fun j => if j = p then rm + 48 else D' j), tr', by omega, rfl, rfl, HQ, Lib.hid (HD.out.setDv hw (rm + 48) _ (by omega)), Lib.hid (HC.out.set hg _), Lib.hid (memL_in HM.out hw _ (by rw [← HST.out.2, Nat.add_comm])), Lib.hid HST.out.1⟩
            · have hw1 : ¬ ((p : Int) < 800) := by omega
              have hFl : p < (lsOut k ds).length := by rw [HLEN.out]; omega
              have hmo := memL_out HM.out (by omega) hFl
              rw [← HST.out.2] at hmo
              have HMO := Lib.hid hmo
              clear hmo hFl
              by_cases hr0 : rm = 0
              · have hrb : ((rm : Int) != 0) = false := by rw [bne_eq_false_iff_eq]; omega
                have e0 : (tr' || (rm != 0)) = tr' := by rw [hr0]; simp
                rw [e0] at HMO
                clear e0 hr0
                go_wp2
                go_roundg p
                case measure => omega
                case rel => exact ⟨Q, D', tr', by omega, rfl, rfl, HQ, HD, HC, HMO, Lib.hid HST.out.1⟩
              · have hrb : ((rm : Int) != 0) = true := by rw [bne_iff_ne]; omega
                have e0 : (tr' || (rm != 0)) = true := by simp [hr0]
                rw [e0] at HMO
                have hft := HD.out.free (j := 803) (by omega)
                have hct := HD.out.cT
                clear e0 hr0
                go_wp2
                go_roundg p
                case measure => omega
                case rel => exact ⟨Q, D', true, by omega, rfl, rfl, HQ, Lib.hid HD.out.setT, Lib.hid (HC.out.set hg _), HMO, Lib.hid HST.out.1⟩
      · have hd9 := dig_at ds HDG.out m
        have hDm := HU.out m (by omega)
        have hcd := HD.out.cD (j := m) (by omega)
        rw [hDm] at hcd
        have hstep := lsStep k m nn dl ds (by omega) HLEN.out HL.out
        have hsum := (ls_sum nn _ k hk2 hd9 HNN.out).2
        have hnums := lsNums nn _ k hk2 hd9 HNN.out
        generalize ds.getD m 0 = dg at *
        generalize nn + dg * 2 ^ k = N at *
        have HST := Lib.hid hstep
        have HSU := Lib.hid hsum
        clear hstep hsum hDm
        obtain ⟨r1, r2, r2', r3, r4, _, _⟩ := hnums
        have hr9 : N % 10 ≤ 9 := by omega
        generalize 10 * (N / 10) = T at *
        generalize N / 10 = Q at *
        generalize N % 10 = rm at *
        have ew : (m : Int) + 1 + dl - 1 = (m : Int) + dl := by omega
        have HM' := Lib.hid (show MemL (lsOut k ds) (m + dl + 1) tr D' tr' from by have := HM.out; rwa [show m + 1 + dl = m + dl + 1 by omega] at this)
        clear HM
        by_cases hw : m + dl < 800
        · have hw1 : (m : Int) + dl < 800 := by omega
          have hfr := HD.out.free (j := m + dl) (by omega)
          have hcw := HD.out.cD (j := m + dl) (by omega)
          go_wp2
          go_roundg m
          case measure => omega
          case rel => exact ⟨Q, (fun j => if j = m + dl then rm + 48 else D' j), tr', by omega, rfl, rfl, rfl, HSU, Lib.hid (HD.out.setDv hw (rm + 48) _ (by omega)), Lib.hid (HC.out.set hg _), Lib.hid (fun j hj => (if_neg (show ¬ (j = m + dl) by omega)).trans (HU.out j (by omega))), Lib.hid (memL_in HM'.out hw _ (by rw [← HST.out.2, Nat.add_comm])), Lib.hid HST.out.1⟩
        · have hw1 : ¬ ((m : Int) + dl < 800) := by omega
          have hFl : m + dl < (lsOut k ds).length := by rw [HLEN.out]; omega
          have hmo := memL_out HM'.out (by omega) hFl
          rw [← HST.out.2] at hmo
          have HMO := Lib.hid hmo
          clear hmo hFl
          by_cases hr0 : rm = 0
          · have hrb : ((rm : Int) != 0) = false := by rw [bne_eq_false_iff_eq]; omega
            have e0 : (tr' || (rm != 0)) = tr' := by rw [hr0]; simp
            rw [e0] at HMO
            clear e0 hr0
            go_wp2
            go_roundg m
            case measure => omega
            case rel => exact ⟨Q, D', tr', by omega, rfl, rfl, rfl, HSU, HD, HC, Lib.hid (fun j hj => HU.out j (by omega)), HMO, Lib.hid HST.out.1⟩
          · have hrb : ((rm : Int) != 0) = true := by rw [bne_iff_ne]; omega
            have e0 : (tr' || (rm != 0)) = true := by simp [hr0]
            rw [e0] at HMO
            have hft := HD.out.free (j := 803) (by omega)
            have hct := HD.out.cT
            clear e0 hr0
            go_wp2
            go_roundg m
            case measure => omega
            case rel => exact ⟨Q, D', true, by omega, rfl, rfl, rfl, HSU, Lib.hid HD.out.setT, Lib.hid (HC.out.set hg _), Lib.hid (fun j hj => HU.out j (by omega)), HMO, Lib.hid HST.out.1⟩
  | false =>
    rw [hp] at HPL
    rw [hp, if_neg (by simp)] at hdl
    obtain rfl : dl = C := by omega
    clear hdl hp
    go_enter Tryd.func81, Tryd.ntmps81
    go_wp2
    go_quiet ((go_at_call 88; exact Calls.quiet_of (HPL.out _ HCELLS)))
    go_wp2
    clear hkc hnI hnI0 hcs' hc1 hc2 HCELLS HPL
    go_loopg [5, 6, 7] ds.length (fun m r wv n wr => ∃ (nn : Nat) (D' : Nat → Nat) (tr' : Bool), m ≤ ds.length ∧ r = .int .i64 ((m : Int) - 1) ∧ wv = .int .i64 ((m : Int) + dl) ∧ n = .int .u64 nn ∧ Hid (nn < 2 ^ k) ∧ Hid (Dec0 wr g D' ds.length dp tr') ∧ Hid (Ctx w0 wr) ∧ Hid (∀ j, j < m → D' j = 48 + ds.getD j 0) ∧ Hid (MemL (lsOut k ds) (m + dl) tr D' tr') ∧ Hid (lsGo k (ds.take m).reverse nn = (lsGo k ds.reverse 0).drop (ds.length - m)))
    case atStart => exact ⟨0, D, tr, Nat.le_refl _, rfl, rfl, rfl, Lib.hid (Nat.two_pow_pos k), Lib.hid (HD0.out.drewN _), Lib.hid (hc.out.drewN _), HDV, Lib.hid (memL_start _ _ _ _ (by rw [HLEN.out]; omega)), Lib.hid (by rw [List.take_length]; simp)⟩
    case round =>
      obtain ⟨nn, D', tr', hm, rfl, rfl, rfl, HNN, HD, HC, HU, HM, HL⟩ := hrel
      rcases gk with _ | m
      · have h0 : decide ((0 : Int) ≤ ((0 : Nat) : Int) - 1) = false := by decide
        have h0' : decide ((0 : Int) ≤ -1) = false := by decide
        have HLE := Lib.hid (show leD nn = (lsGo k ds.reverse 0).drop (ds.length + dl - dl) from by have := HL.out; rw [Nat.add_sub_cancel]; simpa [lsGo] using this)
        have HM0 := Lib.hid (show MemL (lsOut k ds) dl tr D' tr' from by have := HM.out; rwa [Nat.zero_add] at this)
        have HN64 := Lib.hid (show nn < 18446744073709551616 from Nat.lt_of_lt_of_le HNN.out (Nat.le_trans (pow_le60 k hk2) (by decide)))
        clear HL HM HNN HU
        go_wp2
        go_loopg [6, 7] dl (fun p wv n wr => ∃ (nn : Nat) (D' : Nat → Nat) (tr' : Bool), p ≤ ds.length + dl ∧ wv = .int .i64 p ∧ n = .int .u64 nn ∧ Hid (nn < 18446744073709551616) ∧ Hid (Dec0 wr g D' ds.length dp tr') ∧ Hid (Ctx w0 wr) ∧ Hid (MemL (lsOut k ds) p tr D' tr') ∧ Hid (leD nn = (lsGo k ds.reverse 0).drop (ds.length + dl - p)))
        case atStart => exact ⟨nn, D', tr', by omega, by first | rfl | (congr 1; omega), rfl, HN64, HD, HC, HM0, HLE⟩
        case round =>
          clear HN64 HD HC HM0 HLE
          obtain ⟨nn, D', tr', hp, rfl, rfl, HN64, HD, HC, HM, HL⟩ := hrel
          by_cases hn0 : nn = 0
          · subst hn0
            have hgk := lsEnd k gk dl ds HLEN.out HL.out hp hl1
            subst hgk
            have hcn := HD.out.cN
            have hfn := HD.out.free (j := 800) (by omega)
            have hcp := HD.out.cP
            have hfp := HD.out.free (j := 801) (by omega)
            by_cases h8 : 800 ≤ ds.length + dl
            · have h8' : decide ((800 : Int) ≤ (ds.length : Int) + dl) = true := decide_eq_true (by omega)
              obtain ⟨m1, m2, m3⟩ := memL_full HM.out 800 (by rw [HLEN.out]; omega)
              have M1 := Lib.hid m1
              have M2 := Lib.hid m2
              have M3 := Lib.hid m3
              clear m1 m2 m3
              go_wp2_with fail
              refine (trim_any w0 g hg D' 800 (by omega) (dp + dl) tr' M1 _ (Lib.hid (((HD.out.setNv (ds.length + dl) _ (by omega)).setN 800).setP (dp + dl))) (Lib.hid (((HC.out.set hg _).set hg _).set hg _))).mono ?_
              rintro e w' ⟨rfl, hT⟩
              go_wp2
              go_end0
              refine ⟨rfl, ?_⟩
              rw [HSH.out, ← M3.out]
              exact decIs_of_trim hT (by omega) M1.out _ M2.out (fun x hx => HODG.out x (List.mem_of_mem_take hx))
            · have h8' : decide ((800 : Int) ≤ (ds.length : Int) + dl) = false := decide_eq_false (by omega)
              obtain ⟨m1, m2, m3⟩ := memL_full HM.out (ds.length + dl) (by rw [HLEN.out]; omega)
              have M1 := Lib.hid m1
              have M2 := Lib.hid m2
              have M3 := Lib.hid m3
              clear m1 m2 m3
              go_wp2_with fail
              refine (trim_any w0 g hg D' (ds.length + dl) (by omega) (dp + dl) tr' M1 _ (Lib.hid ((HD.out.setNv (ds.length + dl) _ (by omega)).setP (dp + dl))) (Lib.hid ((HC.out.set hg _).set hg _))).mono ?_
              rintro e w' ⟨rfl, hT⟩
              go_wp2
              go_end0
              refine ⟨rfl, ?_⟩
              rw [HSH.out, ← M3.out]
              exact decIs_of_trim hT (by omega) M1.out _ M2.out (fun x hx => HODG.out x (List.mem_of_mem_take hx))
          · have hst2 := lsStep2 k gk nn dl ds HLEN.out hn0 HL.out
            obtain ⟨hp1, hst3⟩ := hst2
            obtain ⟨p, rfl⟩ : ∃ p, gk = p + 1 := ⟨gk - 1, by omega⟩
            obtain ⟨r2, r2', r3, r4⟩ := ls_div nn HN64.out
            have hst4 := hst3 hp
            rw [Nat.add_sub_cancel] at hst4
            have HST := Lib.hid hst4
            have HQ := Lib.hid (show nn / 10 < 18446744073709551616 from Nat.lt_of_le_of_lt (Nat.div_le_self _ _) HN64.out)
            have hr9 : nn % 10 ≤ 9 := by omega
            have hnb : decide ((0 : Int) < (nn : Int)) = true := decide_eq_true (by omega)
            have ew : (p : Int) + 1 - 1 = p := by omega
            clear hst3 hst4 HL
            generalize 10 * (nn / 10) = T at *
            generalize nn / 10 = Q at *
            generalize nn % 10 = rm at *
            by_cases hw : p < 800
            · have hfr := HD.out.free (j := p) (by omega)
              have hcw := HD.out.cD (j := p) (by omega)
              have hw1 : (p : Int) < 800 := by omega
              go_wp2
              go_roundg p
              case measure => omega
              case rel => exact ⟨Q, (fun j => if j = p then rm + 48 else D' j), tr', by omega, rfl, rfl, HQ, Lib.hid (HD.out.setDv hw (rm + 48) _ (by omega)), Lib.hid (HC.out.set hg _), Lib.hid (memL_in HM.out hw _ (by rw [← HST.out.2, Nat.add_comm])), Lib.hid HST.out.1⟩
            · have hw1 : ¬ ((p : Int) < 800) := by omega
              have hFl : p < (lsOut k ds).length := by rw [HLEN.out]; omega
              have hmo := memL_out HM.out (by omega) hFl
              rw [← HST.out.2] at hmo
              have HMO := Lib.hid hmo
              clear hmo hFl
              by_cases hr0 : rm = 0
              · have hrb : ((rm : Int) != 0) = false := by rw [bne_eq_false_iff_eq]; omega
                have e0 : (tr' || (rm != 0)) = tr' := by rw [hr0]; simp
                rw [e0] at HMO
                clear e0 hr0
                go_wp2
                go_roundg p
                case measure => omega
                case rel => exact ⟨Q, D', tr', by omega, rfl, rfl, HQ, HD, HC, HMO, Lib.hid HST.out.1⟩
              · have hrb : ((rm : Int) != 0) = true := by rw [bne_iff_ne]; omega
                have e0 : (tr' || (rm != 0)) = true := by simp [hr0]
                rw [e0] at HMO
                have hft := HD.out.free (j := 803) (by omega)
                have hct := HD.out.cT
                clear e0 hr0
                go_wp2
                go_roundg p
                case measure => omega
                case rel => exact ⟨Q, D', true, by omega, rfl, rfl, HQ, Lib.hid HD.out.setT, Lib.hid (HC.out.set hg _), HMO, Lib.hid HST.out.1⟩
      · have hd9 := dig_at ds HDG.out m
        have hDm := HU.out m (by omega)
        have hcd := HD.out.cD (j := m) (by omega)
        rw [hDm] at hcd
        have hstep := lsStep k m nn dl ds (by omega) HLEN.out HL.out
        have hsum := (ls_sum nn _ k hk2 hd9 HNN.out).2
        have hnums := lsNums nn _ k hk2 hd9 HNN.out
        generalize ds.getD m 0 = dg at *
        generalize nn + dg * 2 ^ k = N at *
        have HST := Lib.hid hstep
        have HSU := Lib.hid hsum
        clear hstep hsum hDm
        obtain ⟨r1, r2, r2', r3, r4, _, _⟩ := hnums
        have hr9 : N % 10 ≤ 9 := by omega
        generalize 10 * (N / 10) = T at *
        generalize N / 10 = Q at *
        generalize N % 10 = rm at *
        have ew : (m : Int) + 1 + dl - 1 = (m : Int) + dl := by omega
        have HM' := Lib.hid (show MemL (lsOut k ds) (m + dl + 1) tr D' tr' from by have := HM.out; rwa [show m + 1 + dl = m + dl + 1 by omega] at this)
        clear HM
        by_cases hw : m + dl < 800
        · have hw1 : (m : Int) + dl < 800 := by omega
          have hfr := HD.out.free (j := m + dl) (by omega)
          have hcw := HD.out.cD (j := m + dl) (by omega)
          go_wp2
          go_roundg m
          case measure => omega
          case rel => exact ⟨Q, (fun j => if j = m + dl then rm + 48 else D' j), tr', by omega, rfl, rfl, rfl, HSU, Lib.hid (HD.out.setDv hw (rm + 48) _ (by omega)), Lib.hid (HC.out.set hg _), Lib.hid (fun j hj => (if_neg (show ¬ (j = m + dl) by omega)).trans (HU.out j (by omega))), Lib.hid (memL_in HM'.out hw _ (by rw [← HST.out.2, Nat.add_comm])), Lib.hid HST.out.1⟩
        · have hw1 : ¬ ((m : Int) + dl < 800) := by omega
          have hFl : m + dl < (lsOut k ds).length := by rw [HLEN.out]; omega
          have hmo := memL_out HM'.out (by omega) hFl
          rw [← HST.out.2] at hmo
          have HMO := Lib.hid hmo
          clear hmo hFl
          by_cases hr0 : rm = 0
          · have hrb : ((rm : Int) != 0) = false := by rw [bne_eq_false_iff_eq]; omega
            have e0 : (tr' || (rm != 0)) = tr' := by rw [hr0]; simp
            rw [e0] at HMO
            clear e0 hr0
            go_wp2
            go_roundg m
            case measure => omega
            case rel => exact ⟨Q, D', tr', by omega, rfl, rfl, rfl, HSU, HD, HC, Lib.hid (fun j hj => HU.out j (by omega)), HMO, Lib.hid HST.out.1⟩
          · have hrb : ((rm : Int) != 0) = true := by rw [bne_iff_ne]; omega
            have e0 : (tr' || (rm != 0)) = true := by simp [hr0]
            rw [e0] at HMO
            have hft := HD.out.free (j := 803) (by omega)
            have hct := HD.out.cT
            clear e0 hr0
            go_wp2
            go_roundg m
            case measure => omega
            case rel => exact ⟨Q, D', true, by omega, rfl, rfl, rfl, HSU, Lib.hid HD.out.setT, Lib.hid (HC.out.set hg _), Lib.hid (fun j hj => HU.out j (by omega)), HMO, Lib.hid HST.out.1⟩
end Go.Proofs.YthhepfjjmilcnaaDoor
