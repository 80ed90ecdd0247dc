/- The walk of lex.number. -/
import Derived.Test.YthhepfjjmilcnaaDoorParf
import Derived.Test.YthhepfjjmilcnaaDoorPord
import Derived.Test.YthhepfjjmilcnaaDoorLexA
import Derived.Test.YthhepfjjmilcnaaDoorLexB
import Derived.Test.YthhepfjjmilcnaaDoorPkw
namespace Go.Proofs.YthhepfjjmilcnaaDoor
open Go.RowKit Lx Fl
theorem run_enter {P : Program} {f : FuncId} {fn : Func} {c : Code} (hf : P.funcs[f]? = some fn) (hname : (fn.name == "runtime.NumGoroutine") = false) (hb : fn.body = some c) (args : Array Value) (w : World) : (callFunc f args).run P w = .ok (.enter f args) w := by
  have h1 : fn.name ≠ "runtime.NumGoroutine" := by simpa using hname
  simp [callFunc, hf, h1, hb]
theorem eg_digit : ∀ args w, (callFunc 14 args).run Tryd.prog w = .ok (.enter 14 args) w := fun args w =>
  run_enter Tryd.func14 (by kernel_rfl) rfl args w
/-- a word in memory -/
def tokF (k : Int) (u : ByteArray) (a : Int) (j : Nat) : Value := if j = 0 then .int .i64 k else if j = 1 then .string u else .int .i64 a
theorem tok_new (w : World) (k : Int) (u : ByteArray) (a : Int) : RowF (w.alloc (.cells #[.int .i64 k, .string u, .int .i64 a] 29)) w.heap.size 3 (tokF k u a) := fun j hj => by
  refine ⟨?_, World.frozen?_alloc_at _ _ _ _ rfl⟩
  rw [World.cell?_alloc_at _ _ _ _ rfl]
  rcases j with _ | _ | _ | j
  · rfl
  · rfl
  · rfl
  · omega
theorem digits_span (s : ByteArray) (w : World) (hs : s.size ≤ 9223372036854775807) : Calls Tryd.prog 9 #[.string s, .func (.func 14) #[] #[]] w fun e w' => e = .returned (.int .i64 (spanN digitB s.data.toList)) ∧ Below w.heap.size w w' :=
  span_any 14 digitB digit_any digitB_high eg_digit s w hs
theorem tokBel {w w1 : World} (h : Below w.heap.size w w1) (a b c : Value) : Below w.heap.size w (((w1.setCell ⟨w.heap.size, 0, none⟩ a).setCell ⟨w.heap.size, 1, none⟩ b).setCell ⟨w.heap.size, 2, none⟩ c) :=
  ((h.setCell (Nat.le_refl _) a).setCell (Nat.le_refl _) b).setCell (Nat.le_refl _) c
/-- a word as a value -/
def tokV (k : Int) (u : ByteArray) (a : Int) : Value := .agg #[.int .i64 k, .string u, .int .i64 a]
def badR (t : List UInt8) : Bool := (afBits t).2 || !(FloatKind.f64.format.order (afBits t).1 4831355200913801216 == some .lt)
def max19 : List UInt8 := [57, 50, 50, 51, 51, 55, 50, 48, 51, 54, 56, 53, 52, 55, 55, 53, 56, 48, 55]
def gt19 (t : List UInt8) : Bool := !Op.bytesLess t max19 && !(t == max19)
theorem toList_loop (b : ByteArray) : ∀ (m i : Nat) (r : List UInt8), b.size - i = m → ByteArray.toList.loop b i r = r.reverse ++ b.data.toList.drop i := by
  intro m
  induction m with
  | zero =>
    intro i r h
    rw [ByteArray.toList.loop, if_neg (by omega), List.drop_eq_nil_of_le (by rw [list_size]; omega)]
    simp
  | succ m ih =>
    intro i r h
    have hi : i < b.size := by omega
    rw [ByteArray.toList.loop, if_pos hi, ih (i + 1) _ (by omega)]
    rw [List.drop_eq_getElem_cons (show i < b.data.toList.length by rw [list_size]; exact hi)]
    have e : b.get! i = b.data.toList[i]'(by rw [list_size]; exact hi) := by
      exact getElem!_pos b.data i hi
    rw [e]
    simp
theorem toList_eq (b : ByteArray) : b.toList = b.data.toList := by
  rw [ByteArray.toList, toList_loop b b.size 0 [] (by omega)]
  rfl
/-- the number at the beginning of a text: its kind and signs, how many bytes, the error -/
def numP (l : List UInt8) : (Int × List UInt8) × Nat × Int :=
  if 1 < spanN digitB l ∧ (l.getD 0 0).toNat = 48 then ((0, []), 0, 7)
  else if (l.getD (spanN digitB l) 0).toNat = 46 ∧ 0 < spanN digitB (l.drop (spanN digitB l + 1)) then
    if badR (l.take (spanN digitB l + (1 + spanN digitB (l.drop (spanN digitB l + 1))))) = true then ((0, []), 0, 4)
    else ((4, l.take (spanN digitB l + (1 + spanN digitB (l.drop (spanN digitB l + 1))))), spanN digitB l + (1 + spanN digitB (l.drop (spanN digitB l + 1))), 0)
  else if 19 < spanN digitB l ∨ spanN digitB l = 19 ∧ gt19 (l.take (spanN digitB l)) = true then ((0, []), 0, 4)
  else ((3, l.take (spanN digitB l)), spanN digitB l, 0)
def WordPost (r : (Int × List UInt8) × Nat × Int) (w : World) (e : Ending) (w' : World) : Prop :=
  e = .returned (.tuple #[tokV r.1.1 ⟨r.1.2.toArray⟩ 0, .int .i64 r.2.1, .int .i64 r.2.2]) ∧ Below w.heap.size w w'
def NumPost (s : ByteArray) (w : World) : Ending → World → Prop := WordPost (numP s.data.toList) w
theorem ext_drop (s : ByteArray) (n : Nat) : (s.extract n s.size).data.toList = s.data.toList.drop n := by
  rw [ByteArray.data_extract, Array.toList_extract]
  simp only [List.extract]
  exact List.take_of_length_le (by rw [List.length_drop, list_size]; exact Nat.le_refl _)
theorem ext_take (s : ByteArray) (n : Nat) : (s.extract 0 n).data.toList = s.data.toList.take n := by
  rw [ByteArray.data_extract, Array.toList_extract]
  simp [List.extract]
theorem spanN_digit (B : Int → Bool) : ∀ (l : List UInt8) (j : Nat), j < spanN B l → B (l.getD j 0).toNat = true
  | [], j, h => by rw [spanN_nil] at h; omega
  | c :: l, j, h => by
    rw [spanN_cons] at h
    split at h
    · rename_i hc
      cases j with
      | zero => exact hc
      | succ j => exact spanN_digit B l j (by omega)
    · omega
theorem digitB_iff (c : Nat) : digitB c = true ↔ 48 ≤ c ∧ c ≤ 57 := by
  simp only [digitB, Bool.and_eq_true, decide_eq_true_eq]
  omega
/-- digits, a point, digits: the text that is read -/
theorem isReal_take (l : List UInt8) (n M : Nat) (hn : spanN digitB l = n) (h0 : 1 ≤ n) (hd : (l.getD n 0).toNat = 46) (hM : spanN digitB (l.drop (n + 1)) = M) (h1 : 1 ≤ M) : IsReal (l.take (n + (1 + M))) n := by
  rw [show n + (1 + M) = n + 1 + M by omega]
  have hle := spanN_le digitB (l.drop (n + 1))
  rw [List.length_drop] at hle
  have hlen : (l.take (n + 1 + M)).length = n + 1 + M := by rw [List.length_take]; omega
  have hget : ∀ j, j < n + 1 + M → (l.take (n + 1 + M)).getD j 0 = l.getD j 0 := fun j hj => by
    rw [List.getD_eq_getElem?_getD, List.getD_eq_getElem?_getD, List.getElem?_take_of_lt hj]
  refine ⟨h0, by omega, fun j hj hne => ?_, by rw [hget n (by omega)]; exact hd⟩
  rw [hlen] at hj
  rw [hget j hj]
  rcases Nat.lt_or_ge j n with h | h
  · exact (digitB_iff _).1 (spanN_digit digitB l j (by omega))
  · have := spanN_digit digitB (l.drop (n + 1)) (j - (n + 1)) (by omega)
    rw [List.getD_eq_getElem?_getD, List.getElem?_drop, show n + 1 + (j - (n + 1)) = j by omega, ← List.getD_eq_getElem?_getD] at this
    exact (digitB_iff _).1 this
theorem FltLaid.below {w w' : World} (h : FltLaid w) (hb : Below w.heap.size w w') : FltLaid w' := by
  obtain ⟨a, b, c, d, e, ⟨b1, o1, c1, f1, f2⟩, ⟨b2, o2, c2, g1, g2⟩, ⟨b3, o3, c3, k1, k2⟩⟩ := h
  exact ⟨fun i hi => ⟨below_cellS hb (a i hi).1, below_cellS hb (a i hi).2⟩, below_cellS hb b, below_cellS hb c, below_cellS hb d, below_cellS hb e,
    ⟨b1, o1, c1, below_cellS hb f1, fun i hi => below_cellS hb (f2 i hi)⟩, ⟨b2, o2, c2, below_cellS hb g1, fun i hi => below_cellS hb (g2 i hi)⟩,
    ⟨b3, o3, c3, below_cellS hb k1, fun i hi => ⟨below_cellS hb (k2 i hi).1, below_cellS hb (k2 i hi).2⟩⟩⟩
theorem ErrAt.below {w w' : World} (h : ErrAt w) (hb : Below w.heap.size w w') : ErrAt w' := by
  obtain ⟨ev, h1, h2⟩ := h
  exact ⟨ev, below_cellS hb h1, h2⟩
theorem spanN_pos (B : Int → Bool) (l : List UInt8) (h0 : 0 < l.length) (h : B (l.getD 0 0).toNat = true) : 1 ≤ spanN B l := by
  cases l with
  | nil => simp at h0
  | cons c l =>
    have h' : B c.toNat = true := h
    rw [spanN_cons, if_pos h']
    omega
theorem dot_prefix (l : List UInt8) (n : Nat) (h : n ≤ l.length) : Lib.hasPrefix (l.drop n) [46] = decide ((l.getD n 0).toNat = 46) := by
  rw [List.getD_eq_getElem?_getD]
  rcases Nat.lt_or_ge n l.length with h1 | h1
  · rw [List.drop_eq_getElem_cons h1, List.getElem?_eq_getElem h1]
    unfold Lib.hasPrefix
    rw [List.isPrefixOf_cons_cons]
    have e1 : [].isPrefixOf (l.drop (n + 1)) = true := by cases l.drop (n + 1) <;> rfl
    rw [e1, Bool.and_true]
    rw [Bool.eq_iff_iff, beq_iff_eq, decide_eq_true_iff]
    simp only [Option.getD_some]
    constructor
    · intro e; rw [← e]; rfl
    · intro e; exact (UInt8.toNat_inj.1 (e.trans (by rfl : 46 = (46 : UInt8).toNat))).symm
  · rw [List.drop_eq_nil_of_le h1, List.getElem?_eq_none h1]
    decide
set_option maxHeartbeats 1600000 in
set_option maxRecDepth 100000 in
theorem number_any (s : ByteArray) (hs : s.size ≤ 1000000) (p0 : 0 < s.size) (hd0 : digitB (s[0]'p0).toNat = true) (w : World) (hL : Hid (FltLaid w)) (hE : Hid (ErrAt w)) :
    Calls Tryd.prog 16 #[.string s] w (NumPost s w) := by
  have hn1 := spanN_pos digitB s.data.toList (by rw [list_size]; exact p0) (by rw [← byte_at s 0 p0]; exact hd0)
  clear hd0
  go_enter Tryd.func16, Tryd.ntmps16
  go_wp2_with fail
  have hR := tok_new w 0 ⟨#[]⟩ 0
  have hbel : Below w.heap.size w (w.alloc (.cells #[.int .i64 0, .string ⟨#[]⟩, .int .i64 0] 29)) := Below.alloc (Below.refl _ _) (Nat.le_refl _) _
  have hlt : w.heap.size < (w.alloc (.cells #[.int .i64 0, .string ⟨#[]⟩, .int .i64 0] 29)).heap.size := by simp
  generalize w.alloc (.cells #[.int .i64 0, .string ⟨#[]⟩, .int .i64 0] 29) = W at *
  have HR := Lib.hid hR
  have HBEL := Lib.hid hbel
  clear hR hbel
  refine (digits_span s _ (by omega)).mono ?_
  rintro e w1 ⟨rfl, hb⟩
  have HB := Lib.hid hb
  clear hb
  have hR1 := HR.out.below HB.out hlt
  have hc0 := hR1.cell (j := 0) (by decide)
  have hc1 := hR1.cell (j := 1) (by decide)
  have hc2 := hR1.cell (j := 2) (by decide)
  have hf0 := hR1.free (j := 0) (by decide)
  have hf1 := hR1.free (j := 1) (by decide)
  have hf2 := hR1.free (j := 2) (by decide)
  have HR1 := Lib.hid hR1
  clear hR1
  have hn := spanN_le digitB s.data.toList
  rw [list_size] at hn
  obtain ⟨n, hN⟩ : ∃ n, spanN digitB s.data.toList = n := ⟨_, rfl⟩
  rw [hN] at hn hn1 ⊢
  by_cases hform : 1 < n ∧ (s[0]'p0).toNat = 48
  · obtain ⟨hfo1, hfo2⟩ := hform
    have HP := Lib.hid (show numP s.data.toList = ((0, []), 0, 7) from by
      rw [numP, hN, if_pos ⟨hfo1, by rw [← hfo2, byte_at]⟩])
    go_wp2
    refine bodyPost_ret (v := .tuple #[tokV 0 ⟨#[]⟩ 0, .int .i64 0, .int .i64 7]) (by simp [results, Tryd.results16, go_sem, tokV, *]) rfl ⟨?_, ?_⟩
    · rw [HP.out]; rfl
    · exact tokBel (below_then' HBEL.out HBEL.out.size HB.out) _ _ _
  · have hfa : 1 < n → (((s[0]'p0).toNat : Int) == 48) = false := fun h => by rw [beq_eq_false_iff_ne]; intro e; exact hform ⟨h, by omega⟩
    have hnI : (n : Int) ≤ s.size := by omega
    have hTd := ext_drop s n
    have hpre := dot_prefix s.data.toList n (by rw [list_size]; omega)
    have HTD := Lib.hid hTd
    have HPRE := Lib.hid hpre
    clear hTd hpre
    by_cases h1n : 1 < n
    all_goals
      first | (have hfb := hfa h1n) | skip
      clear hfa
      go_wp2_with fail
      refine (Tryd.strings_TrimPrefix _ _ _).mono ?_
      rintro e w1 ⟨rfl, rfl⟩
      obtain ⟨T, hT⟩ : ∃ T : ByteArray, (⟨(Lib.trimPrefix (s.extract n s.size).data.toList (⟨#[46]⟩ : ByteArray).data.toList).toArray⟩ : ByteArray) = T := ⟨_, rfl⟩
      have hTl : T.data.toList = Lib.trimPrefix (s.data.toList.drop n) [46] := by rw [← hT, HTD.out]
      rw [hT]
      have HTL := Lib.hid hTl
      clear hT hTl
      have hTs : T.size ≤ s.size := by
        rw [← list_size, HTL.out, Lib.trimPrefix]
        split <;> simp
      go_wp2_with fail
      refine (digits_span T _ (by omega)).mono ?_
      rintro e w2 ⟨rfl, hb⟩
      have HB2 := Lib.hid hb
      clear hb hc0 hc1 hc2 hf0 hf1 hf2
      have hlt1 := Nat.lt_of_lt_of_le hlt HB.out.size
      have hR2 := HR1.out.below HB2.out hlt1
      have hc0 := hR2.cell (j := 0) (by decide)
      have hc1 := hR2.cell (j := 1) (by decide)
      have hc2 := hR2.cell (j := 2) (by decide)
      have hf0 := hR2.free (j := 0) (by decide)
      have hf1 := hR2.free (j := 1) (by decide)
      have hf2 := hR2.free (j := 2) (by decide)
      have HR2 := Lib.hid hR2
      have HBL := Lib.hid (below_then' (below_then' HBEL.out HBEL.out.size HB.out) (Nat.le_of_lt hlt1) HB2.out)
      clear hR2
      obtain ⟨M, hM⟩ : ∃ M, spanN digitB T.data.toList = M := ⟨_, rfl⟩
      have hMT := spanN_le digitB T.data.toList
      rw [list_size, hM] at hMT
      rw [hM]
      go_wp2_with fail
      refine (Tryd.strings_HasPrefix _ _ _).mono ?_
      rintro e w2 ⟨rfl, rfl⟩
      rw [HTD.out, show (⟨#[46]⟩ : ByteArray).data.toList = [46] from rfl, HPRE.out]
      by_cases hdot : (s.data.toList.getD n 0).toNat = 46 ∧ 0 < M
      · obtain ⟨hd1, hd2⟩ := hdot
        have hdb : decide ((s.data.toList.getD n 0).toNat = 46) = true := decide_eq_true hd1
        rw [hdb]
        have hMb : decide ((0 : Int) < (M : Int)) = true := decide_eq_true (by omega)
        have hMI : (0 : Int) < (M : Int) := by omega
        have hTe : T.data.toList = s.data.toList.drop (n + 1) := by
          rw [HTL.out, Lib.trimPrefix, HPRE.out, hdb, if_pos rfl, List.drop_drop]
          rfl
        have hM2 : spanN digitB (s.data.toList.drop (n + 1)) = M := by rw [← hTe, hM]
        have hsz : n + (1 + M) ≤ s.size := by
          have h1 := spanN_le digitB (s.data.toList.drop (n + 1))
          rw [List.length_drop, list_size, hM2] at h1
          omega
        have hszI : (n : Int) + (1 + (M : Int)) ≤ s.size := by omega
        have hreal : IsReal (s.extract 0 (n + (1 + M))).data.toList n := by rw [ext_take]; exact isReal_take _ n M hN hn1 hd1 hM2 hd2
        have HREAL := Lib.hid hreal
        have HX := Lib.hid (ext_take s (n + (1 + M)))
        have HP := Lib.hid (show numP s.data.toList = (if badR (s.data.toList.take (n + (1 + M))) = true then ((0, []), 0, 4) else ((4, s.data.toList.take (n + (1 + M))), n + (1 + M), 0)) from by
          rw [numP, hN, if_neg (by rw [← byte_at s 0 p0]; exact hform), hM2, if_pos ⟨hd1, hd2⟩])
        have hxs : (s.extract 0 (n + (1 + M))).size ≤ 1000000 := by rw [ByteArray.size_extract]; omega
        have hord := Lib.hid (af_ord (s.data.toList.take (n + (1 + M))) n (isReal_take _ n M hN hn1 hd1 hM2 hd2))
        clear hTe hM2 hreal
        go_wp2_with fail
        refine (pf_any _ n HREAL hxs _ (Lib.hid (hL.out.below HBL.out)) (Lib.hid (hE.out.below HBL.out))).mono ?_
        rintro e w3 ⟨⟨v, rfl, hv⟩, hb⟩
        have HB3 := Lib.hid hb
        clear hb hc0 hc1 hc2 hf0 hf1 hf2
        have hlt2 := Nat.lt_of_lt_of_le hlt1 HB2.out.size
        have hR2 := HR2.out.below HB3.out hlt2
        have hc0 := hR2.cell (j := 0) (by decide)
        have hc1 := hR2.cell (j := 1) (by decide)
        have hc2 := hR2.cell (j := 2) (by decide)
        have hf0 := hR2.free (j := 0) (by decide)
        have hf1 := hR2.free (j := 1) (by decide)
        have hf2 := hR2.free (j := 2) (by decide)
        have HBL3 := Lib.hid (below_then' HBL.out (Nat.le_of_lt hlt2) HB3.out)
        clear hR2
        rw [HX.out] at hv ⊢
        generalize s.data.toList.take (n + (1 + M)) = t at *
        cases hov : (afBits t).2 with
        | true =>
          rw [hov] at hv
          obtain ⟨N, rfl⟩ : ∃ N, v = .iface 59 (.pointer (some ⟨N, 0, none⟩)) := hv
          have HP2 := Lib.hid (show numP s.data.toList = ((0, []), 0, 4) from by rw [HP.out, if_pos (by rw [badR, hov]; rfl)])
          clear hov
          go_wp2
          refine bodyPost_ret (v := .tuple #[tokV 0 ⟨#[]⟩ 0, .int .i64 0, .int .i64 4]) (by simp [results, Tryd.results16, go_sem, tokV, *]) rfl ⟨?_, ?_⟩
          · rw [HP2.out] <;> rfl
          · exact tokBel HBL3.out _ _ _
        | false =>
          rw [hov] at hv
          obtain rfl : v = .nilIface := hv
          obtain ⟨o, ho⟩ := hord.out
          have hbad : badR t = !(o == .lt) := by rw [badR, hov, ho]; cases o <;> rfl
          have hge : (FloatKind.f64.format.order (afBits t).1 4831355200913801216 == some Ordering.gt || FloatKind.f64.format.order (afBits t).1 4831355200913801216 == some Ordering.eq) = badR t := by rw [hbad, ho]; cases o <;> rfl
          clear ho hbad hov
          cases hbt : badR t with
          | true =>
            rw [hbt] at hge
            have HP2 := Lib.hid (show numP s.data.toList = ((0, []), 0, 4) from by rw [HP.out, if_pos hbt])
            clear hbt
            go_wp2
            refine bodyPost_ret (v := .tuple #[tokV 0 ⟨#[]⟩ 0, .int .i64 0, .int .i64 4]) (by simp [results, Tryd.results16, go_sem, tokV, *]) rfl ⟨?_, ?_⟩
            · rw [HP2.out] <;> rfl
            · exact tokBel HBL3.out _ _ _
          | false =>
            rw [hbt] at hge
            have HP2 := Lib.hid (show numP s.data.toList = ((4, t), n + (1 + M), 0) from by rw [HP.out, if_neg (by rw [hbt]; simp)])
            have hX : s.extract 0 (n + (1 + M)) = ⟨t.toArray⟩ := by
              apply ByteArray.ext
              rw [← HX.out, Array.toArray_toList]
            have HXE := Lib.hid hX
            clear hbt hX
            go_wp2
            refine bodyPost_ret (v := .tuple #[tokV 4 (s.extract 0 (n + (1 + M))) 0, .int .i64 ((n : Int) + (1 + (M : Int))), .int .i64 0]) (by simp [results, Tryd.results16, go_sem, tokV, *]) rfl ⟨?_, ?_⟩
            · rw [HP2.out, HXE.out] <;> rfl
            · exact tokBel HBL3.out _ _ _
      · have hdd : decide ((s.data.toList.getD n 0).toNat = 46) = true → decide ((0 : Int) < (M : Int)) = false := fun h => decide_eq_false (fun h2 => hdot ⟨of_decide_eq_true h, by omega⟩)
        have HP := Lib.hid (show numP s.data.toList = (if 19 < n ∨ n = 19 ∧ gt19 (s.data.toList.take n) = true then ((0, []), 0, 4) else ((3, s.data.toList.take n), n, 0)) from by
          rw [numP, hN, if_neg (by rw [← byte_at s 0 p0]; exact hform), if_neg]
          rintro ⟨h1, h2⟩
          apply hdot
          refine ⟨h1, ?_⟩
          have hTe : T.data.toList = s.data.toList.drop (n + 1) := by
            rw [HTL.out, Lib.trimPrefix, HPRE.out, decide_eq_true h1, if_pos rfl, List.drop_drop]
            rfl
          rw [← hM, hTe]
          exact h2)
        clear hdot
        cases hdb : decide ((s.data.toList.getD n 0).toNat = 46) with
        | true =>
          have hM0 : M = 0 := by
            have h1 := of_decide_eq_false (hdd hdb)
            omega
          subst hM0
          clear hdd hdb
          have HTK := Lib.hid (show (s.extract 0 n).toList = s.data.toList.take n from by rw [toList_eq, ext_take])
          have HXE := Lib.hid (show s.extract 0 n = ⟨(s.data.toList.take n).toArray⟩ from by
            apply ByteArray.ext
            rw [← ext_take]
            first | done | simp)
          by_cases h19 : 19 < n
          · have hb1 : decide ((19 : Int) < n) = true := decide_eq_true (by omega)
            have hb2 : (19 : Int) < n := by omega
            have HP2 := Lib.hid (show numP s.data.toList = ((0, []), 0, 4) from by rw [HP.out, if_pos (.inl h19)])
            first
              | (exfalso; omega)
              | (go_wp2_with fail
                 all_goals
                   refine bodyPost_ret (v := .tuple #[tokV 0 ⟨#[]⟩ 0, .int .i64 0, .int .i64 4]) (by simp [results, Tryd.results16, go_sem, tokV, *]) rfl ⟨?_, ?_⟩
                   · rw [HP2.out] <;> rfl
                   · exact tokBel HBL.out _ _ _)
          · by_cases h20 : n = 19
            · subst h20
              by_cases hg : gt19 (s.data.toList.take 19) = true
              · have HP2 := Lib.hid (show numP s.data.toList = ((0, []), 0, 4) from by rw [HP.out, if_pos (.inr ⟨rfl, hg⟩)])
                have hg2 : (!Op.bytesLess (s.extract 0 19).toList [57, 50, 50, 51, 51, 55, 50, 48, 51, 54, 56, 53, 52, 55, 55, 53, 56, 48, 55] && !((s.extract 0 19).toList == [57, 50, 50, 51, 51, 55, 50, 48, 51, 54, 56, 53, 52, 55, 55, 53, 56, 48, 55])) = true := by rw [HTK.out]; exact hg
                have hg3 := (Bool.and_eq_true_iff).1 hg2
                obtain ⟨hg4, hg5⟩ := hg3
                clear hg hg2
                first
                  | (exfalso; omega)
                  | (go_wp2_with fail
                     all_goals
                       refine bodyPost_ret (v := .tuple #[tokV 0 ⟨#[]⟩ 0, .int .i64 0, .int .i64 4]) (by simp [results, Tryd.results16, go_sem, tokV, *]) rfl ⟨?_, ?_⟩
                       · rw [HP2.out] <;> rfl
                       · exact tokBel HBL.out _ _ _)
              · have HP2 := Lib.hid (show numP s.data.toList = ((3, s.data.toList.take 19), 19, 0) from by rw [HP.out, if_neg (by rintro (h | h); exact h19 h; exact hg h.2)])
                have hg2 : (!Op.bytesLess (s.extract 0 19).toList [57, 50, 50, 51, 51, 55, 50, 48, 51, 54, 56, 53, 52, 55, 55, 53, 56, 48, 55] && !((s.extract 0 19).toList == [57, 50, 50, 51, 51, 55, 50, 48, 51, 54, 56, 53, 52, 55, 55, 53, 56, 48, 55])) = false := by rw [HTK.out]; exact (by simpa using hg : gt19 (s.data.toList.take 19) = false)
                clear hg
                first
                  | (exfalso; omega)
                  | (go_wp2_with fail
                     all_goals
                       refine bodyPost_ret (v := .tuple #[tokV 3 (s.extract 0 19) 0, .int .i64 19, .int .i64 0]) (by simp [results, Tryd.results16, go_sem, tokV, *]) rfl ⟨?_, ?_⟩
                       · rw [HP2.out, HXE.out] <;> rfl
                       · exact tokBel HBL.out _ _ _)
            · have HP2 := Lib.hid (show numP s.data.toList = ((3, s.data.toList.take n), n, 0) from by rw [HP.out, if_neg (by rintro (h | h); exact h19 h; exact h20 h.1)])
              have hb1 : ¬ ((19 : Int) < n) := by omega
              have hb2 : ((n : Int) == 19) = false := by rw [beq_eq_false_iff_ne]; omega
              have hb3 : ¬ ((n : Int) = 19) := by omega
              first
                | (exfalso; omega)
                | (go_wp2_with fail
                   all_goals
                     refine bodyPost_ret (v := .tuple #[tokV 3 (s.extract 0 n) 0, .int .i64 n, .int .i64 0]) (by simp [results, Tryd.results16, go_sem, tokV, *]) rfl ⟨?_, ?_⟩
                     · rw [HP2.out, HXE.out] <;> rfl
                     · exact tokBel HBL.out _ _ _)
        | false =>
          clear hdd hdb
          have HTK := Lib.hid (show (s.extract 0 n).toList = s.data.toList.take n from by rw [toList_eq, ext_take])
          have HXE := Lib.hid (show s.extract 0 n = ⟨(s.data.toList.take n).toArray⟩ from by
            apply ByteArray.ext
            rw [← ext_take]
            first | done | simp)
          by_cases h19 : 19 < n
          · have hb1 : decide ((19 : Int) < n) = true := decide_eq_true (by omega)
            have hb2 : (19 : Int) < n := by omega
            have HP2 := Lib.hid (show numP s.data.toList = ((0, []), 0, 4) from by rw [HP.out, if_pos (.inl h19)])
            first
              | (exfalso; omega)
              | (go_wp2_with fail
                 all_goals
                   refine bodyPost_ret (v := .tuple #[tokV 0 ⟨#[]⟩ 0, .int .i64 0, .int .i64 4]) (by simp [results, Tryd.results16, go_sem, tokV, *]) rfl ⟨?_, ?_⟩
                   · rw [HP2.out] <;> rfl
                   · exact tokBel HBL.out _ _ _)
          · by_cases h20 : n = 19
            · subst h20
              by_cases hg : gt19 (s.data.toList.take 19) = true
              · have HP2 := Lib.hid (show numP s.data.toList = ((0, []), 0, 4) from by rw [HP.out, if_pos (.inr ⟨rfl, hg⟩)])
                have hg2 : (!Op.bytesLess (s.extract 0 19).toList [57, 50, 50, 51, 51, 55, 50, 48, 51, 54, 56, 53, 52, 55, 55, 53, 56, 48, 55] && !((s.extract 0 19).toList == [57, 50, 50, 51, 51, 55, 50, 48, 51, 54, 56, 53, 52, 55, 55, 53, 56, 48, 55])) = true := by rw [HTK.out]; exact hg
                have hg3 := (Bool.and_eq_true_iff).1 hg2
                obtain ⟨hg4, hg5⟩ := hg3
                clear hg hg2
                first
                  | (exfalso; omega)
                  | (go_wp2_with fail
                     all_goals
                       refine bodyPost_ret (v := .tuple #[tokV 0 ⟨#[]⟩ 0, .int .i64 0, .int .i64 4]) (by simp [results, Tryd.results16, go_sem, tokV, *]) rfl ⟨?_, ?_⟩
                       · rw [HP2.out] <;> rfl
                       · exact tokBel HBL.out _ _ _)
              · have HP2 := Lib.hid (show numP s.data.toList = ((3, s.data.toList.take 19), 19, 0) from by rw [HP.out, if_neg (by rintro (h | h); exact h19 h; exact hg h.2)])
                have hg2 : (!Op.bytesLess (s.extract 0 19).toList [57, 50, 50, 51, 51, 55, 50, 48, 51, 54, 56, 53, 52, 55, 55, 53, 56, 48, 55] && !((s.extract 0 19).toList == [57, 50, 50, 51, 51, 55, 50, 48, 51, 54, 56, 53, 52, 55, 55, 53, 56, 48, 55])) = false := by rw [HTK.out]; exact (by simpa using hg : gt19 (s.data.toList.take 19) = false)
                clear hg
                first
                  | (exfalso; omega)
                  | (go_wp2_with fail
                     all_goals
                       refine bodyPost_ret (v := .tuple #[tokV 3 (s.extract 0 19) 0, .int .i64 19, .int .i64 0]) (by simp [results, Tryd.results16, go_sem, tokV, *]) rfl ⟨?_, ?_⟩
                       · rw [HP2.out, HXE.out] <;> rfl
                       · exact tokBel HBL.out _ _ _)
            · have HP2 := Lib.hid (show numP s.data.toList = ((3, s.data.toList.take n), n, 0) from by rw [HP.out, if_neg (by rintro (h | h); exact h19 h; exact h20 h.1)])
              have hb1 : ¬ ((19 : Int) < n) := by omega
              have hb2 : ((n : Int) == 19) = false := by rw [beq_eq_false_iff_ne]; omega
              have hb3 : ¬ ((n : Int) = 19) := by omega
              first
                | (exfalso; omega)
                | (go_wp2_with fail
                   all_goals
                     refine bodyPost_ret (v := .tuple #[tokV 3 (s.extract 0 n) 0, .int .i64 n, .int .i64 0]) (by simp [results, Tryd.results16, go_sem, tokV, *]) rfl ⟨?_, ?_⟩
                     · rw [HP2.out, HXE.out] <;> rfl
                     · exact tokBel HBL.out _ _ _)
end Go.Proofs.YthhepfjjmilcnaaDoor
