/- The walk of strconv.ParseFloat at digits with a point between. -/
import Derived.Test.YthhepfjjmilcnaaDoorAtof
namespace Go.Proofs.YthhepfjjmilcnaaDoor
open Go.RowKit Fl
def ErrAt (w : World) : Prop := ∃ ev, w.cell? ⟨2, 0, none⟩ = some ev ∧ (ev = .nilIface ∨ ∃ te pe, ev = .iface te pe)
set_option maxRecDepth 100000 in
set_option maxHeartbeats 1600000 in
theorem pfpref_any (s : ByteArray) (k : Nat) (hd : Hid (IsReal s.data.toList k)) (hs : s.size ≤ 1000000) (w : World) (hL : Hid (FltLaid w)) :
    Calls Tryd.prog 34 #[.string s, .int .i64 64] w fun e w' => e = .returned (.tuple #[.float .f64 (afBits s.data.toList).1, .int .i64 s.size, ovfV (afBits s.data.toList).2]) ∧ Below w.heap.size w w' := by
  go_enter Tryd.func34, Tryd.ntmps34
  go_wp2_with fail
  refine (atof_any s k hd hs _ hL).mono ?_
  rintro e w' ⟨rfl, hb⟩
  have HB := Lib.hid hb
  clear hb
  go_wp2
  refine bodyPost_ret (results_tmp3 rfl _ _ _) rfl ⟨?_, HB.out⟩
  rfl
set_option maxRecDepth 100000 in
set_option maxHeartbeats 1600000 in
theorem ipf_any (s : ByteArray) (k : Nat) (hd : Hid (IsReal s.data.toList k)) (hs : s.size ≤ 1000000) (w : World) (hL : Hid (FltLaid w)) :
    Calls Tryd.prog 29 #[.string s, .int .i64 64] w fun e w' => e = .returned (.tuple #[.float .f64 (afBits s.data.toList).1, ovfV (afBits s.data.toList).2]) ∧ Below w.heap.size w w' := by
  go_enter Tryd.func29, Tryd.ntmps29
  go_wp2_with fail
  refine (pfpref_any s k hd hs _ hL).mono ?_
  rintro e w' ⟨rfl, hb⟩
  have HB := Lib.hid hb
  clear hb
  go_wp2
  refine bodyPost_ret (results_tmp2 rfl _ _ _) rfl ⟨?_, HB.out⟩
  rfl
/-- what ParseFloat answers -/
def PfErr (b : Bool) (v : Value) : Prop := if b = true then ∃ N, v = .iface 59 (.pointer (some ⟨N, 0, none⟩)) else v = .nilIface
set_option maxRecDepth 100000 in
set_option maxHeartbeats 1600000 in
theorem pf_any (s : ByteArray) (k : Nat) (hd : Hid (IsReal s.data.toList k)) (hs : s.size ≤ 1000000) (w : World) (hL : Hid (FltLaid w)) (hE : Hid (ErrAt w)) :
    Calls Tryd.prog 22 #[.string s, .int .i64 64] w fun e w' => (∃ v, e = .returned (.tuple #[.float .f64 (afBits s.data.toList).1, v]) ∧ PfErr (afBits s.data.toList).2 v) ∧ Below w.heap.size w w' := by
  cases hov : (afBits s.data.toList).2 with
  | true =>
    have HOV := Lib.hid hov
    go_enter Tryd.func22, Tryd.ntmps22
    go_wp2_with fail
    refine (ipf_any s k hd hs _ hL).mono ?_
    rintro e w1 ⟨rfl, hb⟩
    rw [HOV.out]
    have HB := Lib.hid hb
    clear hb hov
    have hval : ovfV true = .iface 58 (.int .i64 1) := rfl
    go_wp2_with fail
    obtain ⟨ev, hv, hev⟩ := hE.out
    have hv1 := below_cellS HB.out hv
    refine (Tryd.strconv_toError_range _ s _ _ ev _ (by omega) hv1 hev).mono ?_
    rintro e w2 ⟨N, rfl, _, _, hb2⟩
    have HB2 := Lib.hid hb2
    clear hb2
    go_wp2
    refine bodyPost_ret (results_tmp2 rfl _ _ _) rfl ⟨⟨_, rfl, ?_⟩, below_then' HB.out HB.out.size HB2.out⟩
    exact ⟨N, rfl⟩
  | false =>
    have HOV := Lib.hid hov
    go_enter Tryd.func22, Tryd.ntmps22
    go_wp2_with fail
    refine (ipf_any s k hd hs _ hL).mono ?_
    rintro e w1 ⟨rfl, hb⟩
    rw [HOV.out]
    have HB := Lib.hid hb
    clear hb hov
    have hval : ovfV false = .nilIface := rfl
    go_wp2
    refine bodyPost_ret (results_tmp2 rfl _ _ _) rfl ⟨⟨_, rfl, ?_⟩, HB.out⟩
    exact rfl
end Go.Proofs.YthhepfjjmilcnaaDoor
