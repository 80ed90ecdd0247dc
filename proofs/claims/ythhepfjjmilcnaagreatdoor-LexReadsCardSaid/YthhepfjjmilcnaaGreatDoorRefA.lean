/- The walks of the document's answer: kind, digits. -/
import Derived.Deep.LoopGhost
import Derived.Test.YthhepfjjmilcnaaGreatDoorLexB
namespace Go.Proofs.YthhepfjjmilcnaaGreatDoor
open Go.RowKit Lx
def kindN (c : Int) : Int := if letterB c = true then 1 else if digitB c = true then 2 else if blankB c = true then 3 else 0
set_option maxHeartbeats 800000 in
set_option maxRecDepth 100000 in
theorem kind_any (c : Nat) (hc : c < 256) (w : World) : Calls Tryz.prog 10 #[.int .u8 c] w fun e w' => e = .returned (.int .i64 (kindN c)) ∧ w = w' := by
  by_cases h1 : letterB c = true
  · have hk : kindN c = 1 := by rw [kindN, if_pos h1]
    rw [hk]
    simp only [letterB, Bool.or_eq_true, Bool.and_eq_true, decide_eq_true_eq] at h1
    rcases h1 with (h1 | h1) | h1
    all_goals
      go_enter Tryz.func10, Tryz.ntmps10
      go_wp2
      all_goals (go_ret; exact ⟨rfl, rfl⟩)
  · by_cases h2 : digitB c = true
    · have hk : kindN c = 2 := by rw [kindN, if_neg h1, if_pos h2]
      rw [hk]
      simp only [letterB, digitB, Bool.or_eq_true, Bool.and_eq_true, decide_eq_true_eq] at h1 h2
      go_enter Tryz.func10, Tryz.ntmps10
      go_wp2
      all_goals (go_ret; exact ⟨rfl, rfl⟩)
    · by_cases h3 : blankB c = true
      · have hk : kindN c = 3 := by rw [kindN, if_neg h1, if_neg h2, if_pos h3]
        rw [hk]
        clear hk h1 h2
        simp only [blankB, Bool.or_eq_true, decide_eq_true_eq] at h3
        rcases h3 with ((h3 | h3) | h3) | h3
        all_goals
          obtain rfl : c = _ := Int.ofNat.inj h3
          go_enter Tryz.func10, Tryz.ntmps10
          go_wp2
          all_goals (go_ret; exact ⟨rfl, rfl⟩)
      · have hk : kindN c = 0 := by rw [kindN, if_neg h1, if_neg h2, if_neg h3]
        rw [hk]
        simp only [letterB, digitB, blankB, Bool.or_eq_true, Bool.and_eq_true, decide_eq_true_eq] at h1 h2 h3
        have e1 : ((c : Int) == 95) = false := by rw [beq_eq_false_iff_ne]; omega
        have e2 : ((c : Int) == 32) = false := by rw [beq_eq_false_iff_ne]; omega
        have e3 : ((c : Int) == 9) = false := by rw [beq_eq_false_iff_ne]; omega
        have e4 : ((c : Int) == 10) = false := by rw [beq_eq_false_iff_ne]; omega
        have e5 : ((c : Int) == 13) = false := by rw [beq_eq_false_iff_ne]; omega
        go_enter Tryz.func10, Tryz.ntmps10
        go_wp2
        all_goals (go_ret; exact ⟨rfl, rfl⟩)
theorem kindN_digit (c : Nat) : (kindN c == 2) = digitB c := by
  unfold kindN
  by_cases h1 : letterB c = true
  · rw [if_pos h1]
    have : digitB c = false := by
      simp only [letterB, digitB, Bool.or_eq_true, Bool.and_eq_true, decide_eq_true_eq] at h1 ⊢
      simp; omega
    rw [this]; rfl
  · rw [if_neg h1]
    cases digitB c
    · simp only [Bool.false_eq_true, if_false]; split <;> rfl
    · rfl
theorem kindN_letter (c : Nat) : (kindN c == 1) = letterB c := by
  unfold kindN
  by_cases h : letterB c = true
  · rw [if_pos h, h]; rfl
  · rw [if_neg h, show letterB c = false by simpa using h]
    split
    · rfl
    · split <;> rfl
theorem kindN_blank (c : Nat) : (kindN c == 3) = blankB c := by
  unfold kindN
  by_cases h1 : letterB c = true
  · rw [if_pos h1]
    have : blankB c = false := by
      simp only [letterB, blankB, Bool.or_eq_true, Bool.and_eq_true, decide_eq_true_eq] at h1 ⊢
      simp; omega
    rw [this]; rfl
  · rw [if_neg h1]
    by_cases h2 : digitB c = true
    · rw [if_pos h2]
      have : blankB c = false := by
        simp only [digitB, blankB, Bool.and_eq_true, decide_eq_true_eq] at h2 ⊢
        simp; omega
      rw [this]; rfl
    · rw [if_neg h2]
      cases blankB c <;> rfl
theorem spanN_drop (B : Int → Bool) (l : List UInt8) (k : Nat) (h : k < l.length) : spanN B (l.drop k) = if B l[k].toNat = true then spanN B (l.drop (k + 1)) + 1 else 0 := by
  rw [List.drop_eq_getElem_cons h, spanN_cons]
set_option maxHeartbeats 800000 in
set_option maxRecDepth 100000 in
theorem digits_any (s : ByteArray) (at0 : Nat) (h : at0 ≤ s.size) (hs : s.size ≤ 1000000) (w : World) : Calls Tryz.prog 31 #[.string s, .int .i64 at0] w fun e w' => e = .returned (.int .i64 (at0 + spanN digitB (s.data.toList.drop at0) : Nat)) ∧ w = w' := by
  go_enter Tryz.func31, Tryz.ntmps31
  go_wp2
  go_loopg [1] (s.size - at0) (fun m a wr => ∃ k : Nat, k ≤ s.size ∧ m = s.size - k ∧ a = .int .i64 k ∧ wr = w ∧ Hid (at0 + spanN digitB (s.data.toList.drop at0) = k + spanN digitB (s.data.toList.drop k)))
  case atStart => exact ⟨at0, h, rfl, rfl, rfl, Lib.hid rfl⟩
  case round =>
    obtain ⟨k, hk, hg, rfl, rfl, HE⟩ := hrel
    have HG := Lib.hid hg
    clear hg
    by_cases hks : k < s.size
    · have hstep := spanN_drop digitB s.data.toList k (by rw [list_size]; exact hks)
      rw [show s.data.toList[k]'(by rw [list_size]; exact hks) = s[k]'hks from rfl, ← kindN_digit] at hstep
      have hc256 : (s[k]'hks).toNat < 256 := (s[k]'hks).toNat_lt
      have HSTEP := Lib.hid hstep
      clear hstep
      by_cases hd : (kindN ((s[k]'hks).toNat : Int) == 2) = true
      · go_wp2_with fail
        refine (kind_any _ hc256 _).mono ?_
        rintro e w' ⟨rfl, rfl⟩
        go_wp2
        go_roundg (s.size - (k + 1))
        case measure => rw [HG.out]; omega
        case rel => exact ⟨k + 1, by omega, rfl, by go_num, rfl, Lib.hid (by rw [HE.out, HSTEP.out, if_pos hd]; omega)⟩
      · have hd2 : (kindN ((s[k]'hks).toNat : Int) == 2) = false := by simpa using hd
        have HD := Lib.hid hd2
        clear hd
        go_wp2_with fail
        refine (kind_any _ hc256 _).mono ?_
        rintro e w' ⟨rfl, rfl⟩
        go_wp2
        go_ret
        refine ⟨?_, rfl⟩
        rw [HE.out, HSTEP.out, HD.out, if_neg (by simp)]
        rfl
    · obtain rfl : k = s.size := by omega
      have hnil : s.data.toList.drop s.size = [] := List.drop_eq_nil_of_le (by rw [list_size]; exact Nat.le_refl _)
      have HNIL := Lib.hid hnil
      clear hnil
      go_wp2
      go_ret
      refine ⟨?_, rfl⟩
      rw [HE.out, HNIL.out, spanN_nil]
      rfl
end Go.Proofs.YthhepfjjmilcnaaGreatDoor
