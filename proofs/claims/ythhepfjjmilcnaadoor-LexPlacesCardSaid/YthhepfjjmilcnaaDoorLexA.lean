/- The walks of lex.letter, lex.digit, lex.span. -/
import Derived.Test.YthhepfjjmilcnaaDoorRows
import Derived.Test.YthhepfjjmilcnaaDoorPlex
import Derived.WalkKit
import Derived.WalkSpells
import Derived.WalkLawsBesides
import Derived.Handy
import Derived.Lib.Hide
import Derived.Outline
import Derived.Lib.OthersKept
import Derived.BigCall
namespace Go.Proofs.YthhepfjjmilcnaaDoor
open Go.RowKit Lx
theorem letter_any (c : Int) (w : World) : Calls Tryd.prog 12 #[.int .i32 c] w fun e w' => e = .returned (.bool (letterB c)) ∧ w = w' := by
  by_cases h1 : c = 95
  · subst h1
    go_enter Tryd.func12, Tryd.ntmps12
    go_wp2
    all_goals (go_ret; exact ⟨by simp [letterB], rfl⟩)
  · have h2 : (c == 95) = false := by simp [h1]
    go_enter Tryd.func12, Tryd.ntmps12
    go_wp2
    all_goals (go_ret; refine ⟨congrArg (fun b => Ending.returned (.bool b)) ?_, rfl⟩; rw [Bool.eq_iff_iff]; simp [letterB]; omega)
theorem digit_any (c : Int) (w : World) : Calls Tryd.prog 14 #[.int .i32 c] w fun e w' => e = .returned (.bool (digitB c)) ∧ w = w' := by
  by_cases h1 : 48 ≤ c
  · go_enter Tryd.func14, Tryd.ntmps14
    go_wp2
    go_ret; refine ⟨?_, rfl⟩; simp [digitB, h1]
  · go_enter Tryd.func14, Tryd.ntmps14
    go_wp2
    go_ret; refine ⟨?_, rfl⟩; simp [digitB]; omega
theorem word_any (c : Int) (w : World) : Calls Tryd.prog 13 #[.int .i32 c] w fun e w' => e = .returned (.bool (wordB c)) ∧ w = w' := by
  cases h : letterB c with
  | true =>
    go_enter Tryd.func13, Tryd.ntmps13
    go_wp2_with (go_at_call 12; refine (letter_any _ _).mono ?_; rintro e w' ⟨rfl, rfl⟩)
    go_ret; exact ⟨by simp [wordB, h], rfl⟩
  | false =>
    go_enter Tryd.func13, Tryd.ntmps13
    go_wp2_with (first | (go_at_call 12; refine (letter_any _ _).mono ?_; rintro e w' ⟨rfl, rfl⟩) | (go_at_call 14; refine (digit_any _ _).mono ?_; rintro e w' ⟨rfl, rfl⟩))
    go_ret; exact ⟨by simp [wordB, h], rfl⟩
theorem blank_any (c : Int) (w : World) : Calls Tryd.prog 10 #[.int .i32 c] w fun e w' => e = .returned (.bool (blankB c)) ∧ w = w' := by
  by_cases h1 : c = 32
  · subst h1
    go_enter Tryd.func10, Tryd.ntmps10
    go_wp2
    go_ret; exact ⟨by simp [blankB], rfl⟩
  by_cases h2 : c = 9
  · subst h2
    go_enter Tryd.func10, Tryd.ntmps10
    go_wp2
    go_ret; exact ⟨by simp [blankB], rfl⟩
  by_cases h3 : c = 10
  · subst h3
    go_enter Tryd.func10, Tryd.ntmps10
    go_wp2
    go_ret; exact ⟨by simp [blankB], rfl⟩
  have k1 : (c == 32) = false := by simp [h1]
  have k2 : (c == 9) = false := by simp [h2]
  have k3 : (c == 10) = false := by simp [h3]
  go_enter Tryd.func10, Tryd.ntmps10
  go_wp2
  go_ret; refine ⟨?_, rfl⟩; simp [blankB, h1, h2, h3]; try rfl

theorem rune_width (s : ByteArray) (pos : Nat) (h : pos < s.size) : 1 ≤ (Utf8.decode s pos).2 := by
  by_cases ha : (s[pos]'h).toNat < 128
  · rw [decode_ascii s pos h ha]
    exact Nat.le_refl _
  · exact (decode_high s pos h (by omega)).2
theorem drop_at (s : ByteArray) (pos : Nat) (h : pos < s.size) : s.data.toList.drop pos = s[pos] :: s.data.toList.drop (pos + 1) := by
  rw [List.drop_eq_getElem_cons (by simpa using h)]; rfl
set_option maxHeartbeats 400000 in
set_option maxRecDepth 100000 in
theorem span_any (F : FuncId) (B : Int → Bool) (hF : ∀ c w, Calls Tryd.prog F #[.int .i32 c] w fun e w' => e = .returned (.bool (B c)) ∧ w = w') (hB : ∀ c, 128 ≤ c → B c = false)
    (eg : ∀ args w, (callFunc F args).run Tryd.prog w = .ok (.enter F args) w) (s : ByteArray) (w : World) (hs : s.size ≤ 9223372036854775807) :
    Calls Tryd.prog 9 #[.string s, .func (.func F) #[] #[]] w fun e w' => e = .returned (.int .i64 (spanN B s.data.toList)) ∧ Below w.heap.size w w' := by
  have HF := Lib.hid hF
  have HB := Lib.hid hB
  clear hF hB
  go_enter Tryd.func9, Tryd.ntmps9
  go_wp2
  go_loopw [] (fun wr => ∃ pos : Nat, pos ≤ s.size ∧ wr.heap[w.heap.size]? = some (.stringIter s pos) ∧ Below w.heap.size w wr ∧ spanN B s.data.toList = pos + spanN B (s.data.toList.drop pos)) (fun wr => s.size - wr.iterPos w.heap.size)
  case atStart =>
    refine ⟨0, by omega, ?_, (Below.refl _ w).alloc (Nat.le_refl _) _, by simp⟩
    simpa using World.iter_heap w s 0
  case round =>
    obtain ⟨pos, hpos, hit, hbw, hsp⟩ := hrel
    have HS := Lib.hid hsp
    clear hsp
    have hsz : w.heap.size < wr.heap.size := (Array.getElem?_eq_some_iff.1 hit).1
    by_cases hp : pos < s.size
    · have hbw2 := fun q => Lib.below_iterAt hbw (k := w.heap.size) (by omega) s q
      have HD := Lib.hid (drop_at s pos hp)
      by_cases ha : (s[pos]'hp).toNat < 128
      · have hnx : ∀ ty, (Instr.next (.pointer (some ⟨w.heap.size, 0, none⟩)) true ty).run Tryd.prog wr = _ := fun ty => Lib.run_next_ascii_at wr w.heap.size s pos ty hit hp ha
        have hit2 := Lib.iterAt_heap wr w.heap.size s pos (pos + 1) hit
        have hIP : (wr.iterAt w.heap.size s (pos + 1)).iterPos w.heap.size = pos + 1 := by simp only [World.iterPos, hit2]
        have hIP0 : wr.iterPos w.heap.size = pos := by simp only [World.iterPos, hit]
        have HIP := Lib.hid hIP
        have HIP0 := Lib.hid hIP0
        clear hIP hIP0
        cases hb : B (s[pos]'hp).toNat with
        | true =>
          have HFF : ∀ w, Calls Tryd.prog F #[.int .i32 (s[pos]'hp).toNat] w fun e w' => e = .returned (.bool true) ∧ w = w' := fun w => by have := HF.out (s[pos]'hp).toNat w; rw [hb] at this; exact this
          have H2 := Lib.hid HFF
          have hb2 := Lib.hid hb
          clear HFF hb
          go_wp2_with fail
          refine (H2.out _).mono ?_
          rintro e w' ⟨rfl, rfl⟩
          go_wp2
          go_roundw
          case rel => exact ⟨pos + 1, by omega, hit2, hbw2 _, by rw [HS.out, HD.out, spanN_cons, hb2.out]; simp; omega⟩
          case measure => rw [HIP.out, HIP0.out]; omega
        | false =>
          have HFF : ∀ w, Calls Tryd.prog F #[.int .i32 (s[pos]'hp).toNat] w fun e w' => e = .returned (.bool false) ∧ w = w' := fun w => by have := HF.out (s[pos]'hp).toNat w; rw [hb] at this; exact this
          have H2 := Lib.hid HFF
          have hb2 := Lib.hid hb
          clear HFF hb
          go_wp2_with fail
          refine (H2.out _).mono ?_
          rintro e w' ⟨rfl, rfl⟩
          go_wp2
          go_ret
          exact ⟨by rw [HS.out, HD.out, spanN_cons, hb2.out]; simp, hbw2 _⟩
      · have hnx : ∀ ty, (Instr.next (.pointer (some ⟨w.heap.size, 0, none⟩)) true ty).run Tryd.prog wr = _ := fun ty => Lib.run_next_any_at wr w.heap.size s pos ty hit hp
        have hhi := (decode_high s pos hp (by omega)).1
        have HFF : ∀ w, Calls Tryd.prog F #[.int .i32 (Utf8.decode s pos).1] w fun e w' => e = .returned (.bool false) ∧ w = w' := fun w => by have := HF.out (Utf8.decode s pos).1 w; rw [HB.out _ (by omega)] at this; exact this
        have hb : B (s[pos]'hp).toNat = false := HB.out _ (by omega)
        have H2 := Lib.hid HFF
        have hb2 := Lib.hid hb
        clear HFF hb
        go_wp2_with fail
        refine (H2.out _).mono ?_
        rintro e w' ⟨rfl, rfl⟩
        go_wp2
        go_ret
        exact ⟨by rw [HS.out, HD.out, spanN_cons, hb2.out]; simp, hbw2 _⟩
    · have hnx : ∀ ty, (Instr.next (.pointer (some ⟨w.heap.size, 0, none⟩)) true ty).run Tryd.prog wr = _ := fun ty => Lib.run_next_end_at wr w.heap.size s pos ty hit hp
      have hps : pos = s.size := by omega
      subst hps
      go_wp2
      go_ret
      refine ⟨?_, hbw⟩
      rw [HS.out, List.drop_eq_nil_of_le (by simp)]; simp [spanN_nil]
end Go.Proofs.YthhepfjjmilcnaaDoor
