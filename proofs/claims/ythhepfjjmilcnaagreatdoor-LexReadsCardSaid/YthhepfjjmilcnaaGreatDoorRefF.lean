/- The walk of the document's answer: Lex. -/
import Derived.Test.YthhepfjjmilcnaaGreatDoorRefG
import Derived.Test.YthhepfjjmilcnaaGreatDoorLexF
namespace Go.Proofs.YthhepfjjmilcnaaGreatDoor
open Go.RowKit Lx Fl
theorem kind_three (c : UInt8) : ∃ k : Int, (k == 3) = blankB c.toNat ∧ Hid (∀ w, Calls Tryz.prog 10 #[.int .u8 c.toNat] w fun e w' => e = .returned (.int .i64 k) ∧ w = w') :=
  ⟨kindN c.toNat, kindN_blank c.toNat, Lib.hid (fun w => kind_any c.toNat c.toNat_lt w)⟩
theorem blank_step (l : List UInt8) (at0 q : Nat) (h : at0 ≤ q) (H : Hid (spanN blankB (l.drop at0) = (q - at0) + spanN blankB (l.drop q))) (hq : q < l.length) (hw : blankB l[q].toNat = true) : Hid (spanN blankB (l.drop at0) = (q + 1 - at0) + spanN blankB (l.drop (q + 1))) :=
  Lib.hid (by rw [H.out, spanN_drop blankB l q hq, if_pos hw]; omega)
theorem blank_stop (l : List UInt8) (at0 q : Nat) (H : Hid (spanN blankB (l.drop at0) = (q - at0) + spanN blankB (l.drop q))) (hw : ∀ hq : q < l.length, blankB l[q].toNat = false) : spanN blankB (l.drop at0) = q - at0 := by
  rw [H.out]
  rcases Nat.lt_or_ge q l.length with h | h
  · rw [spanN_drop blankB l q h, if_neg (by rw [hw h]; simp)]; omega
  · rw [List.drop_eq_nil_of_le h, spanN_nil]; omega
set_option maxHeartbeats 1600000 in
set_option maxRecDepth 100000 in
theorem rlex_long (s : ByteArray) (most : Int) (h : most < s.size) (w : World) :
    Calls Tryz.prog 6 #[.string s, .int .i64 most] w (LexPost (lexP s.data.toList most) w) := by
  have HP := Lib.hid (lexP_long s.data.toList most (by rw [list_size]; exact h))
  go_enter Tryz.func6, Tryz.ntmps6
  go_wp2_with fail
  go_ret3
  rw [HP.out]
  exact ⟨_, rfl, Below.refl _ _, World.ownsRow_nil _ _ _ _⟩
set_option maxHeartbeats 1600000 in
set_option maxRecDepth 100000 in
theorem rlex_go (s : ByteArray) (hs : s.size ≤ 1000000) (most : Int) (h : ¬ most < s.size) (w : World) (hL : Hid (FltLaid w)) (hE : Hid (ErrAt w)) :
    Calls Tryz.prog 6 #[.string s, .int .i64 most] w (LexPost (lexP s.data.toList most) w) := by
  have HP := Lib.hid (lexP_go s.data.toList most (by rw [list_size]; exact h))
  obtain ⟨i0, hi, hz0, hz1, hz2⟩ := info_parts tokInfo
  have HI := Lib.hid hi
  clear hi
  go_enter Tryz.func6, Tryz.ntmps6
  go_wp2_with fail
  go_loopg [7, 8] s.size (fun m v i wr => LexRel s most w m v i wr)
  case atStart => exact ⟨0, [], Nat.zero_le _, rfl, rfl, Nat.le_refl _, Lib.hid (World.ownsRow_nil _ _ _ _), Lib.hid (Below.refl _ _), Lib.hid ⟨s.size + 1, by rw [list_size]; omega, by rw [HP.out, list_size]; cases lexGo (s.size + 1) s.data.toList 0 [] <;> rfl⟩⟩
  case round =>
    obtain ⟨k, acc, hk, hg, rfl, hacc, HOWN, HBEL, HF⟩ := hrel
    have HG := Lib.hid hg
    clear hg
    obtain ⟨wo, hwo⟩ : ∃ wo : World, wo = wr := ⟨_, rfl⟩
    subst hwo
    have hkI : (k : Int) ≤ s.size := by omega
    go_wp2_with fail
    go_loopg [8] (s.size - k) (fun m i wi => ∃ q : Nat, k ≤ q ∧ q ≤ s.size ∧ m = s.size - q ∧ i = .int .i64 q ∧ wo = wi ∧ Hid (spanN blankB (s.data.toList.drop k) = (q - k) + spanN blankB (s.data.toList.drop q)))
    case atStart => exact ⟨k, Nat.le_refl _, hk, rfl, rfl, rfl, Lib.hid (by omega)⟩
    case round =>
      obtain ⟨q, hq0, hq, hg2, rfl, rfl, HN⟩ := hrel
      have HG2 := Lib.hid hg2
      clear hg2
      by_cases hks : q < s.size
      · have hksI : (q : Int) < s.size := by omega
        have hqd : s.data.toList[q]'(by rw [list_size]; exact hks) = s[q]'hks := rfl
        obtain ⟨kk, hk3, CK⟩ := kind_three (s[q]'hks)
        cases hb : blankB (s[q]'hks).toNat with
        | true =>
          rw [hb] at hk3
          have HN2 := blank_step s.data.toList k q hq0 HN (by rw [list_size]; exact hks) (by rw [hqd]; exact hb)
          clear hb hqd
          go_wp2_with fail
          refine (CK.out _).mono ?_
          rintro e w1 ⟨rfl, rfl⟩
          go_wp2_with fail
          go_roundg (s.size - (q + 1))
          case measure => rw [HG2.out]; omega
          case rel => exact ⟨q + 1, by omega, by omega, rfl, by go_num, rfl, HN2⟩
        | false =>
          rw [hb] at hk3
          have HE := Lib.hid (blank_stop s.data.toList k q HN (fun h => by rw [hqd]; exact hb))
          clear hb hqd HN
          have HN := HE
          clear HE
          go_wp2_with fail
          refine (CK.out _).mono ?_
          rintro e w1 ⟨rfl, rfl⟩
          have HNE := Lib.hid (show nextP (s.data.toList.drop (k + (q - k))) = nextP (s.data.toList.drop q) from by rw [show k + (q - k) = q by omega])
          have hqI : (q : Int) ≤ s.size := by omega
          go_wp2_with fail
          refine (rword_any s hs q hq _ (Lib.hid (hL.out.below HBEL.out)) (Lib.hid (hE.out.below HBEL.out))).mono ?_
          rintro e w2 ⟨⟨tk, tu, ta, en, rfl, hok⟩, hb⟩
          have HBL2 := Lib.hid (below_then' HBEL.out HBEL.out.size hb)
          have HOWN2 := Lib.hid (owns_below HOWN.out hb)
          clear hb
          obtain ⟨r, hr⟩ : ∃ r, nextP (s.data.toList.drop q) = r := ⟨_, rfl⟩
          rw [hr] at hok HNE ⊢
          have HOK := Lib.hid hok
          clear hr hok
          unfold tokV
          by_cases he : r.2.2 = 0
          · have heb : (r.2.2 != 0) = false := by rw [he]; rfl
            obtain ⟨rfl, rfl, rfl, rfl⟩ := HOK.out he
            clear HOK
            go_wp2_with (at_builtin; refine wpList_append_own _ rfl _ _ 23 rfl w.heap.size 30 i0 (.agg #[.int .i64 0, .string ⟨#[]⟩, .int .i64 0]) 3 32 Tryz.underlying23 HI.out hz0 hz1 hz2 rfl (by decide) _ acc.length (tokCells acc) rfl ((HOWN2.out.alloc _).alloc _) ⟨w2.heap.size + 1, 0, none⟩ 1 1 [.int .i64 r.1.1, .string ⟨r.1.2.toArray⟩, .int .i64 (q : Int)] rfl rfl ?c1 ?c2 ?c3 ?c4 ?c5 ?_)
            case c1 =>
              intro j u hj
              have ea : ((⟨w2.heap.size + 1, 0, none⟩ : Addr).add j) = ⟨w2.heap.size + 1, j, none⟩ := by unfold Addr.add; split <;> simp_all
              rw [ea, World.cell?_alloc_at _ _ _ _ (by simp)]
              match j, hj with
              | 0, hj => simpa using hj
              | 1, hj => simpa using hj
              | 2, hj => simpa using hj
            case c2 => intro u hu; simp at hu; rcases hu with rfl | rfl | rfl <;> rfl
            case c3 => unfold maxLen; omega
            case c4 => omega
            case c5 => have := HBL2.out.size; simp; omega
            intro v' w3 hown3 hgrow _
            have hlt2 := HOWN2.out.lt
            have hne : ∀ v0 : Value, (∀ q, v0.ownBlock = some q → w.heap.size ≤ q ∧ q < w2.heap.size) → some w2.heap.size ≠ v0.ownBlock := fun v0 h e => by
              have := (h _ e.symm).2; omega
            have hkc : w3.cell? ⟨w2.heap.size, 0, none⟩ = some (.int .i64 r.1.1) := by
              refine hgrow.cell (a := ⟨w2.heap.size, 0, none⟩) ?_ (hne _ hlt2)
              rw [World.cell?_alloc_past _ _ _ (by simp), World.cell?_alloc_at _ _ _ _ rfl]
              rfl
            have HBL3 := Lib.hid ((((HBL2.out.alloc HBL2.out.size _).alloc (by have := HBL2.out.size; simp; omega) _).grown hgrow (by have := HBL2.out.size; simp; omega) (fun q hq => (hlt2 q hq).1)))
            have hlen : acc.length + 1 = (acc ++ [(r.1.1, r.1.2, k + (q - k))]).length := by simp
            have hcat : tokCells acc ++ [.int .i64 r.1.1, .string ⟨r.1.2.toArray⟩, .int .i64 (q : Int)] = tokCells (acc ++ [(r.1.1, r.1.2, k + (q - k))]) := by rw [tokCells_snoc, show k + (q - k) = q by omega]
            rw [hlen, hcat] at hown3
            have HOWN3 := Lib.hid hown3
            clear hown3 hgrow hlt2 hne hlen hcat
            by_cases hz : r.1.1 = 0
            · have hzb : (r.1.1 == 0) = true := by rw [hz]; rfl
              have HK := Lib.hid (show lexP s.data.toList most = (acc ++ [(r.1.1, r.1.2, k + (q - k))], 0, 0) from by obtain ⟨f, H⟩ := HF.out; exact H.fin HN.out HNE.out he hz)
              go_wp2_with fail
              go_ret3
              rw [HK.out]
              exact ⟨_, rfl, HBL3.out, HOWN3.out⟩
            · have hzb : (r.1.1 == 0) = false := by rw [beq_eq_false_iff_ne]; exact hz
              obtain ⟨f, H⟩ := HF.out
              obtain ⟨g1, g2, g3⟩ := H.step (by rw [list_size]; exact hk) HN.out HNE.out he hz
              rw [list_size] at g2
              have G3 := Lib.hid g3
              have hrI : (q : Int) + r.2.1 ≤ s.size := by omega
              clear H g3
              go_wp2_with fail
              go_roundg (s.size - (k + (q - k) + r.2.1))
              case measure => rw [HG.out]; omega
              case rel => exact ⟨k + (q - k) + r.2.1, _, g2, rfl, by rw [show k + (q - k) + r.2.1 = q + r.2.1 by omega]; go_num, by simp; omega, HOWN3, HBL3, Lib.hid ⟨_, G3.out⟩⟩
          · have heb : (r.2.2 != 0) = true := by rw [bne_iff_ne]; exact he
            have HK := Lib.hid (show lexP s.data.toList most = ([], k + (q - k), r.2.2) from by obtain ⟨f, H⟩ := HF.out; exact H.err HN.out HNE.out he)
            have HQ := Lib.hid (show k + (q - k) = q by omega)
            go_wp2_with fail
            go_ret3
            rw [HK.out, HQ.out]
            exact ⟨_, rfl, HBL2.out.alloc HBL2.out.size _, World.ownsRow_nil _ _ _ _⟩
      · have HE := Lib.hid (blank_stop s.data.toList k q HN (fun h => by rw [list_size] at h; exact absurd h hks))
        have hks2 : ¬ ((q : Int) < s.size) := by omega
        clear HN
        have HN := HE
        clear HE
        have HNE := Lib.hid (show nextP (s.data.toList.drop (k + (q - k))) = nextP (s.data.toList.drop q) from by rw [show k + (q - k) = q by omega])
        have hqI : (q : Int) ≤ s.size := by omega
        go_wp2_with fail
        refine (rword_any s hs q hq _ (Lib.hid (hL.out.below HBEL.out)) (Lib.hid (hE.out.below HBEL.out))).mono ?_
        rintro e w2 ⟨⟨tk, tu, ta, en, rfl, hok⟩, hb⟩
        have HBL2 := Lib.hid (below_then' HBEL.out HBEL.out.size hb)
        have HOWN2 := Lib.hid (owns_below HOWN.out hb)
        clear hb
        obtain ⟨r, hr⟩ : ∃ r, nextP (s.data.toList.drop q) = r := ⟨_, rfl⟩
        rw [hr] at hok HNE ⊢
        have HOK := Lib.hid hok
        clear hr hok
        unfold tokV
        by_cases he : r.2.2 = 0
        · have heb : (r.2.2 != 0) = false := by rw [he]; rfl
          obtain ⟨rfl, rfl, rfl, rfl⟩ := HOK.out he
          clear HOK
          go_wp2_with (at_builtin; refine wpList_append_own _ rfl _ _ 23 rfl w.heap.size 30 i0 (.agg #[.int .i64 0, .string ⟨#[]⟩, .int .i64 0]) 3 32 Tryz.underlying23 HI.out hz0 hz1 hz2 rfl (by decide) _ acc.length (tokCells acc) rfl ((HOWN2.out.alloc _).alloc _) ⟨w2.heap.size + 1, 0, none⟩ 1 1 [.int .i64 r.1.1, .string ⟨r.1.2.toArray⟩, .int .i64 (q : Int)] rfl rfl ?c1 ?c2 ?c3 ?c4 ?c5 ?_)
          case c1 =>
            intro j u hj
            have ea : ((⟨w2.heap.size + 1, 0, none⟩ : Addr).add j) = ⟨w2.heap.size + 1, j, none⟩ := by unfold Addr.add; split <;> simp_all
            rw [ea, World.cell?_alloc_at _ _ _ _ (by simp)]
            match j, hj with
            | 0, hj => simpa using hj
            | 1, hj => simpa using hj
            | 2, hj => simpa using hj
          case c2 => intro u hu; simp at hu; rcases hu with rfl | rfl | rfl <;> rfl
          case c3 => unfold maxLen; omega
          case c4 => omega
          case c5 => have := HBL2.out.size; simp; omega
          intro v' w3 hown3 hgrow _
          have hlt2 := HOWN2.out.lt
          have hne : ∀ v0 : Value, (∀ q, v0.ownBlock = some q → w.heap.size ≤ q ∧ q < w2.heap.size) → some w2.heap.size ≠ v0.ownBlock := fun v0 h e => by
            have := (h _ e.symm).2; omega
          have hkc : w3.cell? ⟨w2.heap.size, 0, none⟩ = some (.int .i64 r.1.1) := by
            refine hgrow.cell (a := ⟨w2.heap.size, 0, none⟩) ?_ (hne _ hlt2)
            rw [World.cell?_alloc_past _ _ _ (by simp), World.cell?_alloc_at _ _ _ _ rfl]
            rfl
          have HBL3 := Lib.hid ((((HBL2.out.alloc HBL2.out.size _).alloc (by have := HBL2.out.size; simp; omega) _).grown hgrow (by have := HBL2.out.size; simp; omega) (fun q hq => (hlt2 q hq).1)))
          have hlen : acc.length + 1 = (acc ++ [(r.1.1, r.1.2, k + (q - k))]).length := by simp
          have hcat : tokCells acc ++ [.int .i64 r.1.1, .string ⟨r.1.2.toArray⟩, .int .i64 (q : Int)] = tokCells (acc ++ [(r.1.1, r.1.2, k + (q - k))]) := by rw [tokCells_snoc, show k + (q - k) = q by omega]
          rw [hlen, hcat] at hown3
          have HOWN3 := Lib.hid hown3
          clear hown3 hgrow hlt2 hne hlen hcat
          by_cases hz : r.1.1 = 0
          · have hzb : (r.1.1 == 0) = true := by rw [hz]; rfl
            have HK := Lib.hid (show lexP s.data.toList most = (acc ++ [(r.1.1, r.1.2, k + (q - k))], 0, 0) from by obtain ⟨f, H⟩ := HF.out; exact H.fin HN.out HNE.out he hz)
            go_wp2_with fail
            go_ret3
            rw [HK.out]
            exact ⟨_, rfl, HBL3.out, HOWN3.out⟩
          · have hzb : (r.1.1 == 0) = false := by rw [beq_eq_false_iff_ne]; exact hz
            obtain ⟨f, H⟩ := HF.out
            obtain ⟨g1, g2, g3⟩ := H.step (by rw [list_size]; exact hk) HN.out HNE.out he hz
            rw [list_size] at g2
            have G3 := Lib.hid g3
            have hrI : (q : Int) + r.2.1 ≤ s.size := by omega
            exfalso
            omega
        · have heb : (r.2.2 != 0) = true := by rw [bne_iff_ne]; exact he
          have HK := Lib.hid (show lexP s.data.toList most = ([], k + (q - k), r.2.2) from by obtain ⟨f, H⟩ := HF.out; exact H.err HN.out HNE.out he)
          have HQ := Lib.hid (show k + (q - k) = q by omega)
          go_wp2_with fail
          go_ret3
          rw [HK.out, HQ.out]
          exact ⟨_, rfl, HBL2.out.alloc HBL2.out.size _, World.ownsRow_nil _ _ _ _⟩
theorem rlex_any (s : ByteArray) (hs : s.size ≤ 1000000) (most : Int) (w : World) (hL : Hid (FltLaid w)) (hE : Hid (ErrAt w)) :
    Calls Tryz.prog 6 #[.string s, .int .i64 most] w (LexPost (lexP s.data.toList most) w) := by
  by_cases h : most < s.size
  · exact rlex_long s most h w
  · exact rlex_go s hs most h w hL hE
end Go.Proofs.YthhepfjjmilcnaaGreatDoor
