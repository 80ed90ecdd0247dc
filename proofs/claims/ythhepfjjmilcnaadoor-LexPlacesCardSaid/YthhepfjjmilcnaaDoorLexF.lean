/- The walk of lex.Lex. -/
import Derived.Test.YthhepfjjmilcnaaDoorLexE
import Derived.Test.YthhepfjjmilcnaaDoorPall
namespace Go.Proofs.YthhepfjjmilcnaaDoor
open Go.RowKit Lx Fl
theorem eg_blank : ∀ args w, (callFunc 10 args).run Tryd.prog w = .ok (.enter 10 args) w := fun args w =>
  run_enter Tryd.func10 (by kernel_rfl) rfl args w
theorem blanks_any (s : ByteArray) (w : World) (hs : s.size ≤ 9223372036854775807) : Calls Tryd.prog 9 #[.string s, .func (.func 10) #[] #[]] w fun e w' => e = .returned (.int .i64 (spanN blankB s.data.toList)) ∧ Below w.heap.size w w' :=
  span_any 10 blankB blank_any blankB_high eg_blank s w hs
theorem tokInfo : (Tryd.prog.info? 29).map (fun i => (i.zero, i.size, i.bytes)) = some (some (.agg #[.int .i64 0, .string ⟨#[]⟩, .int .i64 0]), 3, 32) := by kernel_rfl
/-- from a place on, with the words that are had: what Lex answers -/
def LexFrom (l : List UInt8) (most : Int) (k : Nat) (acc : List Tok) (f : Nat) : Prop := l.length - k < f ∧ lexP l most = match lexGo f l k acc with
    | .ok ts => (ts, 0, 0)
    | .error p => ([], p.1, p.2)
theorem LexFrom.err {l : List UInt8} {most : Int} {k f : Nat} {acc : List Tok} (H : LexFrom l most k acc f) {n : Nat} {r : (Int × List UInt8) × Nat × Int} (hn : spanN blankB (l.drop k) = n) (hr : nextP (l.drop (k + n)) = r) (h : r.2.2 ≠ 0) :
    lexP l most = ([], k + n, r.2.2) := by
  subst hn
  obtain ⟨hf, H⟩ := H
  obtain ⟨f, rfl⟩ : ∃ g, f = g + 1 := ⟨f - 1, by omega⟩
  rw [H, lexGo_err rfl hr h]
theorem LexFrom.fin {l : List UInt8} {most : Int} {k f : Nat} {acc : List Tok} (H : LexFrom l most k acc f) {n : Nat} {r : (Int × List UInt8) × Nat × Int} (hn : spanN blankB (l.drop k) = n) (hr : nextP (l.drop (k + n)) = r) (h : r.2.2 = 0) (h2 : r.1.1 = 0) :
    lexP l most = (acc ++ [(r.1.1, r.1.2, k + n)], 0, 0) := by
  subst hn
  obtain ⟨hf, H⟩ := H
  obtain ⟨f, rfl⟩ : ∃ g, f = g + 1 := ⟨f - 1, by omega⟩
  rw [H, lexGo_end rfl hr h h2]
theorem LexFrom.step {l : List UInt8} {most : Int} {k f : Nat} {acc : List Tok} (H : LexFrom l most k acc f) (hk : k ≤ l.length) {n : Nat} {r : (Int × List UInt8) × Nat × Int} (hn : spanN blankB (l.drop k) = n) (hr : nextP (l.drop (k + n)) = r) (h : r.2.2 = 0) (h2 : r.1.1 ≠ 0) :
    1 ≤ r.2.1 ∧ k + n + r.2.1 ≤ l.length ∧ LexFrom l most (k + n + r.2.1) (acc ++ [(r.1.1, r.1.2, k + n)]) (f - 1) := by
  obtain ⟨g1, g2⟩ := nextP_len (l.drop (k + n)) (by rw [hr]; exact h) (by rw [hr]; exact h2)
  rw [hr, List.length_drop] at g2
  rw [hr] at g1
  have hp := spanN_le blankB (l.drop k)
  rw [List.length_drop, hn] at hp
  subst hn
  obtain ⟨hf, H⟩ := H
  obtain ⟨f, rfl⟩ : ∃ g, f = g + 1 := ⟨f - 1, by omega⟩
  refine ⟨g1, by omega, by omega, ?_⟩
  rw [H, lexGo_step rfl hr h h2]
  rfl
theorem owns_below {w w' : World} {base : Nat} {e : TypeId} {size : Nat} {v : Value} {n : Nat} {xs : List Value} (h : w.ownsRow base e size v n xs) (hb : Below w.heap.size w w') : w'.ownsRow base e size v n xs :=
  h.kept (row := none) ⟨hb.os, hb.tape, hb.output, hb.size, fun k hk _ => hb.block k hk⟩ (by cases v.ownBlock <;> simp)
def LexRel (s : ByteArray) (most : Int) (w : World) (m : Nat) (v i : Value) (wr : World) : Prop :=
  ∃ (k : Nat) (acc : List Tok), k ≤ s.size ∧ m = s.size - k ∧ i = .int .i64 k ∧ acc.length ≤ k ∧ Hid (wr.ownsRow w.heap.size 29 3 v acc.length (tokCells acc)) ∧ Hid (Below w.heap.size w wr) ∧ Hid (∃ f, LexFrom s.data.toList most k acc f)
set_option maxHeartbeats 1600000 in
set_option maxRecDepth 100000 in
theorem lex_long (s : ByteArray) (most : Int) (h : most < s.size) (w : World) :
    Calls Tryd.prog 7 #[.string s, .int .i64 most] w (LexPost (lexP s.data.toList most) w) := by
  have HP := Lib.hid (lexP_long s.data.toList most (by rw [list_size]; exact h))
  go_enter Tryd.func7, Tryd.ntmps7
  go_wp2_with fail
  go_ret3
  rw [HP.out]
  exact ⟨_, rfl, Below.refl _ _, World.ownsRow_nil _ _ _ _⟩
set_option maxHeartbeats 1600000 in
set_option maxRecDepth 100000 in
theorem lex_go (s : ByteArray) (hs : s.size ≤ 1000000) (most : Int) (h : ¬ most < s.size) (w : World) (hL : Hid (FltLaid w)) (hE : Hid (ErrAt w)) (hm : Hid (∃ m, w.cell? ⟨0, 0, none⟩ = some (.int .i64 m))) :
    Calls Tryd.prog 7 #[.string s, .int .i64 most] w (LexPost (lexP s.data.toList most) w) := by
  have HP := Lib.hid (lexP_go s.data.toList most (by rw [list_size]; exact h))
  obtain ⟨i0, hi, hz0, hz1, hz2⟩ := info_parts tokInfo
  have HI := Lib.hid hi
  clear hi
  go_enter Tryd.func7, Tryd.ntmps7
  go_wp2_with fail
  go_loopg [7, 8] s.size (fun m v i wr => LexRel s most w m v i wr)
  case atStart => exact ⟨0, [], Nat.zero_le _, rfl, rfl, Nat.le_refl _, Lib.hid (World.ownsRow_nil _ _ _ _), Lib.hid (Below.refl _ _), Lib.hid ⟨s.size + 1, by rw [list_size]; omega, by rw [HP.out, list_size]; cases lexGo (s.size + 1) s.data.toList 0 [] <;> rfl⟩⟩
  case round =>
    obtain ⟨k, acc, hk, hg, rfl, hacc, HOWN, HBEL, HF⟩ := hrel
    have HG := Lib.hid hg
    clear hg
    have hkI : (k : Int) ≤ s.size := by omega
    have HX := Lib.hid (ext_drop s k)
    go_wp2_with fail
    refine (blanks_any (s.extract k s.size) _ (by rw [ByteArray.size_extract]; omega)).mono ?_
    rintro e w1 ⟨rfl, hb⟩
    rw [HX.out]
    obtain ⟨n, hn⟩ : ∃ n, spanN blankB (s.data.toList.drop k) = n := ⟨_, rfl⟩
    have hnl := spanN_le blankB (s.data.toList.drop k)
    rw [List.length_drop, list_size, hn] at hnl
    rw [hn]
    have HN := Lib.hid hn
    clear hn
    have HB := Lib.hid hb
    clear hb
    have HX2 := Lib.hid (ext_drop s (k + n))
    have hknI : (k : Int) + n ≤ s.size := by omega
    go_wp2_with fail
    have HBL := Lib.hid (below_then' HBEL.out HBEL.out.size HB.out)
    refine (next_any (s.extract (k + n) s.size) (by rw [ByteArray.size_extract]; omega) _ (Lib.hid (hL.out.below HBL.out)) (Lib.hid (hE.out.below HBL.out)) (Lib.hid (hm.out.imp fun m h => below_cellS HBL.out h))).mono ?_
    rintro e w2 ⟨rfl, hb⟩
    rw [HX2.out]
    have HB2 := Lib.hid (HB.out.trans (hb.mono HB.out.size))
    have HBL2 := Lib.hid (below_then' HBL.out HBL.out.size hb)
    have HOWN2 := Lib.hid (owns_below (owns_below HOWN.out HB.out) hb)
    clear hb
    obtain ⟨r, hr⟩ : ∃ r, nextP (s.data.toList.drop (k + n)) = r := ⟨_, rfl⟩
    rw [hr]
    have HR := Lib.hid hr
    clear hr
    unfold tokV
    by_cases he : r.2.2 = 0
    · have heb : (r.2.2 != 0) = false := by rw [he]; rfl
      go_wp2_with (at_builtin; refine wpList_append_own _ rfl _ _ 23 rfl w.heap.size 29 i0 (.agg #[.int .i64 0, .string ⟨#[]⟩, .int .i64 0]) 3 32 Tryd.underlying23 HI.out hz0 hz1 hz2 rfl (by decide) _ acc.length (tokCells acc) rfl ((HOWN2.out.alloc _).alloc _) ⟨w2.heap.size + 1, 0, none⟩ 1 1 [.int .i64 r.1.1, .string ⟨r.1.2.toArray⟩, .int .i64 ((k : Int) + n)] rfl rfl ?c1 ?c2 ?c3 ?c4 ?c5 ?_)
      case c1 =>
        intro j u hj
        have ea : ((⟨w2.heap.size + 1, 0, none⟩ : Addr).add j) = ⟨w2.heap.size + 1, j, none⟩ := by unfold Addr.add; split <;> simp_all
        rw [ea, World.cell?_alloc_at _ _ _ _ (by simp)]
        match j, hj with
        | 0, hj => simpa using hj
        | 1, hj => simpa using hj
        | 2, hj => simpa using hj
      case c2 => intro u hu; simp at hu; rcases hu with rfl | rfl | rfl <;> rfl
      case c3 => unfold maxLen; omega
      case c4 => omega
      case c5 => have := HBL2.out.size; simp; omega
      intro v' w3 hown3 hgrow _
      have hlt2 := HOWN2.out.lt
      have hne : ∀ v0 : Value, (∀ q, v0.ownBlock = some q → w.heap.size ≤ q ∧ q < w2.heap.size) → some w2.heap.size ≠ v0.ownBlock := fun v0 h e => by
        have := (h _ e.symm).2; omega
      have hkc : w3.cell? ⟨w2.heap.size, 0, none⟩ = some (.int .i64 r.1.1) := by
        refine hgrow.cell (a := ⟨w2.heap.size, 0, none⟩) ?_ (hne _ hlt2)
        rw [World.cell?_alloc_past _ _ _ (by simp), World.cell?_alloc_at _ _ _ _ rfl]
        rfl
      have HBL3 := Lib.hid ((((HBL2.out.alloc HBL2.out.size _).alloc (by have := HBL2.out.size; simp; omega) _).grown hgrow (by have := HBL2.out.size; simp; omega) (fun q hq => (hlt2 q hq).1)))
      have hlen : acc.length + 1 = (acc ++ [(r.1.1, r.1.2, k + n)]).length := by simp
      have hcat : tokCells acc ++ [.int .i64 r.1.1, .string ⟨r.1.2.toArray⟩, .int .i64 ((k : Int) + n)] = tokCells (acc ++ [(r.1.1, r.1.2, k + n)]) := by rw [tokCells_snoc]; rfl
      rw [hlen, hcat] at hown3
      have HOWN3 := Lib.hid hown3
      clear hown3 hgrow hlt2 hne hlen hcat
      by_cases hz : r.1.1 = 0
      · have hzb : (r.1.1 == 0) = true := by rw [hz]; rfl
        have HK := Lib.hid (show lexP s.data.toList most = (acc ++ [(r.1.1, r.1.2, k + n)], 0, 0) from by obtain ⟨f, H⟩ := HF.out; exact H.fin HN.out HR.out he hz)
        go_wp2_with fail
        go_ret3
        rw [HK.out]
        exact ⟨_, rfl, HBL3.out, HOWN3.out⟩
      · have hzb : (r.1.1 == 0) = false := by rw [beq_eq_false_iff_ne]; exact hz
        obtain ⟨f, H⟩ := HF.out
        obtain ⟨g1, g2, g3⟩ := H.step (by rw [list_size]; exact hk) HN.out HR.out he hz
        rw [list_size] at g2
        have G3 := Lib.hid g3
        have hrI : (k : Int) + n + r.2.1 ≤ s.size := by omega
        clear H g3
        go_wp2_with fail
        go_roundg (s.size - (k + n + r.2.1))
        case measure => rw [HG.out]; omega
        case rel => exact ⟨k + n + r.2.1, _, g2, rfl, by go_num, by simp; omega, HOWN3, HBL3, Lib.hid ⟨_, G3.out⟩⟩
    · have heb : (r.2.2 != 0) = true := by rw [bne_iff_ne]; exact he
      have HK := Lib.hid (show lexP s.data.toList most = ([], k + n, r.2.2) from by obtain ⟨f, H⟩ := HF.out; exact H.err HN.out HR.out he)
      go_wp2_with fail
      go_ret3
      rw [HK.out]
      exact ⟨_, rfl, HBL2.out.alloc HBL2.out.size _, World.ownsRow_nil _ _ _ _⟩
theorem lex_any (s : ByteArray) (hs : s.size ≤ 1000000) (most : Int) (w : World) (hL : Hid (FltLaid w)) (hE : Hid (ErrAt w)) (hm : Hid (∃ m, w.cell? ⟨0, 0, none⟩ = some (.int .i64 m))) :
    Calls Tryd.prog 7 #[.string s, .int .i64 most] w (LexPost (lexP s.data.toList most) w) := by
  by_cases h : most < s.size
  · exact lex_long s most h w
  · exact lex_go s hs most h w hL hE hm
end Go.Proofs.YthhepfjjmilcnaaDoor
