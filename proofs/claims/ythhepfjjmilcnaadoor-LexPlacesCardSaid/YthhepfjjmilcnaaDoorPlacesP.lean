/- dowserlaw10.LexPlaces returns true for every input, and leaves its arguments as they were: each word stands where it is said to, behind the one ahead of it, with nothing but blanks between; the end is the end of the text. Condition: the listed package-level variables read as the program's text lays them (the card ties them). -/
import Derived.Test.YthhepfjjmilcnaaDoorLaid
import Derived.Test.YthhepfjjmilcnaaDoorPlaces
import Derived.Test.YthhepfjjmilcnaaDoorCards
import Derived.Test.YthhepfjjmilcnaaDoorTie
import Derived.ProofKit
import Derived.Deep.DeepHandedRow
import Derived.Lay
namespace Go.Proofs.YthhepfjjmilcnaaDoor.lexPlaces
open Go.ChangeShapes Go.WideShapes Go.ChangeAt Go.RowKit
open Go.ChangeMaps (open_string shut_string)
theorem own : ownKnob Tryd.prog.godebug = none := by kernel_rfl
set_option maxRecDepth 100000 in
theorem contract (H : Type) (enc : TypeId × Value → H) (W : World) (base : Nat) (args : Array Value) (ds gs : List (DataW H)) (before : List MemPlace)
    (hval : ∀ (j : Nat) t v, Tryd.f4.params[j]? = some t → args[j]? = some v → Value.okWide Tryd.prog W .any base t v)
    (hW : DataW.Whole enc Tryd.prog Tryd.f4.params.toList Rows.lexPlacesSpec.vars false W args.toList ds gs before) (hL : laidMetH Tryd.prog Rows.lexPlacesRow.laid W) (hsh : W.ShapedOpen Tryd.prog) :
    Calls Tryd.prog 4 args W fun e W' => ∃ v, e = .returned v ∧ Rows.lexPlacesSpec.post enc Tryd.prog Tryd.f4 false true false false W args v W' := by
  have hW' := hW
  obtain ⟨p, q, hA0, hV, rfl, _, _⟩ := hW
  have hA : DataW.TrodAll enc Tryd.prog W 0 (fun _ => true) true Tryd.f4.params.toList args.toList ds p := hA0
  rw [Tryd.params4] at hA hval
  obtain ⟨v0, d0, rfl, rfl, h0⟩ := trodAll_one hA
  obtain ⟨rfl, rfl⟩ := trodVars_none hV
  obtain ⟨x0, rfl, rfl, rfl, w0⟩ := open_string Tryd.underlying9 (hval 0 9 v0 rfl rfl) h0
  clear hA0
  simp only [List.append_nil] at hW'
  rw [MakeChecks.laidMetH_plain _ _ _ (by kernel_rfl)] at hL
  obtain ⟨hF, hE⟩ := laid_all hL (by simp [Rows.lexPlacesRow, Rows.laid_internal_strconv_pow10Tab]) (by simp [Rows.lexPlacesRow]) (by simp [Rows.lexPlacesRow]) (by simp [Rows.lexPlacesRow]) (by simp [Rows.lexPlacesRow]) (by simp [Rows.lexPlacesRow, Rows.laid_internal_strconv_leftcheats]) (by simp [Rows.lexPlacesRow])
  have b0 : x0.size ≤ 9223372036854775807 := by unfold maxLen at w0; omega
  refine (places_any x0 b0 W (Lib.hid hF) (Lib.hid hE) (Lib.hid (maxLen_at hsh))).mono fun e W' ⟨he, hb⟩ => ?_
  subst he
  exact ⟨_, rfl, _, _, _, [], [], [], hW', trodAll_mk1 (shut_bool Tryd.underlying4 _), trodAll_mk1 (shut_string Tryd.underlying9 w0), rfl, hb.frame _, fun h => by cases h⟩
abbrev wargs : Array Value := #[.string ⟨#[]⟩]
theorem reads_at (os : Os) {H : Type} (enc : TypeId × Value → H) : ∃ places, DataW.whole enc Tryd.prog (((World.laidAll Tryd.prog os Rows.lexPlacesRow.laid)).forCall (fun _ _ => 0) ⟨#[], wargs, []⟩).memory Tryd.f4.params.toList Rows.lexPlacesSpec.vars false wargs.toList 8 = some ([.lit (.string [])], [], places) :=
  ⟨[], by kernel_rfl⟩
set_option maxRecDepth 100000 in
theorem lifted (os : Os) (started : os.Started) (H : Type) (enc : TypeId × Value → H) (F : Stop.Interp) :
    ReturnsInHanded {} Tryd.checked os 4 .any ((OpenSpec.ofChange Rows.lexPlacesSpec).preRow enc Tryd.prog Tryd.f4 Rows.lexPlacesRow.domain false Rows.lexPlacesRow.laid) (((OpenSpec.ofChange Rows.lexPlacesSpec).at F).post enc Tryd.prog Tryd.f4 false true false false) := by
  obtain ⟨places, hx⟩ := reads_at os enc
  have hrow := OpenSpec.preRow_of_cond (s := OpenSpec.ofChange Rows.lexPlacesSpec) (laid := Rows.lexPlacesRow.laid) (conds := Rows.lexPlacesRow.domain) 8 hx (by kernel_rfl) (fun k hk => by cases hk) (by kernel_rfl) (laidMet_laidAll wargs (by kernel_rfl) (by kernel_rfl))
  have hokB : Input.okWideB Tryd.prog ((World.laidAll Tryd.prog os Rows.lexPlacesRow.laid).forCall (fun _ _ => 0) ⟨#[], wargs, []⟩) 4 ⟨#[], wargs, []⟩ = true := by kernel_rfl
  refine returnsInHanded_of_row (C := Tryd.checked) (s := OpenSpec.ofChange Rows.lexPlacesSpec) own started (by kernel_rfl) Tryd.func4
    ⟨World.laidAll Tryd.prog os Rows.lexPlacesRow.laid, fun _ _ => 0, ⟨#[], wargs, []⟩, World.laidAll_os _ _ _, World.shaped_of_ZipB (by kernel_rfl) (by kernel_rfl), (Input.okWide_of_okWideB (base := 0) hokB).1, (Input.okWide_of_okWideB hokB).2, hrow, by
      simp only [Assume.holds]
      exact ⟨by simp, by simp, fun _ => Modest.zero, by simp, by simp⟩⟩ ?_
  intro W base args ds gs before hval hW _ _ _ hL hsh _
  exact contract H enc W base args ds gs before hval hW hL hsh
theorem said : Rows.LexPlacesSaid :=
  OpenClaim.holds_of_cond 4 Tryd.f4 rfl rfl rfl rfl rfl rfl rfl ⟨rfl, rfl, rfl, rfl, rfl⟩ rfl rfl rfl rfl rfl (by kernel_rfl) Tryd.func4 (by kernel_rfl)
    (of_decide_eq_true (by kernel_rfl)) (by unfold Func.isWrapper; first | (rw [if_pos (by decide +kernel)]; kernel_rfl) | (rw [if_neg (by decide +kernel)]; exact ⟨rfl, rfl⟩))
    (fun os started H enc _ F => by rw [OpenClaim.pre_eq_preRow]; exact lifted os started H enc F)
theorem plain (f : FuncId) (fn : Func) (hf : Tryd.pinned.checked.prog.funcNamed "dowser/dowserlaw10.LexPlaces" = some f) (hfn : Tryd.pinned.checked.prog.funcs[f]? = some fn) :
    true = Tryd.pinned.checked.prog.looks [] ∧ ∀ (j : Nat) t, fn.params[j]? = some t → Tryd.pinned.checked.prog.wantsStandIn t = false := by
  obtain rfl : f = 4 := Option.some.inj ((show Tryd.prog.funcNamed "dowser/dowserlaw10.LexPlaces" = some 4 by kernel_rfl).symm.trans hf) |>.symm
  obtain rfl : fn = Tryd.f4 := (Option.some.inj (Tryd.func4.symm.trans hfn)).symm
  refine ⟨by kernel_rfl, fun j t ht => ?_⟩
  rw [Tryd.params4] at ht
  have hm : t ∈ [9] := by simpa using Array.mem_of_getElem? ht
  have hall : ([9].all fun u => !Tryd.prog.wantsStandIn u) = true := by kernel_rfl
  exact (show Tryd.prog.wantsStandIn t = false by simpa using List.all_eq_true.1 hall t hm)
theorem holds : Rows.LexPlacesCardSaid :=
  Claim7.holds_tied_plain_at .later [] _ _ _ _ said (fun _ h => by cases h) (by kernel_rfl) (fun _ h => by cases h) lexPlaces_row_tie rfl ⟨rfl, rfl⟩ (by kernel_rfl) rfl plain (by kernel_rfl)
end Go.Proofs.YthhepfjjmilcnaaDoor.lexPlaces
