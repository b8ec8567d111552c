/- CapSets of the given program returns true for every input, over the tables that its own text lays (a tied card). No condition of ours. -/
import Derived.Test.YtlagofkcddhigaaDoorCards
import Derived.Test.YtlagofkcddhigaaDoorTie
import Derived.Test.YtlagofkcddhigaaDoorLaw
import Derived.Test.YtlagofkcddhigaaDoorR
import Derived.Test.YtlagofkcddhigaaDoorLawTwo
import Derived.SevenTiedAt
namespace Go.Proofs.YtlagofkcddhigaaDoor.CapSets
open Go.ChangeShapes Go.WideShapes Go.ChangeAt Go.RowKit Go.LawRow Go.Proofs.YtlagofkcddhigaaDoor

theorem own : ownKnob Tryd.prog.godebug = none := by kernel_rfl
theorem laidOut : laidOutB Tryd.prog = true := by kernel_rfl
theorem env_of_laid {W : World} (h : laidMetH Tryd.prog Rows.capSetsRow.laid W) : ES W :=
  ⟨laid_tab2 (zss := viewL) (by kernel_rfl) h (List.mem_of_getElem? (i := 5) rfl) (by kernel_rfl) (by kernel_rfl) Tryd.underlying65 Tryd.underlying64 Tryd.underlying3 (by kernel_rfl) (by kernel_rfl),
   laid_tab (zs := fitsL) (by kernel_rfl) h (List.mem_of_getElem? (i := 4) rfl) (by kernel_rfl) (by kernel_rfl) Tryd.underlying69 Tryd.underlying66 (by kernel_rfl) (by kernel_rfl),
   laid_tab (zs := setsL) (by kernel_rfl) h (List.mem_of_getElem? (i := 3) rfl) (by kernel_rfl) (by kernel_rfl) Tryd.underlying72 Tryd.underlying67 (by kernel_rfl) (by kernel_rfl),
   laid_tab (zs := dbL) (by kernel_rfl) h (List.mem_of_getElem? (i := 1) rfl) (by kernel_rfl) (by kernel_rfl) Tryd.underlying117 Tryd.underlying5 (by kernel_rfl) (by kernel_rfl),
   laid_strs (ss := namesL) (by kernel_rfl) h (List.mem_of_getElem? (i := 2) rfl) (by kernel_rfl) (by kernel_rfl) Tryd.underlying74 Tryd.underlying9 (by kernel_rfl),
   laid_strs_block (ss := namesL) (by kernel_rfl) h (List.mem_of_getElem? (i := 2) rfl) (by kernel_rfl) (by kernel_rfl) Tryd.underlying74 Tryd.underlying9 (by kernel_rfl) (by kernel_rfl),
   laid_tab (zs := globalL) (by kernel_rfl) h (List.mem_of_getElem? (i := 6) rfl) (by kernel_rfl) (by kernel_rfl) Tryd.underlying70 Tryd.underlying67 (by kernel_rfl) (by kernel_rfl)⟩
theorem door_met (os : Os) (args : Array Value) : laidMetH Tryd.prog Rows.capSetsRow.laid ((World.doorLaid Tryd.prog 3648 os).forCall (fun _ _ => 0) ⟨#[], args, []⟩).memory :=
  laidMetH_of_parts3 (fuel := 8) (laidMet_of_run' 8 (by kernel_rfl) (by kernel_rfl)) (by kernel_rfl) (by kernel_rfl)
set_option maxRecDepth 100000 in
theorem lifted (os : Os) (started : os.Started) (H : Type) (enc : TypeId × Value → H) :
    ReturnsInHanded {} Tryd.checked os 8 .any (fun w args => (Rows.capSetsSpec.pre enc Tryd.prog Tryd.f8 [] false w args ∧ laidMetH Tryd.prog Rows.capSetsRow.laid w) ∧ sizedMet enc Tryd.prog Tryd.f8 (OpenSpec.ofChange Rows.capSetsSpec) false w args)
      (Rows.capSetsSpec.post enc Tryd.prog Tryd.f8 false true false false) := by
  refine returnsInHanded_of_change_and (C := Tryd.checked) (X := fun w _ => laidMetH Tryd.prog Rows.capSetsRow.laid w) (fun _ _ _ hh h => h.of_heap hh) own started (by kernel_rfl) Tryd.func8
    (ChangeSpec.witness_shaped (enc := enc) (C := Tryd.checked) (os := os) (X := fun w _ => laidMetH Tryd.prog Rows.capSetsRow.laid w) false (World.doorLaid Tryd.prog 3648 os) #[.int .u8 0] 8 rfl (World.shaped_of_RefB (by kernel_rfl) (by kernel_rfl)) (by kernel_rfl) (by kernel_rfl) (by kernel_rfl) (door_met os _)) ?_
  intro W base args ds gs before hval0 hW _ _ hL _
  have hval : ∀ (j : Nat) t v, Tryd.f8.params[j]? = some t → args[j]? = some v → Value.okWide Tryd.prog W .any base t v := hval0
  have hW' := hW
  obtain ⟨p, q, hA0, hV, rfl, hfz, hnd⟩ := hW
  have hA : DataW.TrodAll enc Tryd.prog W 0 (fun _ => true) true Tryd.f8.params.toList args.toList ds p := hA0
  rw [Tryd.params8] at hA hval
  obtain ⟨v0, vs0, d0, ds0, p0, q0, hargs, rfl, rfl, h0, r0⟩ := trodAll_cons hA
  obtain ⟨rfl, rfl, rfl⟩ := trodAll_nil r0
  obtain rfl : args = #[v0] := by cases args; simp_all
  obtain ⟨rfl, rfl⟩ := trodVars_none hV
  obtain ⟨a0, rfl, rfl, rfl, w0⟩ := open_int Tryd.underlying5 (hval 0 5 v0 rfl rfl) h0
  have b0 := bounds_u8 w0
  clear hA0 hval0
  refine (sets_core a0 b0.1 b0.2 W W (Below.refl _ _) (env_of_laid hL)).mono fun e W' ⟨he, hg⟩ => ?_
  exact ⟨_, he, law_post laidOut (by kernel_rfl) (by kernel_rfl) Tryd.underlying4 rfl rfl hW' hg⟩

theorem row_holds : Rows.CapSetsSaid :=
  OpenClaim.holds_of_wide 8 Tryd.f8 rfl rfl rfl rfl rfl rfl rfl ⟨rfl, rfl, rfl, rfl, rfl⟩ rfl rfl rfl rfl rfl (by kernel_rfl) Tryd.func8 (by kernel_rfl)
    (of_decide_eq_true (by kernel_rfl)) (by unfold Func.isWrapper; first | (rw [if_pos (by decide +kernel)]; kernel_rfl) | (rw [if_neg (by decide +kernel)]; exact ⟨rfl, rfl⟩))
    (fun os started H enc _ => lifted os started H enc)

theorem wants : ∀ t ∈ Tryd.f8.params.toList, Tryd.prog.wantsStandIn t = false := by
  have : (Tryd.f8.params.toList.all fun t => !Tryd.prog.wantsStandIn t) = true := by kernel_rfl
  simpa using this

theorem card_holds : Rows.CapSetsCardSaid :=
  Claim7.holds_tied_plain_at .later [] [.data, .data, .data, .called, .called, .data, .called] true (true, "2465118a18c2c497b1bd22f508bb795d3535449d0ac1fd9ffb5b4d56645d5315") false
    row_holds (fun _ h => by cases h) (by kernel_rfl) (fun _ h => by cases h) capSets_row_tie rfl ⟨rfl, rfl⟩ (by kernel_rfl) rfl
    (fun f fn hf hfn => by
      obtain rfl : f = 8 := Option.some.inj ((show Tryd.prog.funcNamed "hackamore/hackamorelaw07.CapSets" = some 8 by kernel_rfl).symm.trans hf) |>.symm
      obtain rfl : fn = Tryd.f8 := (Option.some.inj (Tryd.func8.symm.trans hfn)).symm
      exact ⟨by kernel_rfl, fun j t ht => wants t (by rw [← Array.getElem?_toList] at ht; exact List.mem_of_getElem? ht)⟩)
    (by kernel_rfl)
#print axioms card_holds
end Go.Proofs.YtlagofkcddhigaaDoor.CapSets
