/-
  The law sundialkeep.SourcesRead: for every input the call returns true, and each argument reads afterwards as it read before. Its condition: the listed package-level variables read as the program lays them (tied to the program text).
-/
import Derived.Test.YtbciennhcdabeaaDoorKsC
import Derived.Test.YtbciennhcdabeaaDoorBase
import Derived.Test.YtbciennhcdabeaaDoorRawO
import Derived.Test.YtbciennhcdabeaaDoorDoorSrc
import Derived.Test.YtbciennhcdabeaaDoorTie
import Derived.Test.YtbciennhcdabeaaDoorCards
import Derived.SevenTiedAt
import Derived.Lay
namespace Go.Proofs.YtbciennhcdabeaaDoor.lawSourcesRead
open Go.ChangeShapes Go.WideShapes Go.ChangeAt Go.RowKit
open Go.ChangeMaps (open_string shut_string)
set_option linter.unusedVariables false
set_option linter.unusedSimpArgs false

set_option maxRecDepth 100000 in
theorem lifted (os : Os) (started : os.Started) (H : Type) (enc : TypeId × Value → H) :
    ReturnsInHanded {} Tryd.checked os 3 .any (fun w args => (Rows.sourcesReadSpec.pre enc Tryd.prog Tryd.f3 [] false w args ∧ laidMetH Tryd.prog Rows.sourcesReadRow.laid w) ∧ sizedMet enc Tryd.prog Tryd.f3 (OpenSpec.ofChange Rows.sourcesReadSpec) false w args)
      (Rows.sourcesReadSpec.post enc Tryd.prog Tryd.f3 false true false false) := by
  have door_met : ∀ args : Array Value, laidMetH Tryd.prog Rows.sourcesReadRow.laid ((World.laidAll Tryd.prog os Rows.sourcesReadRow.laid).forCall (fun _ _ => 0) ⟨#[], args, []⟩).memory := fun args =>
    (by rw [MakeChecks.laidMetH_plain _ _ _ (by kernel_rfl)]; exact laidMet_laidAll args (by kernel_rfl) (by kernel_rfl))
  refine change_shapedS (C := Tryd.checked) (X := fun w _ => laidMetH Tryd.prog Rows.sourcesReadRow.laid w) (fun _ _ _ hh h => h.of_heap hh) ownS started (by kernel_rfl) Tryd.func3
    (ChangeSpec.witness_shaped (enc := enc) (C := Tryd.checked) (os := os) (X := fun w _ => laidMetH Tryd.prog Rows.sourcesReadRow.laid w) false (World.laidAll Tryd.prog os Rows.sourcesReadRow.laid) #[.slice none 0 0] 8 (World.laidAll_os _ _ _) (World.shaped_of_ZipB (by kernel_rfl) (by kernel_rfl)) (by kernel_rfl) (by kernel_rfl) (by kernel_rfl) (door_met _)) ?_
  intro W base args ds gs before hval0 hW _ hshp hL _
  have hval : ∀ (j : Nat) t v, Tryd.f3.params[j]? = some t → args[j]? = some v → Value.okWide Tryd.prog W .any base t v := hval0
  have hW' := hW
  obtain ⟨p, q, hA0, hV, rfl, hfz, hnd⟩ := hW
  have hA : DataW.TrodAll enc Tryd.prog W 0 (fun _ => true) true Tryd.f3.params.toList args.toList ds p := hA0
  rw [Tryd.params3] at hA hval
  obtain ⟨v0, vs0, d0, ds0, p0, q0, hargs, rfl, rfl, h0, r0⟩ := trodAll_cons hA
  obtain ⟨rfl, rfl, rfl⟩ := trodAll_nil r0
  obtain rfl : args = #[v0] := by cases args; simp_all
  obtain ⟨rfl, rfl⟩ := trodVars_none hV
  have k0 := h0
  have lt0 : ∀ x ∈ p0, x.block < W.heap.size := by obtain ⟨m, hm⟩ := k0; exact DataW.trod_lt m _ _ _ hm
  obtain ⟨xs0, hs0⟩ := openRawsZ (hval 0 22 v0 rfl rfl) h0
  have hL2 := hL
  rw [MakeChecks.laidMetH_plain _ _ _ (by kernel_rfl)] at hL2
  have hT := (And.intro (srV_at 6 7 rfl rfl hL2 (mxl_of hshp)) (pow_at 2 rfl hL2))
  clear hA0 hval0
  refine (walkSourcesRead v0 xs0 W hs0 hT).mono fun e W' ⟨he, bel⟩ => ?_
  subst he
  exact ⟨_, rfl, _, _, _, [], _, [], hW', trodAll_mk1 (shut_bool Tryd.underlying4 _), (trodAll_cons_mk (Below.trod laidOutS (by kernel_rfl) (of_decide_eq_true (by kernel_rfl)) k0 bel lt0) trodAll_mk0), rfl, bel.frame _, fun h => by cases h⟩

theorem over : Rows.sourcesReadRow.holds Tryd.pinned (OpenSpec.ofChange Rows.sourcesReadSpec) :=
  OpenClaim.holds_of_wide 3 Tryd.f3 rfl rfl rfl rfl rfl rfl rfl ⟨rfl, rfl, rfl, rfl, rfl⟩ rfl rfl rfl rfl rfl (by kernel_rfl) Tryd.func3 (by kernel_rfl)
    (of_decide_eq_true (by kernel_rfl)) (by unfold Func.isWrapper; first | (rw [if_pos (by decide +kernel)]; kernel_rfl) | (rw [if_neg (by decide +kernel)]; exact ⟨rfl, rfl⟩))
    (fun os started H enc _ => lifted os started H enc)

theorem proved : Rows.SourcesReadCardSaid :=
  Claim7.holds_tied_plain_at .later _ _ true _ true
    over (fun _ h => by cases h) (by kernel_rfl) (fun _ h => by cases h) sourcesRead_row_tie rfl ⟨rfl, rfl⟩ (by kernel_rfl) rfl
    (fun f fn hf hfn => by
      obtain rfl : f = 3 := Option.some.inj ((show Tryd.prog.funcNamed Rows.sourcesReadRow.func = some 3 by kernel_rfl).symm.trans hf) |>.symm
      obtain rfl : fn = Tryd.f3 := (Option.some.inj (Tryd.func3.symm.trans hfn)).symm
      exact ⟨by kernel_rfl, fun j t ht => by
        rw [Tryd.params3] at ht
        have hm : t ∈ [22] := by simpa using Array.mem_of_getElem? ht
        have hall : ([22].all fun u => !Tryd.prog.wantsStandIn u) = true := by kernel_rfl
        exact (show Tryd.prog.wantsStandIn t = false by simpa using List.all_eq_true.1 hall t hm)⟩)
    (by kernel_rfl)
#print axioms proved
end Go.Proofs.YtbciennhcdabeaaDoor.lawSourcesRead
