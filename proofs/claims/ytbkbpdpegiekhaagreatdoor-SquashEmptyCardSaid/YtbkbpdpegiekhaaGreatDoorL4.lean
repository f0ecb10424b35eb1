/- SquashEmpty: the row, out of the walk; then the card. -/
import Derived.Test.YtbkbpdpegiekhaaGreatDoorL3
import Derived.Test.YtbkbpdpegiekhaaGreatDoorK1
import Derived.Test.YtbkbpdpegiekhaaGreatDoorKF
import Derived.Test.YtbkbpdpegiekhaaGreatDoorTie
import Derived.Test.YtbkbpdpegiekhaaGreatDoorCards
import Derived.SevenTiedAt
import Derived.OpenShut
set_option linter.unusedVariables false
namespace Go.Proofs.YtbkbpdpegiekhaaGreatDoor
open Go.RowKit Go.ChangeShapes Go.WideShapes Go.ChangeAt Go.WideElems Go.WideMaps

set_option maxRecDepth 100000 in
theorem squashEmpty_lifted (os : Os) (started : os.Started) (H : Type) (enc : TypeId × Value → H) :
    ReturnsInHanded {} Tryz.checked os 3 .any (fun w args => (Rows.squashEmptySpec.pre enc Tryz.prog Tryz.f3 [] false w args ∧ laidMetH Tryz.prog laid2 w) ∧ sizedMet enc Tryz.prog Tryz.f3 (OpenSpec.ofChange Rows.squashEmptySpec) false w args)
      (Rows.squashEmptySpec.post enc Tryz.prog Tryz.f3 false true false false) := by
  refine lift_of (C := Tryz.checked) (X := laidMetH Tryz.prog laid2) (fun _ _ hh h => h.of_heap hh) own started (by kernel_rfl) Tryz.func3
    (ChangeSpec.witness_shaped (enc := enc) (C := Tryz.checked) (os := os) (X := fun w _ => laidMetH Tryz.prog laid2 w) false (doorWorld os) #[.agg #[.slice none 0 0, .slice none 0 0, .slice none 0 0]] 8 rfl (door_shaped os _) (by kernel_rfl) (by kernel_rfl) (by kernel_rfl) (door_met os _)) ?_
  intro W base args ds gs before hval0 hW hsh hL
  have hval : ∀ (j : Nat) t v, Tryz.f3.params[j]? = some t → args[j]? = some v → Value.okWide Tryz.prog W .any base t v := hval0
  have hW' := hW
  obtain ⟨p, q, hA0, hV, rfl, hfz, hnd⟩ := hW
  have hA : DataW.TrodAll enc Tryz.prog W 0 (fun _ => true) true Tryz.f3.params.toList args.toList ds p := hA0
  rw [Tryz.params3] at hA hval
  obtain ⟨v0, d0, rfl, rfl, h0⟩ := trodAll_one hA
  obtain ⟨rfl, rfl⟩ := trodVars_none hV
  obtain ⟨va, vw, vo, l, rfl, hr⟩ := open_layer (hval 0 25 v0 rfl rfl) h0
  have lt0 : ∀ x ∈ p, x.block < W.heap.size := by obtain ⟨m, hm⟩ := h0; exact DataW.trod_lt m _ _ _ hm
  clear hA0 hval0
  simp only [List.append_nil] at hW'
  refine (empty_any l va vw vo W (Env.of hL hsh) hr).mono fun e W' ⟨he, bel⟩ => ?_
  subst he
  exact ⟨_, rfl, _, _, _, [], _, [], hW', trodAll_mk1 (shut_bool Tryz.underlying4 _), trodAll_mk1 (Below.trod laidOut (by kernel_rfl) (of_decide_eq_true (by kernel_rfl)) h0 bel lt0), rfl, bel.frame _, fun h => by cases h⟩

theorem squashEmpty_c1 : (Rows.squashEmptyRow.wf (OpenSpec.ofChange Rows.squashEmptySpec)) = true := by kernel_rfl
theorem squashEmpty_c4 : (Tryz.f3.params.all (Tryz.prog.readableRec ·)) = true := by kernel_rfl
theorem squashEmpty_c5 : (namedTie Tryz.prog Rows.squashEmptyRow.named Rows.squashEmptySpec.vars) = true := by kernel_rfl
theorem squashEmpty_c6 : ((Rows.squashEmptyRow.stops == [])) = true := by kernel_rfl
theorem squashEmpty_c8 : ((Rows.squashEmptyRow.knobs == [])) = true := by kernel_rfl
theorem squashEmpty_c10 : ((Rows.squashEmptyRow.inPlace == Tryz.prog.inPlace 3)) = true := by kernel_rfl
theorem squashEmpty_c11 : ((Rows.squashEmptyRow.unfollowed == Tryz.prog.unfollowed 3)) = true := by kernel_rfl
theorem squashEmpty_c12 : ((Rows.squashEmptyRow.recurses == Tryz.prog.recurses 3)) = true := by kernel_rfl
theorem squashEmpty_c13 : ((Rows.squashEmptyRow.named == Tryz.prog.varsNamed 3)) = true := by kernel_rfl
theorem squashEmpty_c14 : ((Rows.squashEmptyRow.maps == (Tryz.f3.params.toList ++ Rows.squashEmptySpec.plain.varTypes Tryz.prog).any (Tryz.prog.mapsRec ·))) = true := by kernel_rfl
theorem squashEmpty_c15 : ((Rows.squashEmptyRow.ifaces == (Tryz.f3.params.toList ++ Rows.squashEmptySpec.plain.varTypes Tryz.prog).any (Tryz.prog.ifacesRec ·))) = true := by kernel_rfl
theorem squashEmpty_c16 : ((Rows.squashEmptyRow.mapsOut == Tryz.prog.mapsAmong Tryz.f3.resultTypes.toList)) = true := by kernel_rfl
theorem squashEmpty_c17 : ((Rows.squashEmptyRow.loops == (Tryz.f3.params.toList ++ Rows.squashEmptySpec.plain.varTypes Tryz.prog).any (Tryz.prog.loopsFrom ·))) = true := by kernel_rfl
theorem squashEmpty_c18 : ((Rows.squashEmptyRow.wideKeys == (Tryz.f3.params.toList ++ Rows.squashEmptySpec.plain.varTypes Tryz.prog ++ Tryz.f3.resultTypes.toList).any (Tryz.prog.wideKeysFrom ·))) = true := by kernel_rfl
theorem squashEmpty_c19 : (Rows.squashEmptySpec.vars.all (Tryz.prog.varReadable ·)) = true := by kernel_rfl
theorem squashEmpty_c20 : (Tryz.f3.resultTypes.all (fun t => Tryz.prog.readableRec t && decide (t < Tryz.prog.types.size))) = true := by kernel_rfl
theorem squashEmpty_c21 : ((Rows.squashEmptyRow.ifacesOut == Tryz.f3.resultTypes.toList.any (Tryz.prog.ifacesRec ·))) = true := by kernel_rfl
theorem squashEmpty_c22 : ((Rows.squashEmptyRow.loopsOut == Tryz.f3.resultTypes.toList.any (Tryz.prog.loopsFrom ·))) = true := by kernel_rfl
theorem squashEmpty_c24 : (Rows.squashEmptyRow.shortTexts.isNone) = true := by kernel_rfl
theorem squashEmpty_c29 : ((Rows.squashEmptyRow.kinds == (if Rows.squashEmptyRow.domain.isEmpty then [] else Tryz.f3.params.toList.map fun t => match Tryz.prog.underlying t with | some (.int k) => some k | _ => none))) = true := by kernel_rfl
theorem squashEmpty_c30 : ((Rows.squashEmptyRow.pinned == Rows.squashEmptyRow.pinnedBy)) = true := by kernel_rfl
theorem squashEmpty_c31 : ((Rows.squashEmptyRow.veiled == (Tryz.f3.params.toList ++ Rows.squashEmptySpec.plain.varTypes Tryz.prog ++ Tryz.f3.resultTypes.toList).any (Tryz.prog.veiledRec ·))) = true := by kernel_rfl
theorem squashEmpty_c32 : (Rows.squashEmptyRow.veiledFits Tryz.prog Tryz.f3.params.toList (Tryz.f3.params.toList ++ Rows.squashEmptySpec.plain.varTypes Tryz.prog ++ Tryz.f3.resultTypes.toList)) = true := by kernel_rfl
set_option maxRecDepth 100000 in
theorem squashEmpty_closed : joinedFacts Tryz.prog 3 Tryz.f3 Rows.squashEmptySpec Rows.squashEmptyRow = true := by
  unfold joinedFacts
  exact (and2 (and2 (and2 (and2 (and2 (and2 (and2 (and2 (and2 (and2 (and2 (and2 (and2 (and2 (and2 (and2 (and2 (and2 (and2 (and2 (and2 (and2 (and2 (and2 (and2 (and2 (and2 (and2 (and2 (and2 (and2 squashEmpty_c1 kf_c2) kf_c3) squashEmpty_c4) squashEmpty_c5) squashEmpty_c6) kf_c7) squashEmpty_c8) kf_c9) squashEmpty_c10) squashEmpty_c11) squashEmpty_c12) squashEmpty_c13) squashEmpty_c14) squashEmpty_c15) squashEmpty_c16) squashEmpty_c17) squashEmpty_c18) squashEmpty_c19) squashEmpty_c20) squashEmpty_c21) squashEmpty_c22) kf_c23) squashEmpty_c24) kf_c25) kf_c26) kf_c27) kf_c28) squashEmpty_c29) squashEmpty_c30) squashEmpty_c31) squashEmpty_c32)

theorem squashEmpty_named : Tryz.prog.funcNamed "montage/montagelaw25.SquashEmpty" = some 3 := by kernel_rfl
theorem squashEmpty_inst : Tryz.f3.isInstance Tryz.prog Rows.squashEmptyRow.origin Rows.squashEmptyRow.targs := of_decide_eq_true (by kernel_rfl)
theorem squashEmpty_wrap : Tryz.f3.isWrapper Tryz.prog Rows.squashEmptyRow.wrapper Rows.squashEmptyRow.mainSum := by
  unfold Func.isWrapper
  first
  | (rw [if_pos (by decide +kernel)]; kernel_rfl)
  | (rw [if_neg (by decide +kernel)]; exact ⟨rfl, rfl⟩)
theorem squashEmpty_holds : Rows.SquashEmptySaid :=
  OpenClaim.holds_of_wide 3 Tryz.f3 rfl rfl rfl rfl rfl rfl rfl ⟨rfl, rfl, rfl, rfl, rfl⟩ rfl rfl rfl rfl rfl squashEmpty_named Tryz.func3 squashEmpty_closed squashEmpty_inst squashEmpty_wrap
    (fun os started H enc _ => squashEmpty_lifted os started H enc)
theorem kf_looks : false = Tryz.prog.looks [] := by kernel_rfl
theorem squashEmpty_wf : Rows.squashEmptyRow.wfByText (OpenSpec.ofChange Rows.squashEmptySpec) = true := by kernel_rfl
theorem squashEmpty_goes : false = Rows.squashEmptyRow.goesBy Tryz.prog := by kernel_rfl
theorem squashEmpty_plain : ([25].all fun u => !Tryz.prog.wantsStandIn u) = true := by kernel_rfl

theorem squashEmpty_card : Rows.SquashEmptyCardSaid :=
  Claim7.holds_tied_plain_at .later [] [.data, .pinned] true (true, "c930284ee8cdeca3734823b1d00b740428cf56745f4bb0a91e541e0e25e41985") false
    squashEmpty_holds (fun _ h => by cases h) squashEmpty_wf (fun _ h => by cases h) squashEmpty_row_tie rfl ⟨rfl, rfl⟩ kf_main rfl
    (fun f fn hf hfn => by
      obtain rfl : f = 3 := Option.some.inj (squashEmpty_named.symm.trans hf) |>.symm
      obtain rfl : fn = Tryz.f3 := (Option.some.inj (Tryz.func3.symm.trans hfn)).symm
      exact ⟨kf_looks, fun j t ht => by
        rw [Tryz.params3] at ht
        have hm : t ∈ [25] := by simpa using Array.mem_of_getElem? ht
        exact (show Tryz.prog.wantsStandIn t = false by simpa using List.all_eq_true.1 squashEmpty_plain t hm)⟩)
    squashEmpty_goes
#print axioms squashEmpty_card
end Go.Proofs.YtbkbpdpegiekhaaGreatDoor
