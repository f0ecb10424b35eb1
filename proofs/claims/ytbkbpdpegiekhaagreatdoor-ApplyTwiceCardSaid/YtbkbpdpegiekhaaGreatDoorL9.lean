/- ApplyTwice: the row, out of the walk; then the card. No condition beyond the row's own. -/
import Derived.Test.YtbkbpdpegiekhaaGreatDoorL8
import Derived.Test.YtbkbpdpegiekhaaGreatDoorK1
import Derived.Test.YtbkbpdpegiekhaaGreatDoorKF
import Derived.Test.YtbkbpdpegiekhaaGreatDoorTie
import Derived.Test.YtbkbpdpegiekhaaGreatDoorCards
import Derived.SevenTiedAt
import Derived.OpenShut
set_option linter.unusedVariables false
namespace Go.Proofs.YtbkbpdpegiekhaaGreatDoor
open Go.RowKit Go.ChangeShapes Go.WideShapes Go.ChangeAt Go.WideElems Go.WideMaps

set_option maxRecDepth 100000 in
theorem applyTwice_lifted (os : Os) (started : os.Started) (H : Type) (enc : TypeId × Value → H) :
    ReturnsInHanded {} Tryz.checked os 12 .any (fun w args => (Rows.applyTwiceSpec.pre enc Tryz.prog Tryz.f12 [] false w args ∧ laidMetH Tryz.prog laid2 w) ∧ sizedMet enc Tryz.prog Tryz.f12 (OpenSpec.ofChange Rows.applyTwiceSpec) false w args)
      (Rows.applyTwiceSpec.post enc Tryz.prog Tryz.f12 false true false false) := by
  refine lift_of (C := Tryz.checked) (X := laidMetH Tryz.prog laid2) (fun _ _ hh h => h.of_heap hh) own started (by kernel_rfl) Tryz.func12
    (ChangeSpec.witness_shaped (enc := enc) (C := Tryz.checked) (os := os) (X := fun w _ => laidMetH Tryz.prog laid2 w) false (doorWorld os) #[.agg #[.slice none 0 0, .slice none 0 0, .slice none 0 0], .slice none 0 0] 8 rfl (door_shaped os _) (by kernel_rfl) (by kernel_rfl) (by kernel_rfl) (door_met os _)) ?_
  intro W base args ds gs before hval0 hW hsh hL
  have hval : ∀ (j : Nat) t v, Tryz.f12.params[j]? = some t → args[j]? = some v → Value.okWide Tryz.prog W .any base t v := hval0
  have hW' := hW
  obtain ⟨p, q, hA0, hV, rfl, hfz, hnd⟩ := hW
  have hA : DataW.TrodAll enc Tryz.prog W 0 (fun _ => true) true Tryz.f12.params.toList args.toList ds p := hA0
  rw [Tryz.params12] at hA hval
  obtain ⟨v0, v1, d0, d1, p0, p1, rfl, rfl, rfl, h0, h1⟩ := trodAll_two hA
  obtain ⟨rfl, rfl⟩ := trodVars_none hV
  obtain ⟨va0, vw0, vo0, l0, rfl, hr0⟩ := open_layer (hval 0 25 v0 rfl rfl) h0
  obtain ⟨xs1, hr1⟩ := Opens.rd Tryz.underlying22 Opens.nodes (hval 1 22 v1 rfl rfl) h1
  have lt0 : ∀ x ∈ p0, x.block < W.heap.size := by obtain ⟨m, hm⟩ := h0; exact DataW.trod_lt m _ _ _ hm
  have lt1 : ∀ x ∈ p1, x.block < W.heap.size := by obtain ⟨m, hm⟩ := h1; exact DataW.trod_lt m _ _ _ hm
  clear hA0 hval0
  simp only [List.append_nil] at hW'
  refine (twice_any l0 va0 vw0 vo0 xs1 v1 W (Env.of hL hsh) hr0 hr1).mono fun e W' ⟨he, bel⟩ => ?_
  subst he
  exact ⟨_, rfl, _, _, _, [], _, [], hW', trodAll_mk1 (shut_bool Tryz.underlying4 _), trodAll_mk2 (Below.trod laidOut (by kernel_rfl) (of_decide_eq_true (by kernel_rfl)) h0 bel lt0) (Below.trod laidOut (by kernel_rfl) (of_decide_eq_true (by kernel_rfl)) h1 bel lt1), rfl, bel.frame _, fun h => by cases h⟩

theorem applyTwice_c1 : (Rows.applyTwiceRow.wf (OpenSpec.ofChange Rows.applyTwiceSpec)) = true := by kernel_rfl
theorem applyTwice_c4 : (Tryz.f12.params.all (Tryz.prog.readableRec ·)) = true := by kernel_rfl
theorem applyTwice_c5 : (namedTie Tryz.prog Rows.applyTwiceRow.named Rows.applyTwiceSpec.vars) = true := by kernel_rfl
theorem applyTwice_c6 : ((Rows.applyTwiceRow.stops == [])) = true := by kernel_rfl
theorem applyTwice_c8 : ((Rows.applyTwiceRow.knobs == [])) = true := by kernel_rfl
theorem applyTwice_c10 : ((Rows.applyTwiceRow.inPlace == Tryz.prog.inPlace 12)) = true := by kernel_rfl
theorem applyTwice_c11 : ((Rows.applyTwiceRow.unfollowed == Tryz.prog.unfollowed 12)) = true := by kernel_rfl
theorem applyTwice_c12 : ((Rows.applyTwiceRow.recurses == Tryz.prog.recurses 12)) = true := by kernel_rfl
theorem applyTwice_c13 : ((Rows.applyTwiceRow.named == Tryz.prog.varsNamed 12)) = true := by kernel_rfl
theorem applyTwice_c14 : ((Rows.applyTwiceRow.maps == (Tryz.f12.params.toList ++ Rows.applyTwiceSpec.plain.varTypes Tryz.prog).any (Tryz.prog.mapsRec ·))) = true := by kernel_rfl
theorem applyTwice_c15 : ((Rows.applyTwiceRow.ifaces == (Tryz.f12.params.toList ++ Rows.applyTwiceSpec.plain.varTypes Tryz.prog).any (Tryz.prog.ifacesRec ·))) = true := by kernel_rfl
theorem applyTwice_c16 : ((Rows.applyTwiceRow.mapsOut == Tryz.prog.mapsAmong Tryz.f12.resultTypes.toList)) = true := by kernel_rfl
theorem applyTwice_c17 : ((Rows.applyTwiceRow.loops == (Tryz.f12.params.toList ++ Rows.applyTwiceSpec.plain.varTypes Tryz.prog).any (Tryz.prog.loopsFrom ·))) = true := by kernel_rfl
theorem applyTwice_c18 : ((Rows.applyTwiceRow.wideKeys == (Tryz.f12.params.toList ++ Rows.applyTwiceSpec.plain.varTypes Tryz.prog ++ Tryz.f12.resultTypes.toList).any (Tryz.prog.wideKeysFrom ·))) = true := by kernel_rfl
theorem applyTwice_c19 : (Rows.applyTwiceSpec.vars.all (Tryz.prog.varReadable ·)) = true := by kernel_rfl
theorem applyTwice_c20 : (Tryz.f12.resultTypes.all (fun t => Tryz.prog.readableRec t && decide (t < Tryz.prog.types.size))) = true := by kernel_rfl
theorem applyTwice_c21 : ((Rows.applyTwiceRow.ifacesOut == Tryz.f12.resultTypes.toList.any (Tryz.prog.ifacesRec ·))) = true := by kernel_rfl
theorem applyTwice_c22 : ((Rows.applyTwiceRow.loopsOut == Tryz.f12.resultTypes.toList.any (Tryz.prog.loopsFrom ·))) = true := by kernel_rfl
theorem applyTwice_c24 : (Rows.applyTwiceRow.shortTexts.isNone) = true := by kernel_rfl
theorem applyTwice_c29 : ((Rows.applyTwiceRow.kinds == (if Rows.applyTwiceRow.domain.isEmpty then [] else Tryz.f12.params.toList.map fun t => match Tryz.prog.underlying t with | some (.int k) => some k | _ => none))) = true := by kernel_rfl
theorem applyTwice_c30 : ((Rows.applyTwiceRow.pinned == Rows.applyTwiceRow.pinnedBy)) = true := by kernel_rfl
theorem applyTwice_c31 : ((Rows.applyTwiceRow.veiled == (Tryz.f12.params.toList ++ Rows.applyTwiceSpec.plain.varTypes Tryz.prog ++ Tryz.f12.resultTypes.toList).any (Tryz.prog.veiledRec ·))) = true := by kernel_rfl
theorem applyTwice_c32 : (Rows.applyTwiceRow.veiledFits Tryz.prog Tryz.f12.params.toList (Tryz.f12.params.toList ++ Rows.applyTwiceSpec.plain.varTypes Tryz.prog ++ Tryz.f12.resultTypes.toList)) = true := by kernel_rfl
set_option maxRecDepth 100000 in
theorem applyTwice_closed : joinedFacts Tryz.prog 12 Tryz.f12 Rows.applyTwiceSpec Rows.applyTwiceRow = true := by
  unfold joinedFacts
  exact (and2 (and2 (and2 (and2 (and2 (and2 (and2 (and2 (and2 (and2 (and2 (and2 (and2 (and2 (and2 (and2 (and2 (and2 (and2 (and2 (and2 (and2 (and2 (and2 (and2 (and2 (and2 (and2 (and2 (and2 (and2 applyTwice_c1 kf_c2) kf_c3) applyTwice_c4) applyTwice_c5) applyTwice_c6) kf_c7) applyTwice_c8) kf_c9) applyTwice_c10) applyTwice_c11) applyTwice_c12) applyTwice_c13) applyTwice_c14) applyTwice_c15) applyTwice_c16) applyTwice_c17) applyTwice_c18) applyTwice_c19) applyTwice_c20) applyTwice_c21) applyTwice_c22) kf_c23) applyTwice_c24) kf_c25) kf_c26) kf_c27) kf_c28) applyTwice_c29) applyTwice_c30) applyTwice_c31) applyTwice_c32)

theorem applyTwice_named : Tryz.prog.funcNamed "montage/montagelaw24.ApplyTwice" = some 12 := by kernel_rfl
theorem applyTwice_inst : Tryz.f12.isInstance Tryz.prog Rows.applyTwiceRow.origin Rows.applyTwiceRow.targs := of_decide_eq_true (by kernel_rfl)
theorem applyTwice_wrap : Tryz.f12.isWrapper Tryz.prog Rows.applyTwiceRow.wrapper Rows.applyTwiceRow.mainSum := by
  unfold Func.isWrapper
  first
  | (rw [if_pos (by decide +kernel)]; kernel_rfl)
  | (rw [if_neg (by decide +kernel)]; exact ⟨rfl, rfl⟩)
theorem applyTwice_holds : Rows.ApplyTwiceSaid :=
  OpenClaim.holds_of_wide 12 Tryz.f12 rfl rfl rfl rfl rfl rfl rfl ⟨rfl, rfl, rfl, rfl, rfl⟩ rfl rfl rfl rfl rfl applyTwice_named Tryz.func12 applyTwice_closed applyTwice_inst applyTwice_wrap
    (fun os started H enc _ => applyTwice_lifted os started H enc)
theorem kf_looks : false = Tryz.prog.looks [] := by kernel_rfl
theorem applyTwice_wf : Rows.applyTwiceRow.wfByText (OpenSpec.ofChange Rows.applyTwiceSpec) = true := by kernel_rfl
theorem applyTwice_goes : false = Rows.applyTwiceRow.goesBy Tryz.prog := by kernel_rfl
theorem applyTwice_plain : ([25, 22].all fun u => !Tryz.prog.wantsStandIn u) = true := by kernel_rfl

theorem applyTwice_card : Rows.ApplyTwiceCardSaid :=
  Claim7.holds_tied_plain_at .later [] [.data, .pinned] true (true, "c930284ee8cdeca3734823b1d00b740428cf56745f4bb0a91e541e0e25e41985") false
    applyTwice_holds (fun _ h => by cases h) applyTwice_wf (fun _ h => by cases h) applyTwice_row_tie rfl ⟨rfl, rfl⟩ kf_main rfl
    (fun f fn hf hfn => by
      obtain rfl : f = 12 := Option.some.inj (applyTwice_named.symm.trans hf) |>.symm
      obtain rfl : fn = Tryz.f12 := (Option.some.inj (Tryz.func12.symm.trans hfn)).symm
      exact ⟨kf_looks, fun j t ht => by
        rw [Tryz.params12] at ht
        have hm : t ∈ [25, 22] := by
          have hm0 : t ∈ [25, 22] := by simpa using Array.mem_of_getElem? ht
          simp only [List.mem_cons, List.mem_nil_iff, or_false] at hm0 ⊢
          omega
        exact (show Tryz.prog.wantsStandIn t = false by simpa using List.all_eq_true.1 applyTwice_plain t hm)⟩)
    applyTwice_goes
#print axioms applyTwice_card
end Go.Proofs.YtbkbpdpegiekhaaGreatDoor
