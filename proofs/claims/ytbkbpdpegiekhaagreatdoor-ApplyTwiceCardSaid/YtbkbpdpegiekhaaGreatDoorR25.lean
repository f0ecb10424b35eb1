/- slices.Clone at nodes; squash: adds. -/
import Derived.Test.YtbkbpdpegiekhaaGreatDoorR24
set_option linter.unusedVariables false
set_option linter.unusedSimpArgs false
namespace Go.Proofs.YtbkbpdpegiekhaaGreatDoor
open Go.RowKit Go.Proofs.YtbkbpdpegiekhaaGreatDoorW.PrintWords Mo

theorem eql_nil22 (w : World) (a : Option Addr) (n c n' c' : Nat) : (binOp .eql 22 (.slice a n c) (.slice none n' c')).run Tryz.prog w = .ok (.bool a.isNone) w := Lib.run_eql_slice_nil w _ _ a n c n' c' Tryz.underlying22

set_option maxHeartbeats 1000000 in
theorem clone_nodes (xs : List Nd) (v : Value) (w : World) (hv : Rd kN w v xs) (hsz : xs.length ≤ 1000000000) :
    Calls Tryz.prog 131 #[v] w fun e w' => ∃ v', e = .returned v' ∧ Ow kN 46 w' w.heap.size v' xs ∧ Below w.heap.size w w' := by
  obtain ⟨A, c, rfl, hl, hc⟩ := hv
  cases A with
  | none =>
    have h0 : xs = [] := by
      rcases C_flat hc (by decide) with h | ⟨b, off, e, _⟩
      · exact h
      · cases e
    subst h0
    refine (AnyE.slices_Clone_nil Tryz.cloneN 0 c w).mono ?_
    rintro e w' ⟨rfl, rfl⟩
    exact ⟨_, rfl, Ow.nil _ _ _ _, Below.refl _ _⟩
  | some ad =>
    have HC := Aside0.mk hc
    clear hc
    have hq := eql_nil22
    obtain ⟨n, hn0⟩ : ∃ n, n = xs.length := ⟨_, rfl⟩
    rw [← hn0] at hl hsz ⊢
    have HN := Aside0.mk hn0
    clear hn0
    have hO : Ow kN 46 (w.alloc (.cells #[] 46)) w.heap.size (.slice (some ⟨w.heap.size, 0, none⟩) 0 0) [] := ⟨[], ⟨rfl, .inr ⟨w.heap.size, 0, #[], rfl, Nat.le_refl _, heap_alloc_new _ _, Nat.le_refl _, Nat.zero_le _, rfl, rfl⟩⟩, Reps.none _ _⟩
    have HO := Aside0.mk hO
    clear hO
    go_enter Tryz.func131, Tryz.ntmps131
    go_wp2_with (at_builtin; refine Ow.app kN flat_node _ w.heap.size rfl _ _ 22 46 (.agg #[(.string ⟨#[]⟩), (.bool false), (.string ⟨#[]⟩), (.int .i64 0), (.int .i64 0)]) 56 rfl Tryz.underlying22 info46 rfl (by decide) _ [] xs rfl (some ad) c (by rw [← HN.out]; rfl) ?hC ?hO ?hB ?hL ?_; (case hC => exact Kd.C_below HC.out ((Grew.refl w).alloc _).below); (case hO => exact HO.out); (case hB => simp); (case hL => rw [← HN.out]; simp; omega); intro v1' w2 ho hgg hat; have HB1 := Aside0.mk (Below.grown ((Grew.refl w).alloc (.cells #[] 46)).below hgg (by simp) HO.out.base_le); have HO1 := Aside0.mk ho; clear ho hgg hat)
    go_ret
    exact ⟨_, rfl, HO1.out, HB1.out⟩

end Go.Proofs.YtbkbpdpegiekhaaGreatDoor
