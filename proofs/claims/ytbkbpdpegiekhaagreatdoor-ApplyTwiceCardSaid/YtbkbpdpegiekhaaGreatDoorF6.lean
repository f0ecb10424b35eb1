/- The reference's layers: Texts, Same. -/
import Derived.Test.YtbkbpdpegiekhaaGreatDoorB1
import Derived.Test.YtbkbpdpegiekhaaGreatDoorN3
import Derived.Test.YtbkbpdpegiekhaaGreatDoorR15
import Derived.Outline
import Derived.WalkLawsBesides
import Derived.WalkSpells
import Derived.Lib.ValidLaws
import Derived.Lib.MapLaws
import Derived.Lib.TrimUEq
import Derived.Deep.QuietTactic
import Derived.BigQuiet
/- The reference's paths: Parts. -/
set_option linter.unusedVariables false
set_option linter.unusedSimpArgs false
namespace Mo
end Mo
namespace Go.Proofs.YtbkbpdpegiekhaaGreatDoor
open Go.RowKit Go.Proofs.YtbkbpdpegiekhaaGreatDoorW.PrintWords Mo

theorem Ow.sl0 {α : Type} {d : Kd α} {e : Nat} {w : World} {base : Nat} {v : Value} {xs : List α} (h : Ow d e w base v xs) : ∃ A n c, v = .slice A n c := by
  obtain ⟨A, c, e1, _⟩ := h.slice
  exact ⟨A, _, c, e1⟩
end Go.Proofs.YtbkbpdpegiekhaaGreatDoor

set_option linter.unusedVariables false
set_option linter.unusedSimpArgs false
namespace Go.Proofs.YtbkbpdpegiekhaaGreatDoor
open Go.RowKit Go.Proofs.YtbkbpdpegiekhaaGreatDoorW.PrintWords Mo

theorem str_eqb {x y : S} : (x.toList == y.toList) = decide (x = y) := by
  rw [Lib.toList_data, Lib.toList_data, Bool.eq_iff_iff]
  simp only [beq_iff_eq, decide_eq_true_eq]
  exact ⟨fun h => bs_inj h, fun h => by rw [h]⟩
theorem take_eq_step {α : Type} {xs ys : List α} {k : Nat} (h1 : k < xs.length) (h2 : k < ys.length) (h : xs.take k = ys.take k) (he : xs[k] = ys[k]) : xs.take (k + 1) = ys.take (k + 1) := by
  rw [List.take_succ_eq_append_getElem h1, List.take_succ_eq_append_getElem h2, h, he]
theorem getD_get {α : Type} {d : α} {xs : List α} {k : Nat} (h : k < xs.length) : xs.getD k d = xs[k] := by
  rw [List.getD_eq_getElem?_getD, List.getElem?_eq_getElem h]; rfl

end Go.Proofs.YtbkbpdpegiekhaaGreatDoor
