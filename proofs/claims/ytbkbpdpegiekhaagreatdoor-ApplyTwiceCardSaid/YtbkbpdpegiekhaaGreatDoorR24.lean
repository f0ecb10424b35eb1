/- Rows of nodes, put in order of their paths. -/
import Derived.Test.YtbkbpdpegiekhaaGreatDoorR22
set_option linter.unusedVariables false
set_option linter.unusedSimpArgs false
namespace Mo
open Go
open Go.Proofs.YtbkbpdpegiekhaaGreatDoor (Nd)
def ltN (x y : Nd) : Prop := pCmp x.path y.path < 0
end Mo
namespace Go.Proofs.YtbkbpdpegiekhaaGreatDoor
open Go.RowKit Go.Proofs.YtbkbpdpegiekhaaGreatDoorW.PrintWords Mo Go.Sort

/-- A node of a path that is not great. -/
abbrev Nt := {n : Nd // n.path.size < 4294967281}
instance : Inhabited Nt := ⟨⟨Nd.zero, by decide⟩⟩
theorem lastAt_none {xs : List Nd} {p : S} (h : lastAt xs p = none) : ∀ n ∈ xs, n.path ≠ p := by
  intro n hn e
  unfold lastAt at h
  have := List.find?_eq_none.1 h n (List.mem_reverse.2 hn)
  simp [e] at this
theorem ltN_ne {a b : Nd} (h : ltN a b) : a.path ≠ b.path := fun e => by
  unfold ltN at h
  rw [e, pCmp_self] at h
  omega

end Go.Proofs.YtbkbpdpegiekhaaGreatDoor
