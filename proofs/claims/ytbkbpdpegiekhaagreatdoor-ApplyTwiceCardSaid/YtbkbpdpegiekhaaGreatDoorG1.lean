/- A region that draws its order, gone through by hand: what is left of it under one name. -/
import Derived.Test.YtbkbpdpegiekhaaGreatDoorB1
import Derived.Deep.RegionHeld3
set_option linter.unusedVariables false
set_option linter.unusedSimpArgs false
namespace Go.Proofs.YtbkbpdpegiekhaaGreatDoor
open Go.RowKit Go.Proofs.YtbkbpdpegiekhaaGreatDoorW.PrintWords Mo

/-- R: what is left of a region; Q: what is to hold behind it. -/
structure Reg (P : Program) (ops : Array Oper) (Q : Exit → Act → World → Prop) (S : World → Prop) (R : Nat → Array Bool → Act → World → Prop) : Prop where
  eq : R = wpAnyH P .any ops Q S
  pan : ∀ c (t : Array Value) (ds : List Deferred) (d : Nat) v w, Q (.panic c) ⟨t.setIfInBounds d v, ds⟩ w → Q (.panic c) ⟨t, ds⟩ w
section
variable {P : Program} {ops : Array Oper} {Q : Exit → Act → World → Prop} {S : World → Prop} {R : Nat → Array Bool → Act → World → Prop}
theorem Reg.start {id : Nat} {a : Act} {w : World} (S : World → Prop) (hm : P.follows .mixedOrders = true) (hS : S w.drew) (hP : ∀ c (t : Array Value) (ds : List Deferred) (d : Nat) v w, Q (.panic c) ⟨t.setIfInBounds d v, ds⟩ w → Q (.panic c) ⟨t, ds⟩ w)
    (h : ∀ R Q', Aside0 (Q' = Q) → Reg P ops Q' S R → R ops.size (Array.replicate ops.size false) a w.drew) : (Code.region id ops true).wp P Q a w :=
  wp_region_held_drew hm hS fun _ => h _ Q ⟨rfl⟩ ⟨rfl, hP⟩
theorem Reg.take (H : Reg P ops Q S R) (i d : Nat) {fuel : Nat} {l : Array Bool} {t : Array Value} {ds : List Deferred} {w : World} {o : Oper} {v : Value} (hi : ops[i]? = some o)
    (hs : Region.noSelect ops = true) (hf : Region.free .any ops l i = true) (hr : (Region.ready .any ops l).contains i = true)
    (hy : YieldsIf P ops S o v ⟨t, ds⟩) (hS : S w) (hd : o.dst = some d)
    (h : R fuel (l.setIfInBounds i true) ⟨t.setIfInBounds d v, ds⟩ w) : R (fuel + 1) l ⟨t, ds⟩ w := by
  rw [H.eq] at h ⊢
  refine wpAnyH_take hi hs hf hr (fun c a w => by rw [hd]; exact H.pan c a.tmps a.defers d v w) hy hS ?_
  have : Act.put ⟨t, ds⟩ o.dst v = ⟨t.setIfInBounds d v, ds⟩ := by rw [hd]; rfl
  rw [this]
  exact h
theorem Reg.skip (H : Reg P ops Q S R) (i d : Nat) {fuel : Nat} {l : Array Bool} {t : Array Value} {ds : List Deferred} {w : World} {o : Oper} (hi : ops[i]? = some o)
    (hs : Region.noSelect ops = true) (hf : Region.free .any ops l i = true) (hr : (Region.ready .any ops l).contains i = true)
    (hw : Region.wanted o (yielded ops t) = false) (hS : S w) (hd : o.dst = some d)
    (h : R fuel (l.setIfInBounds i true) ⟨t.setIfInBounds d undef, ds⟩ w) : R (fuel + 1) l ⟨t, ds⟩ w :=
  H.take i d hi hs hf hr (.inr ⟨hw, rfl⟩) hS hd h
theorem Reg.one (H : Reg P ops Q S R) (i : Nat) {fuel : Nat} {l : Array Bool} {a : Act} {w : World} {o : Oper} (hr : Region.ready .any ops l = [i]) (ho : ops[i]? = some o)
    (h : ∀ K : Act → World → Prop, Shut (∀ a w, S w → (S w → R fuel (l.setIfInBounds i true) a w) → K a w) → if Region.wanted o (yielded ops a.tmps) = true then Oper.wp P o a w K Q else K (a.put o.dst undef) w) : R (fuel + 1) l a w := by
  rw [H.eq] at h ⊢
  exact wpAnyH_ready hr (by simp) (AllReadyH.cons ho h AllReadyH.nil)
theorem Reg.done (H : Reg P ops Q S R) {fuel : Nat} {l : Array Bool} {a : Act} {w : World} (hr : Region.ready .any ops l = []) (h : Q .normal a w) : R fuel l a w := by
  rw [H.eq]
  exact wpAnyH_done hr h _
end

end Go.Proofs.YtbkbpdpegiekhaaGreatDoor
