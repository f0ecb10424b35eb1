/- tree: rest, May; layer: add, adds. -/
import Derived.Test.YtbkbpdpegiekhaaGreatDoorR8
import Derived.Test.YtbkbpdpegiekhaaGreatDoorB2
set_option linter.unusedVariables false
set_option linter.unusedSimpArgs false
namespace Go.Proofs.YtbkbpdpegiekhaaGreatDoor
open Go.RowKit Go.Proofs.YtbkbpdpegiekhaaGreatDoorW.PrintWords Mo

def okRest (n : Nd) : Bool := decide (0 ≤ n.mode) && decide (n.mode ≤ 511) && decide (0 ≤ n.time) && decide (n.time ≤ 4294967295) && (!n.dir || n.data.toList.isEmpty)

set_option maxHeartbeats 1000000 in
theorem tree_rest (n : Nd) (w : World) : Calls Tryz.prog 206 #[vN n] w fun e w' => e = .returned (.bool (okRest n)) ∧ Grew w w' := by
  obtain ⟨p, d, t, m, s⟩ := n
  unfold okRest
  simp only
  by_cases h1 : 0 ≤ m
  rotate_left
  · rw [decide_eq_false h1]
    have h1b : decide (m < 0) = true := by simp; omega
    go_enter Tryz.func206, Tryz.ntmps206
    go_wp2_with fail
    go_ret
    exact ⟨by simp [*], (Grew.refl _).alloc _⟩
  by_cases h2 : m ≤ 511
  rotate_left
  · rw [decide_eq_false h2]
    go_enter Tryz.func206, Tryz.ntmps206
    go_wp2_with fail
    go_ret
    exact ⟨by simp [*], (Grew.refl _).alloc _⟩
  by_cases h3 : 0 ≤ s
  rotate_left
  · rw [decide_eq_false h3]
    go_enter Tryz.func206, Tryz.ntmps206
    go_wp2_with fail
    go_ret
    exact ⟨by simp [*], (Grew.refl _).alloc _⟩
  by_cases h4 : s ≤ 4294967295
  rotate_left
  · rw [decide_eq_false h4]
    go_enter Tryz.func206, Tryz.ntmps206
    go_wp2_with fail
    go_ret
    exact ⟨by simp [*], (Grew.refl _).alloc _⟩
  rw [decide_eq_true h1, decide_eq_true h2, decide_eq_true h3, decide_eq_true h4]
  cases d
  · go_enter Tryz.func206, Tryz.ntmps206
    go_wp2_with fail
    go_ret
    exact ⟨by simp [*], (Grew.refl _).alloc _⟩
  · go_enter Tryz.func206, Tryz.ntmps206
    go_wp2_with fail
    go_ret
    exact ⟨by simp [*], (Grew.refl _).alloc _⟩

theorem tree_May (n : Nd) (w : World) (hE : Env w) (hs : n.path.size < 1000000000) :
    Calls Tryz.prog 243 #[vN n] w fun e w' => e = .returned (.bool (pRight n.path && okRest n)) ∧ Below w.heap.size w w' := by
  have hE' : ∀ o, Env (w.alloc o) := fun o => hE.grew ((Grew.refl w).alloc o)
  have HE := Aside0.mk hE'
  clear hE hE'
  cases h1 : pRight n.path
  · go_enter Tryz.func243, Tryz.ntmps243
    go_wp2_with fail
    refine (route_Check _ _ (HE.out _) (by omega)).mono ?_
    rintro e w1 ⟨rfl, hb⟩
    have HB := Aside0.mk (below_then ((below_alloc (Below.refl _ _) _) : Below w.heap.size w (w.alloc (.cells #[.string n.path, .bool n.dir, .string n.data, .int .i64 n.mode, .int .i64 n.time] 46))) (by simp) hb)
    have hc : ∀ j v, (w.alloc (.cells #[.string n.path, .bool n.dir, .string n.data, .int .i64 n.mode, .int .i64 n.time] 46)).cell? ⟨w.heap.size, j, none⟩ = some v → w1.cell? ⟨w.heap.size, j, none⟩ = some v := fun j v h => pw_cell_below hb h
    clear hb hc
    rw [h1, show okE false 5 = 5 from rfl]
    go_wp2_with fail
    go_ret
    exact ⟨by simp, HB.out⟩
  · go_enter Tryz.func243, Tryz.ntmps243
    go_wp2_with fail
    refine (route_Check _ _ (HE.out _) (by omega)).mono ?_
    rintro e w1 ⟨rfl, hb⟩
    have hw := heap_alloc_new w (.cells #[.string n.path, .bool n.dir, .string n.data, .int .i64 n.mode, .int .i64 n.time] 46)
    have hw1 := (hb.block w.heap.size (by simp)).trans hw
    have c0 := blk_cell hw1 0
    have c1 := blk_cell hw1 1
    have c2 := blk_cell hw1 2
    have c3 := blk_cell hw1 3
    have c4 := blk_cell hw1 4
    have HB := Aside0.mk (below_then ((below_alloc (Below.refl _ _) _) : Below w.heap.size w (w.alloc (.cells #[.string n.path, .bool n.dir, .string n.data, .int .i64 n.mode, .int .i64 n.time] 46))) (by simp) hb)
    clear hb hw hw1
    rw [h1, show okE true 5 = 0 from rfl]
    go_wp2_with fail
    refine (tree_rest n _).mono ?_
    rintro e w2 ⟨rfl, hg⟩
    have HB2 := Aside0.mk (below_then HB.out HB.out.size hg.below)
    clear hg HB
    go_wp2_with fail
    go_ret
    exact ⟨by simp, HB2.out⟩

end Go.Proofs.YtbkbpdpegiekhaaGreatDoor
