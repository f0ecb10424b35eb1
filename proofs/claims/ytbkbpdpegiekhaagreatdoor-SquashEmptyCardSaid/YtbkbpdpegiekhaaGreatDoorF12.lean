/- The reference's nodes: May. -/
import Derived.Test.YtbkbpdpegiekhaaGreatDoorF11
import Derived.Test.YtbkbpdpegiekhaaGreatDoorR9
import Derived.Test.YtbkbpdpegiekhaaGreatDoorG1
set_option linter.unusedVariables false
set_option linter.unusedSimpArgs false
namespace Go.Proofs.YtbkbpdpegiekhaaGreatDoor
open Go.RowKit Go.Proofs.YtbkbpdpegiekhaaGreatDoorW.PrintWords Mo

structure MaySt (w W : World) (p : S) (d : Bool) (t : S) (m s : Int) : Prop where
  lay : W.heap[w.heap.size]? = some (.cells #[.string p, .bool d, .string t, .int .i64 m, .int .i64 s] 46 (0, 0))
  below : Below w.heap.size w W
theorem MaySt.step {w W W' : World} {p : S} {d : Bool} {t : S} {m s : Int} (h : MaySt w W p d t m s) (hb : Below W.heap.size W W') : MaySt w W' p d t m s := ⟨(hb.block _ (blk_lt h.lay)).trans h.lay, below_then h.below h.below.size hb⟩
theorem MaySt.all {w W : World} {p : S} {d : Bool} {t : S} {m s : Int} (h : MaySt w W p d t m s) : W.cell? ⟨w.heap.size, 0, none⟩ = some (.string p) ∧ W.cell? ⟨w.heap.size, 1, none⟩ = some (.bool d) ∧ W.cell? ⟨w.heap.size, 2, none⟩ = some (.string t) ∧ W.cell? ⟨w.heap.size, 3, none⟩ = some (.int .i64 m) ∧ W.cell? ⟨w.heap.size, 4, none⟩ = some (.int .i64 s) ∧ MaySt w W p d t m s :=
  ⟨blk_cell h.lay 0, blk_cell h.lay 1, blk_cell h.lay 2, blk_cell h.lay 3, blk_cell h.lay 4, h⟩

set_option maxHeartbeats 16000000 in
set_option maxRecDepth 100000 in
theorem may_0 (p : S) (d : Bool) (t : S) (m s : Int) (w : World) (hs : p.size ≤ 100000000)  (b0 : decide (0 ≤ m) = false) :
    Calls Tryz.prog 90 #[vN ⟨p, d, t, m, s⟩] w fun e w' => e = .returned (.tuple #[.bool (pRight p), .bool false]) ∧ Below w.heap.size w w' := by
  have HRt := Aside0.mk (fun W => ref_Right p W (by omega))
  have HE := Aside0.mk (show True from trivial)
  clear hs
  go_enter Tryz.func90, Tryz.ntmps90
  go_wp2_with fail
  have hst := (MaySt.step (MaySt.mk (heap_alloc_new w (.cells #[.string p, .bool d, .string t, .int .i64 m, .int .i64 s] 46)) ((Grew.refl w).alloc (.cells #[.string p, .bool d, .string t, .int .i64 m, .int .i64 s] 46)).below) ((Grew.refl _).drew).below).all
  refine Reg.start (fun W => W.cell? ⟨w.heap.size, 0, none⟩ = some (.string p) ∧ W.cell? ⟨w.heap.size, 1, none⟩ = some (.bool d) ∧ W.cell? ⟨w.heap.size, 2, none⟩ = some (.string t) ∧ W.cell? ⟨w.heap.size, 3, none⟩ = some (.int .i64 m) ∧ W.cell? ⟨w.heap.size, 4, none⟩ = some (.int .i64 s) ∧ MaySt w W p d t m s) (by kernel_rfl) hst (fun _ _ _ _ _ _ h => h) (fun R Q' HQ HR => ?_)
  simp only [List.size_toArray, List.length_cons, List.length_nil, Nat.zero_add, Nat.reduceAdd, Array.replicate, List.replicate]
  refine HR.take 0 4 (v := ?v0_0) rfl (by kernel_rfl) (by kernel_rfl) (by kernel_rfl) (Or.inl ⟨by rfl, ?hy0_0⟩) hst rfl ?rs0_0; (case hy0_0 => (intro w hSw; (try dsimp only at hSw); go_simp; (try with_reducible rfl))); simp only [List.setIfInBounds_toArray, List.set_cons_zero, List.set_cons_succ]
  refine HR.take 1 5 (v := ?v0_1) rfl (by kernel_rfl) (by kernel_rfl) (by kernel_rfl) (Or.inl ⟨by rfl, ?hy0_1⟩) hst rfl ?rs0_1; (case hy0_1 => (intro w hSw; (try dsimp only at hSw); go_simp; (try with_reducible rfl))); simp only [List.setIfInBounds_toArray, List.set_cons_zero, List.set_cons_succ]
  refine HR.take 3 7 (v := ?v0_3) rfl (by kernel_rfl) (by kernel_rfl) (by kernel_rfl) (Or.inl ⟨by rfl, ?hy0_3⟩) hst rfl ?rs0_3; (case hy0_3 => (intro w hSw; (try dsimp only at hSw); go_simp; (try with_reducible rfl))); simp only [List.setIfInBounds_toArray, List.set_cons_zero, List.set_cons_succ]
  refine HR.take 4 8 (v := ?v0_4) rfl (by kernel_rfl) (by kernel_rfl) (by kernel_rfl) (Or.inl ⟨by rfl, ?hy0_4⟩) hst rfl ?rs0_4; (case hy0_4 => (intro w hSw; (try dsimp only at hSw); go_simp; (try with_reducible rfl))); simp only [List.setIfInBounds_toArray, List.set_cons_zero, List.set_cons_succ]
  refine HR.take 5 9 (v := ?v0_5) rfl (by kernel_rfl) (by kernel_rfl) (by kernel_rfl) (Or.inl ⟨by rfl, ?hy0_5⟩) hst rfl ?rs0_5; (case hy0_5 => (intro w hSw; (try dsimp only at hSw); go_simp; (try with_reducible rfl))); simp only [List.setIfInBounds_toArray, List.set_cons_zero, List.set_cons_succ]
  refine HR.one 2 (by kernel_rfl) rfl (fun K hK => ?_)
  simp only [List.getElem_toArray, List.getElem_cons_succ, List.getElem_cons_zero]
  go_simp
  refine (HRt.out _).mono ?_
  rintro e w' ⟨rfl, hb⟩
  have hst2 := (hst.2.2.2.2.2.step hb).all
  (try dsimp only)
  refine hK.out _ _ hst2 (fun _ => ?_)
  clear hK K
  simp only [Act.put, List.setIfInBounds_toArray, List.set_cons_zero, List.set_cons_succ]
  refine HR.take 6 10 (v := ?v0_6) rfl (by kernel_rfl) (by kernel_rfl) (by kernel_rfl) (Or.inl ⟨by rfl, ?hy0_6⟩) hst2 rfl ?rs0_6; (case hy0_6 => (intro w hSw; (try dsimp only at hSw); go_simp; (try with_reducible rfl))); simp only [List.setIfInBounds_toArray, List.set_cons_zero, List.set_cons_succ]
  refine HR.skip 7 11 rfl (by kernel_rfl) (by kernel_rfl) (by kernel_rfl) (by rfl) hst2 rfl ?_; simp only [List.setIfInBounds_toArray, List.set_cons_zero, List.set_cons_succ]
  refine HR.skip 8 12 rfl (by kernel_rfl) (by kernel_rfl) (by kernel_rfl) (by rfl) hst2 rfl ?_; simp only [List.setIfInBounds_toArray, List.set_cons_zero, List.set_cons_succ]
  refine HR.skip 9 13 rfl (by kernel_rfl) (by kernel_rfl) (by kernel_rfl) (by rfl) hst2 rfl ?_; simp only [List.setIfInBounds_toArray, List.set_cons_zero, List.set_cons_succ]
  refine HR.take 10 14 (v := ?v0_10) rfl (by kernel_rfl) (by kernel_rfl) (by kernel_rfl) (Or.inl ⟨by rfl, ?hy0_10⟩) hst2 rfl ?rs0_10; (case hy0_10 => (intro w hSw; (try dsimp only at hSw); go_simp; (try with_reducible rfl))); simp only [List.setIfInBounds_toArray, List.set_cons_zero, List.set_cons_succ]
  refine HR.take 11 15 (v := ?v0_11) rfl (by kernel_rfl) (by kernel_rfl) (by kernel_rfl) (Or.inl ⟨by rfl, ?hy0_11⟩) hst2 rfl ?rs0_11; (case hy0_11 => (intro w hSw; (try dsimp only at hSw); go_simp; (try with_reducible rfl))); simp only [List.setIfInBounds_toArray, List.set_cons_zero, List.set_cons_succ]
  refine HR.skip 12 16 rfl (by kernel_rfl) (by kernel_rfl) (by kernel_rfl) (by rfl) hst2 rfl ?_; simp only [List.setIfInBounds_toArray, List.set_cons_zero, List.set_cons_succ]
  refine HR.skip 13 17 rfl (by kernel_rfl) (by kernel_rfl) (by kernel_rfl) (by rfl) hst2 rfl ?_; simp only [List.setIfInBounds_toArray, List.set_cons_zero, List.set_cons_succ]
  refine HR.skip 14 18 rfl (by kernel_rfl) (by kernel_rfl) (by kernel_rfl) (by rfl) hst2 rfl ?_; simp only [List.setIfInBounds_toArray, List.set_cons_zero, List.set_cons_succ]
  refine HR.take 15 19 (v := ?v0_15) rfl (by kernel_rfl) (by kernel_rfl) (by kernel_rfl) (Or.inl ⟨by rfl, ?hy0_15⟩) hst2 rfl ?rs0_15; (case hy0_15 => (intro w hSw; (try dsimp only at hSw); go_simp; (try with_reducible rfl))); simp only [List.setIfInBounds_toArray, List.set_cons_zero, List.set_cons_succ]
  refine HR.take 16 20 (v := ?v0_16) rfl (by kernel_rfl) (by kernel_rfl) (by kernel_rfl) (Or.inl ⟨by rfl, ?hy0_16⟩) hst2 rfl ?rs0_16; (case hy0_16 => (intro w hSw; (try dsimp only at hSw); go_simp; (try with_reducible rfl))); simp only [List.setIfInBounds_toArray, List.set_cons_zero, List.set_cons_succ]
  refine HR.skip 17 21 rfl (by kernel_rfl) (by kernel_rfl) (by kernel_rfl) (by rfl) hst2 rfl ?_; simp only [List.setIfInBounds_toArray, List.set_cons_zero, List.set_cons_succ]
  refine HR.skip 18 22 rfl (by kernel_rfl) (by kernel_rfl) (by kernel_rfl) (by rfl) hst2 rfl ?_; simp only [List.setIfInBounds_toArray, List.set_cons_zero, List.set_cons_succ]
  refine HR.skip 19 23 rfl (by kernel_rfl) (by kernel_rfl) (by kernel_rfl) (by rfl) hst2 rfl ?_; simp only [List.setIfInBounds_toArray, List.set_cons_zero, List.set_cons_succ]
  refine HR.take 20 24 (v := ?v0_20) rfl (by kernel_rfl) (by kernel_rfl) (by kernel_rfl) (Or.inl ⟨by rfl, ?hy0_20⟩) hst2 rfl ?rs0_20; (case hy0_20 => (intro w hSw; (try dsimp only at hSw); go_simp; (try with_reducible rfl))); simp only [List.setIfInBounds_toArray, List.set_cons_zero, List.set_cons_succ]
  refine HR.take 21 25 (v := ?v0_21) rfl (by kernel_rfl) (by kernel_rfl) (by kernel_rfl) (Or.inl ⟨by rfl, ?hy0_21⟩) hst2 rfl ?rs0_21; (case hy0_21 => (intro w hSw; (try dsimp only at hSw); go_simp; (try with_reducible rfl))); simp only [List.setIfInBounds_toArray, List.set_cons_zero, List.set_cons_succ]
  refine HR.skip 22 26 rfl (by kernel_rfl) (by kernel_rfl) (by kernel_rfl) (by rfl) hst2 rfl ?_; simp only [List.setIfInBounds_toArray, List.set_cons_zero, List.set_cons_succ]
  refine HR.skip 23 27 rfl (by kernel_rfl) (by kernel_rfl) (by kernel_rfl) (by rfl) hst2 rfl ?_; simp only [List.setIfInBounds_toArray, List.set_cons_zero, List.set_cons_succ]
  refine HR.skip 24 28 rfl (by kernel_rfl) (by kernel_rfl) (by kernel_rfl) (by rfl) hst2 rfl ?_; simp only [List.setIfInBounds_toArray, List.set_cons_zero, List.set_cons_succ]
  refine HR.skip 25 29 rfl (by kernel_rfl) (by kernel_rfl) (by kernel_rfl) (by rfl) hst2 rfl ?_; simp only [List.setIfInBounds_toArray, List.set_cons_zero, List.set_cons_succ]
  refine HR.skip 26 30 rfl (by kernel_rfl) (by kernel_rfl) (by kernel_rfl) (by rfl) hst2 rfl ?_; simp only [List.setIfInBounds_toArray, List.set_cons_zero, List.set_cons_succ]
  refine HR.skip 27 31 rfl (by kernel_rfl) (by kernel_rfl) (by kernel_rfl) (by rfl) hst2 rfl ?_; simp only [List.setIfInBounds_toArray, List.set_cons_zero, List.set_cons_succ]
  refine HR.skip 28 32 rfl (by kernel_rfl) (by kernel_rfl) (by kernel_rfl) (by rfl) hst2 rfl ?_; simp only [List.setIfInBounds_toArray, List.set_cons_zero, List.set_cons_succ]
  refine HR.skip 29 33 rfl (by kernel_rfl) (by kernel_rfl) (by kernel_rfl) (by rfl) hst2 rfl ?_; simp only [List.setIfInBounds_toArray, List.set_cons_zero, List.set_cons_succ]
  refine HR.take 30 34 (v := ?v0_30) rfl (by kernel_rfl) (by kernel_rfl) (by kernel_rfl) (Or.inl ⟨by rfl, ?hy0_30⟩) hst2 rfl ?rs0_30; (case hy0_30 => (intro w hSw; (try dsimp only at hSw); go_simp; (try with_reducible rfl))); simp only [List.setIfInBounds_toArray, List.set_cons_zero, List.set_cons_succ]
  refine HR.take 31 2 (v := ?v0_31) rfl (by kernel_rfl) (by kernel_rfl) (by kernel_rfl) (Or.inl ⟨by rfl, ?hy0_31⟩) hst2 rfl ?rs0_31; (case hy0_31 => (intro w hSw; (try dsimp only at hSw); go_simp; (try with_reducible rfl))); simp only [List.setIfInBounds_toArray, List.set_cons_zero, List.set_cons_succ]
  refine HR.take 32 3 (v := ?v0_32) rfl (by kernel_rfl) (by kernel_rfl) (by kernel_rfl) (Or.inl ⟨by rfl, ?hy0_32⟩) hst2 rfl ?rs0_32; (case hy0_32 => (intro w hSw; (try dsimp only at hSw); go_simp; (try with_reducible rfl))); simp only [List.setIfInBounds_toArray, List.set_cons_zero, List.set_cons_succ]
  refine HR.done (by kernel_rfl) ?_
  rw [HQ.out]
  have HB := Aside0.mk hst2.2.2.2.2.2.below
  clear hst hst2 hb HR HQ
  go_wp2_with fail
  go_ret2
  exact ⟨rfl, HB.out⟩
set_option maxHeartbeats 16000000 in
set_option maxRecDepth 100000 in
theorem may_1 (p : S) (d : Bool) (t : S) (m s : Int) (w : World) (hs : p.size ≤ 100000000) (b0 : decide (0 ≤ m) = true) (b1 : decide (m ≤ 511) = false) :
    Calls Tryz.prog 90 #[vN ⟨p, d, t, m, s⟩] w fun e w' => e = .returned (.tuple #[.bool (pRight p), .bool false]) ∧ Below w.heap.size w w' := by
  have HRt := Aside0.mk (fun W => ref_Right p W (by omega))
  have HE := Aside0.mk (show True from trivial)
  clear hs
  go_enter Tryz.func90, Tryz.ntmps90
  go_wp2_with fail
  have hst := (MaySt.step (MaySt.mk (heap_alloc_new w (.cells #[.string p, .bool d, .string t, .int .i64 m, .int .i64 s] 46)) ((Grew.refl w).alloc (.cells #[.string p, .bool d, .string t, .int .i64 m, .int .i64 s] 46)).below) ((Grew.refl _).drew).below).all
  refine Reg.start (fun W => W.cell? ⟨w.heap.size, 0, none⟩ = some (.string p) ∧ W.cell? ⟨w.heap.size, 1, none⟩ = some (.bool d) ∧ W.cell? ⟨w.heap.size, 2, none⟩ = some (.string t) ∧ W.cell? ⟨w.heap.size, 3, none⟩ = some (.int .i64 m) ∧ W.cell? ⟨w.heap.size, 4, none⟩ = some (.int .i64 s) ∧ MaySt w W p d t m s) (by kernel_rfl) hst (fun _ _ _ _ _ _ h => h) (fun R Q' HQ HR => ?_)
  simp only [List.size_toArray, List.length_cons, List.length_nil, Nat.zero_add, Nat.reduceAdd, Array.replicate, List.replicate]
  refine HR.take 0 4 (v := ?v1_0) rfl (by kernel_rfl) (by kernel_rfl) (by kernel_rfl) (Or.inl ⟨by rfl, ?hy1_0⟩) hst rfl ?rs1_0; (case hy1_0 => (intro w hSw; (try dsimp only at hSw); go_simp; (try with_reducible rfl))); simp only [List.setIfInBounds_toArray, List.set_cons_zero, List.set_cons_succ]
  refine HR.take 1 5 (v := ?v1_1) rfl (by kernel_rfl) (by kernel_rfl) (by kernel_rfl) (Or.inl ⟨by rfl, ?hy1_1⟩) hst rfl ?rs1_1; (case hy1_1 => (intro w hSw; (try dsimp only at hSw); go_simp; (try with_reducible rfl))); simp only [List.setIfInBounds_toArray, List.set_cons_zero, List.set_cons_succ]
  refine HR.take 3 7 (v := ?v1_3) rfl (by kernel_rfl) (by kernel_rfl) (by kernel_rfl) (Or.inl ⟨by rfl, ?hy1_3⟩) hst rfl ?rs1_3; (case hy1_3 => (intro w hSw; (try dsimp only at hSw); go_simp; (try with_reducible rfl))); simp only [List.setIfInBounds_toArray, List.set_cons_zero, List.set_cons_succ]
  refine HR.take 4 8 (v := ?v1_4) rfl (by kernel_rfl) (by kernel_rfl) (by kernel_rfl) (Or.inl ⟨by rfl, ?hy1_4⟩) hst rfl ?rs1_4; (case hy1_4 => (intro w hSw; (try dsimp only at hSw); go_simp; (try with_reducible rfl))); simp only [List.setIfInBounds_toArray, List.set_cons_zero, List.set_cons_succ]
  refine HR.take 5 9 (v := ?v1_5) rfl (by kernel_rfl) (by kernel_rfl) (by kernel_rfl) (Or.inl ⟨by rfl, ?hy1_5⟩) hst rfl ?rs1_5; (case hy1_5 => (intro w hSw; (try dsimp only at hSw); go_simp; (try with_reducible rfl))); simp only [List.setIfInBounds_toArray, List.set_cons_zero, List.set_cons_succ]
  refine HR.one 2 (by kernel_rfl) rfl (fun K hK => ?_)
  simp only [List.getElem_toArray, List.getElem_cons_succ, List.getElem_cons_zero]
  go_simp
  refine (HRt.out _).mono ?_
  rintro e w' ⟨rfl, hb⟩
  have hst2 := (hst.2.2.2.2.2.step hb).all
  (try dsimp only)
  refine hK.out _ _ hst2 (fun _ => ?_)
  clear hK K
  simp only [Act.put, List.setIfInBounds_toArray, List.set_cons_zero, List.set_cons_succ]
  refine HR.take 6 10 (v := ?v1_6) rfl (by kernel_rfl) (by kernel_rfl) (by kernel_rfl) (Or.inl ⟨by rfl, ?hy1_6⟩) hst2 rfl ?rs1_6; (case hy1_6 => (intro w hSw; (try dsimp only at hSw); go_simp; (try with_reducible rfl))); simp only [List.setIfInBounds_toArray, List.set_cons_zero, List.set_cons_succ]
  refine HR.take 7 11 (v := ?v1_7) rfl (by kernel_rfl) (by kernel_rfl) (by kernel_rfl) (Or.inl ⟨by rfl, ?hy1_7⟩) hst2 rfl ?rs1_7; (case hy1_7 => (intro w hSw; (try dsimp only at hSw); go_simp; (try with_reducible rfl))); simp only [List.setIfInBounds_toArray, List.set_cons_zero, List.set_cons_succ]
  refine HR.take 8 12 (v := ?v1_8) rfl (by kernel_rfl) (by kernel_rfl) (by kernel_rfl) (Or.inl ⟨by rfl, ?hy1_8⟩) hst2 rfl ?rs1_8; (case hy1_8 => (intro w hSw; (try dsimp only at hSw); go_simp; (try with_reducible rfl))); simp only [List.setIfInBounds_toArray, List.set_cons_zero, List.set_cons_succ]
  refine HR.take 9 13 (v := ?v1_9) rfl (by kernel_rfl) (by kernel_rfl) (by kernel_rfl) (Or.inl ⟨by rfl, ?hy1_9⟩) hst2 rfl ?rs1_9; (case hy1_9 => (intro w hSw; (try dsimp only at hSw); go_simp; (try with_reducible rfl))); simp only [List.setIfInBounds_toArray, List.set_cons_zero, List.set_cons_succ]
  refine HR.take 10 14 (v := ?v1_10) rfl (by kernel_rfl) (by kernel_rfl) (by kernel_rfl) (Or.inl ⟨by rfl, ?hy1_10⟩) hst2 rfl ?rs1_10; (case hy1_10 => (intro w hSw; (try dsimp only at hSw); go_simp; (try with_reducible rfl))); simp only [List.setIfInBounds_toArray, List.set_cons_zero, List.set_cons_succ]
  refine HR.take 11 15 (v := ?v1_11) rfl (by kernel_rfl) (by kernel_rfl) (by kernel_rfl) (Or.inl ⟨by rfl, ?hy1_11⟩) hst2 rfl ?rs1_11; (case hy1_11 => (intro w hSw; (try dsimp only at hSw); go_simp; (try with_reducible rfl))); simp only [List.setIfInBounds_toArray, List.set_cons_zero, List.set_cons_succ]
  refine HR.skip 12 16 rfl (by kernel_rfl) (by kernel_rfl) (by kernel_rfl) (by rfl) hst2 rfl ?_; simp only [List.setIfInBounds_toArray, List.set_cons_zero, List.set_cons_succ]
  refine HR.skip 13 17 rfl (by kernel_rfl) (by kernel_rfl) (by kernel_rfl) (by rfl) hst2 rfl ?_; simp only [List.setIfInBounds_toArray, List.set_cons_zero, List.set_cons_succ]
  refine HR.skip 14 18 rfl (by kernel_rfl) (by kernel_rfl) (by kernel_rfl) (by rfl) hst2 rfl ?_; simp only [List.setIfInBounds_toArray, List.set_cons_zero, List.set_cons_succ]
  refine HR.take 15 19 (v := ?v1_15) rfl (by kernel_rfl) (by kernel_rfl) (by kernel_rfl) (Or.inl ⟨by rfl, ?hy1_15⟩) hst2 rfl ?rs1_15; (case hy1_15 => (intro w hSw; (try dsimp only at hSw); go_simp; (try with_reducible rfl))); simp only [List.setIfInBounds_toArray, List.set_cons_zero, List.set_cons_succ]
  refine HR.take 16 20 (v := ?v1_16) rfl (by kernel_rfl) (by kernel_rfl) (by kernel_rfl) (Or.inl ⟨by rfl, ?hy1_16⟩) hst2 rfl ?rs1_16; (case hy1_16 => (intro w hSw; (try dsimp only at hSw); go_simp; (try with_reducible rfl))); simp only [List.setIfInBounds_toArray, List.set_cons_zero, List.set_cons_succ]
  refine HR.skip 17 21 rfl (by kernel_rfl) (by kernel_rfl) (by kernel_rfl) (by rfl) hst2 rfl ?_; simp only [List.setIfInBounds_toArray, List.set_cons_zero, List.set_cons_succ]
  refine HR.skip 18 22 rfl (by kernel_rfl) (by kernel_rfl) (by kernel_rfl) (by rfl) hst2 rfl ?_; simp only [List.setIfInBounds_toArray, List.set_cons_zero, List.set_cons_succ]
  refine HR.skip 19 23 rfl (by kernel_rfl) (by kernel_rfl) (by kernel_rfl) (by rfl) hst2 rfl ?_; simp only [List.setIfInBounds_toArray, List.set_cons_zero, List.set_cons_succ]
  refine HR.take 20 24 (v := ?v1_20) rfl (by kernel_rfl) (by kernel_rfl) (by kernel_rfl) (Or.inl ⟨by rfl, ?hy1_20⟩) hst2 rfl ?rs1_20; (case hy1_20 => (intro w hSw; (try dsimp only at hSw); go_simp; (try with_reducible rfl))); simp only [List.setIfInBounds_toArray, List.set_cons_zero, List.set_cons_succ]
  refine HR.take 21 25 (v := ?v1_21) rfl (by kernel_rfl) (by kernel_rfl) (by kernel_rfl) (Or.inl ⟨by rfl, ?hy1_21⟩) hst2 rfl ?rs1_21; (case hy1_21 => (intro w hSw; (try dsimp only at hSw); go_simp; (try with_reducible rfl))); simp only [List.setIfInBounds_toArray, List.set_cons_zero, List.set_cons_succ]
  refine HR.skip 22 26 rfl (by kernel_rfl) (by kernel_rfl) (by kernel_rfl) (by rfl) hst2 rfl ?_; simp only [List.setIfInBounds_toArray, List.set_cons_zero, List.set_cons_succ]
  refine HR.skip 23 27 rfl (by kernel_rfl) (by kernel_rfl) (by kernel_rfl) (by rfl) hst2 rfl ?_; simp only [List.setIfInBounds_toArray, List.set_cons_zero, List.set_cons_succ]
  refine HR.skip 24 28 rfl (by kernel_rfl) (by kernel_rfl) (by kernel_rfl) (by rfl) hst2 rfl ?_; simp only [List.setIfInBounds_toArray, List.set_cons_zero, List.set_cons_succ]
  refine HR.skip 25 29 rfl (by kernel_rfl) (by kernel_rfl) (by kernel_rfl) (by rfl) hst2 rfl ?_; simp only [List.setIfInBounds_toArray, List.set_cons_zero, List.set_cons_succ]
  refine HR.skip 26 30 rfl (by kernel_rfl) (by kernel_rfl) (by kernel_rfl) (by rfl) hst2 rfl ?_; simp only [List.setIfInBounds_toArray, List.set_cons_zero, List.set_cons_succ]
  refine HR.skip 27 31 rfl (by kernel_rfl) (by kernel_rfl) (by kernel_rfl) (by rfl) hst2 rfl ?_; simp only [List.setIfInBounds_toArray, List.set_cons_zero, List.set_cons_succ]
  refine HR.skip 28 32 rfl (by kernel_rfl) (by kernel_rfl) (by kernel_rfl) (by rfl) hst2 rfl ?_; simp only [List.setIfInBounds_toArray, List.set_cons_zero, List.set_cons_succ]
  refine HR.skip 29 33 rfl (by kernel_rfl) (by kernel_rfl) (by kernel_rfl) (by rfl) hst2 rfl ?_; simp only [List.setIfInBounds_toArray, List.set_cons_zero, List.set_cons_succ]
  refine HR.take 30 34 (v := ?v1_30) rfl (by kernel_rfl) (by kernel_rfl) (by kernel_rfl) (Or.inl ⟨by rfl, ?hy1_30⟩) hst2 rfl ?rs1_30; (case hy1_30 => (intro w hSw; (try dsimp only at hSw); go_simp; (try with_reducible rfl))); simp only [List.setIfInBounds_toArray, List.set_cons_zero, List.set_cons_succ]
  refine HR.take 31 2 (v := ?v1_31) rfl (by kernel_rfl) (by kernel_rfl) (by kernel_rfl) (Or.inl ⟨by rfl, ?hy1_31⟩) hst2 rfl ?rs1_31; (case hy1_31 => (intro w hSw; (try dsimp only at hSw); go_simp; (try with_reducible rfl))); simp only [List.setIfInBounds_toArray, List.set_cons_zero, List.set_cons_succ]
  refine HR.take 32 3 (v := ?v1_32) rfl (by kernel_rfl) (by kernel_rfl) (by kernel_rfl) (Or.inl ⟨by rfl, ?hy1_32⟩) hst2 rfl ?rs1_32; (case hy1_32 => (intro w hSw; (try dsimp only at hSw); go_simp; (try with_reducible rfl))); simp only [List.setIfInBounds_toArray, List.set_cons_zero, List.set_cons_succ]
  refine HR.done (by kernel_rfl) ?_
  rw [HQ.out]
  have HB := Aside0.mk hst2.2.2.2.2.2.below
  clear hst hst2 hb HR HQ
  go_wp2_with fail
  go_ret2
  exact ⟨rfl, HB.out⟩
set_option maxHeartbeats 16000000 in
set_option maxRecDepth 100000 in
theorem may_2 (p : S) (d : Bool) (t : S) (m s : Int) (w : World) (hs : p.size ≤ 100000000) (b0 : decide (0 ≤ m) = true) (b1 : decide (m ≤ 511) = true) (b2 : decide (0 ≤ s) = false) :
    Calls Tryz.prog 90 #[vN ⟨p, d, t, m, s⟩] w fun e w' => e = .returned (.tuple #[.bool (pRight p), .bool false]) ∧ Below w.heap.size w w' := by
  have HRt := Aside0.mk (fun W => ref_Right p W (by omega))
  have HE := Aside0.mk (show True from trivial)
  clear hs
  go_enter Tryz.func90, Tryz.ntmps90
  go_wp2_with fail
  have hst := (MaySt.step (MaySt.mk (heap_alloc_new w (.cells #[.string p, .bool d, .string t, .int .i64 m, .int .i64 s] 46)) ((Grew.refl w).alloc (.cells #[.string p, .bool d, .string t, .int .i64 m, .int .i64 s] 46)).below) ((Grew.refl _).drew).below).all
  refine Reg.start (fun W => W.cell? ⟨w.heap.size, 0, none⟩ = some (.string p) ∧ W.cell? ⟨w.heap.size, 1, none⟩ = some (.bool d) ∧ W.cell? ⟨w.heap.size, 2, none⟩ = some (.string t) ∧ W.cell? ⟨w.heap.size, 3, none⟩ = some (.int .i64 m) ∧ W.cell? ⟨w.heap.size, 4, none⟩ = some (.int .i64 s) ∧ MaySt w W p d t m s) (by kernel_rfl) hst (fun _ _ _ _ _ _ h => h) (fun R Q' HQ HR => ?_)
  simp only [List.size_toArray, List.length_cons, List.length_nil, Nat.zero_add, Nat.reduceAdd, Array.replicate, List.replicate]
  refine HR.take 0 4 (v := ?v2_0) rfl (by kernel_rfl) (by kernel_rfl) (by kernel_rfl) (Or.inl ⟨by rfl, ?hy2_0⟩) hst rfl ?rs2_0; (case hy2_0 => (intro w hSw; (try dsimp only at hSw); go_simp; (try with_reducible rfl))); simp only [List.setIfInBounds_toArray, List.set_cons_zero, List.set_cons_succ]
  refine HR.take 1 5 (v := ?v2_1) rfl (by kernel_rfl) (by kernel_rfl) (by kernel_rfl) (Or.inl ⟨by rfl, ?hy2_1⟩) hst rfl ?rs2_1; (case hy2_1 => (intro w hSw; (try dsimp only at hSw); go_simp; (try with_reducible rfl))); simp only [List.setIfInBounds_toArray, List.set_cons_zero, List.set_cons_succ]
  refine HR.take 3 7 (v := ?v2_3) rfl (by kernel_rfl) (by kernel_rfl) (by kernel_rfl) (Or.inl ⟨by rfl, ?hy2_3⟩) hst rfl ?rs2_3; (case hy2_3 => (intro w hSw; (try dsimp only at hSw); go_simp; (try with_reducible rfl))); simp only [List.setIfInBounds_toArray, List.set_cons_zero, List.set_cons_succ]
  refine HR.take 4 8 (v := ?v2_4) rfl (by kernel_rfl) (by kernel_rfl) (by kernel_rfl) (Or.inl ⟨by rfl, ?hy2_4⟩) hst rfl ?rs2_4; (case hy2_4 => (intro w hSw; (try dsimp only at hSw); go_simp; (try with_reducible rfl))); simp only [List.setIfInBounds_toArray, List.set_cons_zero, List.set_cons_succ]
  refine HR.take 5 9 (v := ?v2_5) rfl (by kernel_rfl) (by kernel_rfl) (by kernel_rfl) (Or.inl ⟨by rfl, ?hy2_5⟩) hst rfl ?rs2_5; (case hy2_5 => (intro w hSw; (try dsimp only at hSw); go_simp; (try with_reducible rfl))); simp only [List.setIfInBounds_toArray, List.set_cons_zero, List.set_cons_succ]
  refine HR.one 2 (by kernel_rfl) rfl (fun K hK => ?_)
  simp only [List.getElem_toArray, List.getElem_cons_succ, List.getElem_cons_zero]
  go_simp
  refine (HRt.out _).mono ?_
  rintro e w' ⟨rfl, hb⟩
  have hst2 := (hst.2.2.2.2.2.step hb).all
  (try dsimp only)
  refine hK.out _ _ hst2 (fun _ => ?_)
  clear hK K
  simp only [Act.put, List.setIfInBounds_toArray, List.set_cons_zero, List.set_cons_succ]
  refine HR.take 6 10 (v := ?v2_6) rfl (by kernel_rfl) (by kernel_rfl) (by kernel_rfl) (Or.inl ⟨by rfl, ?hy2_6⟩) hst2 rfl ?rs2_6; (case hy2_6 => (intro w hSw; (try dsimp only at hSw); go_simp; (try with_reducible rfl))); simp only [List.setIfInBounds_toArray, List.set_cons_zero, List.set_cons_succ]
  refine HR.take 7 11 (v := ?v2_7) rfl (by kernel_rfl) (by kernel_rfl) (by kernel_rfl) (Or.inl ⟨by rfl, ?hy2_7⟩) hst2 rfl ?rs2_7; (case hy2_7 => (intro w hSw; (try dsimp only at hSw); go_simp; (try with_reducible rfl))); simp only [List.setIfInBounds_toArray, List.set_cons_zero, List.set_cons_succ]
  refine HR.take 8 12 (v := ?v2_8) rfl (by kernel_rfl) (by kernel_rfl) (by kernel_rfl) (Or.inl ⟨by rfl, ?hy2_8⟩) hst2 rfl ?rs2_8; (case hy2_8 => (intro w hSw; (try dsimp only at hSw); go_simp; (try with_reducible rfl))); simp only [List.setIfInBounds_toArray, List.set_cons_zero, List.set_cons_succ]
  refine HR.take 9 13 (v := ?v2_9) rfl (by kernel_rfl) (by kernel_rfl) (by kernel_rfl) (Or.inl ⟨by rfl, ?hy2_9⟩) hst2 rfl ?rs2_9; (case hy2_9 => (intro w hSw; (try dsimp only at hSw); go_simp; (try with_reducible rfl))); simp only [List.setIfInBounds_toArray, List.set_cons_zero, List.set_cons_succ]
  refine HR.take 10 14 (v := ?v2_10) rfl (by kernel_rfl) (by kernel_rfl) (by kernel_rfl) (Or.inl ⟨by rfl, ?hy2_10⟩) hst2 rfl ?rs2_10; (case hy2_10 => (intro w hSw; (try dsimp only at hSw); go_simp; (try with_reducible rfl))); simp only [List.setIfInBounds_toArray, List.set_cons_zero, List.set_cons_succ]
  refine HR.take 11 15 (v := ?v2_11) rfl (by kernel_rfl) (by kernel_rfl) (by kernel_rfl) (Or.inl ⟨by rfl, ?hy2_11⟩) hst2 rfl ?rs2_11; (case hy2_11 => (intro w hSw; (try dsimp only at hSw); go_simp; (try with_reducible rfl))); simp only [List.setIfInBounds_toArray, List.set_cons_zero, List.set_cons_succ]
  refine HR.take 12 16 (v := ?v2_12) rfl (by kernel_rfl) (by kernel_rfl) (by kernel_rfl) (Or.inl ⟨by rfl, ?hy2_12⟩) hst2 rfl ?rs2_12; (case hy2_12 => (intro w hSw; (try dsimp only at hSw); go_simp; (try with_reducible rfl))); simp only [List.setIfInBounds_toArray, List.set_cons_zero, List.set_cons_succ]
  refine HR.take 13 17 (v := ?v2_13) rfl (by kernel_rfl) (by kernel_rfl) (by kernel_rfl) (Or.inl ⟨by rfl, ?hy2_13⟩) hst2 rfl ?rs2_13; (case hy2_13 => (intro w hSw; (try dsimp only at hSw); go_simp; (try with_reducible rfl))); simp only [List.setIfInBounds_toArray, List.set_cons_zero, List.set_cons_succ]
  refine HR.take 14 18 (v := ?v2_14) rfl (by kernel_rfl) (by kernel_rfl) (by kernel_rfl) (Or.inl ⟨by rfl, ?hy2_14⟩) hst2 rfl ?rs2_14; (case hy2_14 => (intro w hSw; (try dsimp only at hSw); go_simp; (try with_reducible rfl))); simp only [List.setIfInBounds_toArray, List.set_cons_zero, List.set_cons_succ]
  refine HR.take 15 19 (v := ?v2_15) rfl (by kernel_rfl) (by kernel_rfl) (by kernel_rfl) (Or.inl ⟨by rfl, ?hy2_15⟩) hst2 rfl ?rs2_15; (case hy2_15 => (intro w hSw; (try dsimp only at hSw); go_simp; (try with_reducible rfl))); simp only [List.setIfInBounds_toArray, List.set_cons_zero, List.set_cons_succ]
  refine HR.take 16 20 (v := ?v2_16) rfl (by kernel_rfl) (by kernel_rfl) (by kernel_rfl) (Or.inl ⟨by rfl, ?hy2_16⟩) hst2 rfl ?rs2_16; (case hy2_16 => (intro w hSw; (try dsimp only at hSw); go_simp; (try with_reducible rfl))); simp only [List.setIfInBounds_toArray, List.set_cons_zero, List.set_cons_succ]
  refine HR.skip 17 21 rfl (by kernel_rfl) (by kernel_rfl) (by kernel_rfl) (by rfl) hst2 rfl ?_; simp only [List.setIfInBounds_toArray, List.set_cons_zero, List.set_cons_succ]
  refine HR.skip 18 22 rfl (by kernel_rfl) (by kernel_rfl) (by kernel_rfl) (by rfl) hst2 rfl ?_; simp only [List.setIfInBounds_toArray, List.set_cons_zero, List.set_cons_succ]
  refine HR.skip 19 23 rfl (by kernel_rfl) (by kernel_rfl) (by kernel_rfl) (by rfl) hst2 rfl ?_; simp only [List.setIfInBounds_toArray, List.set_cons_zero, List.set_cons_succ]
  refine HR.take 20 24 (v := ?v2_20) rfl (by kernel_rfl) (by kernel_rfl) (by kernel_rfl) (Or.inl ⟨by rfl, ?hy2_20⟩) hst2 rfl ?rs2_20; (case hy2_20 => (intro w hSw; (try dsimp only at hSw); go_simp; (try with_reducible rfl))); simp only [List.setIfInBounds_toArray, List.set_cons_zero, List.set_cons_succ]
  refine HR.take 21 25 (v := ?v2_21) rfl (by kernel_rfl) (by kernel_rfl) (by kernel_rfl) (Or.inl ⟨by rfl, ?hy2_21⟩) hst2 rfl ?rs2_21; (case hy2_21 => (intro w hSw; (try dsimp only at hSw); go_simp; (try with_reducible rfl))); simp only [List.setIfInBounds_toArray, List.set_cons_zero, List.set_cons_succ]
  refine HR.skip 22 26 rfl (by kernel_rfl) (by kernel_rfl) (by kernel_rfl) (by rfl) hst2 rfl ?_; simp only [List.setIfInBounds_toArray, List.set_cons_zero, List.set_cons_succ]
  refine HR.skip 23 27 rfl (by kernel_rfl) (by kernel_rfl) (by kernel_rfl) (by rfl) hst2 rfl ?_; simp only [List.setIfInBounds_toArray, List.set_cons_zero, List.set_cons_succ]
  refine HR.skip 24 28 rfl (by kernel_rfl) (by kernel_rfl) (by kernel_rfl) (by rfl) hst2 rfl ?_; simp only [List.setIfInBounds_toArray, List.set_cons_zero, List.set_cons_succ]
  refine HR.skip 25 29 rfl (by kernel_rfl) (by kernel_rfl) (by kernel_rfl) (by rfl) hst2 rfl ?_; simp only [List.setIfInBounds_toArray, List.set_cons_zero, List.set_cons_succ]
  refine HR.skip 26 30 rfl (by kernel_rfl) (by kernel_rfl) (by kernel_rfl) (by rfl) hst2 rfl ?_; simp only [List.setIfInBounds_toArray, List.set_cons_zero, List.set_cons_succ]
  refine HR.skip 27 31 rfl (by kernel_rfl) (by kernel_rfl) (by kernel_rfl) (by rfl) hst2 rfl ?_; simp only [List.setIfInBounds_toArray, List.set_cons_zero, List.set_cons_succ]
  refine HR.skip 28 32 rfl (by kernel_rfl) (by kernel_rfl) (by kernel_rfl) (by rfl) hst2 rfl ?_; simp only [List.setIfInBounds_toArray, List.set_cons_zero, List.set_cons_succ]
  refine HR.skip 29 33 rfl (by kernel_rfl) (by kernel_rfl) (by kernel_rfl) (by rfl) hst2 rfl ?_; simp only [List.setIfInBounds_toArray, List.set_cons_zero, List.set_cons_succ]
  refine HR.take 30 34 (v := ?v2_30) rfl (by kernel_rfl) (by kernel_rfl) (by kernel_rfl) (Or.inl ⟨by rfl, ?hy2_30⟩) hst2 rfl ?rs2_30; (case hy2_30 => (intro w hSw; (try dsimp only at hSw); go_simp; (try with_reducible rfl))); simp only [List.setIfInBounds_toArray, List.set_cons_zero, List.set_cons_succ]
  refine HR.take 31 2 (v := ?v2_31) rfl (by kernel_rfl) (by kernel_rfl) (by kernel_rfl) (Or.inl ⟨by rfl, ?hy2_31⟩) hst2 rfl ?rs2_31; (case hy2_31 => (intro w hSw; (try dsimp only at hSw); go_simp; (try with_reducible rfl))); simp only [List.setIfInBounds_toArray, List.set_cons_zero, List.set_cons_succ]
  refine HR.take 32 3 (v := ?v2_32) rfl (by kernel_rfl) (by kernel_rfl) (by kernel_rfl) (Or.inl ⟨by rfl, ?hy2_32⟩) hst2 rfl ?rs2_32; (case hy2_32 => (intro w hSw; (try dsimp only at hSw); go_simp; (try with_reducible rfl))); simp only [List.setIfInBounds_toArray, List.set_cons_zero, List.set_cons_succ]
  refine HR.done (by kernel_rfl) ?_
  rw [HQ.out]
  have HB := Aside0.mk hst2.2.2.2.2.2.below
  clear hst hst2 hb HR HQ
  go_wp2_with fail
  go_ret2
  exact ⟨rfl, HB.out⟩
set_option maxHeartbeats 16000000 in
set_option maxRecDepth 100000 in
theorem may_3 (p : S) (d : Bool) (t : S) (m s : Int) (w : World) (hs : p.size ≤ 100000000) (b0 : decide (0 ≤ m) = true) (b1 : decide (m ≤ 511) = true) (b2 : decide (0 ≤ s) = true) (b3 : decide (s ≤ 4294967295) = false) :
    Calls Tryz.prog 90 #[vN ⟨p, d, t, m, s⟩] w fun e w' => e = .returned (.tuple #[.bool (pRight p), .bool false]) ∧ Below w.heap.size w w' := by
  have HRt := Aside0.mk (fun W => ref_Right p W (by omega))
  have HE := Aside0.mk (show True from trivial)
  clear hs
  go_enter Tryz.func90, Tryz.ntmps90
  go_wp2_with fail
  have hst := (MaySt.step (MaySt.mk (heap_alloc_new w (.cells #[.string p, .bool d, .string t, .int .i64 m, .int .i64 s] 46)) ((Grew.refl w).alloc (.cells #[.string p, .bool d, .string t, .int .i64 m, .int .i64 s] 46)).below) ((Grew.refl _).drew).below).all
  refine Reg.start (fun W => W.cell? ⟨w.heap.size, 0, none⟩ = some (.string p) ∧ W.cell? ⟨w.heap.size, 1, none⟩ = some (.bool d) ∧ W.cell? ⟨w.heap.size, 2, none⟩ = some (.string t) ∧ W.cell? ⟨w.heap.size, 3, none⟩ = some (.int .i64 m) ∧ W.cell? ⟨w.heap.size, 4, none⟩ = some (.int .i64 s) ∧ MaySt w W p d t m s) (by kernel_rfl) hst (fun _ _ _ _ _ _ h => h) (fun R Q' HQ HR => ?_)
  simp only [List.size_toArray, List.length_cons, List.length_nil, Nat.zero_add, Nat.reduceAdd, Array.replicate, List.replicate]
  refine HR.take 0 4 (v := ?v3_0) rfl (by kernel_rfl) (by kernel_rfl) (by kernel_rfl) (Or.inl ⟨by rfl, ?hy3_0⟩) hst rfl ?rs3_0; (case hy3_0 => (intro w hSw; (try dsimp only at hSw); go_simp; (try with_reducible rfl))); simp only [List.setIfInBounds_toArray, List.set_cons_zero, List.set_cons_succ]
  refine HR.take 1 5 (v := ?v3_1) rfl (by kernel_rfl) (by kernel_rfl) (by kernel_rfl) (Or.inl ⟨by rfl, ?hy3_1⟩) hst rfl ?rs3_1; (case hy3_1 => (intro w hSw; (try dsimp only at hSw); go_simp; (try with_reducible rfl))); simp only [List.setIfInBounds_toArray, List.set_cons_zero, List.set_cons_succ]
  refine HR.take 3 7 (v := ?v3_3) rfl (by kernel_rfl) (by kernel_rfl) (by kernel_rfl) (Or.inl ⟨by rfl, ?hy3_3⟩) hst rfl ?rs3_3; (case hy3_3 => (intro w hSw; (try dsimp only at hSw); go_simp; (try with_reducible rfl))); simp only [List.setIfInBounds_toArray, List.set_cons_zero, List.set_cons_succ]
  refine HR.take 4 8 (v := ?v3_4) rfl (by kernel_rfl) (by kernel_rfl) (by kernel_rfl) (Or.inl ⟨by rfl, ?hy3_4⟩) hst rfl ?rs3_4; (case hy3_4 => (intro w hSw; (try dsimp only at hSw); go_simp; (try with_reducible rfl))); simp only [List.setIfInBounds_toArray, List.set_cons_zero, List.set_cons_succ]
  refine HR.take 5 9 (v := ?v3_5) rfl (by kernel_rfl) (by kernel_rfl) (by kernel_rfl) (Or.inl ⟨by rfl, ?hy3_5⟩) hst rfl ?rs3_5; (case hy3_5 => (intro w hSw; (try dsimp only at hSw); go_simp; (try with_reducible rfl))); simp only [List.setIfInBounds_toArray, List.set_cons_zero, List.set_cons_succ]
  refine HR.one 2 (by kernel_rfl) rfl (fun K hK => ?_)
  simp only [List.getElem_toArray, List.getElem_cons_succ, List.getElem_cons_zero]
  go_simp
  refine (HRt.out _).mono ?_
  rintro e w' ⟨rfl, hb⟩
  have hst2 := (hst.2.2.2.2.2.step hb).all
  (try dsimp only)
  refine hK.out _ _ hst2 (fun _ => ?_)
  clear hK K
  simp only [Act.put, List.setIfInBounds_toArray, List.set_cons_zero, List.set_cons_succ]
  refine HR.take 6 10 (v := ?v3_6) rfl (by kernel_rfl) (by kernel_rfl) (by kernel_rfl) (Or.inl ⟨by rfl, ?hy3_6⟩) hst2 rfl ?rs3_6; (case hy3_6 => (intro w hSw; (try dsimp only at hSw); go_simp; (try with_reducible rfl))); simp only [List.setIfInBounds_toArray, List.set_cons_zero, List.set_cons_succ]
  refine HR.take 7 11 (v := ?v3_7) rfl (by kernel_rfl) (by kernel_rfl) (by kernel_rfl) (Or.inl ⟨by rfl, ?hy3_7⟩) hst2 rfl ?rs3_7; (case hy3_7 => (intro w hSw; (try dsimp only at hSw); go_simp; (try with_reducible rfl))); simp only [List.setIfInBounds_toArray, List.set_cons_zero, List.set_cons_succ]
  refine HR.take 8 12 (v := ?v3_8) rfl (by kernel_rfl) (by kernel_rfl) (by kernel_rfl) (Or.inl ⟨by rfl, ?hy3_8⟩) hst2 rfl ?rs3_8; (case hy3_8 => (intro w hSw; (try dsimp only at hSw); go_simp; (try with_reducible rfl))); simp only [List.setIfInBounds_toArray, List.set_cons_zero, List.set_cons_succ]
  refine HR.take 9 13 (v := ?v3_9) rfl (by kernel_rfl) (by kernel_rfl) (by kernel_rfl) (Or.inl ⟨by rfl, ?hy3_9⟩) hst2 rfl ?rs3_9; (case hy3_9 => (intro w hSw; (try dsimp only at hSw); go_simp; (try with_reducible rfl))); simp only [List.setIfInBounds_toArray, List.set_cons_zero, List.set_cons_succ]
  refine HR.take 10 14 (v := ?v3_10) rfl (by kernel_rfl) (by kernel_rfl) (by kernel_rfl) (Or.inl ⟨by rfl, ?hy3_10⟩) hst2 rfl ?rs3_10; (case hy3_10 => (intro w hSw; (try dsimp only at hSw); go_simp; (try with_reducible rfl))); simp only [List.setIfInBounds_toArray, List.set_cons_zero, List.set_cons_succ]
  refine HR.take 11 15 (v := ?v3_11) rfl (by kernel_rfl) (by kernel_rfl) (by kernel_rfl) (Or.inl ⟨by rfl, ?hy3_11⟩) hst2 rfl ?rs3_11; (case hy3_11 => (intro w hSw; (try dsimp only at hSw); go_simp; (try with_reducible rfl))); simp only [List.setIfInBounds_toArray, List.set_cons_zero, List.set_cons_succ]
  refine HR.take 12 16 (v := ?v3_12) rfl (by kernel_rfl) (by kernel_rfl) (by kernel_rfl) (Or.inl ⟨by rfl, ?hy3_12⟩) hst2 rfl ?rs3_12; (case hy3_12 => (intro w hSw; (try dsimp only at hSw); go_simp; (try with_reducible rfl))); simp only [List.setIfInBounds_toArray, List.set_cons_zero, List.set_cons_succ]
  refine HR.take 13 17 (v := ?v3_13) rfl (by kernel_rfl) (by kernel_rfl) (by kernel_rfl) (Or.inl ⟨by rfl, ?hy3_13⟩) hst2 rfl ?rs3_13; (case hy3_13 => (intro w hSw; (try dsimp only at hSw); go_simp; (try with_reducible rfl))); simp only [List.setIfInBounds_toArray, List.set_cons_zero, List.set_cons_succ]
  refine HR.take 14 18 (v := ?v3_14) rfl (by kernel_rfl) (by kernel_rfl) (by kernel_rfl) (Or.inl ⟨by rfl, ?hy3_14⟩) hst2 rfl ?rs3_14; (case hy3_14 => (intro w hSw; (try dsimp only at hSw); go_simp; (try with_reducible rfl))); simp only [List.setIfInBounds_toArray, List.set_cons_zero, List.set_cons_succ]
  refine HR.take 15 19 (v := ?v3_15) rfl (by kernel_rfl) (by kernel_rfl) (by kernel_rfl) (Or.inl ⟨by rfl, ?hy3_15⟩) hst2 rfl ?rs3_15; (case hy3_15 => (intro w hSw; (try dsimp only at hSw); go_simp; (try with_reducible rfl))); simp only [List.setIfInBounds_toArray, List.set_cons_zero, List.set_cons_succ]
  refine HR.take 16 20 (v := ?v3_16) rfl (by kernel_rfl) (by kernel_rfl) (by kernel_rfl) (Or.inl ⟨by rfl, ?hy3_16⟩) hst2 rfl ?rs3_16; (case hy3_16 => (intro w hSw; (try dsimp only at hSw); go_simp; (try with_reducible rfl))); simp only [List.setIfInBounds_toArray, List.set_cons_zero, List.set_cons_succ]
  refine HR.take 17 21 (v := ?v3_17) rfl (by kernel_rfl) (by kernel_rfl) (by kernel_rfl) (Or.inl ⟨by rfl, ?hy3_17⟩) hst2 rfl ?rs3_17; (case hy3_17 => (intro w hSw; (try dsimp only at hSw); go_simp; (try with_reducible rfl))); simp only [List.setIfInBounds_toArray, List.set_cons_zero, List.set_cons_succ]
  refine HR.take 18 22 (v := ?v3_18) rfl (by kernel_rfl) (by kernel_rfl) (by kernel_rfl) (Or.inl ⟨by rfl, ?hy3_18⟩) hst2 rfl ?rs3_18; (case hy3_18 => (intro w hSw; (try dsimp only at hSw); go_simp; (try with_reducible rfl))); simp only [List.setIfInBounds_toArray, List.set_cons_zero, List.set_cons_succ]
  refine HR.take 19 23 (v := ?v3_19) rfl (by kernel_rfl) (by kernel_rfl) (by kernel_rfl) (Or.inl ⟨by rfl, ?hy3_19⟩) hst2 rfl ?rs3_19; (case hy3_19 => (intro w hSw; (try dsimp only at hSw); go_simp; (try with_reducible rfl))); simp only [List.setIfInBounds_toArray, List.set_cons_zero, List.set_cons_succ]
  refine HR.take 20 24 (v := ?v3_20) rfl (by kernel_rfl) (by kernel_rfl) (by kernel_rfl) (Or.inl ⟨by rfl, ?hy3_20⟩) hst2 rfl ?rs3_20; (case hy3_20 => (intro w hSw; (try dsimp only at hSw); go_simp; (try with_reducible rfl))); simp only [List.setIfInBounds_toArray, List.set_cons_zero, List.set_cons_succ]
  refine HR.take 21 25 (v := ?v3_21) rfl (by kernel_rfl) (by kernel_rfl) (by kernel_rfl) (Or.inl ⟨by rfl, ?hy3_21⟩) hst2 rfl ?rs3_21; (case hy3_21 => (intro w hSw; (try dsimp only at hSw); go_simp; (try with_reducible rfl))); simp only [List.setIfInBounds_toArray, List.set_cons_zero, List.set_cons_succ]
  refine HR.skip 22 26 rfl (by kernel_rfl) (by kernel_rfl) (by kernel_rfl) (by rfl) hst2 rfl ?_; simp only [List.setIfInBounds_toArray, List.set_cons_zero, List.set_cons_succ]
  refine HR.skip 23 27 rfl (by kernel_rfl) (by kernel_rfl) (by kernel_rfl) (by rfl) hst2 rfl ?_; simp only [List.setIfInBounds_toArray, List.set_cons_zero, List.set_cons_succ]
  refine HR.skip 24 28 rfl (by kernel_rfl) (by kernel_rfl) (by kernel_rfl) (by rfl) hst2 rfl ?_; simp only [List.setIfInBounds_toArray, List.set_cons_zero, List.set_cons_succ]
  refine HR.skip 25 29 rfl (by kernel_rfl) (by kernel_rfl) (by kernel_rfl) (by rfl) hst2 rfl ?_; simp only [List.setIfInBounds_toArray, List.set_cons_zero, List.set_cons_succ]
  refine HR.skip 26 30 rfl (by kernel_rfl) (by kernel_rfl) (by kernel_rfl) (by rfl) hst2 rfl ?_; simp only [List.setIfInBounds_toArray, List.set_cons_zero, List.set_cons_succ]
  refine HR.skip 27 31 rfl (by kernel_rfl) (by kernel_rfl) (by kernel_rfl) (by rfl) hst2 rfl ?_; simp only [List.setIfInBounds_toArray, List.set_cons_zero, List.set_cons_succ]
  refine HR.skip 28 32 rfl (by kernel_rfl) (by kernel_rfl) (by kernel_rfl) (by rfl) hst2 rfl ?_; simp only [List.setIfInBounds_toArray, List.set_cons_zero, List.set_cons_succ]
  refine HR.skip 29 33 rfl (by kernel_rfl) (by kernel_rfl) (by kernel_rfl) (by rfl) hst2 rfl ?_; simp only [List.setIfInBounds_toArray, List.set_cons_zero, List.set_cons_succ]
  refine HR.take 30 34 (v := ?v3_30) rfl (by kernel_rfl) (by kernel_rfl) (by kernel_rfl) (Or.inl ⟨by rfl, ?hy3_30⟩) hst2 rfl ?rs3_30; (case hy3_30 => (intro w hSw; (try dsimp only at hSw); go_simp; (try with_reducible rfl))); simp only [List.setIfInBounds_toArray, List.set_cons_zero, List.set_cons_succ]
  refine HR.take 31 2 (v := ?v3_31) rfl (by kernel_rfl) (by kernel_rfl) (by kernel_rfl) (Or.inl ⟨by rfl, ?hy3_31⟩) hst2 rfl ?rs3_31; (case hy3_31 => (intro w hSw; (try dsimp only at hSw); go_simp; (try with_reducible rfl))); simp only [List.setIfInBounds_toArray, List.set_cons_zero, List.set_cons_succ]
  refine HR.take 32 3 (v := ?v3_32) rfl (by kernel_rfl) (by kernel_rfl) (by kernel_rfl) (Or.inl ⟨by rfl, ?hy3_32⟩) hst2 rfl ?rs3_32; (case hy3_32 => (intro w hSw; (try dsimp only at hSw); go_simp; (try with_reducible rfl))); simp only [List.setIfInBounds_toArray, List.set_cons_zero, List.set_cons_succ]
  refine HR.done (by kernel_rfl) ?_
  rw [HQ.out]
  have HB := Aside0.mk hst2.2.2.2.2.2.below
  clear hst hst2 hb HR HQ
  go_wp2_with fail
  go_ret2
  exact ⟨rfl, HB.out⟩
set_option maxHeartbeats 16000000 in
set_option maxRecDepth 100000 in
theorem may_4 (p : S) (t : S) (m s : Int) (w : World) (hs : p.size ≤ 100000000) (b0 : decide (0 ≤ m) = true) (b1 : decide (m ≤ 511) = true) (b2 : decide (0 ≤ s) = true) (b3 : decide (s ≤ 4294967295) = true) :
    Calls Tryz.prog 90 #[vN ⟨p, false, t, m, s⟩] w fun e w' => e = .returned (.tuple #[.bool (pRight p), .bool true]) ∧ Below w.heap.size w w' := by
  have HRt := Aside0.mk (fun W => ref_Right p W (by omega))
  have HE := Aside0.mk (show True from trivial)
  clear hs
  go_enter Tryz.func90, Tryz.ntmps90
  go_wp2_with fail
  have hst := (MaySt.step (MaySt.mk (heap_alloc_new w (.cells #[.string p, .bool false, .string t, .int .i64 m, .int .i64 s] 46)) ((Grew.refl w).alloc (.cells #[.string p, .bool false, .string t, .int .i64 m, .int .i64 s] 46)).below) ((Grew.refl _).drew).below).all
  refine Reg.start (fun W => W.cell? ⟨w.heap.size, 0, none⟩ = some (.string p) ∧ W.cell? ⟨w.heap.size, 1, none⟩ = some (.bool false) ∧ W.cell? ⟨w.heap.size, 2, none⟩ = some (.string t) ∧ W.cell? ⟨w.heap.size, 3, none⟩ = some (.int .i64 m) ∧ W.cell? ⟨w.heap.size, 4, none⟩ = some (.int .i64 s) ∧ MaySt w W p false t m s) (by kernel_rfl) hst (fun _ _ _ _ _ _ h => h) (fun R Q' HQ HR => ?_)
  simp only [List.size_toArray, List.length_cons, List.length_nil, Nat.zero_add, Nat.reduceAdd, Array.replicate, List.replicate]
  refine HR.take 0 4 (v := ?v4_0) rfl (by kernel_rfl) (by kernel_rfl) (by kernel_rfl) (Or.inl ⟨by rfl, ?hy4_0⟩) hst rfl ?rs4_0; (case hy4_0 => (intro w hSw; (try dsimp only at hSw); go_simp; (try with_reducible rfl))); simp only [List.setIfInBounds_toArray, List.set_cons_zero, List.set_cons_succ]
  refine HR.take 1 5 (v := ?v4_1) rfl (by kernel_rfl) (by kernel_rfl) (by kernel_rfl) (Or.inl ⟨by rfl, ?hy4_1⟩) hst rfl ?rs4_1; (case hy4_1 => (intro w hSw; (try dsimp only at hSw); go_simp; (try with_reducible rfl))); simp only [List.setIfInBounds_toArray, List.set_cons_zero, List.set_cons_succ]
  refine HR.take 3 7 (v := ?v4_3) rfl (by kernel_rfl) (by kernel_rfl) (by kernel_rfl) (Or.inl ⟨by rfl, ?hy4_3⟩) hst rfl ?rs4_3; (case hy4_3 => (intro w hSw; (try dsimp only at hSw); go_simp; (try with_reducible rfl))); simp only [List.setIfInBounds_toArray, List.set_cons_zero, List.set_cons_succ]
  refine HR.take 4 8 (v := ?v4_4) rfl (by kernel_rfl) (by kernel_rfl) (by kernel_rfl) (Or.inl ⟨by rfl, ?hy4_4⟩) hst rfl ?rs4_4; (case hy4_4 => (intro w hSw; (try dsimp only at hSw); go_simp; (try with_reducible rfl))); simp only [List.setIfInBounds_toArray, List.set_cons_zero, List.set_cons_succ]
  refine HR.take 5 9 (v := ?v4_5) rfl (by kernel_rfl) (by kernel_rfl) (by kernel_rfl) (Or.inl ⟨by rfl, ?hy4_5⟩) hst rfl ?rs4_5; (case hy4_5 => (intro w hSw; (try dsimp only at hSw); go_simp; (try with_reducible rfl))); simp only [List.setIfInBounds_toArray, List.set_cons_zero, List.set_cons_succ]
  refine HR.one 2 (by kernel_rfl) rfl (fun K hK => ?_)
  simp only [List.getElem_toArray, List.getElem_cons_succ, List.getElem_cons_zero]
  go_simp
  refine (HRt.out _).mono ?_
  rintro e w' ⟨rfl, hb⟩
  have hst2 := (hst.2.2.2.2.2.step hb).all
  (try dsimp only)
  refine hK.out _ _ hst2 (fun _ => ?_)
  clear hK K
  simp only [Act.put, List.setIfInBounds_toArray, List.set_cons_zero, List.set_cons_succ]
  refine HR.take 6 10 (v := ?v4_6) rfl (by kernel_rfl) (by kernel_rfl) (by kernel_rfl) (Or.inl ⟨by rfl, ?hy4_6⟩) hst2 rfl ?rs4_6; (case hy4_6 => (intro w hSw; (try dsimp only at hSw); go_simp; (try with_reducible rfl))); simp only [List.setIfInBounds_toArray, List.set_cons_zero, List.set_cons_succ]
  refine HR.take 7 11 (v := ?v4_7) rfl (by kernel_rfl) (by kernel_rfl) (by kernel_rfl) (Or.inl ⟨by rfl, ?hy4_7⟩) hst2 rfl ?rs4_7; (case hy4_7 => (intro w hSw; (try dsimp only at hSw); go_simp; (try with_reducible rfl))); simp only [List.setIfInBounds_toArray, List.set_cons_zero, List.set_cons_succ]
  refine HR.take 8 12 (v := ?v4_8) rfl (by kernel_rfl) (by kernel_rfl) (by kernel_rfl) (Or.inl ⟨by rfl, ?hy4_8⟩) hst2 rfl ?rs4_8; (case hy4_8 => (intro w hSw; (try dsimp only at hSw); go_simp; (try with_reducible rfl))); simp only [List.setIfInBounds_toArray, List.set_cons_zero, List.set_cons_succ]
  refine HR.take 9 13 (v := ?v4_9) rfl (by kernel_rfl) (by kernel_rfl) (by kernel_rfl) (Or.inl ⟨by rfl, ?hy4_9⟩) hst2 rfl ?rs4_9; (case hy4_9 => (intro w hSw; (try dsimp only at hSw); go_simp; (try with_reducible rfl))); simp only [List.setIfInBounds_toArray, List.set_cons_zero, List.set_cons_succ]
  refine HR.take 10 14 (v := ?v4_10) rfl (by kernel_rfl) (by kernel_rfl) (by kernel_rfl) (Or.inl ⟨by rfl, ?hy4_10⟩) hst2 rfl ?rs4_10; (case hy4_10 => (intro w hSw; (try dsimp only at hSw); go_simp; (try with_reducible rfl))); simp only [List.setIfInBounds_toArray, List.set_cons_zero, List.set_cons_succ]
  refine HR.take 11 15 (v := ?v4_11) rfl (by kernel_rfl) (by kernel_rfl) (by kernel_rfl) (Or.inl ⟨by rfl, ?hy4_11⟩) hst2 rfl ?rs4_11; (case hy4_11 => (intro w hSw; (try dsimp only at hSw); go_simp; (try with_reducible rfl))); simp only [List.setIfInBounds_toArray, List.set_cons_zero, List.set_cons_succ]
  refine HR.take 12 16 (v := ?v4_12) rfl (by kernel_rfl) (by kernel_rfl) (by kernel_rfl) (Or.inl ⟨by rfl, ?hy4_12⟩) hst2 rfl ?rs4_12; (case hy4_12 => (intro w hSw; (try dsimp only at hSw); go_simp; (try with_reducible rfl))); simp only [List.setIfInBounds_toArray, List.set_cons_zero, List.set_cons_succ]
  refine HR.take 13 17 (v := ?v4_13) rfl (by kernel_rfl) (by kernel_rfl) (by kernel_rfl) (Or.inl ⟨by rfl, ?hy4_13⟩) hst2 rfl ?rs4_13; (case hy4_13 => (intro w hSw; (try dsimp only at hSw); go_simp; (try with_reducible rfl))); simp only [List.setIfInBounds_toArray, List.set_cons_zero, List.set_cons_succ]
  refine HR.take 14 18 (v := ?v4_14) rfl (by kernel_rfl) (by kernel_rfl) (by kernel_rfl) (Or.inl ⟨by rfl, ?hy4_14⟩) hst2 rfl ?rs4_14; (case hy4_14 => (intro w hSw; (try dsimp only at hSw); go_simp; (try with_reducible rfl))); simp only [List.setIfInBounds_toArray, List.set_cons_zero, List.set_cons_succ]
  refine HR.take 15 19 (v := ?v4_15) rfl (by kernel_rfl) (by kernel_rfl) (by kernel_rfl) (Or.inl ⟨by rfl, ?hy4_15⟩) hst2 rfl ?rs4_15; (case hy4_15 => (intro w hSw; (try dsimp only at hSw); go_simp; (try with_reducible rfl))); simp only [List.setIfInBounds_toArray, List.set_cons_zero, List.set_cons_succ]
  refine HR.take 16 20 (v := ?v4_16) rfl (by kernel_rfl) (by kernel_rfl) (by kernel_rfl) (Or.inl ⟨by rfl, ?hy4_16⟩) hst2 rfl ?rs4_16; (case hy4_16 => (intro w hSw; (try dsimp only at hSw); go_simp; (try with_reducible rfl))); simp only [List.setIfInBounds_toArray, List.set_cons_zero, List.set_cons_succ]
  refine HR.take 17 21 (v := ?v4_17) rfl (by kernel_rfl) (by kernel_rfl) (by kernel_rfl) (Or.inl ⟨by rfl, ?hy4_17⟩) hst2 rfl ?rs4_17; (case hy4_17 => (intro w hSw; (try dsimp only at hSw); go_simp; (try with_reducible rfl))); simp only [List.setIfInBounds_toArray, List.set_cons_zero, List.set_cons_succ]
  refine HR.take 18 22 (v := ?v4_18) rfl (by kernel_rfl) (by kernel_rfl) (by kernel_rfl) (Or.inl ⟨by rfl, ?hy4_18⟩) hst2 rfl ?rs4_18; (case hy4_18 => (intro w hSw; (try dsimp only at hSw); go_simp; (try with_reducible rfl))); simp only [List.setIfInBounds_toArray, List.set_cons_zero, List.set_cons_succ]
  refine HR.take 19 23 (v := ?v4_19) rfl (by kernel_rfl) (by kernel_rfl) (by kernel_rfl) (Or.inl ⟨by rfl, ?hy4_19⟩) hst2 rfl ?rs4_19; (case hy4_19 => (intro w hSw; (try dsimp only at hSw); go_simp; (try with_reducible rfl))); simp only [List.setIfInBounds_toArray, List.set_cons_zero, List.set_cons_succ]
  refine HR.take 20 24 (v := ?v4_20) rfl (by kernel_rfl) (by kernel_rfl) (by kernel_rfl) (Or.inl ⟨by rfl, ?hy4_20⟩) hst2 rfl ?rs4_20; (case hy4_20 => (intro w hSw; (try dsimp only at hSw); go_simp; (try with_reducible rfl))); simp only [List.setIfInBounds_toArray, List.set_cons_zero, List.set_cons_succ]
  refine HR.take 21 25 (v := ?v4_21) rfl (by kernel_rfl) (by kernel_rfl) (by kernel_rfl) (Or.inl ⟨by rfl, ?hy4_21⟩) hst2 rfl ?rs4_21; (case hy4_21 => (intro w hSw; (try dsimp only at hSw); go_simp; (try with_reducible rfl))); simp only [List.setIfInBounds_toArray, List.set_cons_zero, List.set_cons_succ]
  refine HR.take 22 26 (v := ?v4_22) rfl (by kernel_rfl) (by kernel_rfl) (by kernel_rfl) (Or.inl ⟨by rfl, ?hy4_22⟩) hst2 rfl ?rs4_22; (case hy4_22 => (intro w hSw; (try dsimp only at hSw); go_simp; (try with_reducible rfl))); simp only [List.setIfInBounds_toArray, List.set_cons_zero, List.set_cons_succ]
  refine HR.take 23 27 (v := ?v4_23) rfl (by kernel_rfl) (by kernel_rfl) (by kernel_rfl) (Or.inl ⟨by rfl, ?hy4_23⟩) hst2 rfl ?rs4_23; (case hy4_23 => (intro w hSw; (try dsimp only at hSw); go_simp; (try with_reducible rfl))); simp only [List.setIfInBounds_toArray, List.set_cons_zero, List.set_cons_succ]
  refine HR.take 24 28 (v := ?v4_24) rfl (by kernel_rfl) (by kernel_rfl) (by kernel_rfl) (Or.inl ⟨by rfl, ?hy4_24⟩) hst2 rfl ?rs4_24; (case hy4_24 => (intro w hSw; (try dsimp only at hSw); go_simp; (try with_reducible rfl))); simp only [List.setIfInBounds_toArray, List.set_cons_zero, List.set_cons_succ]
  refine HR.take 25 29 (v := ?v4_25) rfl (by kernel_rfl) (by kernel_rfl) (by kernel_rfl) (Or.inl ⟨by rfl, ?hy4_25⟩) hst2 rfl ?rs4_25; (case hy4_25 => (intro w hSw; (try dsimp only at hSw); go_simp; (try with_reducible rfl))); simp only [List.setIfInBounds_toArray, List.set_cons_zero, List.set_cons_succ]
  refine HR.skip 26 30 rfl (by kernel_rfl) (by kernel_rfl) (by kernel_rfl) (by rfl) hst2 rfl ?_; simp only [List.setIfInBounds_toArray, List.set_cons_zero, List.set_cons_succ]
  refine HR.skip 27 31 rfl (by kernel_rfl) (by kernel_rfl) (by kernel_rfl) (by rfl) hst2 rfl ?_; simp only [List.setIfInBounds_toArray, List.set_cons_zero, List.set_cons_succ]
  refine HR.skip 28 32 rfl (by kernel_rfl) (by kernel_rfl) (by kernel_rfl) (by rfl) hst2 rfl ?_; simp only [List.setIfInBounds_toArray, List.set_cons_zero, List.set_cons_succ]
  refine HR.take 29 33 (v := ?v4_29) rfl (by kernel_rfl) (by kernel_rfl) (by kernel_rfl) (Or.inl ⟨by rfl, ?hy4_29⟩) hst2 rfl ?rs4_29; (case hy4_29 => (intro w hSw; (try dsimp only at hSw); go_simp; (try with_reducible rfl))); simp only [List.setIfInBounds_toArray, List.set_cons_zero, List.set_cons_succ]
  refine HR.take 30 34 (v := ?v4_30) rfl (by kernel_rfl) (by kernel_rfl) (by kernel_rfl) (Or.inl ⟨by rfl, ?hy4_30⟩) hst2 rfl ?rs4_30; (case hy4_30 => (intro w hSw; (try dsimp only at hSw); go_simp; (try with_reducible rfl))); simp only [List.setIfInBounds_toArray, List.set_cons_zero, List.set_cons_succ]
  refine HR.take 31 2 (v := ?v4_31) rfl (by kernel_rfl) (by kernel_rfl) (by kernel_rfl) (Or.inl ⟨by rfl, ?hy4_31⟩) hst2 rfl ?rs4_31; (case hy4_31 => (intro w hSw; (try dsimp only at hSw); go_simp; (try with_reducible rfl))); simp only [List.setIfInBounds_toArray, List.set_cons_zero, List.set_cons_succ]
  refine HR.take 32 3 (v := ?v4_32) rfl (by kernel_rfl) (by kernel_rfl) (by kernel_rfl) (Or.inl ⟨by rfl, ?hy4_32⟩) hst2 rfl ?rs4_32; (case hy4_32 => (intro w hSw; (try dsimp only at hSw); go_simp; (try with_reducible rfl))); simp only [List.setIfInBounds_toArray, List.set_cons_zero, List.set_cons_succ]
  refine HR.done (by kernel_rfl) ?_
  rw [HQ.out]
  have HB := Aside0.mk hst2.2.2.2.2.2.below
  clear hst hst2 hb HR HQ
  go_wp2_with fail
  go_ret2
  exact ⟨rfl, HB.out⟩
set_option maxHeartbeats 16000000 in
set_option maxRecDepth 100000 in
theorem may_5 (p : S) (t : S) (m s : Int) (w : World) (hs : p.size ≤ 100000000) (b0 : decide (0 ≤ m) = true) (b1 : decide (m ≤ 511) = true) (b2 : decide (0 ≤ s) = true) (b3 : decide (s ≤ 4294967295) = true) (b5 : t.toList.isEmpty = true) :
    Calls Tryz.prog 90 #[vN ⟨p, true, t, m, s⟩] w fun e w' => e = .returned (.tuple #[.bool (pRight p), .bool true]) ∧ Below w.heap.size w w' := by
  have HRt := Aside0.mk (fun W => ref_Right p W (by omega))
  have HE := Aside0.mk (show True from trivial)
  clear hs
  go_enter Tryz.func90, Tryz.ntmps90
  go_wp2_with fail
  have hst := (MaySt.step (MaySt.mk (heap_alloc_new w (.cells #[.string p, .bool true, .string t, .int .i64 m, .int .i64 s] 46)) ((Grew.refl w).alloc (.cells #[.string p, .bool true, .string t, .int .i64 m, .int .i64 s] 46)).below) ((Grew.refl _).drew).below).all
  refine Reg.start (fun W => W.cell? ⟨w.heap.size, 0, none⟩ = some (.string p) ∧ W.cell? ⟨w.heap.size, 1, none⟩ = some (.bool true) ∧ W.cell? ⟨w.heap.size, 2, none⟩ = some (.string t) ∧ W.cell? ⟨w.heap.size, 3, none⟩ = some (.int .i64 m) ∧ W.cell? ⟨w.heap.size, 4, none⟩ = some (.int .i64 s) ∧ MaySt w W p true t m s) (by kernel_rfl) hst (fun _ _ _ _ _ _ h => h) (fun R Q' HQ HR => ?_)
  simp only [List.size_toArray, List.length_cons, List.length_nil, Nat.zero_add, Nat.reduceAdd, Array.replicate, List.replicate]
  refine HR.take 0 4 (v := ?v5_0) rfl (by kernel_rfl) (by kernel_rfl) (by kernel_rfl) (Or.inl ⟨by rfl, ?hy5_0⟩) hst rfl ?rs5_0; (case hy5_0 => (intro w hSw; (try dsimp only at hSw); go_simp; (try with_reducible rfl))); simp only [List.setIfInBounds_toArray, List.set_cons_zero, List.set_cons_succ]
  refine HR.take 1 5 (v := ?v5_1) rfl (by kernel_rfl) (by kernel_rfl) (by kernel_rfl) (Or.inl ⟨by rfl, ?hy5_1⟩) hst rfl ?rs5_1; (case hy5_1 => (intro w hSw; (try dsimp only at hSw); go_simp; (try with_reducible rfl))); simp only [List.setIfInBounds_toArray, List.set_cons_zero, List.set_cons_succ]
  refine HR.take 3 7 (v := ?v5_3) rfl (by kernel_rfl) (by kernel_rfl) (by kernel_rfl) (Or.inl ⟨by rfl, ?hy5_3⟩) hst rfl ?rs5_3; (case hy5_3 => (intro w hSw; (try dsimp only at hSw); go_simp; (try with_reducible rfl))); simp only [List.setIfInBounds_toArray, List.set_cons_zero, List.set_cons_succ]
  refine HR.take 4 8 (v := ?v5_4) rfl (by kernel_rfl) (by kernel_rfl) (by kernel_rfl) (Or.inl ⟨by rfl, ?hy5_4⟩) hst rfl ?rs5_4; (case hy5_4 => (intro w hSw; (try dsimp only at hSw); go_simp; (try with_reducible rfl))); simp only [List.setIfInBounds_toArray, List.set_cons_zero, List.set_cons_succ]
  refine HR.take 5 9 (v := ?v5_5) rfl (by kernel_rfl) (by kernel_rfl) (by kernel_rfl) (Or.inl ⟨by rfl, ?hy5_5⟩) hst rfl ?rs5_5; (case hy5_5 => (intro w hSw; (try dsimp only at hSw); go_simp; (try with_reducible rfl))); simp only [List.setIfInBounds_toArray, List.set_cons_zero, List.set_cons_succ]
  refine HR.one 2 (by kernel_rfl) rfl (fun K hK => ?_)
  simp only [List.getElem_toArray, List.getElem_cons_succ, List.getElem_cons_zero]
  go_simp
  refine (HRt.out _).mono ?_
  rintro e w' ⟨rfl, hb⟩
  have hst2 := (hst.2.2.2.2.2.step hb).all
  (try dsimp only)
  refine hK.out _ _ hst2 (fun _ => ?_)
  clear hK K
  simp only [Act.put, List.setIfInBounds_toArray, List.set_cons_zero, List.set_cons_succ]
  refine HR.take 6 10 (v := ?v5_6) rfl (by kernel_rfl) (by kernel_rfl) (by kernel_rfl) (Or.inl ⟨by rfl, ?hy5_6⟩) hst2 rfl ?rs5_6; (case hy5_6 => (intro w hSw; (try dsimp only at hSw); go_simp; (try with_reducible rfl))); simp only [List.setIfInBounds_toArray, List.set_cons_zero, List.set_cons_succ]
  refine HR.take 7 11 (v := ?v5_7) rfl (by kernel_rfl) (by kernel_rfl) (by kernel_rfl) (Or.inl ⟨by rfl, ?hy5_7⟩) hst2 rfl ?rs5_7; (case hy5_7 => (intro w hSw; (try dsimp only at hSw); go_simp; (try with_reducible rfl))); simp only [List.setIfInBounds_toArray, List.set_cons_zero, List.set_cons_succ]
  refine HR.take 8 12 (v := ?v5_8) rfl (by kernel_rfl) (by kernel_rfl) (by kernel_rfl) (Or.inl ⟨by rfl, ?hy5_8⟩) hst2 rfl ?rs5_8; (case hy5_8 => (intro w hSw; (try dsimp only at hSw); go_simp; (try with_reducible rfl))); simp only [List.setIfInBounds_toArray, List.set_cons_zero, List.set_cons_succ]
  refine HR.take 9 13 (v := ?v5_9) rfl (by kernel_rfl) (by kernel_rfl) (by kernel_rfl) (Or.inl ⟨by rfl, ?hy5_9⟩) hst2 rfl ?rs5_9; (case hy5_9 => (intro w hSw; (try dsimp only at hSw); go_simp; (try with_reducible rfl))); simp only [List.setIfInBounds_toArray, List.set_cons_zero, List.set_cons_succ]
  refine HR.take 10 14 (v := ?v5_10) rfl (by kernel_rfl) (by kernel_rfl) (by kernel_rfl) (Or.inl ⟨by rfl, ?hy5_10⟩) hst2 rfl ?rs5_10; (case hy5_10 => (intro w hSw; (try dsimp only at hSw); go_simp; (try with_reducible rfl))); simp only [List.setIfInBounds_toArray, List.set_cons_zero, List.set_cons_succ]
  refine HR.take 11 15 (v := ?v5_11) rfl (by kernel_rfl) (by kernel_rfl) (by kernel_rfl) (Or.inl ⟨by rfl, ?hy5_11⟩) hst2 rfl ?rs5_11; (case hy5_11 => (intro w hSw; (try dsimp only at hSw); go_simp; (try with_reducible rfl))); simp only [List.setIfInBounds_toArray, List.set_cons_zero, List.set_cons_succ]
  refine HR.take 12 16 (v := ?v5_12) rfl (by kernel_rfl) (by kernel_rfl) (by kernel_rfl) (Or.inl ⟨by rfl, ?hy5_12⟩) hst2 rfl ?rs5_12; (case hy5_12 => (intro w hSw; (try dsimp only at hSw); go_simp; (try with_reducible rfl))); simp only [List.setIfInBounds_toArray, List.set_cons_zero, List.set_cons_succ]
  refine HR.take 13 17 (v := ?v5_13) rfl (by kernel_rfl) (by kernel_rfl) (by kernel_rfl) (Or.inl ⟨by rfl, ?hy5_13⟩) hst2 rfl ?rs5_13; (case hy5_13 => (intro w hSw; (try dsimp only at hSw); go_simp; (try with_reducible rfl))); simp only [List.setIfInBounds_toArray, List.set_cons_zero, List.set_cons_succ]
  refine HR.take 14 18 (v := ?v5_14) rfl (by kernel_rfl) (by kernel_rfl) (by kernel_rfl) (Or.inl ⟨by rfl, ?hy5_14⟩) hst2 rfl ?rs5_14; (case hy5_14 => (intro w hSw; (try dsimp only at hSw); go_simp; (try with_reducible rfl))); simp only [List.setIfInBounds_toArray, List.set_cons_zero, List.set_cons_succ]
  refine HR.take 15 19 (v := ?v5_15) rfl (by kernel_rfl) (by kernel_rfl) (by kernel_rfl) (Or.inl ⟨by rfl, ?hy5_15⟩) hst2 rfl ?rs5_15; (case hy5_15 => (intro w hSw; (try dsimp only at hSw); go_simp; (try with_reducible rfl))); simp only [List.setIfInBounds_toArray, List.set_cons_zero, List.set_cons_succ]
  refine HR.take 16 20 (v := ?v5_16) rfl (by kernel_rfl) (by kernel_rfl) (by kernel_rfl) (Or.inl ⟨by rfl, ?hy5_16⟩) hst2 rfl ?rs5_16; (case hy5_16 => (intro w hSw; (try dsimp only at hSw); go_simp; (try with_reducible rfl))); simp only [List.setIfInBounds_toArray, List.set_cons_zero, List.set_cons_succ]
  refine HR.take 17 21 (v := ?v5_17) rfl (by kernel_rfl) (by kernel_rfl) (by kernel_rfl) (Or.inl ⟨by rfl, ?hy5_17⟩) hst2 rfl ?rs5_17; (case hy5_17 => (intro w hSw; (try dsimp only at hSw); go_simp; (try with_reducible rfl))); simp only [List.setIfInBounds_toArray, List.set_cons_zero, List.set_cons_succ]
  refine HR.take 18 22 (v := ?v5_18) rfl (by kernel_rfl) (by kernel_rfl) (by kernel_rfl) (Or.inl ⟨by rfl, ?hy5_18⟩) hst2 rfl ?rs5_18; (case hy5_18 => (intro w hSw; (try dsimp only at hSw); go_simp; (try with_reducible rfl))); simp only [List.setIfInBounds_toArray, List.set_cons_zero, List.set_cons_succ]
  refine HR.take 19 23 (v := ?v5_19) rfl (by kernel_rfl) (by kernel_rfl) (by kernel_rfl) (Or.inl ⟨by rfl, ?hy5_19⟩) hst2 rfl ?rs5_19; (case hy5_19 => (intro w hSw; (try dsimp only at hSw); go_simp; (try with_reducible rfl))); simp only [List.setIfInBounds_toArray, List.set_cons_zero, List.set_cons_succ]
  refine HR.take 20 24 (v := ?v5_20) rfl (by kernel_rfl) (by kernel_rfl) (by kernel_rfl) (Or.inl ⟨by rfl, ?hy5_20⟩) hst2 rfl ?rs5_20; (case hy5_20 => (intro w hSw; (try dsimp only at hSw); go_simp; (try with_reducible rfl))); simp only [List.setIfInBounds_toArray, List.set_cons_zero, List.set_cons_succ]
  refine HR.take 21 25 (v := ?v5_21) rfl (by kernel_rfl) (by kernel_rfl) (by kernel_rfl) (Or.inl ⟨by rfl, ?hy5_21⟩) hst2 rfl ?rs5_21; (case hy5_21 => (intro w hSw; (try dsimp only at hSw); go_simp; (try with_reducible rfl))); simp only [List.setIfInBounds_toArray, List.set_cons_zero, List.set_cons_succ]
  refine HR.take 22 26 (v := ?v5_22) rfl (by kernel_rfl) (by kernel_rfl) (by kernel_rfl) (Or.inl ⟨by rfl, ?hy5_22⟩) hst2 rfl ?rs5_22; (case hy5_22 => (intro w hSw; (try dsimp only at hSw); go_simp; (try with_reducible rfl))); simp only [List.setIfInBounds_toArray, List.set_cons_zero, List.set_cons_succ]
  refine HR.take 23 27 (v := ?v5_23) rfl (by kernel_rfl) (by kernel_rfl) (by kernel_rfl) (Or.inl ⟨by rfl, ?hy5_23⟩) hst2 rfl ?rs5_23; (case hy5_23 => (intro w hSw; (try dsimp only at hSw); go_simp; (try with_reducible rfl))); simp only [List.setIfInBounds_toArray, List.set_cons_zero, List.set_cons_succ]
  refine HR.take 24 28 (v := ?v5_24) rfl (by kernel_rfl) (by kernel_rfl) (by kernel_rfl) (Or.inl ⟨by rfl, ?hy5_24⟩) hst2 rfl ?rs5_24; (case hy5_24 => (intro w hSw; (try dsimp only at hSw); go_simp; (try with_reducible rfl))); simp only [List.setIfInBounds_toArray, List.set_cons_zero, List.set_cons_succ]
  refine HR.take 25 29 (v := ?v5_25) rfl (by kernel_rfl) (by kernel_rfl) (by kernel_rfl) (Or.inl ⟨by rfl, ?hy5_25⟩) hst2 rfl ?rs5_25; (case hy5_25 => (intro w hSw; (try dsimp only at hSw); go_simp; (try with_reducible rfl))); simp only [List.setIfInBounds_toArray, List.set_cons_zero, List.set_cons_succ]
  refine HR.take 26 30 (v := ?v5_26) rfl (by kernel_rfl) (by kernel_rfl) (by kernel_rfl) (Or.inl ⟨by rfl, ?hy5_26⟩) hst2 rfl ?rs5_26; (case hy5_26 => (intro w hSw; (try dsimp only at hSw); go_simp; (try with_reducible rfl))); simp only [List.setIfInBounds_toArray, List.set_cons_zero, List.set_cons_succ]
  refine HR.take 27 31 (v := ?v5_27) rfl (by kernel_rfl) (by kernel_rfl) (by kernel_rfl) (Or.inl ⟨by rfl, ?hy5_27⟩) hst2 rfl ?rs5_27; (case hy5_27 => (intro w hSw; (try dsimp only at hSw); go_simp; (try with_reducible rfl))); simp only [List.setIfInBounds_toArray, List.set_cons_zero, List.set_cons_succ]
  refine HR.take 28 32 (v := ?v5_28) rfl (by kernel_rfl) (by kernel_rfl) (by kernel_rfl) (Or.inl ⟨by rfl, ?hy5_28⟩) hst2 rfl ?rs5_28; (case hy5_28 => (intro w hSw; (try dsimp only at hSw); go_simp; (try with_reducible rfl))); simp only [List.setIfInBounds_toArray, List.set_cons_zero, List.set_cons_succ]
  refine HR.take 29 33 (v := ?v5_29) rfl (by kernel_rfl) (by kernel_rfl) (by kernel_rfl) (Or.inl ⟨by rfl, ?hy5_29⟩) hst2 rfl ?rs5_29; (case hy5_29 => (intro w hSw; (try dsimp only at hSw); go_simp; (try with_reducible rfl))); simp only [List.setIfInBounds_toArray, List.set_cons_zero, List.set_cons_succ]
  refine HR.take 30 34 (v := ?v5_30) rfl (by kernel_rfl) (by kernel_rfl) (by kernel_rfl) (Or.inl ⟨by rfl, ?hy5_30⟩) hst2 rfl ?rs5_30; (case hy5_30 => (intro w hSw; (try dsimp only at hSw); go_simp; (try with_reducible rfl))); simp only [List.setIfInBounds_toArray, List.set_cons_zero, List.set_cons_succ]
  refine HR.take 31 2 (v := ?v5_31) rfl (by kernel_rfl) (by kernel_rfl) (by kernel_rfl) (Or.inl ⟨by rfl, ?hy5_31⟩) hst2 rfl ?rs5_31; (case hy5_31 => (intro w hSw; (try dsimp only at hSw); go_simp; (try with_reducible rfl))); simp only [List.setIfInBounds_toArray, List.set_cons_zero, List.set_cons_succ]
  refine HR.take 32 3 (v := ?v5_32) rfl (by kernel_rfl) (by kernel_rfl) (by kernel_rfl) (Or.inl ⟨by rfl, ?hy5_32⟩) hst2 rfl ?rs5_32; (case hy5_32 => (intro w hSw; (try dsimp only at hSw); go_simp; (try with_reducible rfl))); simp only [List.setIfInBounds_toArray, List.set_cons_zero, List.set_cons_succ]
  refine HR.done (by kernel_rfl) ?_
  rw [HQ.out]
  have HB := Aside0.mk hst2.2.2.2.2.2.below
  clear hst hst2 hb HR HQ
  go_wp2_with fail
  go_ret2
  exact ⟨rfl, HB.out⟩
set_option maxHeartbeats 16000000 in
set_option maxRecDepth 100000 in
theorem may_6 (p : S) (t : S) (m s : Int) (w : World) (hs : p.size ≤ 100000000) (b0 : decide (0 ≤ m) = true) (b1 : decide (m ≤ 511) = true) (b2 : decide (0 ≤ s) = true) (b3 : decide (s ≤ 4294967295) = true) (b5 : t.toList.isEmpty = false) :
    Calls Tryz.prog 90 #[vN ⟨p, true, t, m, s⟩] w fun e w' => e = .returned (.tuple #[.bool (pRight p), .bool false]) ∧ Below w.heap.size w w' := by
  have HRt := Aside0.mk (fun W => ref_Right p W (by omega))
  have HE := Aside0.mk (show True from trivial)
  clear hs
  go_enter Tryz.func90, Tryz.ntmps90
  go_wp2_with fail
  have hst := (MaySt.step (MaySt.mk (heap_alloc_new w (.cells #[.string p, .bool true, .string t, .int .i64 m, .int .i64 s] 46)) ((Grew.refl w).alloc (.cells #[.string p, .bool true, .string t, .int .i64 m, .int .i64 s] 46)).below) ((Grew.refl _).drew).below).all
  refine Reg.start (fun W => W.cell? ⟨w.heap.size, 0, none⟩ = some (.string p) ∧ W.cell? ⟨w.heap.size, 1, none⟩ = some (.bool true) ∧ W.cell? ⟨w.heap.size, 2, none⟩ = some (.string t) ∧ W.cell? ⟨w.heap.size, 3, none⟩ = some (.int .i64 m) ∧ W.cell? ⟨w.heap.size, 4, none⟩ = some (.int .i64 s) ∧ MaySt w W p true t m s) (by kernel_rfl) hst (fun _ _ _ _ _ _ h => h) (fun R Q' HQ HR => ?_)
  simp only [List.size_toArray, List.length_cons, List.length_nil, Nat.zero_add, Nat.reduceAdd, Array.replicate, List.replicate]
  refine HR.take 0 4 (v := ?v6_0) rfl (by kernel_rfl) (by kernel_rfl) (by kernel_rfl) (Or.inl ⟨by rfl, ?hy6_0⟩) hst rfl ?rs6_0; (case hy6_0 => (intro w hSw; (try dsimp only at hSw); go_simp; (try with_reducible rfl))); simp only [List.setIfInBounds_toArray, List.set_cons_zero, List.set_cons_succ]
  refine HR.take 1 5 (v := ?v6_1) rfl (by kernel_rfl) (by kernel_rfl) (by kernel_rfl) (Or.inl ⟨by rfl, ?hy6_1⟩) hst rfl ?rs6_1; (case hy6_1 => (intro w hSw; (try dsimp only at hSw); go_simp; (try with_reducible rfl))); simp only [List.setIfInBounds_toArray, List.set_cons_zero, List.set_cons_succ]
  refine HR.take 3 7 (v := ?v6_3) rfl (by kernel_rfl) (by kernel_rfl) (by kernel_rfl) (Or.inl ⟨by rfl, ?hy6_3⟩) hst rfl ?rs6_3; (case hy6_3 => (intro w hSw; (try dsimp only at hSw); go_simp; (try with_reducible rfl))); simp only [List.setIfInBounds_toArray, List.set_cons_zero, List.set_cons_succ]
  refine HR.take 4 8 (v := ?v6_4) rfl (by kernel_rfl) (by kernel_rfl) (by kernel_rfl) (Or.inl ⟨by rfl, ?hy6_4⟩) hst rfl ?rs6_4; (case hy6_4 => (intro w hSw; (try dsimp only at hSw); go_simp; (try with_reducible rfl))); simp only [List.setIfInBounds_toArray, List.set_cons_zero, List.set_cons_succ]
  refine HR.take 5 9 (v := ?v6_5) rfl (by kernel_rfl) (by kernel_rfl) (by kernel_rfl) (Or.inl ⟨by rfl, ?hy6_5⟩) hst rfl ?rs6_5; (case hy6_5 => (intro w hSw; (try dsimp only at hSw); go_simp; (try with_reducible rfl))); simp only [List.setIfInBounds_toArray, List.set_cons_zero, List.set_cons_succ]
  refine HR.one 2 (by kernel_rfl) rfl (fun K hK => ?_)
  simp only [List.getElem_toArray, List.getElem_cons_succ, List.getElem_cons_zero]
  go_simp
  refine (HRt.out _).mono ?_
  rintro e w' ⟨rfl, hb⟩
  have hst2 := (hst.2.2.2.2.2.step hb).all
  (try dsimp only)
  refine hK.out _ _ hst2 (fun _ => ?_)
  clear hK K
  simp only [Act.put, List.setIfInBounds_toArray, List.set_cons_zero, List.set_cons_succ]
  refine HR.take 6 10 (v := ?v6_6) rfl (by kernel_rfl) (by kernel_rfl) (by kernel_rfl) (Or.inl ⟨by rfl, ?hy6_6⟩) hst2 rfl ?rs6_6; (case hy6_6 => (intro w hSw; (try dsimp only at hSw); go_simp; (try with_reducible rfl))); simp only [List.setIfInBounds_toArray, List.set_cons_zero, List.set_cons_succ]
  refine HR.take 7 11 (v := ?v6_7) rfl (by kernel_rfl) (by kernel_rfl) (by kernel_rfl) (Or.inl ⟨by rfl, ?hy6_7⟩) hst2 rfl ?rs6_7; (case hy6_7 => (intro w hSw; (try dsimp only at hSw); go_simp; (try with_reducible rfl))); simp only [List.setIfInBounds_toArray, List.set_cons_zero, List.set_cons_succ]
  refine HR.take 8 12 (v := ?v6_8) rfl (by kernel_rfl) (by kernel_rfl) (by kernel_rfl) (Or.inl ⟨by rfl, ?hy6_8⟩) hst2 rfl ?rs6_8; (case hy6_8 => (intro w hSw; (try dsimp only at hSw); go_simp; (try with_reducible rfl))); simp only [List.setIfInBounds_toArray, List.set_cons_zero, List.set_cons_succ]
  refine HR.take 9 13 (v := ?v6_9) rfl (by kernel_rfl) (by kernel_rfl) (by kernel_rfl) (Or.inl ⟨by rfl, ?hy6_9⟩) hst2 rfl ?rs6_9; (case hy6_9 => (intro w hSw; (try dsimp only at hSw); go_simp; (try with_reducible rfl))); simp only [List.setIfInBounds_toArray, List.set_cons_zero, List.set_cons_succ]
  refine HR.take 10 14 (v := ?v6_10) rfl (by kernel_rfl) (by kernel_rfl) (by kernel_rfl) (Or.inl ⟨by rfl, ?hy6_10⟩) hst2 rfl ?rs6_10; (case hy6_10 => (intro w hSw; (try dsimp only at hSw); go_simp; (try with_reducible rfl))); simp only [List.setIfInBounds_toArray, List.set_cons_zero, List.set_cons_succ]
  refine HR.take 11 15 (v := ?v6_11) rfl (by kernel_rfl) (by kernel_rfl) (by kernel_rfl) (Or.inl ⟨by rfl, ?hy6_11⟩) hst2 rfl ?rs6_11; (case hy6_11 => (intro w hSw; (try dsimp only at hSw); go_simp; (try with_reducible rfl))); simp only [List.setIfInBounds_toArray, List.set_cons_zero, List.set_cons_succ]
  refine HR.take 12 16 (v := ?v6_12) rfl (by kernel_rfl) (by kernel_rfl) (by kernel_rfl) (Or.inl ⟨by rfl, ?hy6_12⟩) hst2 rfl ?rs6_12; (case hy6_12 => (intro w hSw; (try dsimp only at hSw); go_simp; (try with_reducible rfl))); simp only [List.setIfInBounds_toArray, List.set_cons_zero, List.set_cons_succ]
  refine HR.take 13 17 (v := ?v6_13) rfl (by kernel_rfl) (by kernel_rfl) (by kernel_rfl) (Or.inl ⟨by rfl, ?hy6_13⟩) hst2 rfl ?rs6_13; (case hy6_13 => (intro w hSw; (try dsimp only at hSw); go_simp; (try with_reducible rfl))); simp only [List.setIfInBounds_toArray, List.set_cons_zero, List.set_cons_succ]
  refine HR.take 14 18 (v := ?v6_14) rfl (by kernel_rfl) (by kernel_rfl) (by kernel_rfl) (Or.inl ⟨by rfl, ?hy6_14⟩) hst2 rfl ?rs6_14; (case hy6_14 => (intro w hSw; (try dsimp only at hSw); go_simp; (try with_reducible rfl))); simp only [List.setIfInBounds_toArray, List.set_cons_zero, List.set_cons_succ]
  refine HR.take 15 19 (v := ?v6_15) rfl (by kernel_rfl) (by kernel_rfl) (by kernel_rfl) (Or.inl ⟨by rfl, ?hy6_15⟩) hst2 rfl ?rs6_15; (case hy6_15 => (intro w hSw; (try dsimp only at hSw); go_simp; (try with_reducible rfl))); simp only [List.setIfInBounds_toArray, List.set_cons_zero, List.set_cons_succ]
  refine HR.take 16 20 (v := ?v6_16) rfl (by kernel_rfl) (by kernel_rfl) (by kernel_rfl) (Or.inl ⟨by rfl, ?hy6_16⟩) hst2 rfl ?rs6_16; (case hy6_16 => (intro w hSw; (try dsimp only at hSw); go_simp; (try with_reducible rfl))); simp only [List.setIfInBounds_toArray, List.set_cons_zero, List.set_cons_succ]
  refine HR.take 17 21 (v := ?v6_17) rfl (by kernel_rfl) (by kernel_rfl) (by kernel_rfl) (Or.inl ⟨by rfl, ?hy6_17⟩) hst2 rfl ?rs6_17; (case hy6_17 => (intro w hSw; (try dsimp only at hSw); go_simp; (try with_reducible rfl))); simp only [List.setIfInBounds_toArray, List.set_cons_zero, List.set_cons_succ]
  refine HR.take 18 22 (v := ?v6_18) rfl (by kernel_rfl) (by kernel_rfl) (by kernel_rfl) (Or.inl ⟨by rfl, ?hy6_18⟩) hst2 rfl ?rs6_18; (case hy6_18 => (intro w hSw; (try dsimp only at hSw); go_simp; (try with_reducible rfl))); simp only [List.setIfInBounds_toArray, List.set_cons_zero, List.set_cons_succ]
  refine HR.take 19 23 (v := ?v6_19) rfl (by kernel_rfl) (by kernel_rfl) (by kernel_rfl) (Or.inl ⟨by rfl, ?hy6_19⟩) hst2 rfl ?rs6_19; (case hy6_19 => (intro w hSw; (try dsimp only at hSw); go_simp; (try with_reducible rfl))); simp only [List.setIfInBounds_toArray, List.set_cons_zero, List.set_cons_succ]
  refine HR.take 20 24 (v := ?v6_20) rfl (by kernel_rfl) (by kernel_rfl) (by kernel_rfl) (Or.inl ⟨by rfl, ?hy6_20⟩) hst2 rfl ?rs6_20; (case hy6_20 => (intro w hSw; (try dsimp only at hSw); go_simp; (try with_reducible rfl))); simp only [List.setIfInBounds_toArray, List.set_cons_zero, List.set_cons_succ]
  refine HR.take 21 25 (v := ?v6_21) rfl (by kernel_rfl) (by kernel_rfl) (by kernel_rfl) (Or.inl ⟨by rfl, ?hy6_21⟩) hst2 rfl ?rs6_21; (case hy6_21 => (intro w hSw; (try dsimp only at hSw); go_simp; (try with_reducible rfl))); simp only [List.setIfInBounds_toArray, List.set_cons_zero, List.set_cons_succ]
  refine HR.take 22 26 (v := ?v6_22) rfl (by kernel_rfl) (by kernel_rfl) (by kernel_rfl) (Or.inl ⟨by rfl, ?hy6_22⟩) hst2 rfl ?rs6_22; (case hy6_22 => (intro w hSw; (try dsimp only at hSw); go_simp; (try with_reducible rfl))); simp only [List.setIfInBounds_toArray, List.set_cons_zero, List.set_cons_succ]
  refine HR.take 23 27 (v := ?v6_23) rfl (by kernel_rfl) (by kernel_rfl) (by kernel_rfl) (Or.inl ⟨by rfl, ?hy6_23⟩) hst2 rfl ?rs6_23; (case hy6_23 => (intro w hSw; (try dsimp only at hSw); go_simp; (try with_reducible rfl))); simp only [List.setIfInBounds_toArray, List.set_cons_zero, List.set_cons_succ]
  refine HR.take 24 28 (v := ?v6_24) rfl (by kernel_rfl) (by kernel_rfl) (by kernel_rfl) (Or.inl ⟨by rfl, ?hy6_24⟩) hst2 rfl ?rs6_24; (case hy6_24 => (intro w hSw; (try dsimp only at hSw); go_simp; (try with_reducible rfl))); simp only [List.setIfInBounds_toArray, List.set_cons_zero, List.set_cons_succ]
  refine HR.take 25 29 (v := ?v6_25) rfl (by kernel_rfl) (by kernel_rfl) (by kernel_rfl) (Or.inl ⟨by rfl, ?hy6_25⟩) hst2 rfl ?rs6_25; (case hy6_25 => (intro w hSw; (try dsimp only at hSw); go_simp; (try with_reducible rfl))); simp only [List.setIfInBounds_toArray, List.set_cons_zero, List.set_cons_succ]
  refine HR.take 26 30 (v := ?v6_26) rfl (by kernel_rfl) (by kernel_rfl) (by kernel_rfl) (Or.inl ⟨by rfl, ?hy6_26⟩) hst2 rfl ?rs6_26; (case hy6_26 => (intro w hSw; (try dsimp only at hSw); go_simp; (try with_reducible rfl))); simp only [List.setIfInBounds_toArray, List.set_cons_zero, List.set_cons_succ]
  refine HR.take 27 31 (v := ?v6_27) rfl (by kernel_rfl) (by kernel_rfl) (by kernel_rfl) (Or.inl ⟨by rfl, ?hy6_27⟩) hst2 rfl ?rs6_27; (case hy6_27 => (intro w hSw; (try dsimp only at hSw); go_simp; (try with_reducible rfl))); simp only [List.setIfInBounds_toArray, List.set_cons_zero, List.set_cons_succ]
  refine HR.take 28 32 (v := ?v6_28) rfl (by kernel_rfl) (by kernel_rfl) (by kernel_rfl) (Or.inl ⟨by rfl, ?hy6_28⟩) hst2 rfl ?rs6_28; (case hy6_28 => (intro w hSw; (try dsimp only at hSw); go_simp; (try with_reducible rfl))); simp only [List.setIfInBounds_toArray, List.set_cons_zero, List.set_cons_succ]
  refine HR.take 29 33 (v := ?v6_29) rfl (by kernel_rfl) (by kernel_rfl) (by kernel_rfl) (Or.inl ⟨by rfl, ?hy6_29⟩) hst2 rfl ?rs6_29; (case hy6_29 => (intro w hSw; (try dsimp only at hSw); go_simp; (try with_reducible rfl))); simp only [List.setIfInBounds_toArray, List.set_cons_zero, List.set_cons_succ]
  refine HR.take 30 34 (v := ?v6_30) rfl (by kernel_rfl) (by kernel_rfl) (by kernel_rfl) (Or.inl ⟨by rfl, ?hy6_30⟩) hst2 rfl ?rs6_30; (case hy6_30 => (intro w hSw; (try dsimp only at hSw); go_simp; (try with_reducible rfl))); simp only [List.setIfInBounds_toArray, List.set_cons_zero, List.set_cons_succ]
  refine HR.take 31 2 (v := ?v6_31) rfl (by kernel_rfl) (by kernel_rfl) (by kernel_rfl) (Or.inl ⟨by rfl, ?hy6_31⟩) hst2 rfl ?rs6_31; (case hy6_31 => (intro w hSw; (try dsimp only at hSw); go_simp; (try with_reducible rfl))); simp only [List.setIfInBounds_toArray, List.set_cons_zero, List.set_cons_succ]
  refine HR.take 32 3 (v := ?v6_32) rfl (by kernel_rfl) (by kernel_rfl) (by kernel_rfl) (Or.inl ⟨by rfl, ?hy6_32⟩) hst2 rfl ?rs6_32; (case hy6_32 => (intro w hSw; (try dsimp only at hSw); go_simp; (try with_reducible rfl))); simp only [List.setIfInBounds_toArray, List.set_cons_zero, List.set_cons_succ]
  refine HR.done (by kernel_rfl) ?_
  rw [HQ.out]
  have HB := Aside0.mk hst2.2.2.2.2.2.below
  clear hst hst2 hb HR HQ
  go_wp2_with fail
  go_ret2
  exact ⟨rfl, HB.out⟩

theorem ref_May (n : Nd) (w : World) (hs : n.path.size ≤ 100000000) :
    Calls Tryz.prog 90 #[vN n] w fun e w' => e = .returned (.tuple #[.bool (pRight n.path), .bool (okRest n)]) ∧ Below w.heap.size w w' := by
  have he : okRest n = (decide (0 ≤ n.mode) && decide (n.mode ≤ 511) && decide (0 ≤ n.time) && decide (n.time ≤ 4294967295) && (!n.dir || n.data.toList.isEmpty)) := rfl
  obtain ⟨p, d, t, m, s⟩ := n
  simp only at he hs
  cases b0 : decide (0 ≤ m)
  · rw [show okRest ⟨p, d, t, m, s⟩ = false by rw [he, b0]; simp]; exact may_0 p d t m s w hs b0
  cases b1 : decide (m ≤ 511)
  · rw [show okRest ⟨p, d, t, m, s⟩ = false by rw [he, b1]; simp]; exact may_1 p d t m s w hs b0 b1
  cases b2 : decide (0 ≤ s)
  · rw [show okRest ⟨p, d, t, m, s⟩ = false by rw [he, b2]; simp]; exact may_2 p d t m s w hs b0 b1 b2
  cases b3 : decide (s ≤ 4294967295)
  · rw [show okRest ⟨p, d, t, m, s⟩ = false by rw [he, b3]; simp]; exact may_3 p d t m s w hs b0 b1 b2 b3
  cases d
  · rw [show okRest ⟨p, false, t, m, s⟩ = true by rw [he, b0, b1, b2, b3]; rfl]; exact may_4 p t m s w hs b0 b1 b2 b3
  cases b5 : t.toList.isEmpty
  · rw [show okRest ⟨p, true, t, m, s⟩ = false by rw [he, b0, b1, b2, b3, b5]; rfl]; exact may_6 p t m s w hs b0 b1 b2 b3 b5
  · rw [show okRest ⟨p, true, t, m, s⟩ = true by rw [he, b0, b1, b2, b3, b5]; rfl]; exact may_5 p t m s w hs b0 b1 b2 b3 b5

end Go.Proofs.YtbkbpdpegiekhaaGreatDoor
