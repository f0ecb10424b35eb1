/- SquashEmpty, walked: whatever the layer, the call returns true. -/
import Derived.Test.YtbkbpdpegiekhaaGreatDoorL2
set_option linter.unusedVariables false
set_option linter.unusedSimpArgs false
namespace Go.Proofs.YtbkbpdpegiekhaaGreatDoor
open Go.RowKit Go.Proofs.YtbkbpdpegiekhaaGreatDoorW.PrintWords Mo

theorem small_lsm {l : Ly} {m : Nat} (hm : m ≤ 1000) (h : smallB l m = true) : Lsm l := by
  unfold smallB at h
  simp only [Bool.and_eq_true, decide_eq_true_eq, List.all_eq_true] at h
  obtain ⟨h1, h2, h3, h4, h5⟩ := h
  exact ⟨by omega, by omega, by omega, fun n hn => by have := (h4 n hn).1; omega, fun s hs => by have := h5 s (List.mem_append.2 (.inl hs)); omega, fun s hs => by have := h5 s (List.mem_append.2 (.inr hs)); omega, fun n hn => by have := (h4 n hn).2; omega⟩
theorem lsm_none : Lsm Ly.none := ⟨Nat.zero_le _, Nat.zero_le _, Nat.zero_le _, fun n hn => (by cases hn), fun n hn => (by cases hn), fun n hn => (by cases hn), fun n hn => (by cases hn)⟩
/-- A layer in a block of its own. -/
def InBox (W : World) (r : Nat) (l : Ly) : Prop := ∃ (A0 A1 A2 : Option Addr) (n0 n1 n2 k0 k1 k2 : Nat), W.heap[r]? = some (.cells #[.slice A0 n0 k0, .slice A1 n1 k1, .slice A2 n2 k2] 25 (0, 0)) ∧ RdL W (.slice A0 n0 k0) (.slice A1 n1 k1) (.slice A2 n2 k2) l
theorem InBox.below {W W' : World} {r : Nat} {l : Ly} (h : InBox W r l) (hb : Below W.heap.size W W') : InBox W' r l := by
  obtain ⟨A0, A1, A2, n0, n1, n2, k0, k1, k2, h1, h2⟩ := h
  exact ⟨A0, A1, A2, n0, n1, n2, k0, k1, k2, (hb.block _ (blk_lt h1)).trans h1, h2.below hb⟩
theorem InBox.new {W : World} {l : Ly} {A0 A1 A2 : Option Addr} {n0 n1 n2 k0 k1 k2 : Nat} (h : RdL W (.slice A0 n0 k0) (.slice A1 n1 k1) (.slice A2 n2 k2) l) : InBox (W.alloc (.cells #[.slice A0 n0 k0, .slice A1 n1 k1, .slice A2 n2 k2] 25)) W.heap.size l :=
  ⟨A0, A1, A2, n0, n1, n2, k0, k1, k2, heap_alloc_new W _, h.below ((Grew.refl W).alloc _).below⟩
theorem all_to {x z : Ly} {c : Int} (hz : squashL Ly.none x = (z, c)) (h : Nat) (xa xw xo : Value) (w : World) (hE : Env w) (h0 : w.cell? ⟨h, 0, none⟩ = some xa) (h1 : w.cell? ⟨h, 1, none⟩ = some xw) (h2 : w.cell? ⟨h, 2, none⟩ = some xo) (hrx : RdL w xa xw xo x) (hx : Lsm x) :
    Calls Tryz.prog 24 #[.slice (some ⟨h, 0, none⟩) 1 1] w fun e w' => ∃ va vw vo, e = .returned (.tuple #[.agg #[va, vw, vo], .int .i64 c]) ∧ RdL w' va vw vo z ∧ Below w.heap.size w w' := by
  have := all_one x h xa xw xo w hE h0 h1 h2 hrx hx
  rw [hz] at this
  exact this

set_option maxHeartbeats 4000000 in
theorem empty_great (l : Ly) (va vw vo : Value) (w : World) (hE : Env w) (hr : RdL w va vw vo l) (hsm : smallB l 15 = false) :
    Calls Tryz.prog 3 #[.agg #[va, vw, vo]] w fun e w' => e = .returned (.bool true) ∧ Below w.heap.size w w' := by
  have HE := Aside0.mk (fun W (hb : Below w.heap.size w W) => hE.below hb)
  have HR := Aside0.mk (fun W (hb : Below w.heap.size w W) => hr.below hb)
  have HSm := Aside0.mk hsm
  obtain ⟨A1, n1, c1, rfl⟩ := hr.1.sl
  obtain ⟨A2, n2, c2, rfl⟩ := hr.2.1.sl
  obtain ⟨A3, n3, c3, rfl⟩ := hr.2.2.sl
  have HS0 := Aside0.mk (show ChkSt w (w.alloc (.cells #[.slice A1 n1 c1, .slice A2 n2 c2, .slice A3 n3 c3] 25)) (.slice A1 n1 c1) (.slice A2 n2 c2) (.slice A3 n3 c3) from ⟨heap_alloc_new w _, ((Grew.refl w).alloc _).below⟩)
  clear hE hr hsm
  go_enter Tryz.func3, Tryz.ntmps3
  go_wp2_with fail
  refine (squash_awakens _ (HE.out _ HS0.out.below)).mono ?_
  rintro e1 w1 ⟨rfl, hb1⟩
  have HS1 := Aside0.mk (HS0.out.step hb1)
  clear hb1 HS0
  have m0 := blk_cell HS1.out.lay 0
  have m1 := blk_cell HS1.out.lay 1
  have m2 := blk_cell HS1.out.lay 2
  go_wp2_with fail
  refine (law_Small l 15 (by decide) _ _ _ _ (HR.out _ HS1.out.below)).mono ?_
  rintro e2 w2 ⟨rfl, hb2⟩
  rw [HSm.out]
  have HS2 := Aside0.mk (HS1.out.step hb2)
  clear hb2 HS1 m0 m1 m2
  go_wp2_with fail
  go_ret
  exact ⟨rfl, HS2.out.below⟩

set_option maxHeartbeats 32000000 in
set_option maxRecDepth 100000 in
theorem empty_no (l : Ly) (va vw vo : Value) (w : World) (hE : Env w) (hr : RdL w va vw vo l) (hsm : smallB l 15 = true) (hck : checkL l ≠ 0) :
    Calls Tryz.prog 3 #[.agg #[va, vw, vo]] w fun e w' => e = .returned (.bool true) ∧ Below w.heap.size w w' := by
  have HE := Aside0.mk (fun W (hb : Below w.heap.size w W) => hE.below hb)
  have HR := Aside0.mk (fun W (hb : Below w.heap.size w W) => hr.below hb)
  have HL := Aside0.mk (small_lsm (by decide) hsm)
  have HSm := Aside0.mk hsm
  have HQ1 := Aside0.mk (show squashL l Ly.none = (Ly.none, 1) by rw [squash_none, if_neg hck])
  have HQ2 := Aside0.mk (show squashL Ly.none l = (Ly.none, 1) by rw [none_squash, if_neg hck])
  have HCk := Aside0.mk hck
  obtain ⟨A1, n1, c1, rfl⟩ := hr.1.sl
  obtain ⟨A2, n2, c2, rfl⟩ := hr.2.1.sl
  obtain ⟨A3, n3, c3, rfl⟩ := hr.2.2.sl
  have HS0 := Aside0.mk (show ChkSt w (w.alloc (.cells #[.slice A1 n1 c1, .slice A2 n2 c2, .slice A3 n3 c3] 25)) (.slice A1 n1 c1) (.slice A2 n2 c2) (.slice A3 n3 c3) from ⟨heap_alloc_new w _, ((Grew.refl w).alloc _).below⟩)
  clear hE hr hsm hck
  go_enter Tryz.func3, Tryz.ntmps3
  go_wp2_with fail
  refine (squash_awakens _ (HE.out _ HS0.out.below)).mono ?_
  rintro e1 w1 ⟨rfl, hb1⟩
  have HS1 := Aside0.mk (HS0.out.step hb1)
  clear hb1 HS0
  have m0 := blk_cell HS1.out.lay 0
  have m1 := blk_cell HS1.out.lay 1
  have m2 := blk_cell HS1.out.lay 2
  go_wp2_with fail
  refine (law_Small l 15 (by decide) _ _ _ _ (HR.out _ HS1.out.below)).mono ?_
  rintro e2 w2 ⟨rfl, hb2⟩
  rw [HSm.out]
  have HS2 := Aside0.mk (HS1.out.step hb2)
  clear hb2 HS1 m0 m1 m2
  have m0 := blk_cell HS2.out.lay 0
  have m1 := blk_cell HS2.out.lay 1
  have m2 := blk_cell HS2.out.lay 2
  go_wp2_with fail
  refine (squash_to HQ1.out _ _ _ _ _ _ _ (HE.out _ HS2.out.below) (HR.out _ HS2.out.below) (rdl_none _) HL.out lsm_none).mono ?_
  rintro e3 w3 ⟨za3, zw3, zo3, rfl, hrl3, hb3⟩
  obtain ⟨Aa3, na3, ca3, rfl⟩ := hrl3.1.sl
  obtain ⟨Ab3, nb3, cb3, rfl⟩ := hrl3.2.1.sl
  obtain ⟨Ac3, nc3, cc3, rfl⟩ := hrl3.2.2.sl
  have hbb3 := ((Grew.refl w3).alloc (.cells #[.slice Aa3 na3 ca3, .slice Ab3 nb3 cb3, .slice Ac3 nc3 cc3] 25)).below
  have HX3 := Aside0.mk (InBox.new hrl3)
  have HS3 := Aside0.mk ((HS2.out.step hb3).step hbb3)
  clear hb3 HS2 m0 m1 m2 hbb3 hrl3
  have m0 := blk_cell HS3.out.lay 0
  have m1 := blk_cell HS3.out.lay 1
  have m2 := blk_cell HS3.out.lay 2
  go_wp2_with fail
  refine (squash_to HQ2.out _ _ _ _ _ _ _ (HE.out _ HS3.out.below) (rdl_none _) (HR.out _ HS3.out.below) lsm_none HL.out).mono ?_
  rintro e4 w4 ⟨za4, zw4, zo4, rfl, hrl4, hb4⟩
  obtain ⟨Aa4, na4, ca4, rfl⟩ := hrl4.1.sl
  obtain ⟨Ab4, nb4, cb4, rfl⟩ := hrl4.2.1.sl
  obtain ⟨Ac4, nc4, cc4, rfl⟩ := hrl4.2.2.sl
  have hbb4 := ((Grew.refl w4).alloc (.cells #[.slice Aa4 na4 ca4, .slice Ab4 nb4 cb4, .slice Ac4 nc4 cc4] 25)).below
  have HX4 := Aside0.mk (InBox.new hrl4)
  have HS4 := Aside0.mk ((HS3.out.step hb4).step hbb4)
  have HXa4 := Aside0.mk ((HX3.out.below hb4).below hbb4)
  clear hb4 HS3 m0 m1 m2 hbb4 hrl4 HX3
  have m0 := blk_cell HS4.out.lay 0
  have m1 := blk_cell HS4.out.lay 1
  have m2 := blk_cell HS4.out.lay 2
  have hbs := ((Grew.refl (w4.alloc (.cells #[.slice Aa4 na4 ca4, .slice Ab4 nb4 cb4, .slice Ac4 nc4 cc4] 25))).alloc (.cells #[.slice A1 n1 c1, .slice A2 n2 c2, .slice A3 n3 c3] 25)).below
  have HS5 := Aside0.mk (HS4.out.step hbs)
  have HN5 := Aside0.mk (show ((w4.alloc (.cells #[.slice Aa4 na4 ca4, .slice Ab4 nb4 cb4, .slice Ac4 nc4 cc4] 25)).alloc (.cells #[.slice A1 n1 c1, .slice A2 n2 c2, .slice A3 n3 c3] 25)).heap[w4.heap.size + 1]? = some (.cells #[.slice A1 n1 c1, .slice A2 n2 c2, .slice A3 n3 c3] 25 (0, 0)) by
    rw [show w4.heap.size + 1 = (w4.alloc (.cells #[.slice Aa4 na4 ca4, .slice Ab4 nb4 cb4, .slice Ac4 nc4 cc4] 25)).heap.size from by simp]
    exact heap_alloc_new _ _)
  have HXa5 := Aside0.mk (HXa4.out.below hbs)
  have HXb5 := Aside0.mk (HX4.out.below hbs)
  clear hbs
  go_wp2_with fail
  refine (all_to HQ2.out (w4.heap.size + 1) _ _ _ _ (HE.out _ HS5.out.below) (blk_cell HN5.out 0) (blk_cell HN5.out 1) (blk_cell HN5.out 2) (HR.out _ HS5.out.below) HL.out).mono ?_
  rintro e6 w6 ⟨za6, zw6, zo6, rfl, hrl6, hb6⟩
  obtain ⟨Aa6, na6, ca6, rfl⟩ := hrl6.1.sl
  obtain ⟨Ab6, nb6, cb6, rfl⟩ := hrl6.2.1.sl
  obtain ⟨Ac6, nc6, cc6, rfl⟩ := hrl6.2.2.sl
  have hbb6 := ((Grew.refl w6).alloc (.cells #[.slice Aa6 na6 ca6, .slice Ab6 nb6 cb6, .slice Ac6 nc6 cc6] 25)).below
  have HX6 := Aside0.mk (InBox.new hrl6)
  have HS6 := Aside0.mk ((HS5.out.step hb6).step hbb6)
  have HXa6 := Aside0.mk ((HXa5.out.below hb6).below hbb6)
  have HXb6 := Aside0.mk ((HXb5.out.below hb6).below hbb6)
  clear hb6 HS5 HS4 HN5 HXa4 HX4 HXa5 HXb5 m0 m1 m2 hbb6 hrl6
  go_wp2_with fail
  refine (all_nil _).mono ?_
  rintro e7 w7 ⟨za7, zw7, zo7, rfl, hrl7, hb7⟩
  obtain ⟨Aa7, na7, ca7, rfl⟩ := hrl7.1.sl
  obtain ⟨Ab7, nb7, cb7, rfl⟩ := hrl7.2.1.sl
  obtain ⟨Ac7, nc7, cc7, rfl⟩ := hrl7.2.2.sl
  have hbb7 := ((Grew.refl w7).alloc (.cells #[.slice Aa7 na7 ca7, .slice Ab7 nb7 cb7, .slice Ac7 nc7 cc7] 25)).below
  have HX7 := Aside0.mk (InBox.new hrl7)
  have HS7 := Aside0.mk ((HS6.out.step hb7).step hbb7)
  have HXa7 := Aside0.mk ((HXa6.out.below hb7).below hbb7)
  have HXb7 := Aside0.mk ((HXb6.out.below hb7).below hbb7)
  have HXc7 := Aside0.mk ((HX6.out.below hb7).below hbb7)
  have HRd := Aside0.mk (hrl7.below hbb7)
  have d0 := blk_cell (heap_alloc_new w7 (.cells #[.slice Aa7 na7 ca7, .slice Ab7 nb7 cb7, .slice Ac7 nc7 cc7] 25)) 0
  have d1 := blk_cell (heap_alloc_new w7 (.cells #[.slice Aa7 na7 ca7, .slice Ab7 nb7 cb7, .slice Ac7 nc7 cc7] 25)) 1
  have d2 := blk_cell (heap_alloc_new w7 (.cells #[.slice Aa7 na7 ca7, .slice Ab7 nb7 cb7, .slice Ac7 nc7 cc7] 25)) 2
  clear hb7 HS6 HXa6 HXb6 HX6 hbb7 hrl7 HX7
  go_wp2_with fail
  refine (ref_Same Ly.none Ly.none _ _ _ _ _ _ _ HRd.out (rdl_none _)).mono ?_
  rintro e8 w8 ⟨rfl, hb8⟩
  rw [show sameL Ly.none Ly.none = true from rfl]
  have HS8 := Aside0.mk (HS7.out.step hb8)
  have HXa8 := Aside0.mk (HXa7.out.below hb8)
  have HXb8 := Aside0.mk (HXb7.out.below hb8)
  have HXc8 := Aside0.mk (HXc7.out.below hb8)
  clear hb8 HS7 HXa7 HXb7 HXc7 HRd d0 d1 d2
  have m0 := blk_cell HS8.out.lay 0
  have m1 := blk_cell HS8.out.lay 1
  have m2 := blk_cell HS8.out.lay 2
  go_wp2_with fail
  refine (ref_Check l _ _ _ _ (HR.out _ HS8.out.below) HL.out.lb).mono ?_
  rintro e9 w9 ⟨rfl, hb9⟩
  have HS9 := Aside0.mk (HS8.out.step hb9)
  have HXa9 := Aside0.mk (HXa8.out.below hb9)
  have HXb9 := Aside0.mk (HXb8.out.below hb9)
  have HXc9 := Aside0.mk (HXc8.out.below hb9)
  clear hb9 HS8 HXa8 HXb8 HXc8 m0 m1 m2
  have hcb : (checkL l != 0) = true := by simpa using HCk.out
  go_wp2_with fail
  go_ret
  exact ⟨rfl, HS9.out.below⟩

set_option maxHeartbeats 32000000 in
set_option maxRecDepth 100000 in
theorem empty_ok (l : Ly) (va vw vo : Value) (w : World) (hE : Env w) (hr : RdL w va vw vo l) (hsm : smallB l 15 = true) (hck : checkL l = 0) :
    Calls Tryz.prog 3 #[.agg #[va, vw, vo]] w fun e w' => e = .returned (.bool true) ∧ Below w.heap.size w w' := by
  have HE := Aside0.mk (fun W (hb : Below w.heap.size w W) => hE.below hb)
  have HR := Aside0.mk (fun W (hb : Below w.heap.size w W) => hr.below hb)
  have HL := Aside0.mk (small_lsm (by decide) hsm)
  have HSm := Aside0.mk hsm
  have HQ1 := Aside0.mk (show squashL l Ly.none = (l, 0) by rw [squash_none, if_pos hck])
  have HQ2 := Aside0.mk (show squashL Ly.none l = (l, 0) by rw [none_squash, if_pos hck])
  have HCk := Aside0.mk hck
  obtain ⟨A1, n1, c1, rfl⟩ := hr.1.sl
  obtain ⟨A2, n2, c2, rfl⟩ := hr.2.1.sl
  obtain ⟨A3, n3, c3, rfl⟩ := hr.2.2.sl
  have HS0 := Aside0.mk (show ChkSt w (w.alloc (.cells #[.slice A1 n1 c1, .slice A2 n2 c2, .slice A3 n3 c3] 25)) (.slice A1 n1 c1) (.slice A2 n2 c2) (.slice A3 n3 c3) from ⟨heap_alloc_new w _, ((Grew.refl w).alloc _).below⟩)
  clear hE hr hsm hck
  go_enter Tryz.func3, Tryz.ntmps3
  go_wp2_with fail
  refine (squash_awakens _ (HE.out _ HS0.out.below)).mono ?_
  rintro e1 w1 ⟨rfl, hb1⟩
  have HS1 := Aside0.mk (HS0.out.step hb1)
  clear hb1 HS0
  have m0 := blk_cell HS1.out.lay 0
  have m1 := blk_cell HS1.out.lay 1
  have m2 := blk_cell HS1.out.lay 2
  go_wp2_with fail
  refine (law_Small l 15 (by decide) _ _ _ _ (HR.out _ HS1.out.below)).mono ?_
  rintro e2 w2 ⟨rfl, hb2⟩
  rw [HSm.out]
  have HS2 := Aside0.mk (HS1.out.step hb2)
  clear hb2 HS1 m0 m1 m2
  have m0 := blk_cell HS2.out.lay 0
  have m1 := blk_cell HS2.out.lay 1
  have m2 := blk_cell HS2.out.lay 2
  go_wp2_with fail
  refine (squash_to HQ1.out _ _ _ _ _ _ _ (HE.out _ HS2.out.below) (HR.out _ HS2.out.below) (rdl_none _) HL.out lsm_none).mono ?_
  rintro e3 w3 ⟨za3, zw3, zo3, rfl, hrl3, hb3⟩
  obtain ⟨Aa3, na3, ca3, rfl⟩ := hrl3.1.sl
  obtain ⟨Ab3, nb3, cb3, rfl⟩ := hrl3.2.1.sl
  obtain ⟨Ac3, nc3, cc3, rfl⟩ := hrl3.2.2.sl
  have hbb3 := ((Grew.refl w3).alloc (.cells #[.slice Aa3 na3 ca3, .slice Ab3 nb3 cb3, .slice Ac3 nc3 cc3] 25)).below
  have HX3 := Aside0.mk (InBox.new hrl3)
  have HS3 := Aside0.mk ((HS2.out.step hb3).step hbb3)
  clear hb3 HS2 m0 m1 m2 hbb3 hrl3
  have m0 := blk_cell HS3.out.lay 0
  have m1 := blk_cell HS3.out.lay 1
  have m2 := blk_cell HS3.out.lay 2
  go_wp2_with fail
  refine (squash_to HQ2.out _ _ _ _ _ _ _ (HE.out _ HS3.out.below) (rdl_none _) (HR.out _ HS3.out.below) lsm_none HL.out).mono ?_
  rintro e4 w4 ⟨za4, zw4, zo4, rfl, hrl4, hb4⟩
  obtain ⟨Aa4, na4, ca4, rfl⟩ := hrl4.1.sl
  obtain ⟨Ab4, nb4, cb4, rfl⟩ := hrl4.2.1.sl
  obtain ⟨Ac4, nc4, cc4, rfl⟩ := hrl4.2.2.sl
  have hbb4 := ((Grew.refl w4).alloc (.cells #[.slice Aa4 na4 ca4, .slice Ab4 nb4 cb4, .slice Ac4 nc4 cc4] 25)).below
  have HX4 := Aside0.mk (InBox.new hrl4)
  have HS4 := Aside0.mk ((HS3.out.step hb4).step hbb4)
  have HXa4 := Aside0.mk ((HX3.out.below hb4).below hbb4)
  clear hb4 HS3 m0 m1 m2 hbb4 hrl4 HX3
  have m0 := blk_cell HS4.out.lay 0
  have m1 := blk_cell HS4.out.lay 1
  have m2 := blk_cell HS4.out.lay 2
  have hbs := ((Grew.refl (w4.alloc (.cells #[.slice Aa4 na4 ca4, .slice Ab4 nb4 cb4, .slice Ac4 nc4 cc4] 25))).alloc (.cells #[.slice A1 n1 c1, .slice A2 n2 c2, .slice A3 n3 c3] 25)).below
  have HS5 := Aside0.mk (HS4.out.step hbs)
  have HN5 := Aside0.mk (show ((w4.alloc (.cells #[.slice Aa4 na4 ca4, .slice Ab4 nb4 cb4, .slice Ac4 nc4 cc4] 25)).alloc (.cells #[.slice A1 n1 c1, .slice A2 n2 c2, .slice A3 n3 c3] 25)).heap[w4.heap.size + 1]? = some (.cells #[.slice A1 n1 c1, .slice A2 n2 c2, .slice A3 n3 c3] 25 (0, 0)) by
    rw [show w4.heap.size + 1 = (w4.alloc (.cells #[.slice Aa4 na4 ca4, .slice Ab4 nb4 cb4, .slice Ac4 nc4 cc4] 25)).heap.size from by simp]
    exact heap_alloc_new _ _)
  have HXa5 := Aside0.mk (HXa4.out.below hbs)
  have HXb5 := Aside0.mk (HX4.out.below hbs)
  clear hbs
  go_wp2_with fail
  refine (all_to HQ2.out (w4.heap.size + 1) _ _ _ _ (HE.out _ HS5.out.below) (blk_cell HN5.out 0) (blk_cell HN5.out 1) (blk_cell HN5.out 2) (HR.out _ HS5.out.below) HL.out).mono ?_
  rintro e6 w6 ⟨za6, zw6, zo6, rfl, hrl6, hb6⟩
  obtain ⟨Aa6, na6, ca6, rfl⟩ := hrl6.1.sl
  obtain ⟨Ab6, nb6, cb6, rfl⟩ := hrl6.2.1.sl
  obtain ⟨Ac6, nc6, cc6, rfl⟩ := hrl6.2.2.sl
  have hbb6 := ((Grew.refl w6).alloc (.cells #[.slice Aa6 na6 ca6, .slice Ab6 nb6 cb6, .slice Ac6 nc6 cc6] 25)).below
  have HX6 := Aside0.mk (InBox.new hrl6)
  have HS6 := Aside0.mk ((HS5.out.step hb6).step hbb6)
  have HXa6 := Aside0.mk ((HXa5.out.below hb6).below hbb6)
  have HXb6 := Aside0.mk ((HXb5.out.below hb6).below hbb6)
  clear hb6 HS5 HS4 HN5 HXa4 HX4 HXa5 HXb5 m0 m1 m2 hbb6 hrl6
  go_wp2_with fail
  refine (all_nil _).mono ?_
  rintro e7 w7 ⟨za7, zw7, zo7, rfl, hrl7, hb7⟩
  obtain ⟨Aa7, na7, ca7, rfl⟩ := hrl7.1.sl
  obtain ⟨Ab7, nb7, cb7, rfl⟩ := hrl7.2.1.sl
  obtain ⟨Ac7, nc7, cc7, rfl⟩ := hrl7.2.2.sl
  have hbb7 := ((Grew.refl w7).alloc (.cells #[.slice Aa7 na7 ca7, .slice Ab7 nb7 cb7, .slice Ac7 nc7 cc7] 25)).below
  have HX7 := Aside0.mk (InBox.new hrl7)
  have HS7 := Aside0.mk ((HS6.out.step hb7).step hbb7)
  have HXa7 := Aside0.mk ((HXa6.out.below hb7).below hbb7)
  have HXb7 := Aside0.mk ((HXb6.out.below hb7).below hbb7)
  have HXc7 := Aside0.mk ((HX6.out.below hb7).below hbb7)
  have HRd := Aside0.mk (hrl7.below hbb7)
  have d0 := blk_cell (heap_alloc_new w7 (.cells #[.slice Aa7 na7 ca7, .slice Ab7 nb7 cb7, .slice Ac7 nc7 cc7] 25)) 0
  have d1 := blk_cell (heap_alloc_new w7 (.cells #[.slice Aa7 na7 ca7, .slice Ab7 nb7 cb7, .slice Ac7 nc7 cc7] 25)) 1
  have d2 := blk_cell (heap_alloc_new w7 (.cells #[.slice Aa7 na7 ca7, .slice Ab7 nb7 cb7, .slice Ac7 nc7 cc7] 25)) 2
  clear hb7 HS6 HXa6 HXb6 HX6 hbb7 hrl7 HX7
  go_wp2_with fail
  refine (ref_Same Ly.none Ly.none _ _ _ _ _ _ _ HRd.out (rdl_none _)).mono ?_
  rintro e8 w8 ⟨rfl, hb8⟩
  rw [show sameL Ly.none Ly.none = true from rfl]
  have HS8 := Aside0.mk (HS7.out.step hb8)
  have HXa8 := Aside0.mk (HXa7.out.below hb8)
  have HXb8 := Aside0.mk (HXb7.out.below hb8)
  have HXc8 := Aside0.mk (HXc7.out.below hb8)
  clear hb8 HS7 HXa7 HXb7 HXc7 HRd d0 d1 d2
  have m0 := blk_cell HS8.out.lay 0
  have m1 := blk_cell HS8.out.lay 1
  have m2 := blk_cell HS8.out.lay 2
  go_wp2_with fail
  refine (ref_Check l _ _ _ _ (HR.out _ HS8.out.below) HL.out.lb).mono ?_
  rintro e9 w9 ⟨rfl, hb9⟩
  have HS9 := Aside0.mk (HS8.out.step hb9)
  have HXa9 := Aside0.mk (HXa8.out.below hb9)
  have HXb9 := Aside0.mk (HXb8.out.below hb9)
  have HXc9 := Aside0.mk (HXc8.out.below hb9)
  clear hb9 HS8 HXa8 HXb8 HXc8 m0 m1 m2
  rw [HCk.out]
  obtain ⟨P0, P1, P2, p0, p1, p2, r0, r1, r2, hh, hrd⟩ := HXa9.out
  have k0 := blk_cell hh 0
  have k1 := blk_cell hh 1
  have k2 := blk_cell hh 2
  have HRd := Aside0.mk hrd
  clear hh hrd
  have m0 := blk_cell HS9.out.lay 0
  have m1 := blk_cell HS9.out.lay 1
  have m2 := blk_cell HS9.out.lay 2
  go_wp2_with fail
  refine (ref_Same l l _ _ _ _ _ _ _ HRd.out (HR.out _ HS9.out.below)).mono ?_
  rintro es0 ws0 ⟨rfl, hbs0⟩
  rw [sameL_iff.2 rfl]
  have HSs1 := Aside0.mk (HS9.out.step hbs0)
  have HXbs1 := Aside0.mk (HXb9.out.below hbs0)
  have HXcs1 := Aside0.mk (HXc9.out.below hbs0)
  clear hbs0 HS9 k0 k1 k2 m0 m1 m2 HRd
  obtain ⟨P0, P1, P2, p0, p1, p2, r0, r1, r2, hh, hrd⟩ := HXbs1.out
  have k0 := blk_cell hh 0
  have k1 := blk_cell hh 1
  have k2 := blk_cell hh 2
  have HRd := Aside0.mk hrd
  clear hh hrd
  have m0 := blk_cell HSs1.out.lay 0
  have m1 := blk_cell HSs1.out.lay 1
  have m2 := blk_cell HSs1.out.lay 2
  go_wp2_with fail
  refine (ref_Same l l _ _ _ _ _ _ _ HRd.out (HR.out _ HSs1.out.below)).mono ?_
  rintro es1 ws1 ⟨rfl, hbs1⟩
  rw [sameL_iff.2 rfl]
  have HSs2 := Aside0.mk (HSs1.out.step hbs1)
  have HXcs2 := Aside0.mk (HXcs1.out.below hbs1)
  clear hbs1 HSs1 k0 k1 k2 m0 m1 m2 HRd
  obtain ⟨P0, P1, P2, p0, p1, p2, r0, r1, r2, hh, hrd⟩ := HXcs2.out
  have k0 := blk_cell hh 0
  have k1 := blk_cell hh 1
  have k2 := blk_cell hh 2
  have HRd := Aside0.mk hrd
  clear hh hrd
  have m0 := blk_cell HSs2.out.lay 0
  have m1 := blk_cell HSs2.out.lay 1
  have m2 := blk_cell HSs2.out.lay 2
  go_wp2_with fail
  refine (ref_Same l l _ _ _ _ _ _ _ HRd.out (HR.out _ HSs2.out.below)).mono ?_
  rintro es2 ws2 ⟨rfl, hbs2⟩
  rw [sameL_iff.2 rfl]
  have HSs3 := Aside0.mk (HSs2.out.step hbs2)
  clear hbs2 HSs2 k0 k1 k2 m0 m1 m2 HRd
  go_wp2_with fail
  go_ret
  exact ⟨rfl, HSs3.out.below⟩

theorem empty_any (l : Ly) (va vw vo : Value) (w : World) (hE : Env w) (hr : RdL w va vw vo l) :
    Calls Tryz.prog 3 #[.agg #[va, vw, vo]] w fun e w' => e = .returned (.bool true) ∧ Below w.heap.size w w' := by
  cases hsm : smallB l 15
  · exact empty_great l va vw vo w hE hr hsm
  · by_cases hck : checkL l = 0
    · exact empty_ok l va vw vo w hE hr hsm hck
    · exact empty_no l va vw vo w hE hr hsm hck

end Go.Proofs.YtbkbpdpegiekhaaGreatDoor
