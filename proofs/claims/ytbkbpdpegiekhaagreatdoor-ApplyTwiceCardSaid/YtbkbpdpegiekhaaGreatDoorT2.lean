/- tree: the checker's node, walked. -/
import Derived.Test.YtbkbpdpegiekhaaGreatDoorT1
set_option linter.unusedVariables false
set_option linter.unusedSimpArgs false
namespace Go.Proofs.YtbkbpdpegiekhaaGreatDoor
open Go.RowKit Go.Proofs.YtbkbpdpegiekhaaGreatDoorW.PrintWords Mo

set_option maxRecDepth 100000 in
set_option maxHeartbeats 4000000 in
theorem tree_node (n : Nd) (last : S) (dirs alike : List S) (bytes : Int) (base cb bd ba : Nat) (w : World) (hE : Env w) (hk : Chk base w cb bd ba dirs alike bytes last) (hB : base ≤ w.heap.size)
    (hs : n.path.size < 1000000000) (hl : last.size < 1000000000) (hd : dirs.length ≤ 1000000000) (ha : alike.length ≤ 1000000000) (hds : n.data.size < 1000000000) (hb0 : 0 ≤ bytes) (hb1 : bytes ≤ 1000000000000000000) :
    Calls Tryz.prog 161 #[.pointer (some ⟨cb, 0, none⟩), vN n] w fun e w' => e = .returned (.int .i64 (nodeE n last dirs alike)) ∧ Below base w w' ∧
      (nodeE n last dirs alike = 0 → Chk base w' cb bd ba (dirsE n dirs) (alike ++ [pFold n.path]) (bytes + n.data.size) n.path) := by
  obtain ⟨o, ho⟩ : ∃ o, o = Obj.cells #[.string n.path, .bool n.dir, .string n.data, .int .i64 n.mode, .int .i64 n.time] 46 := ⟨_, rfl⟩
  have HO := Aside0.mk ho
  have HE := Aside0.mk (hE.below ((Grew.refl w).alloc o).below)
  have HC := Aside0.mk (hk.below ((Grew.refl w).alloc o).below)
  have HB := Aside0.mk ((Below.refl base w).alloc hB o)
  have HBs := Aside0.mk hB
  have hw1 := heap_alloc_new w o
  clear hE hk hB
  have hp := route_Parent n.path
  have HP := Aside0.mk hp
  clear hp
  go_enter Tryz.func161, Tryz.ntmps161
  subst ho
  have c0 := blk_cell hw1 0
  have HW := Aside0.mk hw1
  clear hw1
  go_wp2_with fail
  refine (HP.out _ (by omega)).mono ?_
  rintro e1 w1 ⟨rfl, rfl⟩
  go_wp2_with fail
  refine (fold_Fold _ _ HE.out (by omega)).mono ?_
  rintro e2 w2 ⟨rfl, hb2⟩
  have hbs : base ≤ (w.alloc (.cells #[.string n.path, .bool n.dir, .string n.data, .int .i64 n.mode, .int .i64 n.time] 46)).heap.size := by have := HBs.out; simp; omega
  have HB2 := Aside0.mk (below_then HB.out hbs hb2)
  have HBs2 := Aside0.mk (Nat.le_trans hbs hb2.size)
  have HE2 := Aside0.mk (HE.out.below hb2)
  have HC2 := Aside0.mk (HC.out.below hb2)
  have hw2 := (hb2.block w.heap.size (blk_lt HW.out)).trans HW.out
  have HW2 := Aside0.mk hw2
  clear hb2 hbs HB HBs HE HC HW c0
  have c0 := blk_cell hw2 0
  clear hw2
  go_wp2_with fail
  refine (route_Check _ _ HE2.out (by omega)).mono ?_
  rintro e3 w3 ⟨rfl, hb3⟩
  have HB3 := Aside0.mk (below_then HB2.out HBs2.out hb3)
  have HBs3 := Aside0.mk (Nat.le_trans HBs2.out hb3.size)
  have HE3 := Aside0.mk (HE2.out.below hb3)
  have HC3 := Aside0.mk (HC2.out.below hb3)
  have hw3 := (hb3.block w.heap.size (blk_lt HW2.out)).trans HW2.out
  have HW3 := Aside0.mk hw3
  clear hb3 hw3 HB2 HBs2 HE2 HC2 HW2 c0
  cases h1 : pRight n.path
  · have hA : nodeE n last dirs alike = 5 := by unfold nodeE; rw [h1]
    have HA := Aside0.mk hA
    rw [show okE false 5 = 5 from rfl]
    clear hA h1
    go_wp2_with fail
    go_ret
    exact ⟨by rw [HA.out]; rfl, HB3.out, fun h => by rw [HA.out] at h; cases h⟩
  have H1 := Aside0.mk h1
  rw [show okE true 5 = 0 from rfl]
  clear h1
  have c0 := blk_cell HW3.out 0
  have c1 := blk_cell HW3.out 1
  have c2 := blk_cell HW3.out 2
  have c3 := blk_cell HW3.out 3
  have c4 := blk_cell HW3.out 4
  go_wp2_with fail
  refine (tree_rest n _).mono ?_
  rintro e4 w4 ⟨rfl, hg4⟩
  have hb4 := hg4.below
  have HB4 := Aside0.mk (below_then HB3.out HBs3.out hb4)
  have HBs4 := Aside0.mk (Nat.le_trans HBs3.out hb4.size)
  have HE4 := Aside0.mk (HE3.out.below hb4)
  have HC4 := Aside0.mk (HC3.out.below hb4)
  have hw4 := (hb4.block w.heap.size (blk_lt HW3.out)).trans HW3.out
  have HW4 := Aside0.mk hw4
  clear hg4 hb4 HB3 HBs3 HE3 HC3 HW3 c0 c1 c2 c3 c4
  cases h2 : okRest n
  · have hA : nodeE n last dirs alike = 1 := by unfold nodeE; rw [H1.out, h2]
    have HA := Aside0.mk hA
    clear hA h2
    go_wp2_with fail
    go_ret
    exact ⟨by rw [HA.out]; rfl, HB4.out, fun h => by rw [HA.out] at h; cases h⟩
  have H2 := Aside0.mk h2
  clear h2
  have hz := pFold_size n.path
  have hzd := pDir_size n.path
  have c0 := blk_cell HW4.out 0
  have k0 := blk_cell HC4.out.box 0
  have k1 := blk_cell HC4.out.box 1
  have k2 := blk_cell HC4.out.box 2
  have k3 := blk_cell HC4.out.box 3
  by_cases hlast : last = ⟨#[]⟩
  · subst hlast
    have H4 := Aside0.mk (show pastE ⟨#[]⟩ n.path = false by unfold pastE; simp)
    go_wp2_with fail
    go_quiet (fail)
    rename_i nq
    have hb5 := ((Grew.refl w4).drewN nq).below
    generalize w4.drewN nq = w5 at hb5 ⊢
    have HB5 := Aside0.mk (below_then HB4.out HBs4.out hb5)
    have HBs5 := Aside0.mk (Nat.le_trans HBs4.out hb5.size)
    have HE5 := Aside0.mk (HE4.out.below hb5)
    have HC5 := Aside0.mk (HC4.out.below hb5)
    have HW5 := Aside0.mk ((hb5.block w.heap.size (blk_lt HW4.out)).trans HW4.out)
    clear hb5 c0 k0 k1 k2 k3 HB4 HBs4 HE4 HC4 HW4 hw4
    have c0 := blk_cell HW5.out 0
    have k0 := blk_cell HC5.out.box 0
    have k1 := blk_cell HC5.out.box 1
    have k2 := blk_cell HC5.out.box 2
    have k3 := blk_cell HC5.out.box 3
    cases hps : (pParent n.path).isSome
    · have H5 := Aside0.mk (show lackE dirs n.path = false by unfold lackE; rw [hps]; rfl)
      clear hps
      by_cases hm : 0 < alike.count (pFold n.path)
      · have H6 := Aside0.mk (decide_eq_true hm)
        have HA := Aside0.mk (show nodeE n ⟨#[]⟩ dirs alike = 6 by unfold nodeE; rw [H1.out, H2.out, H4.out, H5.out, H6.out])
        have hmb : pFold n.path ∈ alike := List.count_pos_iff.1 hm
        clear hm
        have r1 := HC5.out.ca.run (pFold n.path) (by omega)
        go_wp2_with fail
        go_ret
        exact ⟨by rw [HA.out]; rfl, HB5.out, fun h => by rw [HA.out] at h; cases h⟩
      have H6 := Aside0.mk (decide_eq_false hm)
      have HA := Aside0.mk (show nodeE n ⟨#[]⟩ dirs alike = 0 by unfold nodeE; rw [H1.out, H2.out, H4.out, H5.out, H6.out])
      have hm0 : alike.count (pFold n.path) = 0 := by omega
      clear hm
      have c1 := blk_cell HW5.out 1
      have r1 := HC5.out.ca.run (pFold n.path) (by omega)
      obtain ⟨w6, r3, hm6, hg6⟩ := HC5.out.ca.inc_run (by omega) (pFold n.path) (by omega)
      rw [hm0] at r1 r3
      have r3 : (Instr.mapUpdate 50 (.map (some ba)) (.string (pFold n.path)) (.int .i64 1)).run Tryz.prog w5 = .ok () w6 := r3
      have HC6 := Aside0.mk (HC5.out.incA hm6 hg6)
      have HW6 := Aside0.mk (blk_grown HW5.out hg6 (fun e => HC5.out.ca.cell_ne HW5.out (by injection e)))
      have HB6 := Aside0.mk (HB5.out.grown hg6 HBs5.out (fun k hk => by injection hk with hk; rw [← hk]; exact HC5.out.lo.2.2))
      have HBs6 := Aside0.mk (Nat.le_trans HBs5.out hg6.size)
      clear hm6 hg6
      cases hdir : n.dir
      · have HD := Aside0.mk hdir
        have HW6b := HW6.out
        rw [hdir] at HW6b
        have c6 := blk_cell HW6b 1
        have p6 := blk_cell HW6b 0
        have hde : dirsE n dirs = dirs := by unfold dirsE; rw [hdir]; rfl
        have HDE := Aside0.mk hde
        clear hde hdir
        have f3 := blk_frozen HC6.out.box 3
        have b3 := blk_cell HC6.out.box 3
        go_wp2_with fail
        have HC7 := Aside0.mk (HC6.out.store3 n.path)
        have HB7 := Aside0.mk (HB6.out.setCell (p := ⟨cb, 3, none⟩) HC6.out.lo.1 (.string n.path))
        have HW7 := Aside0.mk (blk_far HW6b (p := ⟨cb, 3, none⟩) (blk_ne HW6b HC6.out.box (by decide)) (.string n.path))
        have d7 := blk_cell HW7.out 2
        have b7 := blk_cell HC7.out.box 2
        have f7 := blk_frozen HC7.out.box 2
        clear c6 p6 f3 b3 HW6b HC6 HB6 HW6 HBs6
        generalize w6.setCell ⟨cb, 3, none⟩ (.string n.path) = w7 at HC7 HB7 HW7 d7 b7 f7 ⊢
        go_region
        go_wp2_with fail
        go_ret
        exact ⟨by rw [HA.out]; rfl, (HB7.out.setCell HC7.out.lo.1 _).drew, fun _ => by rw [HDE.out]; exact (HC7.out.store2 _).below ((Grew.refl _).drew).below⟩
      · have HD := Aside0.mk hdir
        have HW6b := HW6.out
        rw [hdir] at HW6b
        have c6 := blk_cell HW6b 1
        have p6 := blk_cell HW6b 0
        have hde : dirsE n dirs = dirs ++ [n.path] := by unfold dirsE; rw [hdir]; rfl
        have HDE := Aside0.mk hde
        clear hde hdir
        have HC6d := Aside0.mk (HC6.out.below ((Grew.refl w6).drew).below)
        have HB6d := Aside0.mk (below_then HB6.out HBs6.out ((Grew.refl w6).drew).below)
        have HW6d := Aside0.mk (show w6.drew.heap[w.heap.size]? = some (.cells #[.string n.path, .bool true, .string n.data, .int .i64 n.mode, .int .i64 n.time] 46 (0, 0)) from HW6b)
        have HBs6d := Aside0.mk (show base ≤ w6.drew.heap.size from HBs6.out)
        have p6d : w6.drew.cell? ⟨w.heap.size, 0, none⟩ = some (.string n.path) := p6
        have b0d : w6.drew.cell? ⟨cb, 0, none⟩ = some (.map (some bd)) := blk_cell HC6d.out.box 0
        have r4 := HC6d.out.cd.run n.path (by omega)
        obtain ⟨w8, r5, hm7, hg7⟩ := HC6d.out.cd.inc_run (by omega) n.path (by omega)
        have HC8 := Aside0.mk (HC6d.out.incD hm7 hg7)
        have HW8b := blk_grown HW6d.out hg7 (fun e => HC6d.out.cd.cell_ne HW6d.out (by injection e))
        have HW8 := Aside0.mk HW8b
        have HB8 := Aside0.mk (HB6d.out.grown hg7 HBs6d.out (fun k hk => by injection hk with hk; rw [← hk]; exact HC6d.out.lo.2.1))
        have HBs8 := Aside0.mk (Nat.le_trans HBs6d.out hg7.size)
        have p7 := blk_cell HW8b 0
        have b7 := blk_cell HC8.out.box 0
        clear hm7 hg7
        have hcl : dirs.count n.path ≤ dirs.length := List.count_le_length
        have hwr : IntKind.i64.wrap (((dirs.count n.path : Nat) : Int) + 1) = ((dirs.count n.path : Nat) : Int) + 1 := IntWalk.i64_in _ (by omega)
        go_wp2_with fail
        go_region_held3 (fun W => W.cell? ⟨cb, 0, none⟩ = some (.map (some bd)) ∧ W.cell? ⟨w.heap.size, 0, none⟩ = some (.string n.path)) (first | assumption | exact ⟨b0d, p6d⟩ | exact ⟨b7, p7⟩) (fail)
        rename_i hheld
        clear hheld hwr r4 r5 b0d p6d b7 p7 p6 c6 HC6 HC6d HB6 HB6d HW6 HW6d HBs6 HBs6d HW6b
        have c6 := blk_cell HW8b 1
        have p6 := blk_cell HW8b 0
        have f3 := blk_frozen HC8.out.box 3
        have b3 := blk_cell HC8.out.box 3
        go_wp2_with fail
        have HC7 := Aside0.mk (HC8.out.store3 n.path)
        have HB7 := Aside0.mk (HB8.out.setCell (p := ⟨cb, 3, none⟩) HC8.out.lo.1 (.string n.path))
        have HW7 := Aside0.mk (blk_far HW8b (p := ⟨cb, 3, none⟩) (blk_ne HW8b HC8.out.box (by decide)) (.string n.path))
        have d7 := blk_cell HW7.out 2
        have b7 := blk_cell HC7.out.box 2
        have f7 := blk_frozen HC7.out.box 2
        clear c6 p6 f3 b3 HW8b HC8 HB8 HW8 HBs8
        generalize w8.setCell ⟨cb, 3, none⟩ (.string n.path) = w7 at HC7 HB7 HW7 d7 b7 f7 ⊢
        go_region
        go_wp2_with fail
        go_ret
        exact ⟨by rw [HA.out]; rfl, (HB7.out.setCell HC7.out.lo.1 _).drew, fun _ => by rw [HDE.out]; exact (HC7.out.store2 _).below ((Grew.refl _).drew).below⟩
    by_cases hd0 : dirs.count (pDir n.path) = 0
    · have H5 := Aside0.mk (show lackE dirs n.path = true by unfold lackE; rw [hps, decide_eq_true hd0]; rfl)
      have HA := Aside0.mk (show nodeE n ⟨#[]⟩ dirs alike = 8 by unfold nodeE; rw [H1.out, H2.out, H4.out, H5.out])
      clear hps
      have r2 := HC5.out.cd.run (pDir n.path) (by omega)
      rw [hd0] at r2
      go_wp2_with fail
      go_ret
      exact ⟨by rw [HA.out]; rfl, HB5.out, fun h => by rw [HA.out] at h; cases h⟩
    have H5 := Aside0.mk (show lackE dirs n.path = false by unfold lackE; rw [hps, decide_eq_false hd0]; rfl)
    have hmd : (((dirs.count (pDir n.path) : Nat) : Int) == 0) = false := by rw [beq_eq_false_iff_ne]; omega
    clear hps hd0
    have r2 := HC5.out.cd.run (pDir n.path) (by omega)
    by_cases hm : 0 < alike.count (pFold n.path)
    · have H6 := Aside0.mk (decide_eq_true hm)
      have HA := Aside0.mk (show nodeE n ⟨#[]⟩ dirs alike = 6 by unfold nodeE; rw [H1.out, H2.out, H4.out, H5.out, H6.out])
      have hmb : pFold n.path ∈ alike := List.count_pos_iff.1 hm
      clear hm
      have r1 := HC5.out.ca.run (pFold n.path) (by omega)
      go_wp2_with fail
      go_ret
      exact ⟨by rw [HA.out]; rfl, HB5.out, fun h => by rw [HA.out] at h; cases h⟩
    have H6 := Aside0.mk (decide_eq_false hm)
    have HA := Aside0.mk (show nodeE n ⟨#[]⟩ dirs alike = 0 by unfold nodeE; rw [H1.out, H2.out, H4.out, H5.out, H6.out])
    have hm0 : alike.count (pFold n.path) = 0 := by omega
    clear hm
    have c1 := blk_cell HW5.out 1
    have r1 := HC5.out.ca.run (pFold n.path) (by omega)
    obtain ⟨w6, r3, hm6, hg6⟩ := HC5.out.ca.inc_run (by omega) (pFold n.path) (by omega)
    rw [hm0] at r1 r3
    have r3 : (Instr.mapUpdate 50 (.map (some ba)) (.string (pFold n.path)) (.int .i64 1)).run Tryz.prog w5 = .ok () w6 := r3
    have HC6 := Aside0.mk (HC5.out.incA hm6 hg6)
    have HW6 := Aside0.mk (blk_grown HW5.out hg6 (fun e => HC5.out.ca.cell_ne HW5.out (by injection e)))
    have HB6 := Aside0.mk (HB5.out.grown hg6 HBs5.out (fun k hk => by injection hk with hk; rw [← hk]; exact HC5.out.lo.2.2))
    have HBs6 := Aside0.mk (Nat.le_trans HBs5.out hg6.size)
    clear hm6 hg6
    cases hdir : n.dir
    · have HD := Aside0.mk hdir
      have HW6b := HW6.out
      rw [hdir] at HW6b
      have c6 := blk_cell HW6b 1
      have p6 := blk_cell HW6b 0
      have hde : dirsE n dirs = dirs := by unfold dirsE; rw [hdir]; rfl
      have HDE := Aside0.mk hde
      clear hde hdir
      have f3 := blk_frozen HC6.out.box 3
      have b3 := blk_cell HC6.out.box 3
      go_wp2_with fail
      have HC7 := Aside0.mk (HC6.out.store3 n.path)
      have HB7 := Aside0.mk (HB6.out.setCell (p := ⟨cb, 3, none⟩) HC6.out.lo.1 (.string n.path))
      have HW7 := Aside0.mk (blk_far HW6b (p := ⟨cb, 3, none⟩) (blk_ne HW6b HC6.out.box (by decide)) (.string n.path))
      have d7 := blk_cell HW7.out 2
      have b7 := blk_cell HC7.out.box 2
      have f7 := blk_frozen HC7.out.box 2
      clear c6 p6 f3 b3 HW6b HC6 HB6 HW6 HBs6
      generalize w6.setCell ⟨cb, 3, none⟩ (.string n.path) = w7 at HC7 HB7 HW7 d7 b7 f7 ⊢
      go_region
      go_wp2_with fail
      go_ret
      exact ⟨by rw [HA.out]; rfl, (HB7.out.setCell HC7.out.lo.1 _).drew, fun _ => by rw [HDE.out]; exact (HC7.out.store2 _).below ((Grew.refl _).drew).below⟩
    · have HD := Aside0.mk hdir
      have HW6b := HW6.out
      rw [hdir] at HW6b
      have c6 := blk_cell HW6b 1
      have p6 := blk_cell HW6b 0
      have hde : dirsE n dirs = dirs ++ [n.path] := by unfold dirsE; rw [hdir]; rfl
      have HDE := Aside0.mk hde
      clear hde hdir
      have HC6d := Aside0.mk (HC6.out.below ((Grew.refl w6).drew).below)
      have HB6d := Aside0.mk (below_then HB6.out HBs6.out ((Grew.refl w6).drew).below)
      have HW6d := Aside0.mk (show w6.drew.heap[w.heap.size]? = some (.cells #[.string n.path, .bool true, .string n.data, .int .i64 n.mode, .int .i64 n.time] 46 (0, 0)) from HW6b)
      have HBs6d := Aside0.mk (show base ≤ w6.drew.heap.size from HBs6.out)
      have p6d : w6.drew.cell? ⟨w.heap.size, 0, none⟩ = some (.string n.path) := p6
      have b0d : w6.drew.cell? ⟨cb, 0, none⟩ = some (.map (some bd)) := blk_cell HC6d.out.box 0
      have r4 := HC6d.out.cd.run n.path (by omega)
      obtain ⟨w8, r5, hm7, hg7⟩ := HC6d.out.cd.inc_run (by omega) n.path (by omega)
      have HC8 := Aside0.mk (HC6d.out.incD hm7 hg7)
      have HW8b := blk_grown HW6d.out hg7 (fun e => HC6d.out.cd.cell_ne HW6d.out (by injection e))
      have HW8 := Aside0.mk HW8b
      have HB8 := Aside0.mk (HB6d.out.grown hg7 HBs6d.out (fun k hk => by injection hk with hk; rw [← hk]; exact HC6d.out.lo.2.1))
      have HBs8 := Aside0.mk (Nat.le_trans HBs6d.out hg7.size)
      have p7 := blk_cell HW8b 0
      have b7 := blk_cell HC8.out.box 0
      clear hm7 hg7
      have hcl : dirs.count n.path ≤ dirs.length := List.count_le_length
      have hwr : IntKind.i64.wrap (((dirs.count n.path : Nat) : Int) + 1) = ((dirs.count n.path : Nat) : Int) + 1 := IntWalk.i64_in _ (by omega)
      go_wp2_with fail
      go_region_held3 (fun W => W.cell? ⟨cb, 0, none⟩ = some (.map (some bd)) ∧ W.cell? ⟨w.heap.size, 0, none⟩ = some (.string n.path)) (first | assumption | exact ⟨b0d, p6d⟩ | exact ⟨b7, p7⟩) (fail)
      rename_i hheld
      clear hheld hwr r4 r5 b0d p6d b7 p7 p6 c6 HC6 HC6d HB6 HB6d HW6 HW6d HBs6 HBs6d HW6b
      have c6 := blk_cell HW8b 1
      have p6 := blk_cell HW8b 0
      have f3 := blk_frozen HC8.out.box 3
      have b3 := blk_cell HC8.out.box 3
      go_wp2_with fail
      have HC7 := Aside0.mk (HC8.out.store3 n.path)
      have HB7 := Aside0.mk (HB8.out.setCell (p := ⟨cb, 3, none⟩) HC8.out.lo.1 (.string n.path))
      have HW7 := Aside0.mk (blk_far HW8b (p := ⟨cb, 3, none⟩) (blk_ne HW8b HC8.out.box (by decide)) (.string n.path))
      have d7 := blk_cell HW7.out 2
      have b7 := blk_cell HC7.out.box 2
      have f7 := blk_frozen HC7.out.box 2
      clear c6 p6 f3 b3 HW8b HC8 HB8 HW8 HBs8
      generalize w8.setCell ⟨cb, 3, none⟩ (.string n.path) = w7 at HC7 HB7 HW7 d7 b7 f7 ⊢
      go_region
      go_wp2_with fail
      go_ret
      exact ⟨by rw [HA.out]; rfl, (HB7.out.setCell HC7.out.lo.1 _).drew, fun _ => by rw [HDE.out]; exact (HC7.out.store2 _).below ((Grew.refl _).drew).below⟩
  have hlb : ¬ last.toList = [] := fun h => hlast (isEmpty_eq (by rw [h]; rfl))
  have hlc : last.toList.isEmpty = false := by simpa using hlb
  have HK := Aside0.mk (show ∀ W, Below w4.heap.size w4 W → (W.cell? ⟨cb, 3, none⟩ = some (.string last) ∧ W.cell? ⟨w.heap.size, 0, none⟩ = some (.string n.path) ∧ Below w4.heap.size w4 W) from fun W hb => ⟨pw_cell_below hb k3, pw_cell_below hb c0, hb⟩)
  have hst0 := HK.out w4.drew ((Grew.refl w4).drew).below
  have hcr := pCmp_range last n.path
  have hpe : pastE last n.path = decide (0 ≤ pCmp last n.path) := by unfold pastE; simp [hlast]
  obtain ⟨c1, hc1⟩ : ∃ c1, c1 = pCmp last n.path := ⟨_, rfl⟩
  have HRC := Aside0.mk (show ∀ W, Env W → Calls Tryz.prog 149 #[.string last, .string n.path] W fun e w' => e = .returned (.int .i64 c1) ∧ Grew W w' from fun W hE => by rw [hc1]; exact route_Compare last n.path W hE (by omega) (by omega))
  rw [← hc1] at hcr hpe
  have HPE := Aside0.mk hpe
  clear hc1 hpe
  go_wp2_with fail
  go_region_held3 (fun W => W.cell? ⟨cb, 3, none⟩ = some (.string last) ∧ W.cell? ⟨w.heap.size, 0, none⟩ = some (.string n.path) ∧ Below w4.heap.size w4 W)
    (first | exact hst0 | (apply HK.out; assumption))
    (first | (go_at_call 149; refine (HRC.out _ (HE4.out.below hst0.2.2)).mono ?_; rintro e w' ⟨rfl, hg⟩; have hb6 := below_then hst0.2.2 hst0.2.2.size hg.below))
  rename_i hh5
  clear hh5 hg hst0 HK HRC
  have HB5 := Aside0.mk (below_then HB4.out HBs4.out hb6)
  have HBs5 := Aside0.mk (Nat.le_trans HBs4.out hb6.size)
  have HE5 := Aside0.mk (HE4.out.below hb6)
  have HC5 := Aside0.mk (HC4.out.below hb6)
  have HW5 := Aside0.mk ((hb6.block w.heap.size (blk_lt HW4.out)).trans HW4.out)
  generalize w' = w5 at *
  clear hb6 c0 k0 k1 k2 k3 HB4 HBs4 HE4 HC4 HW4 hw4
  by_cases hcc : 0 ≤ c1
  · have H4 := Aside0.mk (show pastE last n.path = true by rw [HPE.out]; exact decide_eq_true hcc)
    have HA := Aside0.mk (show nodeE n last dirs alike = 2 by unfold nodeE; rw [H1.out, H2.out, H4.out])
    go_wp2_with fail
    go_ret
    exact ⟨by rw [HA.out]; rfl, HB5.out, fun h => by rw [HA.out] at h; cases h⟩
  have H4 := Aside0.mk (show pastE last n.path = false by rw [HPE.out]; exact decide_eq_false hcc)
  have c0 := blk_cell HW5.out 0
  have k0 := blk_cell HC5.out.box 0
  have k1 := blk_cell HC5.out.box 1
  have k2 := blk_cell HC5.out.box 2
  have k3 := blk_cell HC5.out.box 3
  cases hps : (pParent n.path).isSome
  · have H5 := Aside0.mk (show lackE dirs n.path = false by unfold lackE; rw [hps]; rfl)
    clear hps
    by_cases hm : 0 < alike.count (pFold n.path)
    · have H6 := Aside0.mk (decide_eq_true hm)
      have HA := Aside0.mk (show nodeE n last dirs alike = 6 by unfold nodeE; rw [H1.out, H2.out, H4.out, H5.out, H6.out])
      have hmb : pFold n.path ∈ alike := List.count_pos_iff.1 hm
      clear hm
      have r1 := HC5.out.ca.run (pFold n.path) (by omega)
      go_wp2_with fail
      go_ret
      exact ⟨by rw [HA.out]; rfl, HB5.out, fun h => by rw [HA.out] at h; cases h⟩
    have H6 := Aside0.mk (decide_eq_false hm)
    have HA := Aside0.mk (show nodeE n last dirs alike = 0 by unfold nodeE; rw [H1.out, H2.out, H4.out, H5.out, H6.out])
    have hm0 : alike.count (pFold n.path) = 0 := by omega
    clear hm
    have c1 := blk_cell HW5.out 1
    have r1 := HC5.out.ca.run (pFold n.path) (by omega)
    obtain ⟨w6, r3, hm6, hg6⟩ := HC5.out.ca.inc_run (by omega) (pFold n.path) (by omega)
    rw [hm0] at r1 r3
    have r3 : (Instr.mapUpdate 50 (.map (some ba)) (.string (pFold n.path)) (.int .i64 1)).run Tryz.prog w5 = .ok () w6 := r3
    have HC6 := Aside0.mk (HC5.out.incA hm6 hg6)
    have HW6 := Aside0.mk (blk_grown HW5.out hg6 (fun e => HC5.out.ca.cell_ne HW5.out (by injection e)))
    have HB6 := Aside0.mk (HB5.out.grown hg6 HBs5.out (fun k hk => by injection hk with hk; rw [← hk]; exact HC5.out.lo.2.2))
    have HBs6 := Aside0.mk (Nat.le_trans HBs5.out hg6.size)
    clear hm6 hg6
    cases hdir : n.dir
    · have HD := Aside0.mk hdir
      have HW6b := HW6.out
      rw [hdir] at HW6b
      have c6 := blk_cell HW6b 1
      have p6 := blk_cell HW6b 0
      have hde : dirsE n dirs = dirs := by unfold dirsE; rw [hdir]; rfl
      have HDE := Aside0.mk hde
      clear hde hdir
      have f3 := blk_frozen HC6.out.box 3
      have b3 := blk_cell HC6.out.box 3
      go_wp2_with fail
      have HC7 := Aside0.mk (HC6.out.store3 n.path)
      have HB7 := Aside0.mk (HB6.out.setCell (p := ⟨cb, 3, none⟩) HC6.out.lo.1 (.string n.path))
      have HW7 := Aside0.mk (blk_far HW6b (p := ⟨cb, 3, none⟩) (blk_ne HW6b HC6.out.box (by decide)) (.string n.path))
      have d7 := blk_cell HW7.out 2
      have b7 := blk_cell HC7.out.box 2
      have f7 := blk_frozen HC7.out.box 2
      clear c6 p6 f3 b3 HW6b HC6 HB6 HW6 HBs6
      generalize w6.setCell ⟨cb, 3, none⟩ (.string n.path) = w7 at HC7 HB7 HW7 d7 b7 f7 ⊢
      go_region
      go_wp2_with fail
      go_ret
      exact ⟨by rw [HA.out]; rfl, (HB7.out.setCell HC7.out.lo.1 _).drew, fun _ => by rw [HDE.out]; exact (HC7.out.store2 _).below ((Grew.refl _).drew).below⟩
    · have HD := Aside0.mk hdir
      have HW6b := HW6.out
      rw [hdir] at HW6b
      have c6 := blk_cell HW6b 1
      have p6 := blk_cell HW6b 0
      have hde : dirsE n dirs = dirs ++ [n.path] := by unfold dirsE; rw [hdir]; rfl
      have HDE := Aside0.mk hde
      clear hde hdir
      have HC6d := Aside0.mk (HC6.out.below ((Grew.refl w6).drew).below)
      have HB6d := Aside0.mk (below_then HB6.out HBs6.out ((Grew.refl w6).drew).below)
      have HW6d := Aside0.mk (show w6.drew.heap[w.heap.size]? = some (.cells #[.string n.path, .bool true, .string n.data, .int .i64 n.mode, .int .i64 n.time] 46 (0, 0)) from HW6b)
      have HBs6d := Aside0.mk (show base ≤ w6.drew.heap.size from HBs6.out)
      have p6d : w6.drew.cell? ⟨w.heap.size, 0, none⟩ = some (.string n.path) := p6
      have b0d : w6.drew.cell? ⟨cb, 0, none⟩ = some (.map (some bd)) := blk_cell HC6d.out.box 0
      have r4 := HC6d.out.cd.run n.path (by omega)
      obtain ⟨w8, r5, hm7, hg7⟩ := HC6d.out.cd.inc_run (by omega) n.path (by omega)
      have HC8 := Aside0.mk (HC6d.out.incD hm7 hg7)
      have HW8b := blk_grown HW6d.out hg7 (fun e => HC6d.out.cd.cell_ne HW6d.out (by injection e))
      have HW8 := Aside0.mk HW8b
      have HB8 := Aside0.mk (HB6d.out.grown hg7 HBs6d.out (fun k hk => by injection hk with hk; rw [← hk]; exact HC6d.out.lo.2.1))
      have HBs8 := Aside0.mk (Nat.le_trans HBs6d.out hg7.size)
      have p7 := blk_cell HW8b 0
      have b7 := blk_cell HC8.out.box 0
      clear hm7 hg7
      have hcl : dirs.count n.path ≤ dirs.length := List.count_le_length
      have hwr : IntKind.i64.wrap (((dirs.count n.path : Nat) : Int) + 1) = ((dirs.count n.path : Nat) : Int) + 1 := IntWalk.i64_in _ (by omega)
      go_wp2_with fail
      go_region_held3 (fun W => W.cell? ⟨cb, 0, none⟩ = some (.map (some bd)) ∧ W.cell? ⟨w.heap.size, 0, none⟩ = some (.string n.path)) (first | assumption | exact ⟨b0d, p6d⟩ | exact ⟨b7, p7⟩) (fail)
      rename_i hheld
      clear hheld hwr r4 r5 b0d p6d b7 p7 p6 c6 HC6 HC6d HB6 HB6d HW6 HW6d HBs6 HBs6d HW6b
      have c6 := blk_cell HW8b 1
      have p6 := blk_cell HW8b 0
      have f3 := blk_frozen HC8.out.box 3
      have b3 := blk_cell HC8.out.box 3
      go_wp2_with fail
      have HC7 := Aside0.mk (HC8.out.store3 n.path)
      have HB7 := Aside0.mk (HB8.out.setCell (p := ⟨cb, 3, none⟩) HC8.out.lo.1 (.string n.path))
      have HW7 := Aside0.mk (blk_far HW8b (p := ⟨cb, 3, none⟩) (blk_ne HW8b HC8.out.box (by decide)) (.string n.path))
      have d7 := blk_cell HW7.out 2
      have b7 := blk_cell HC7.out.box 2
      have f7 := blk_frozen HC7.out.box 2
      clear c6 p6 f3 b3 HW8b HC8 HB8 HW8 HBs8
      generalize w8.setCell ⟨cb, 3, none⟩ (.string n.path) = w7 at HC7 HB7 HW7 d7 b7 f7 ⊢
      go_region
      go_wp2_with fail
      go_ret
      exact ⟨by rw [HA.out]; rfl, (HB7.out.setCell HC7.out.lo.1 _).drew, fun _ => by rw [HDE.out]; exact (HC7.out.store2 _).below ((Grew.refl _).drew).below⟩
  by_cases hd0 : dirs.count (pDir n.path) = 0
  · have H5 := Aside0.mk (show lackE dirs n.path = true by unfold lackE; rw [hps, decide_eq_true hd0]; rfl)
    have HA := Aside0.mk (show nodeE n last dirs alike = 8 by unfold nodeE; rw [H1.out, H2.out, H4.out, H5.out])
    clear hps
    have r2 := HC5.out.cd.run (pDir n.path) (by omega)
    rw [hd0] at r2
    go_wp2_with fail
    go_ret
    exact ⟨by rw [HA.out]; rfl, HB5.out, fun h => by rw [HA.out] at h; cases h⟩
  have H5 := Aside0.mk (show lackE dirs n.path = false by unfold lackE; rw [hps, decide_eq_false hd0]; rfl)
  have hmd : (((dirs.count (pDir n.path) : Nat) : Int) == 0) = false := by rw [beq_eq_false_iff_ne]; omega
  clear hps hd0
  have r2 := HC5.out.cd.run (pDir n.path) (by omega)
  by_cases hm : 0 < alike.count (pFold n.path)
  · have H6 := Aside0.mk (decide_eq_true hm)
    have HA := Aside0.mk (show nodeE n last dirs alike = 6 by unfold nodeE; rw [H1.out, H2.out, H4.out, H5.out, H6.out])
    have hmb : pFold n.path ∈ alike := List.count_pos_iff.1 hm
    clear hm
    have r1 := HC5.out.ca.run (pFold n.path) (by omega)
    go_wp2_with fail
    go_ret
    exact ⟨by rw [HA.out]; rfl, HB5.out, fun h => by rw [HA.out] at h; cases h⟩
  have H6 := Aside0.mk (decide_eq_false hm)
  have HA := Aside0.mk (show nodeE n last dirs alike = 0 by unfold nodeE; rw [H1.out, H2.out, H4.out, H5.out, H6.out])
  have hm0 : alike.count (pFold n.path) = 0 := by omega
  clear hm
  have c1 := blk_cell HW5.out 1
  have r1 := HC5.out.ca.run (pFold n.path) (by omega)
  obtain ⟨w6, r3, hm6, hg6⟩ := HC5.out.ca.inc_run (by omega) (pFold n.path) (by omega)
  rw [hm0] at r1 r3
  have r3 : (Instr.mapUpdate 50 (.map (some ba)) (.string (pFold n.path)) (.int .i64 1)).run Tryz.prog w5 = .ok () w6 := r3
  have HC6 := Aside0.mk (HC5.out.incA hm6 hg6)
  have HW6 := Aside0.mk (blk_grown HW5.out hg6 (fun e => HC5.out.ca.cell_ne HW5.out (by injection e)))
  have HB6 := Aside0.mk (HB5.out.grown hg6 HBs5.out (fun k hk => by injection hk with hk; rw [← hk]; exact HC5.out.lo.2.2))
  have HBs6 := Aside0.mk (Nat.le_trans HBs5.out hg6.size)
  clear hm6 hg6
  cases hdir : n.dir
  · have HD := Aside0.mk hdir
    have HW6b := HW6.out
    rw [hdir] at HW6b
    have c6 := blk_cell HW6b 1
    have p6 := blk_cell HW6b 0
    have hde : dirsE n dirs = dirs := by unfold dirsE; rw [hdir]; rfl
    have HDE := Aside0.mk hde
    clear hde hdir
    have f3 := blk_frozen HC6.out.box 3
    have b3 := blk_cell HC6.out.box 3
    go_wp2_with fail
    have HC7 := Aside0.mk (HC6.out.store3 n.path)
    have HB7 := Aside0.mk (HB6.out.setCell (p := ⟨cb, 3, none⟩) HC6.out.lo.1 (.string n.path))
    have HW7 := Aside0.mk (blk_far HW6b (p := ⟨cb, 3, none⟩) (blk_ne HW6b HC6.out.box (by decide)) (.string n.path))
    have d7 := blk_cell HW7.out 2
    have b7 := blk_cell HC7.out.box 2
    have f7 := blk_frozen HC7.out.box 2
    clear c6 p6 f3 b3 HW6b HC6 HB6 HW6 HBs6
    generalize w6.setCell ⟨cb, 3, none⟩ (.string n.path) = w7 at HC7 HB7 HW7 d7 b7 f7 ⊢
    go_region
    go_wp2_with fail
    go_ret
    exact ⟨by rw [HA.out]; rfl, (HB7.out.setCell HC7.out.lo.1 _).drew, fun _ => by rw [HDE.out]; exact (HC7.out.store2 _).below ((Grew.refl _).drew).below⟩
  · have HD := Aside0.mk hdir
    have HW6b := HW6.out
    rw [hdir] at HW6b
    have c6 := blk_cell HW6b 1
    have p6 := blk_cell HW6b 0
    have hde : dirsE n dirs = dirs ++ [n.path] := by unfold dirsE; rw [hdir]; rfl
    have HDE := Aside0.mk hde
    clear hde hdir
    have HC6d := Aside0.mk (HC6.out.below ((Grew.refl w6).drew).below)
    have HB6d := Aside0.mk (below_then HB6.out HBs6.out ((Grew.refl w6).drew).below)
    have HW6d := Aside0.mk (show w6.drew.heap[w.heap.size]? = some (.cells #[.string n.path, .bool true, .string n.data, .int .i64 n.mode, .int .i64 n.time] 46 (0, 0)) from HW6b)
    have HBs6d := Aside0.mk (show base ≤ w6.drew.heap.size from HBs6.out)
    have p6d : w6.drew.cell? ⟨w.heap.size, 0, none⟩ = some (.string n.path) := p6
    have b0d : w6.drew.cell? ⟨cb, 0, none⟩ = some (.map (some bd)) := blk_cell HC6d.out.box 0
    have r4 := HC6d.out.cd.run n.path (by omega)
    obtain ⟨w8, r5, hm7, hg7⟩ := HC6d.out.cd.inc_run (by omega) n.path (by omega)
    have HC8 := Aside0.mk (HC6d.out.incD hm7 hg7)
    have HW8b := blk_grown HW6d.out hg7 (fun e => HC6d.out.cd.cell_ne HW6d.out (by injection e))
    have HW8 := Aside0.mk HW8b
    have HB8 := Aside0.mk (HB6d.out.grown hg7 HBs6d.out (fun k hk => by injection hk with hk; rw [← hk]; exact HC6d.out.lo.2.1))
    have HBs8 := Aside0.mk (Nat.le_trans HBs6d.out hg7.size)
    have p7 := blk_cell HW8b 0
    have b7 := blk_cell HC8.out.box 0
    clear hm7 hg7
    have hcl : dirs.count n.path ≤ dirs.length := List.count_le_length
    have hwr : IntKind.i64.wrap (((dirs.count n.path : Nat) : Int) + 1) = ((dirs.count n.path : Nat) : Int) + 1 := IntWalk.i64_in _ (by omega)
    go_wp2_with fail
    go_region_held3 (fun W => W.cell? ⟨cb, 0, none⟩ = some (.map (some bd)) ∧ W.cell? ⟨w.heap.size, 0, none⟩ = some (.string n.path)) (first | assumption | exact ⟨b0d, p6d⟩ | exact ⟨b7, p7⟩) (fail)
    rename_i hheld
    clear hheld hwr r4 r5 b0d p6d b7 p7 p6 c6 HC6 HC6d HB6 HB6d HW6 HW6d HBs6 HBs6d HW6b
    have c6 := blk_cell HW8b 1
    have p6 := blk_cell HW8b 0
    have f3 := blk_frozen HC8.out.box 3
    have b3 := blk_cell HC8.out.box 3
    go_wp2_with fail
    have HC7 := Aside0.mk (HC8.out.store3 n.path)
    have HB7 := Aside0.mk (HB8.out.setCell (p := ⟨cb, 3, none⟩) HC8.out.lo.1 (.string n.path))
    have HW7 := Aside0.mk (blk_far HW8b (p := ⟨cb, 3, none⟩) (blk_ne HW8b HC8.out.box (by decide)) (.string n.path))
    have d7 := blk_cell HW7.out 2
    have b7 := blk_cell HC7.out.box 2
    have f7 := blk_frozen HC7.out.box 2
    clear c6 p6 f3 b3 HW8b HC8 HB8 HW8 HBs8
    generalize w8.setCell ⟨cb, 3, none⟩ (.string n.path) = w7 at HC7 HB7 HW7 d7 b7 f7 ⊢
    go_region
    go_wp2_with fail
    go_ret
    exact ⟨by rw [HA.out]; rfl, (HB7.out.setCell HC7.out.lo.1 _).drew, fun _ => by rw [HDE.out]; exact (HC7.out.store2 _).below ((Grew.refl _).drew).below⟩

end Go.Proofs.YtbkbpdpegiekhaaGreatDoor
