/- slices.Insert of one node, where there is no room; slices.Insert whole. -/
import Derived.Test.YtbkbpdpegiekhaaGreatDoorD3
set_option linter.unusedVariables false
set_option linter.unusedSimpArgs false
namespace Go.Proofs.YtbkbpdpegiekhaaGreatDoor
open Go.RowKit Go.Proofs.YtbkbpdpegiekhaaGreatDoorW.PrintWords Mo

theorem over_seq {α : Type} {cur z d : List α} {a c : Nat} (hz : z.length = c) (hl : a + c + d.length ≤ cur.length) : (over (over cur a z) (a + c) d).take (a + c + d.length) = cur.take a ++ (z ++ d) := by
  subst hz
  have h4 : (cur.take a).length = a := by rw [List.length_take]; omega
  have h2 : (over cur a z).take (a + z.length) = cur.take a ++ z := by
    unfold over
    rw [← List.append_assoc, List.take_append_of_le_length (by simp only [List.length_append, h4]; omega), List.take_of_length_le (by simp only [List.length_append, h4]; omega)]
  show ((over cur a z).take (a + z.length) ++ (d ++ _)).take (a + z.length + d.length) = _
  rw [h2, ← List.append_assoc, List.take_append_of_le_length (by simp only [List.length_append, h4]; omega), List.take_of_length_le (by simp only [List.length_append, h4]; omega), List.append_assoc]

set_option maxRecDepth 100000 in
set_option maxHeartbeats 4000000 in
/-- Before others, where there is no room. -/
theorem insert_grow (xs : List Nd) (x : Nd) (base nb g i n : Nat) (cur : Array Value) (w : World) (hn : n = xs.length) (hi : i < n) (hg : w.heap[g]? = some (.cells cur 46 (0, 0))) (hcs : cur.size = n * 5) (hb : base ≤ w.heap.size)
    (hr : Reps (kN.K w) 5 xs (cur.toList.take (n * 5))) (hnb : w.heap[nb]? = some (.cells (cN x).toArray 46 (0, 0))) (hsz : n ≤ 1000000000) :
    Calls Tryz.prog 319 #[.slice (some ⟨g, 0, none⟩) n n, .int .i64 i, .slice (some ⟨nb, 0, none⟩) 1 1] w fun e w' => ∃ G, e = .returned (.slice (some ⟨w.heap.size, 0, none⟩) (n + 1) G) ∧ Ow kN 46 w' base (.slice (some ⟨w.heap.size, 0, none⟩) (n + 1) G) (xs.take i ++ x :: xs.drop i) ∧ w.grownBy w' (some g) := by
  obtain ⟨inner, hin⟩ : ∃ inner, inner = cur.toList.take (n * 5) := ⟨_, rfl⟩
  rw [← hin] at hr
  have hcl : cur.toList.length = n * 5 := by simpa using hcs
  have hil : inner.length = n * 5 := by rw [hin, List.length_take]; omega
  have hcell : ∀ k u, inner[k]? = some u → w.cell? ⟨g, k, none⟩ = some u := fun k u hu => by
    rw [cell_of_row w g k cur 46 (0, 0) hg]
    rw [hin, List.getElem?_take] at hu
    split at hu
    · simpa using hu
    · cases hu
  have hone := reps_one hr
  have hdl : (inner.drop (i * 5)).length = (n - i) * 5 := by rw [List.length_drop, hil]; omega
  have hgl := blk_lt hg
  have hnl := blk_lt hnb
  obtain ⟨i0, hi0, hzz⟩ := Option.map_eq_some_iff.1 info46
  simp only [Prod.mk.injEq] at hzz
  obtain ⟨hz0, hz1, hz2⟩ := hzz
  obtain ⟨G, hG⟩ : ∃ G, G = grownCap w (n + 1) n 46 := ⟨_, rfl⟩
  have hGn : n + 1 ≤ G := by rw [hG]; exact grownCap_ge w _ _ _
  have hG63 : G ≤ 9223372036854775807 := by
    have := grownCap_le_maxLen w (n + 1) n 46 (by unfold maxLen; omega)
    rw [← hG] at this
    unfold maxLen at this
    omega
  obtain ⟨Z1, hZ1⟩ : ∃ Z1, Z1 = Builtin.zeroCells (vN Nd.zero).cells (n + 1 - i) := ⟨_, rfl⟩
  obtain ⟨Z2, hZ2⟩ : ∃ Z2, Z2 = Builtin.zeroCells (vN Nd.zero).cells (G - (n + 1)) := ⟨_, rfl⟩
  obtain ⟨ROW, hROW⟩ : ∃ ROW : Array Value, ROW = (inner.take (i * 5)).toArray ++ Z1 ++ Z2 := ⟨_, rfl⟩
  have hZ1l : Z1.size = (n + 1 - i) * 5 := by rw [hZ1, size_zeroCells]; rfl
  have hZ2l : Z2.size = (G - (n + 1)) * 5 := by rw [hZ2, size_zeroCells]; rfl
  have hRl : ROW.size = G * 5 := by
    rw [hROW]
    simp only [Array.size_append, List.size_toArray, List.length_take, hil, hZ1l, hZ2l]
    omega
  have hRt : ROW.toList.take (i * 5) = inner.take (i * 5) := by
    have h1 : (inner.take (i * 5)).length = i * 5 := by rw [List.length_take, hil]; omega
    rw [hROW]
    simp only [Array.toList_append]
    rw [List.append_assoc, List.take_append_of_le_length (by omega), List.take_of_length_le (by omega)]
  obtain ⟨W1, hW1⟩ : ∃ W1, W1 = w.drew.alloc (.cells ROW 46) := ⟨_, rfl⟩
  have hrz : ∀ ty, (Builtin.append_ #[22, 3] ty #[.slice (some ⟨g, 0, none⟩) i n, .int .i64 ((n : Int) + 1 - (i : Int))]).run Tryz.prog w = .ok (.slice (some ⟨w.heap.size, 0, none⟩) (n + 1) G) W1 := fun ty => by
    have hold : (Builtin.firstCells i0.size i (.slice (some ⟨g, 0, none⟩) i n)).run Tryz.prog w.drew = .ok (inner.take (i * 5)).toArray w.drew := by
      rw [hz1]
      exact run_firstCells_some w.drew 5 i ⟨g, 0, none⟩ i n (inner.take (i * 5)) (by rw [List.length_take, hil]; omega) (fun j v hj => by
        rw [add_flat, Nat.zero_add]
        rw [List.getElem?_take] at hj
        split at hj
        · exact hcell j v hj
        · cases hj)
    have h := Lib.run_append_grow_zeros w 22 3 ty 46 i0 (vN Nd.zero) .i64 .i64 Tryz.underlying22 Tryz.underlying3 hi0 hz0 (some ⟨g, 0, none⟩) i n (inner.take (i * 5)) hold (n + 1 - i) (by omega) (by omega) (by omega) (by omega) (by rw [hz2]; omega) (by rw [hz2, show i + (n + 1 - i) = n + 1 by omega]; exact growslice_fits (by omega) (by omega))
    rw [show i + (n + 1 - i) = n + 1 by omega, ← hG, ← hZ1, ← hZ2, ← hROW, ← hW1] at h
    rw [show ((n : Int) + 1 - (i : Int)) = ((n + 1 - i : Nat) : Int) by omega]
    exact h
  have hb1 : W1.heap[w.heap.size]? = some (.cells ROW 46 (0, 0)) := by rw [hW1]; exact heap_alloc_new w.drew _
  have hbl1 : Below w.heap.size w W1 := by rw [hW1]; exact ((Below.refl _ _).drew).alloc (Nat.le_refl _) _
  have hnb1 : W1.heap[nb]? = some (.cells (cN x).toArray 46 (0, 0)) := (hbl1.block nb hnl).trans hnb
  have hgb1 : W1.heap[g]? = some (.cells cur 46 (0, 0)) := (hbl1.block g hgl).trans hg
  obtain ⟨W2, hW2⟩ : ∃ W2, W2 = W1.setCells w.heap.size (i * 5) (cN x) := ⟨_, rfl⟩
  have hcp1 : ∀ ty dc, (Builtin.copy_ #[22, 22] ty #[.slice (some ⟨w.heap.size, i * 5, none⟩) (n + 1 - i) dc, .slice (some ⟨nb, 0, none⟩) 1 1]).run Tryz.prog W1 = .ok (goInt 1) W2 := fun ty dc => by
    have hm : Nat.min 1 (n + 1 - i) = 1 := by simp only [Nat.min_def]; split <;> omega
    have h := run_copy_rows (P := Tryz.prog) W1 22 22 ty 46 5 w.heap.size (i * 5) (n + 1 - i) dc ⟨nb, 0, none⟩ 1 1 (cN x) Tryz.underlying22 size46 (by rw [hm]; rfl)
      (fun j v hj => by rw [add_flat, cell_of_row W1 nb _ _ 46 (0, 0) hnb1]; simpa using hj) (fun j hj => by rw [cell_of_row W1 _ _ _ 46 (0, 0) hb1, Array.getElem?_eq_getElem (by rw [cN_len] at hj; omega)]; rfl) (fun j hj => blk_frozen hb1 _) (reps_one (reps_single (d := kN) (kN_mk w x)))
    rw [hm, ← hW2] at h
    exact h
  have hb2 : W2.heap[w.heap.size]? = some (.cells (over ROW.toList (i * 5) (cN x)).toArray 46 (0, 0)) := by rw [hW2]; exact blk_setCells _ _ _ _ hb1 (by rw [cN_len]; omega)
  have hg2 : W1.grownBy W2 (some w.heap.size) := by rw [hW2]; exact grown_setCells _ _ _
  have hgb2 : W2.heap[g]? = some (.cells cur 46 (0, 0)) := blk_grown hgb1 hg2 (fun e => by injection e with e; omega)
  have hol : (over ROW.toList (i * 5) (cN x)).length = G * 5 := by rw [over_len (by rw [cN_len]; simp [hRl]; omega)]; simpa using hRl
  obtain ⟨W3, hW3⟩ : ∃ W3, W3 = W2.drew.setCells w.heap.size ((i + 1) * 5) (inner.drop (i * 5)) := ⟨_, rfl⟩
  have hcp2 : ∀ ty dc sc, (Builtin.copy_ #[22, 22] ty #[.slice (some ⟨w.heap.size, (i + 1) * 5, none⟩) (n - i) dc, .slice (some ⟨g, i * 5, none⟩) (n - i) sc]).run Tryz.prog W2.drew = .ok (goInt ((n - i : Nat) : Int)) W3 := fun ty dc sc => by
    have h := run_copy_rows (P := Tryz.prog) W2.drew 22 22 ty 46 5 w.heap.size ((i + 1) * 5) (n - i) dc ⟨g, i * 5, none⟩ (n - i) sc (inner.drop (i * 5)) Tryz.underlying22 size46 (by rw [hdl, show Nat.min (n - i) (n - i) = n - i by simp])
      (fun j v hj => by
        rw [add_flat]
        rw [List.getElem?_drop] at hj
        have h1 := hcell _ v hj
        rw [cell_of_row w g _ cur 46 (0, 0) hg] at h1
        have : W2.drew.heap[g]? = some (.cells cur 46 (0, 0)) := hgb2
        rw [cell_of_row W2.drew g _ cur 46 (0, 0) this]
        exact h1) (fun j hj => by
        have : W2.drew.heap[w.heap.size]? = _ := hb2
        rw [cell_of_row W2.drew _ _ _ 46 (0, 0) this, Array.getElem?_eq_getElem (by simp [hol]; omega)]; rfl) (fun j hj => blk_frozen (w := W2.drew) hb2 _) (fun v hv => hone v (List.mem_of_mem_drop hv))
    rw [show Nat.min (n - i) (n - i) = n - i by simp, ← hW3] at h
    exact h
  have hend : Ow kN 46 W3 base (.slice (some ⟨w.heap.size, 0, none⟩) (n + 1) G) (xs.take i ++ x :: xs.drop i) ∧ w.grownBy W3 (some g) := by
    have hb3 : W3.heap[w.heap.size]? = some (.cells (over (over ROW.toList (i * 5) (cN x)) ((i + 1) * 5) (inner.drop (i * 5))).toArray 46 (0, 0)) := by
      rw [hW3]
      have := blk_setCells (g := w.heap.size) (t := 46) (inner.drop (i * 5)) ((i + 1) * 5) W2.drew _ hb2 (by simp [hol, hil]; omega)
      simpa using this
    have hlen : (xs.take i ++ x :: xs.drop i).length = n + 1 := by rw [List.length_append, List.length_take, List.length_cons, List.length_drop, ← hn]; omega
    have hbl : Below w.heap.size w W3 := by
      have h2 : Below w.heap.size w W2 := hbl1.grown hg2 hbl1.size (fun k hk => by injection hk with hk; omega)
      have h3 : W2.drew.grownBy W3 (some w.heap.size) := by rw [hW3]; exact grown_setCells _ _ _
      exact h2.drew.grown h3 h2.size (fun k hk => by injection hk with hk; omega)
    refine ⟨?_, grown_of_below hbl _⟩
    rw [← hlen]
    refine Ow.of_block hb hb3 (by omega) (by simpa [maxLen] using hG63) (by simp; rw [over_len (by rw [hol, hdl]; omega), hol]; rfl) ?_
    have he : (over (over ROW.toList (i * 5) (cN x)) ((i + 1) * 5) (inner.drop (i * 5))).toArray.toList.take ((xs.take i ++ x :: xs.drop i).length * kN.sz) = inner.take (i * 5) ++ (cN x ++ inner.drop (i * 5)) := by
      have h := over_seq (cur := ROW.toList) (z := cN x) (d := inner.drop (i * 5)) (a := i * 5) (c := 5) rfl (by simp [hRl, hil]; omega)
      rw [show i * 5 + 5 = (i + 1) * 5 by omega, hdl, show (i + 1) * 5 + (n - i) * 5 = (n + 1) * 5 by omega, hRt] at h
      rw [hlen, show kN.sz = 5 from rfl]
      exact h
    rw [he]
    have hx := reps_single (d := kN) (kN_mk w x)
    exact Reps.app (YtbkbpdpegiekhaaGreatDoorW.PrintWords.Reps.imp_ (Reps.take hr i) fun _ _ hk => flat_node.free hk) (Reps.app (YtbkbpdpegiekhaaGreatDoorW.PrintWords.Reps.imp_ hx fun _ _ hk => flat_node.free hk) (YtbkbpdpegiekhaaGreatDoorW.PrintWords.Reps.imp_ (Reps.drop hr i) fun _ _ hk => flat_node.free hk))
  have HEnd := Aside0.mk hend
  have HN := Aside0.mk hn
  obtain ⟨H, hH⟩ : ∃ H, H = w.heap.size := ⟨_, rfl⟩
  rw [← hH] at hrz hcp1 hcp2 HEnd ⊢
  have hni : ¬ (i = n) := by omega
  have hni2 : ¬ (n = i) := by omega
  have hin2 : i ≤ n := by omega
  have hin3 : i ≤ n + 1 := by omega
  have hGi : ¬ (G = i) := by omega
  have hGi1 : ¬ (G = i + 1) := by omega
  have hwr : IntKind.i64.wrap ((i : Int) + 1) = (i : Int) + 1 := by rw [IntKind.wrap_i64]; omega
  have hb0 : (0 : Int) ≤ (i : Int) + 1 := by omega
  have htn : ((i : Int) + 1).toNat = i + 1 := by omega
  have hb3 : (i : Int) ≤ (n : Int) + 1 := by omega
  have hb4 : (i : Int) ≤ (n : Int) := by omega
  clear hend hb1 hb2 hol hg2 hgb1 hgb2 hbl1 hnb1 hcell hone hr hW1 hW2 hW3 hin hil hcl hcs hg hdl hnb hn hG hZ1 hZ2 hROW hRl hRt hZ1l hZ2l hH hgl hnl hi0 hz0 hz1 hz2
  go_enter Tryz.func319, Tryz.ntmps319
  go_wp2_with (first
    | (at_builtin; refine Lib.wpList_append_run _ rfl _ _ _ _ rfl _ _ rfl rfl _ _ (hrz _) ?_)
    | (at_builtin; refine wpList_copy_run _ rfl _ _ 22 22 rfl _ _ rfl rfl (hcp1 _ _) ?_))
  go_region_law (refine step_copy_run rfl _ _ 22 22 rfl _ _ (by simp [Act.eval, Act.put]) (by simp [Act.eval, Act.put]) (hcp2 _ _ _) ?_)
  go_wp2_with fail
  go_ret
  exact ⟨G, rfl, HEnd.out⟩

theorem insert_nodes (xs : List Nd) (x : Nd) (v : Value) (base nb i : Nat) (w : World) (ho : Ow kN 46 w base v xs) (hb : base ≤ w.heap.size) (hi : i ≤ xs.length) (hnb : w.heap[nb]? = some (.cells (cN x).toArray 46 (0, 0))) (hne : v.ownBlock ≠ some nb) (hsz : xs.length ≤ 1000000000) :
    Calls Tryz.prog 319 #[v, .int .i64 i, .slice (some ⟨nb, 0, none⟩) 1 1] w fun e w' => ∃ v', e = .returned v' ∧ Ow kN 46 w' base v' (xs.take i ++ x :: xs.drop i) ∧ w.grownBy w' v.ownBlock ∧ (v'.ownBlock = v.ownBlock ∨ v'.ownBlock = some w.heap.size) := by
  rcases Nat.lt_or_ge i xs.length with hlt | hge
  · obtain ⟨g, cap, cur, rfl, hbg, hg, hnc, hcm, hcs, hr⟩ := ho.block (fun e => by rw [e] at hlt; simp at hlt)
    by_cases hroom : xs.length + 1 ≤ cap
    · refine (insert_room xs x base nb g cap i xs.length cur w rfl hlt hbg hg hroom hcm hcs hr hnb (fun e => hne (by rw [e]; rfl)) hsz).mono ?_
      rintro e w' ⟨rfl, h1, h2⟩
      exact ⟨_, rfl, h1, h2, .inl rfl⟩
    · obtain rfl : cap = xs.length := by omega
      refine (insert_grow xs x base nb g i xs.length cur w rfl hlt hg hcs hb hr hnb hsz).mono ?_
      rintro e w' ⟨G, rfl, h1, h2⟩
      exact ⟨_, rfl, h1, h2, .inr rfl⟩
  · obtain rfl : i = xs.length := by omega
    rw [List.take_length, List.drop_length]
    exact insert_end xs x v base nb w ho hb hnb hsz

end Go.Proofs.YtbkbpdpegiekhaaGreatDoor
