/- tree: set. -/
import Derived.Test.YtbkbpdpegiekhaaGreatDoorU2
import Derived.Test.YtbkbpdpegiekhaaGreatDoorD4
import Derived.Test.YtbkbpdpegiekhaaGreatDoorG1
import Derived.StillTailTactics
/- tree: what turns while a tree is changed; drop. -/
set_option linter.unusedVariables false
set_option linter.unusedSimpArgs false
namespace Go.Proofs.YtbkbpdpegiekhaaGreatDoor
open Go.RowKit Go.Proofs.YtbkbpdpegiekhaaGreatDoorW.PrintWords Mo

/-- Only a tree's cell, its row, and new blocks turn. -/
structure TSt (w w' : World) (tb : Nat) (v : Value) : Prop where
  os : w'.os = w.os
  tape : w'.tape = w.tape
  output : w'.output = w.output
  size : w.heap.size ≤ w'.heap.size
  block : ∀ k, k < w.heap.size → k ≠ tb → v.ownBlock ≠ some k → w'.heap[k]? = w.heap[k]?
/-- A row that is another one's, or new. -/
def Heir (w : World) (v v' : Value) : Prop := v'.ownBlock = v.ownBlock ∨ ∀ k, v'.ownBlock = some k → w.heap.size ≤ k
theorem Heir.refl (w : World) (v : Value) : Heir w v v := .inl rfl
theorem Heir.trans {w w1 : World} {v v1 v2 : Value} (h : Heir w v v1) (hs : w.heap.size ≤ w1.heap.size) (k : Heir w1 v1 v2) : Heir w v v2 := by
  rcases k with k | k
  · rcases h with h | h
    · exact .inl (k.trans h)
    · exact .inr fun b hb => h b (by rw [← k]; exact hb)
  · exact .inr fun b hb => Nat.le_trans hs (k b hb)
section
variable {w w1 w2 : World} {tb : Nat} {v v1 : Value}
theorem TSt.refl (w : World) (tb : Nat) (v : Value) : TSt w w tb v := ⟨rfl, rfl, rfl, Nat.le_refl _, fun _ _ _ _ => rfl⟩
theorem TSt.trans (h : TSt w w1 tb v) (hh : Heir w v v1) (k : TSt w1 w2 tb v1) : TSt w w2 tb v := by
  refine ⟨k.os.trans h.os, k.tape.trans h.tape, k.output.trans h.output, Nat.le_trans h.size k.size, fun b hb h1 h2 => ?_⟩
  refine (k.block b (Nat.lt_of_lt_of_le hb h.size) h1 fun e => ?_).trans (h.block b hb h1 h2)
  rcases hh with hh | hh
  · exact h2 (hh ▸ e)
  · have := hh b e; omega
theorem TSt.of_below (h : Below w.heap.size w w1) : TSt w w1 tb v := ⟨h.os, h.tape, h.output, h.size, fun k hk _ _ => h.block k hk⟩
theorem TSt.of_grown (h : w.grownBy w1 v.ownBlock) : TSt w w1 tb v := ⟨h.os, h.tape, h.output, h.size, fun k hk _ h2 => h.block k hk (fun e => h2 e.symm)⟩
theorem TSt.of_set (u : Value) : TSt w (w.setCell ⟨tb, 0, none⟩ u) tb v := ⟨rfl, rfl, rfl, by simp [World.setCell], fun k hk h1 _ => Below.heap_setCell _ _ _ _ h1⟩
theorem TSt.below {base : Nat} {xs : List Nd} (h : TSt w w1 tb v) (ht : Tr base w tb v xs) : Below base w w1 := by
  have hb : base ≤ w.heap.size := Nat.le_of_lt (Nat.lt_of_le_of_lt ht.lo (blk_lt ht.box))
  refine ⟨h.os, h.tape, h.output, h.size, fun k hk => ?_⟩
  have := ht.lo
  exact h.block k (by omega) (by omega) (fun e => by have := ht.row.base_le k e; omega)
end
theorem Tr.size {base : Nat} {w : World} {tb : Nat} {v : Value} {xs : List Nd} (h : Tr base w tb v xs) : base ≤ w.heap.size := Nat.le_of_lt (Nat.lt_of_le_of_lt h.lo (blk_lt h.box))
/-- A deed is done: the tree has these nodes. -/
def Tdone (base : Nat) (w w' : World) (tb : Nat) (v : Value) (ys : List Nd) : Prop := ∃ v', Tr base w' tb v' ys ∧ TSt w w' tb v ∧ Heir w v v'
section
variable {base : Nat} {w w1 w2 : World} {tb : Nat} {v v1 : Value} {xs ys zs : List Nd}
theorem Tdone.of_below (ht : Tr base w tb v xs) (h : Below w.heap.size w w1) : Tdone base w w1 tb v xs := ⟨v, ht.below h, TSt.of_below h, Heir.refl _ _⟩
/-- The row behind a deed, laid into the tree's cell. -/
theorem Tdone.store (ht : Tr base w tb v xs) (ho : Ow kN 46 w1 base v1 ys) (hg : w.grownBy w1 v.ownBlock) (hh : Heir w v v1) : Tdone base w (w1.setCell ⟨tb, 0, none⟩ v1) tb v ys := by
  have hb1 := blk_grown ht.box hg (fun e => ht.row.ne_type ht.box (by decide) e.symm)
  have hgs : w1.grownBy (w1.setCell ⟨tb, 0, none⟩ v1) (some tb) := ⟨rfl, rfl, rfl, by simp [World.setCell], fun k hk hne => Below.heap_setCell _ _ _ _ (fun e => hne (by rw [e]))⟩
  exact ⟨v1, ⟨blk_set hb1 0 v1, ho.grown flat_node hgs (.inr (ho.ne_type hb1 (by decide))), ht.lo⟩, (TSt.of_grown hg).trans (Heir.refl _ _) (TSt.of_set v1), hh⟩
theorem Tdone.trans (h : Tdone base w w1 tb v ys) (k : ∀ v1, Tr base w1 tb v1 ys → Tdone base w1 w2 tb v1 zs) : Tdone base w w2 tb v zs := by
  obtain ⟨v1, h1, h2, h3⟩ := h
  obtain ⟨v2, k1, k2, k3⟩ := k v1 h1
  exact ⟨v2, k1, h2.trans h3 k2, h3.trans h2.size k3⟩
/-- After what came before. -/
theorem Tdone.after (h : TSt w w1 tb v) (hh : Heir w v v1) (k : Tdone base w1 w2 tb v1 ys) : Tdone base w w2 tb v ys := by
  obtain ⟨v2, k1, k2, k3⟩ := k
  exact ⟨v2, k1, h.trans hh k2, hh.trans h.size k3⟩
end

/-! ### drop, plainly -/
theorem under_run {p : S} : ∀ {l : List Nd}, l.Pairwise ltN → (∀ n ∈ l, pCmp p n.path < 0) → (l.filter fun n => !(n.path == p || pUnder n.path p)) = l.drop (belowT p l)
  | [], _, _ => rfl
  | y :: r, hs, h => by
    obtain ⟨h1, h2⟩ := List.pairwise_cons.1 hs
    have hy := h y (List.mem_cons_self ..)
    have hne : y.path ≠ p := fun e => by rw [e, pCmp_self] at hy; omega
    rw [belowT_cons]
    cases hu : pUnder y.path p
    · rw [List.filter_cons_of_pos (by simp [hu, hne]), if_neg (by decide), List.drop_zero]
      congr 1
      refine List.filter_eq_self.2 fun z hz => ?_
      have hz1 := h z (List.mem_cons_of_mem _ hz)
      have hzn : z.path ≠ p := fun e => by rw [e, pCmp_self] at hz1; omega
      cases hzu : pUnder z.path p
      · simp [hzn]
      · have := pUnder_between hzu hy (h1 z hz)
        rw [hu] at this
        cases this
    · rw [List.filter_cons_of_neg (by simp [hu]), if_pos rfl, List.drop_succ_cons]
      exact under_run h2 fun z hz => h z (List.mem_cons_of_mem _ hz)
theorem hasT_atT {xs : List Nd} {p : S} : hasT xs p = (atT xs p).isSome := by
  unfold hasT
  cases h : atT xs p with
  | none =>
    rw [show (none : Option Nd).isSome = false from rfl, List.any_eq_false]
    intro n hn
    simpa using atT_none.1 h n hn
  | some n => exact List.any_eq_true.2 ⟨n, (atT_mem h).1, by simpa using (atT_mem h).2⟩
theorem app_cut {α : Type} {xs lo r : List α} (he : xs = lo ++ r) : xs.take lo.length = lo ∧ xs.drop lo.length = r := by subst he; simp
/-- Where a path is: what stands ahead, its node, what stands behind. -/
theorem split_at {xs : List Nd} {p : S} (hs : xs.Pairwise ltN) (hh : hasT xs p = true) : ∃ x r, x.path = p ∧ xs = loT xs p ++ x :: r ∧ (∀ n ∈ loT xs p, pCmp n.path p < 0) ∧ (∀ n ∈ r, pCmp p n.path < 0) ∧ r.Pairwise ltN := by
  have he := lo_hi hs p
  have hlo : ∀ n ∈ loT xs p, pCmp n.path p < 0 := fun n hn => by simpa using (List.mem_filter.1 hn).2
  have hhs : (hiT xs p).Pairwise ltN := hs.filter _
  obtain ⟨y, hy, hyp⟩ := List.any_eq_true.1 hh
  have hyp : y.path = p := by simpa using hyp
  have hyh : y ∈ hiT xs p := List.mem_filter.2 ⟨hy, by rw [hyp, pCmp_self]; decide⟩
  cases hc : hiT xs p with
  | nil => rw [hc] at hyh; cases hyh
  | cons x r =>
    rw [hc] at hyh hhs he
    obtain ⟨h1, h2⟩ := List.pairwise_cons.1 hhs
    have hx : ¬ pCmp x.path p < 0 := by
      have : x ∈ hiT xs p := by rw [hc]; exact List.mem_cons_self ..
      simpa using (List.mem_filter.1 this).2
    have hxy : x = y := by
      rcases List.mem_cons.1 hyh with e | hm
      · exact e.symm
      · have := h1 y hm
        unfold ltN at this
        rw [hyp] at this
        exact absurd this hx
    subst hxy
    exact ⟨x, r, hyp, he, hlo, fun n hn => by rw [← hyp]; exact h1 n hn, h2⟩
theorem lo_filter {xs : List Nd} {p : S} (hlo : ∀ n ∈ loT xs p, pCmp n.path p < 0) : (loT xs p).filter (fun n => !(n.path == p || pUnder n.path p)) = loT xs p := by
  refine List.filter_eq_self.2 fun n hn => ?_
  have h1 := hlo n hn
  have h2 : n.path ≠ p := fun e => by rw [e, pCmp_self] at h1; omega
  cases hu : pUnder n.path p
  · simp [h2]
  · have h3 := pUnder_lt hu
    have h4 := pCmp_neg n.path p
    omega
theorem drop_cut {xs : List Nd} {p : S} (hs : xs.Pairwise ltN) (hh : hasT xs p = true) :
    (loT xs p).length < xs.length ∧ xs.take (loT xs p).length ++ xs.drop ((loT xs p).length + 1 + belowT p (xs.drop ((loT xs p).length + 1))) = dropF xs p := by
  obtain ⟨x, r, hx, he, hlo, hr, hrs⟩ := split_at hs hh
  have hlen : (loT xs p).length < xs.length := by
    have := congrArg List.length he
    rw [List.length_append, List.length_cons] at this
    omega
  have h1 := (app_cut he).1
  have h2 : xs.drop ((loT xs p).length + 1) = r := by
    rw [← List.drop_drop, (app_cut he).2]
    rfl
  refine ⟨hlen, ?_⟩
  rw [h1, ← List.drop_drop, h2, ← under_run hrs hr]
  have h3 : dropF xs p = dropF (loT xs p ++ x :: r) p := congrArg (fun l => dropF l p) he
  rw [h3]
  unfold dropF
  rw [List.filter_append, lo_filter hlo, List.filter_cons_of_neg (by simp [hx])]

set_option maxRecDepth 100000 in
set_option maxHeartbeats 2000000 in
theorem tree_drop (xs : List Nd) (p : S) (base tb : Nat) (v : Value) (w : World) (hE : Env w) (ht : Tr base w tb v xs) (hk : Okt xs) (hpn : p ≠ ⟨#[]⟩) (hx : ∀ n ∈ xs, n.path.size < 4294967281) (hp : p.size < 4294967281) (hsz : xs.length ≤ 1000000000) :
    Calls Tryz.prog 224 #[.pointer (some ⟨tb, 0, none⟩), .string p] w fun e w' => (∃ n : Int, e = .returned (.int .i64 n)) ∧ Tdone base w w' tb v (dropF xs p) := by
  have HF := Aside0.mk (tree_find xs p base tb v w hE ht hk.sorted hx hp hsz)
  have HT := Aside0.mk ht
  have HB := Aside0.mk fun (W : World) (hb : Below w.heap.size w W) (start : Nat) (hst : start ≤ xs.length) => tree_behind xs p start base tb v W (ht.below hb) hx hp hsz hst
  have HC := Aside0.mk (drop_cut (p := p) hk.sorted)
  have HA := Aside0.mk fun (h : hasT xs p = false) => hk.drop_absent hpn (show atT xs p = none by rw [hasT_atT] at h; cases h0 : atT xs p with | none => rfl | some n => rw [h0] at h; cases h)
  clear hE hx ht hk
  go_enter Tryz.func224, Tryz.ntmps224
  go_wp2_with fail
  refine HF.out.mono ?_
  rintro e1 w1 ⟨rfl, hb1⟩
  have HB1 := Aside0.mk hb1
  clear hb1
  cases hh : hasT xs p
  · have HD := Aside0.mk (HA.out hh)
    clear hh
    go_wp2_with fail
    go_ret
    exact ⟨⟨0, rfl⟩, by rw [HD.out]; exact Tdone.of_below HT.out HB1.out⟩
  · obtain ⟨hlt, hcut⟩ := HC.out hh
    have HD := Aside0.mk hcut
    clear hh hcut
    obtain ⟨i, hi⟩ : ∃ i, i = (loT xs p).length := ⟨_, rfl⟩
    rw [← hi] at hlt HD ⊢
    clear hi
    have hwr : IntKind.i64.wrap ((i : Int) + 1) = ((i + 1 : Nat) : Int) := by rw [IntKind.wrap_i64]; omega
    go_wp2_with fail
    refine (HB.out _ HB1.out (i + 1) (by omega)).mono ?_
    rintro e2 w2 ⟨rfl, hb2⟩
    have HB2 := Aside0.mk (below_then HB1.out HB1.out.size hb2)
    have HT2 := Aside0.mk (HT.out.below HB2.out)
    have hble := belowT_le p (xs.drop (i + 1))
    rw [List.length_drop] at hble
    obtain ⟨k, hk0⟩ : ∃ k, k = belowT p (xs.drop (i + 1)) := ⟨_, rfl⟩
    rw [← hk0] at hble HD ⊢
    have c0 := blk_cell HT2.out.box 0
    obtain ⟨A, nn, cc, rfl⟩ := HT2.out.row.sl
    clear hk0 hb2 HF HB
    go_wp2_with fail
    refine (delete_nodes xs (.slice A nn cc) base _ i (i + 1 + k) HT2.out.row (by omega) (by omega) hsz).mono ?_
    rintro e3 w3 ⟨v3, rfl, ho3, hg3, hv3⟩
    have hb3 := blk_grown HT2.out.box hg3 (fun e => HT2.out.row.ne_type HT2.out.box (by decide) e.symm)
    have c3 := blk_cell hb3 0
    have f3 := blk_frozen hb3 0
    have HD3 := Aside0.mk (Tdone.after (TSt.of_below HB2.out) (Heir.refl _ _) (Tdone.store HT2.out ho3 hg3 (.inl hv3)))
    obtain ⟨A3, n3, c3', rfl⟩ := ho3.sl
    clear ho3 hg3 hv3 hb3 c0
    go_wp2_with fail
    go_ret
    refine ⟨⟨_, rfl⟩, ?_⟩
    rw [← HD.out]
    exact HD3.out

end Go.Proofs.YtbkbpdpegiekhaaGreatDoor

set_option linter.unusedVariables false
set_option linter.unusedSimpArgs false
namespace Go.Proofs.YtbkbpdpegiekhaaGreatDoor
open Go.RowKit Go.Proofs.YtbkbpdpegiekhaaGreatDoorW.PrintWords Mo

theorem lo_take {xs : List Nd} (hs : xs.Pairwise ltN) (p : S) : xs.take (loT xs p).length = loT xs p ∧ xs.drop (loT xs p).length = hiT xs p := by
  have he := lo_hi hs p
  exact app_cut he
theorem lo_len (xs : List Nd) (p : S) : (loT xs p).length ≤ xs.length := List.length_filter_le _ _
/-- In its place. -/
theorem set_has {xs : List Nd} {n : Nd} (hs : xs.Pairwise ltN) (hh : hasT xs n.path = true) :
    (loT xs n.path).length < xs.length ∧ xs.take (loT xs n.path).length ++ n :: xs.drop ((loT xs n.path).length + 1) = setF xs n := by
  obtain ⟨x, r, hx, he, hlo, hr, hrs⟩ := split_at hs hh
  have hlen : (loT xs n.path).length < xs.length := by
    have := congrArg List.length he
    rw [List.length_append, List.length_cons] at this
    omega
  have h2 : xs.drop ((loT xs n.path).length + 1) = r := by
    rw [← List.drop_drop, (app_cut he).2]
    rfl
  refine ⟨hlen, ?_⟩
  rw [(lo_take hs _).1, h2]
  unfold setF
  congr 2
  have h3 : xs.filter (fun m => decide (0 < pCmp m.path n.path)) = (loT xs n.path ++ x :: r).filter (fun m => decide (0 < pCmp m.path n.path)) := congrArg (fun l : List Nd => l.filter fun m => decide (0 < pCmp m.path n.path)) he
  rw [h3]
  rw [List.filter_append, List.filter_eq_nil_iff.2 (fun m hm => by have := hlo m hm; simp; omega), List.nil_append, List.filter_cons_of_neg (by rw [hx, pCmp_self]; simp)]
  exact (List.filter_eq_self.2 fun m hm => by have h1 := hr m hm; have h2 := pCmp_neg n.path m.path; simp; omega).symm
/-- In order. -/
theorem set_hasnt {xs : List Nd} {n : Nd} (hs : xs.Pairwise ltN) (hh : hasT xs n.path = false) : xs.take (loT xs n.path).length ++ n :: xs.drop (loT xs n.path).length = setF xs n := by
  rw [(lo_take hs _).1, (lo_take hs _).2]
  unfold setF
  congr 2
  unfold hiT
  refine List.filter_congr fun m hm => ?_
  have hne : m.path ≠ n.path := fun e => by
    unfold hasT at hh
    rw [List.any_eq_false] at hh
    exact hh m hm (by simpa using e)
  rcases pCmp_range m.path n.path with h | h | h
  · rw [h]; decide
  · exact absurd (pCmp_eq.1 h) hne
  · rw [h]; decide
theorem Ow.put_at {xs : List Nd} {w W : World} {base g cap i : Nat} {cur : Array Value} {n : Nd} (hbg : base ≤ g) (hW : W.heap[g]? = some (.cells (over cur.toList (i * 5) (cN n)).toArray 46 (0, 0))) (hi : i < xs.length) (hnc : xs.length ≤ cap) (hcm : cap ≤ maxLen) (hcs : cur.size = cap * 5)
    (hr : Reps (kN.K w) 5 xs (cur.toList.take (xs.length * 5))) : Ow kN 46 W base (.slice (some ⟨g, 0, none⟩) xs.length cap) (xs.take i ++ n :: xs.drop (i + 1)) := by
  have hcl : cur.toList.length = cap * 5 := by simpa using hcs
  have hlen : (xs.take i ++ n :: xs.drop (i + 1)).length = xs.length := by rw [List.length_append, List.length_take, List.length_cons, List.length_drop]; omega
  rw [← hlen]
  refine Ow.of_block hbg hW (by omega) hcm (by simp; rw [over_len (by rw [cN_len]; omega), hcl]; rfl) ?_
  have he : (over cur.toList (i * 5) (cN n)).toArray.toList.take ((xs.take i ++ n :: xs.drop (i + 1)).length * kN.sz) = (cur.toList.take (xs.length * 5)).take (i * 5) ++ (cN n ++ (cur.toList.take (xs.length * 5)).drop ((i + 1) * 5)) := by
    rw [hlen, show kN.sz = 5 from rfl, List.toList_toArray]
    unfold over
    rw [List.take_append, List.length_take, List.take_take, List.take_append, cN_len, List.take_take, Nat.min_eq_left (show i * 5 ≤ cur.toList.length by omega), Nat.min_eq_right (show i * 5 ≤ xs.length * 5 by omega), Nat.min_eq_left (show i * 5 ≤ xs.length * 5 by omega), List.take_of_length_le (show (cN n).length ≤ xs.length * 5 - i * 5 by rw [cN_len]; omega), List.drop_take]
    rw [show i * 5 + 5 = (i + 1) * 5 by omega, show xs.length * 5 - i * 5 - 5 = xs.length * 5 - (i + 1) * 5 by omega]
  rw [he]
  exact Reps.app (YtbkbpdpegiekhaaGreatDoorW.PrintWords.Reps.imp_ (Reps.take hr i) fun _ _ hk => flat_node.free hk) (Reps.app (reps_single (d := kN) (kN_mk W n)) (YtbkbpdpegiekhaaGreatDoorW.PrintWords.Reps.imp_ (Reps.drop hr (i + 1)) fun _ _ hk => flat_node.free hk))

theorem Tdone.put {base : Nat} {w w1 : World} {tb : Nat} {v : Value} {xs ys : List Nd} (ht : Tr base w tb v xs) (ho : Ow kN 46 w1 base v ys) (hg : w.grownBy w1 v.ownBlock) : Tdone base w w1 tb v ys :=
  ⟨v, ⟨blk_grown ht.box hg (fun e => ht.row.ne_type ht.box (by decide) e.symm), ho, ht.lo⟩, TSt.of_grown hg, Heir.refl _ _⟩
/-- The cells that a region reads: the tree's row, the node. -/
def TN (tb nb : Nat) (v : Value) (x : Nd) (W : World) : Prop := W.cell? ⟨tb, 0, none⟩ = some v ∧ W.cell? ⟨nb, 0, none⟩ = some (.string x.path) ∧ W.cell? ⟨nb, 1, none⟩ = some (.bool x.dir) ∧
  W.cell? ⟨nb, 2, none⟩ = some (.string x.data) ∧ W.cell? ⟨nb, 3, none⟩ = some (.int .i64 x.mode) ∧ W.cell? ⟨nb, 4, none⟩ = some (.int .i64 x.time)
theorem TN.mk {tb nb : Nat} {v : Value} {x : Nd} {W : World} (hs : W.heap[tb]? = some (.cells #[v] 208 (0, 0)))
    (hn : W.heap[nb]? = some (.cells #[.string x.path, .bool x.dir, .string x.data, .int .i64 x.mode, .int .i64 x.time] 46 (0, 0))) : TN tb nb v x W :=
  ⟨blk_cell hs 0, blk_cell hn 0, blk_cell hn 1, blk_cell hn 2, blk_cell hn 3, blk_cell hn 4⟩

set_option maxRecDepth 100000 in
set_option maxHeartbeats 4000000 in
theorem tree_set (xs : List Nd) (n : Nd) (base tb : Nat) (v : Value) (w : World) (hE : Env w) (ht : Tr base w tb v xs) (hs : xs.Pairwise ltN) (hx : ∀ n ∈ xs, n.path.size < 4294967281) (hp : n.path.size < 4294967281) (hsz : xs.length ≤ 1000000000) :
    Calls Tryz.prog 309 #[.pointer (some ⟨tb, 0, none⟩), vN n] w fun e w' => e = .returned (.tuple #[]) ∧ Tdone base w w' tb v (setF xs n) := by
  obtain ⟨o, ho⟩ : ∃ o, o = Obj.cells #[.string n.path, .bool n.dir, .string n.data, .int .i64 n.mode, .int .i64 n.time] 46 := ⟨_, rfl⟩
  have hb0 := ((Grew.refl w).alloc o).below
  have hw0 := heap_alloc_new w o
  have HT0 := Aside0.mk ht
  have HT := Aside0.mk (ht.below hb0)
  have HF := Aside0.mk (tree_find xs n.path base tb v (w.alloc o) (hE.below hb0) (ht.below hb0) hs hx hp hsz)
  have HB0 := Aside0.mk hb0
  have HH := Aside0.mk (set_has (n := n) hs)
  have HN := Aside0.mk (set_hasnt (n := n) hs)
  have HL := Aside0.mk (lo_len xs n.path)
  clear hE hx ht hb0 hs
  go_enter Tryz.func309, Tryz.ntmps309
  subst ho
  have c0 := blk_cell hw0 0
  have HW0 := Aside0.mk hw0
  clear hw0
  go_wp2_with fail
  refine HF.out.mono ?_
  rintro e1 w1 ⟨rfl, hb1⟩
  have HT1 := Aside0.mk (HT.out.below hb1)
  have HB1 := Aside0.mk (below_then HB0.out HB0.out.size hb1)
  have HW1 := Aside0.mk ((hb1.block w.heap.size (blk_lt HW0.out)).trans HW0.out)
  clear hb1 c0 HF HT HW0 HB0
  have HL := HL.out
  cases hh : hasT xs n.path
  · have HD := Aside0.mk (HN.out hh)
    clear hh
    obtain ⟨i, hi⟩ : ∃ i, i = (loT xs n.path).length := ⟨_, rfl⟩
    rw [← hi] at HL HD ⊢
    clear hi
    have hS0 := TN.mk HT1.out.box HW1.out
    obtain ⟨c0, n0, n1, n2, n3, n4⟩ := hS0
    have HBa := Aside0.mk (((Grew.refl w1).alloc (.cells #[.string n.path, .bool n.dir, .string n.data, .int .i64 n.mode, .int .i64 n.time] 46)).drew.below)
    have hNb := heap_alloc_new w1 (.cells #[.string n.path, .bool n.dir, .string n.data, .int .i64 n.mode, .int .i64 n.time] 46)
    have HNb := Aside0.mk hNb
    have HSa := Aside0.mk (TN.mk ((HBa.out.block tb (blk_lt HT1.out.box)).trans HT1.out.box) ((HBa.out.block _ (blk_lt HW1.out)).trans HW1.out))
    obtain ⟨A, nn, cc, rfl⟩ := HT1.out.row.sl
    have hnv : (Value.slice A nn cc).ownBlock ≠ some w1.heap.size := fun e => by have := HT1.out.row.lt _ e; omega
    have HNv := Aside0.mk hnv
    clear hNb hnv
    go_wp2_with fail
    have c0a := HSa.out.1
    go_region_with
      ((go_at_call 319; refine (insert_nodes xs n (.slice A nn cc) base w1.heap.size i _ (HT1.out.row.below flat_node HBa.out) (by simp; have := HT1.out.size; omega) HL HNb.out HNv.out hsz).mono ?_; rintro e w2 ⟨v2, rfl, ho2, hg2, hat2⟩; have hbx := blk_grown ((HBa.out.block tb (blk_lt HT1.out.box)).trans HT1.out.box) hg2 (fun e => HT1.out.row.ne_type HT1.out.box (by decide) e.symm); have hnx := blk_grown ((HBa.out.block _ (blk_lt HW1.out)).trans HW1.out) hg2 (fun e => Nat.lt_irrefl _ (HT0.out.row.lt _ e.symm)); have c2x := blk_cell hbx 0; have f2x := blk_frozen hbx 0; have hN2 := (TN.mk hbx hnx).2; have hN3 := fun u => (TN.mk (blk_set hbx 0 u) (blk_far hnx (p := ⟨tb, 0, none⟩) (blk_ne hnx hbx (by decide)) u)).2; have HDn := Aside0.mk (Tdone.after (TSt.of_below (below_then HB1.out HB1.out.size HBa.out)) (Heir.refl _ _) (Tdone.store (HT1.out.below HBa.out) ho2 hg2 (hat2.elim .inl fun e => .inr fun k hk => by rw [e] at hk; injection hk with hk; omega))); obtain ⟨A2, n2', c2, rfl⟩ := ho2.sl))
    all_goals
      go_end0
      exact ⟨rfl, by rw [← HD.out]; exact HDn.out⟩
  · obtain ⟨hlt, hcut⟩ := HH.out hh
    have HD := Aside0.mk hcut
    clear hh hcut
    obtain ⟨i, hi⟩ : ∃ i, i = (loT xs n.path).length := ⟨_, rfl⟩
    rw [← hi] at HL hlt HD ⊢
    clear hi
    obtain ⟨c0, n0, n1, n2, n3, n4⟩ := TN.mk HT1.out.box HW1.out
    obtain ⟨g, cap, cur, rfl, hbg, hg, hnc, hcm, hcs, hr⟩ := HT1.out.row.block (fun e => by rw [e] at hlt; simp at hlt)
    have hcs : cur.size = cap * 5 := hcs
    have hr : Reps (kN.K w1) 5 xs (cur.toList.take (xs.length * 5)) := hr
    have hcell : ∀ k, k < 5 → ∃ u, w1.cell? ⟨g, i * 5 + k, none⟩ = some u := fun k hk => ⟨_, by rw [cell_of_row w1 g _ cur 46 (0, 0) hg]; exact Array.getElem?_eq_getElem (by omega)⟩
    obtain ⟨u0, r0⟩ := hcell 0 (by decide)
    obtain ⟨u1, r1⟩ := hcell 1 (by decide)
    obtain ⟨u2, r2⟩ := hcell 2 (by decide)
    obtain ⟨u3, r3⟩ := hcell 3 (by decide)
    obtain ⟨u4, r4⟩ := hcell 4 (by decide)
    rw [Nat.add_zero] at r0
    have f0 := blk_frozen hg (i * 5)
    have f1 := blk_frozen hg (i * 5 + 1)
    have f2 := blk_frozen hg (i * 5 + 2)
    have f3 := blk_frozen hg (i * 5 + 3)
    have f4 := blk_frozen hg (i * 5 + 4)
    have hset := blk_setCells (g := g) (t := 46) (cN n) (i * 5) w1.drew cur hg (by rw [cN_len]; omega)
    have hgw := grown_trans (b := w1.drew) (a := w1) (row := some g) ⟨rfl, rfl, rfl, Nat.le_refl _, fun _ _ _ => rfl⟩ (grown_setCells (g := g) (cN n) (i * 5) w1.drew)
    have HR := Aside0.mk (Ow.put_at (n := n) hbg hset hlt hnc hcm hcs hr)
    have HG := Aside0.mk hgw
    have HX := Aside0.mk hg
    clear hcell hset hgw hr hcs hg hcm
    have hlt2 : (i : Int) < (xs.length : Int) := by omega
    go_wp2_with fail
    go_still_tail 6, (by kernel_rfl)
    go_wp2_with fail
    refine bodyPost_ret (results_none rfl _ _ _) rfl ⟨rfl, ?_⟩
    rw [← HD.out]
    exact Tdone.after (TSt.of_below HB1.out) (Heir.refl _ _) (Tdone.put HT1.out HR.out HG.out)

end Go.Proofs.YtbkbpdpegiekhaaGreatDoor
