/- slices.Delete at nodes of a row of the call's own. -/
import Derived.Test.YtbkbpdpegiekhaaGreatDoorB1
import Derived.Deep.RegionLaw
import Derived.Lib.SliceRun
import Derived.Deep.AppendSrc
/- Cells of a row overwritten; slices.Delete at nodes. -/
set_option linter.unusedVariables false
set_option linter.unusedSimpArgs false
namespace Go.Proofs.YtbkbpdpegiekhaaGreatDoor
open Go.RowKit Go.Proofs.YtbkbpdpegiekhaaGreatDoorW.PrintWords Mo

/-- A list with some of it overwritten. -/
def over {α : Type} (cur : List α) (o : Nat) (l : List α) : List α := cur.take o ++ (l ++ cur.drop (o + l.length))
theorem over_len {α : Type} {cur : List α} {o : Nat} {l : List α} (h : o + l.length ≤ cur.length) : (over cur o l).length = cur.length := by
  unfold over
  simp only [List.length_append, List.length_take, List.length_drop]
  omega
theorem over_cons {α : Type} (cur : List α) (o : Nat) (v : α) (r : List α) (h : o < cur.length) : over (cur.set o v) (o + 1) r = over cur o (v :: r) := by
  unfold over
  rw [List.take_set, List.drop_set_of_lt (by omega), List.length_cons, show o + 1 + r.length = o + (r.length + 1) from by omega]
  have e : (cur.take (o + 1)).set o v = cur.take o ++ [v] := by
    rw [List.take_succ_eq_append_getElem h]
    have hl : (cur.take o).length = o := by rw [List.length_take]; omega
    generalize cur.take o = a at hl ⊢
    subst hl
    rw [List.set_append]
    simp
  rw [e, List.append_assoc]
  rfl
theorem blk_setCells {g : Nat} {t : TypeId} : ∀ (l : List Value) (o : Nat) (w : World) (cur : Array Value), w.heap[g]? = some (.cells cur t (0, 0)) → o + l.length ≤ cur.size →
    (w.setCells g o l).heap[g]? = some (.cells (over cur.toList o l).toArray t (0, 0))
  | [], o, w, cur, h, _ => by
    have : over cur.toList o [] = cur.toList := by unfold over; simp
    rw [this]
    exact h
  | v :: r, o, w, cur, h, hl => by
    have h1 := blk_set h o v
    have h2 := blk_setCells r (o + 1) (w.setCell ⟨g, o, none⟩ v) (cur.setIfInBounds o v) h1 (by simp at hl ⊢; omega)
    rw [Array.toList_setIfInBounds, over_cons _ _ _ _ (by simp at hl ⊢; omega)] at h2
    exact h2
theorem grown_setCells {g : Nat} : ∀ (l : List Value) (o : Nat) (w : World), w.grownBy (w.setCells g o l) (some g)
  | [], o, w => ⟨rfl, rfl, rfl, Nat.le_refl _, fun _ _ _ => rfl⟩
  | v :: r, o, w => by
    have h1 : w.grownBy (w.setCell ⟨g, o, none⟩ v) (some g) := ⟨rfl, rfl, rfl, by simp [World.setCell], fun k hk hne => Below.heap_setCell _ _ _ _ (fun e => hne (by rw [e]))⟩
    have h2 := grown_setCells (g := g) r (o + 1) (w.setCell ⟨g, o, none⟩ v)
    exact ⟨h2.os.trans h1.os, h2.tape.trans h1.tape, h2.output.trans h1.output, Nat.le_trans h1.size h2.size, fun k hk hne => (h2.block k (Nat.lt_of_lt_of_le hk h1.size) hne).trans (h1.block k hk hne)⟩

/-- clear at elements of several cells. -/
theorem run_clear_rows {P : Program} {n : Nat} (w : World) (t e ty : TypeId) (z : Value) (ht : P.underlying t = some (.slice e)) (hv : ∀ w, (zeroValue e).run P w = .ok z w) (h1 : ∀ u ∈ (Builtin.zeroCells z.cells n).toList, u.oneCell' = true) (b o c : Nat) (hn : 0 < n)
    (hc : ∀ j, j < (Builtin.zeroCells z.cells n).toList.length → (w.cell? ⟨b, o + j, none⟩).isSome = true) (hf : ∀ j, j < (Builtin.zeroCells z.cells n).toList.length → w.frozen? ⟨b, o + j, none⟩ = false) :
    (Builtin.clear_ #[t] ty #[.slice (some ⟨b, o, none⟩) n c]).run P w = .ok (.tuple #[]) (w.setCells b o (Builtin.zeroCells z.cells n).toList) := by
  have hst := run_storeCells_cells (P := P) b o (Builtin.zeroCells z.cells n).toList 0 w (by simpa using hc) (by simpa using hf) h1
  simp only [Nat.add_zero] at hst
  obtain ⟨m, rfl⟩ : ∃ m, n = m + 1 := ⟨n - 1, by omega⟩
  simp [Builtin.clear_, run_underlying ht, hv, hst]

end Go.Proofs.YtbkbpdpegiekhaaGreatDoor

set_option linter.unusedVariables false
set_option linter.unusedSimpArgs false
namespace Go.Proofs.YtbkbpdpegiekhaaGreatDoor
open Go.RowKit Go.Proofs.YtbkbpdpegiekhaaGreatDoorW.PrintWords Mo

/-- append whose run is known, as a step of a region that draws. -/
theorem step_append_run {P : Program} {ops : Array Oper} {o : Oper} {a : Act} {w : World} {K : Act → World → Prop} {Q : Exit → Act → World → Prop} {E : Prop}
    (hg : o.guard = none) (d x : Operand) (dT sT : TypeId) (hop : o.op = Op.call { callee := Callee.builtin Builtin.append, args := #[d, x], argTypes := #[dT, sT] })
    (v u : Value) (hd : a.eval d = v) (hx : a.eval x = u) {v' : Value} {w' : World} (hr : (Builtin.append_ #[dT, sT] o.type #[v, u]).run P w = .ok v' w') (hK : K (a.put o.dst v') w') :
    if Region.wanted o (yielded ops a.tmps) = true then Oper.wp P o a w K Q else E := by
  have hw : Region.wanted o (yielded ops a.tmps) = true := by simp [Region.wanted, hg]
  rw [if_pos hw]
  unfold Oper.wp
  simp [execOp, hop, resolve, invoke, builtin, hd, hx, hr, Result.andThen]
  exact hK
theorem wpList_clear_run {P : Program} (w : World) {ops : Array Oper} {rest : List Oper} {o : Oper} {a : Act} {Q : Exit → Act → World → Prop} (hgd : o.guard = none) (d : Operand) (t : TypeId)
    (ho : o.op = .call { callee := .builtin .clear, args := #[d], argTypes := #[t] }) (v : Value) (hd : a.eval d = v) {v' : Value} {w' : World}
    (hr : (Builtin.clear_ #[t] o.type #[v]).run P w = .ok v' w') (h : wpList P ops Q rest (a.put o.dst v') w') : wpList P ops Q (o :: rest) a w :=
  wpList_plain hgd fun _ hK => by
    unfold Oper.wp execOp
    simp only [ho, resolve, invoke, builtin, Sem.run_bind, Sem.run_pure, Result.andThen_ok, List.map_toArray, List.map_cons, List.map_nil, hd, hr]
    exact hK _ _ h

/-- A row of the call's own of which something is: its block. -/
theorem Ow.block {α : Type} {d : Kd α} {e : Nat} {w : World} {base : Nat} {v : Value} {xs : List α} (h : Ow d e w base v xs) (hne : xs ≠ []) :
    ∃ g cap cur, v = .slice (some ⟨g, 0, none⟩) xs.length cap ∧ base ≤ g ∧ w.heap[g]? = some (.cells cur e (0, 0)) ∧ xs.length ≤ cap ∧ cap ≤ maxLen ∧ cur.size = cap * d.sz ∧ Reps (d.K w) d.sz xs (cur.toList.take (xs.length * d.sz)) := by
  obtain ⟨inner, ⟨h1, h2⟩, hr⟩ := h
  rcases h2 with ⟨_, h0⟩ | ⟨g, cap, cur, h3, h4, h5, h6, h7, h8, h9⟩
  · exact absurd (List.eq_nil_of_length_eq_zero h0) hne
  · exact ⟨g, cap, cur, h3, h4, h5, h6, h7, h8, by rw [h9]; exact hr⟩
theorem Ow.of_block {α : Type} {d : Kd α} {e : Nat} {w : World} {base g cap : Nat} {cur : Array Value} {xs : List α} (hb : base ≤ g) (hg : w.heap[g]? = some (.cells cur e (0, 0))) (h1 : xs.length ≤ cap) (h2 : cap ≤ maxLen) (h3 : cur.size = cap * d.sz)
    (hr : Reps (d.K w) d.sz xs (cur.toList.take (xs.length * d.sz))) : Ow d e w base (.slice (some ⟨g, 0, none⟩) xs.length cap) xs :=
  ⟨_, ⟨hr.1, .inr ⟨g, cap, cur, rfl, hb, hg, h1, h2, h3, rfl⟩⟩, hr⟩
theorem Reps.take {α : Type} {R : α → List Value → Prop} {size : Nat} {ps : List α} {cs : List Value} (h : Reps R size ps cs) (k : Nat) : Reps R size (ps.take k) (cs.take (k * size)) := by
  refine ⟨?_, fun j p hj => ?_⟩
  · rw [List.length_take, List.length_take, h.1]
    rcases Nat.le_total k ps.length with hk | hk
    · rw [Nat.min_eq_left hk, Nat.min_eq_left (Nat.mul_le_mul_right _ hk)]
    · rw [Nat.min_eq_right hk, Nat.min_eq_right (Nat.mul_le_mul_right _ hk)]
  rw [List.getElem?_take] at hj
  split at hj
  · rename_i hjk
    have h1 := h.2 j p hj
    have : j * size + size ≤ k * size := by rw [← Nat.succ_mul]; exact Nat.mul_le_mul_right _ hjk
    rw [List.drop_take, List.take_take, Nat.min_eq_left (by omega)]
    exact h1
  · cases hj
theorem Reps.drop {α : Type} {R : α → List Value → Prop} {size : Nat} {ps : List α} {cs : List Value} (h : Reps R size ps cs) (k : Nat) : Reps R size (ps.drop k) (cs.drop (k * size)) := by
  refine ⟨by rw [List.length_drop, List.length_drop, h.1, Nat.sub_mul], fun j p hj => ?_⟩
  rw [List.getElem?_drop] at hj
  rw [List.drop_drop, ← Nat.add_mul]
  exact h.2 _ p hj
theorem reps_one {w : World} {xs : List Nd} {cs : List Value} (h : Reps (kN.K w) 5 xs cs) : ∀ u ∈ cs, u.oneCell' = true := Reps.one (d := kN) (w := w) (by decide) h

set_option maxRecDepth 100000 in
set_option maxHeartbeats 4000000 in
theorem delete_nodes (xs : List Nd) (v : Value) (base : Nat) (w : World) (i j : Nat) (ho : Ow kN 46 w base v xs) (hij : i ≤ j) (hj : j ≤ xs.length) (hsz : xs.length ≤ 1000000000) :
    Calls Tryz.prog 226 #[v, .int .i64 i, .int .i64 j] w fun e w' => ∃ v', e = .returned v' ∧ Ow kN 46 w' base v' (xs.take i ++ xs.drop j) ∧ w.grownBy w' v.ownBlock ∧ v'.ownBlock = v.ownBlock := by
  by_cases hlt : i = j
  · subst hlt
    obtain ⟨A, cc, rfl, hcc⟩ := ho.slice
    have hm : cc ≤ 9223372036854775807 := by
      obtain ⟨inner, ⟨_, h2⟩, _⟩ := ho
      rcases h2 with ⟨h2, _⟩ | ⟨g, cap, cur, h3, _, _, _, h7, _, _⟩
      · injection h2 with _ _ h2; omega
      · injection h3 with _ _ h3; simp only [maxLen] at h7; omega
    have HO := Aside0.mk ho
    have HW := Aside0.mk (grown_refl w (Value.slice A xs.length cc).ownBlock)
    have HX := Aside0.mk (show xs.take i ++ xs.drop i = xs from List.take_append_drop i xs)
    clear ho
    obtain ⟨n, hn⟩ : ∃ n, n = xs.length := ⟨_, rfl⟩
    rw [← hn] at hj hcc hsz ⊢
    have HN := Aside0.mk hn
    clear hn
    have HE := Aside0.mk (show ∃ v', Ending.returned (Value.slice A n cc) = .returned v' ∧ Ow kN 46 w base v' (xs.take i ++ xs.drop i) ∧ w.grownBy w (Value.slice A n cc).ownBlock ∧ v'.ownBlock = (Value.slice A n cc).ownBlock from ⟨_, rfl, by rw [HX.out, HN.out]; exact HO.out, by rw [HN.out]; exact HW.out, rfl⟩)
    clear HO HW HX HN
    generalize (xs.take i ++ xs.drop i) = ys at HE ⊢
    rcases Nat.lt_or_ge i n with hin | hin
    · have hb : ¬ (n = i) := by omega
      go_enter Tryz.func226, Tryz.ntmps226
      go_wp2_with fail
      go_ret
      exact HE.out
    · obtain rfl : i = n := by omega
      go_enter Tryz.func226, Tryz.ntmps226
      go_wp2_with fail
      go_ret
      exact HE.out
  · have hilt : i < j := by omega
    have hne : xs ≠ [] := fun e => by subst e; simp at hj; omega
    obtain ⟨g, cap, cur, rfl, hbg, hg, hnc, hcm, hcs, hr⟩ := ho.block hne
    have hcs : cur.size = cap * 5 := hcs
    have hr : Reps (kN.K w) 5 xs (cur.toList.take (xs.length * 5)) := hr
    obtain ⟨n, hn⟩ : ∃ n, n = xs.length := ⟨_, rfl⟩
    rw [← hn] at hj hnc hsz hr ⊢
    obtain ⟨inner, hin⟩ : ∃ inner, inner = cur.toList.take (n * 5) := ⟨_, rfl⟩
    rw [← hin] at hr
    have hcl : cur.toList.length = cap * 5 := by simpa using hcs
    have hil : inner.length = n * 5 := by rw [hin, List.length_take]; omega
    have hcell : ∀ k u, inner[k]? = some u → w.cell? ⟨g, k, none⟩ = some u := fun k u hu => by
      rw [cell_of_row w g k cur 46 (0, 0) hg]
      rw [hin, List.getElem?_take] at hu
      split at hu
      · simpa using hu
      · cases hu
    have hone := reps_one hr
    obtain ⟨i0, hi0, hzz⟩ := Option.map_eq_some_iff.1 info46
    simp only [Prod.mk.injEq] at hzz
    obtain ⟨hz0, hz1, hz2⟩ := hzz
    have hdl : (inner.drop (j * 5)).length = (n - j) * 5 := by rw [List.length_drop, hil]; omega
    have hsp : ∀ k, k < cap * 5 → (w.cell? ⟨g, k, none⟩).isSome = true := fun k hk => by
      rw [cell_of_row w g k cur 46 (0, 0) hg, Array.getElem?_eq_getElem (by omega)]; rfl
    have hfz : ∀ k, w.frozen? ⟨g, k, none⟩ = false := fun k => blk_frozen hg k
    have happ : ∀ (ad : Addr) (ty cc : Nat), (j < n → ad = ⟨g, j * 5, none⟩) → (Builtin.append_ #[22, 22] ty #[.slice (some ⟨g, 0, none⟩) i cap, .slice (some ad) (n - j) cc]).run Tryz.prog w.drew = .ok (.slice (some ⟨g, 0, none⟩) (i + (n - j)) cap) (w.drew.setCells g (i * 5) (inner.drop (j * 5))) := fun ad ty cc had => by
      have hsrc : Src Tryz.prog i0.size 22 (.slice (some ad) (n - j) cc) (n - j) (inner.drop (j * 5)) w.drew := by
        rw [hz1]
        refine Src.ofSlice w.drew Tryz.underlying22 ad (n - j) cc (inner.drop (j * 5)) hdl (fun k u hu => ?_) (fun u hu => hone u (List.mem_of_mem_drop hu))
        have hk : k < (n - j) * 5 := by rw [← hdl]; exact (List.getElem?_eq_some_iff.1 hu).1
        rw [List.getElem?_drop] at hu
        rw [had (by omega), add_flat]
        exact hcell _ _ hu
      have h := run_append_room_src w.drew 22 22 ty 46 i0 Tryz.underlying22 hi0 g 0 i cap (.slice (some ad) (n - j) cc) (n - j) (inner.drop (j * 5)) hsrc (by omega) (fun k hk => by rw [hz1]; exact hsp _ (by omega)) (fun k hk => hfz _)
      rw [hz1, Nat.zero_add] at h
      exact h
    obtain ⟨W1, hW1⟩ : ∃ W1, W1 = w.drew.setCells g (i * 5) (inner.drop (j * 5)) := ⟨_, rfl⟩
    rw [← hW1] at happ
    have hb1 : W1.heap[g]? = some (.cells (over cur.toList (i * 5) (inner.drop (j * 5))).toArray 46 (0, 0)) := by rw [hW1]; exact blk_setCells _ _ _ _ hg (by omega)
    have hov : (over cur.toList (i * 5) (inner.drop (j * 5))).length = cap * 5 := by rw [over_len (by omega)]; exact hcl
    have hg1 : w.grownBy W1 (some g) := by rw [hW1]; exact grown_trans (b := w.drew) ⟨rfl, rfl, rfl, Nat.le_refl _, fun _ _ _ => rfl⟩ (grown_setCells _ _ w.drew)
    obtain ⟨Z, hZ⟩ : ∃ Z, Z = (Builtin.zeroCells (vN Nd.zero).cells (n - (i + (n - j)))).toList := ⟨_, rfl⟩
    have hZl : Z.length = (n - (i + (n - j))) * 5 := by rw [hZ, Array.length_toList, size_zeroCells]; rfl
    have hclr : ∀ ty c, (Builtin.clear_ #[22] ty #[.slice (some ⟨g, (i + (n - j)) * 5, none⟩) (n - (i + (n - j))) c]).run Tryz.prog W1 = .ok (.tuple #[]) (W1.setCells g ((i + (n - j)) * 5) Z) := fun ty c => by
      rw [hZ]
      refine run_clear_rows W1 22 46 ty (vN Nd.zero) Tryz.underlying22 Tryz.zeroValue46 ?_ g _ c (by omega) (fun k hk => ?_) (fun k hk => blk_frozen hb1 _)
      · intro u hu
        unfold Builtin.zeroCells at hu
        simp at hu
        obtain ⟨a, _, rfl⟩ := hu
        have h5 : a % 5 < 5 := Nat.mod_lt _ (by decide)
        rcases (show a % 5 = 0 ∨ a % 5 = 1 ∨ a % 5 = 2 ∨ a % 5 = 3 ∨ a % 5 = 4 by omega) with h | h | h | h | h <;> simp [h, Value.cells, Nd.zero] <;> rfl
      · rw [← hZ, hZl] at hk
        rw [cell_of_row W1 g _ _ 46 (0, 0) hb1, Array.getElem?_eq_getElem (by simp [hov]; omega)]; rfl
    obtain ⟨W2, hW2⟩ : ∃ W2, W2 = W1.setCells g ((i + (n - j)) * 5) Z := ⟨_, rfl⟩
    rw [← hW2] at hclr
    have hend : Ow kN 46 W2 base (.slice (some ⟨g, 0, none⟩) (i + (n - j)) cap) (xs.take i ++ xs.drop j) ∧ w.grownBy W2 (some g) := by
      have hb2 : W2.heap[g]? = some (.cells (over (over cur.toList (i * 5) (inner.drop (j * 5))) ((i + (n - j)) * 5) Z).toArray 46 (0, 0)) := by
        rw [hW2]
        have := blk_setCells (g := g) (t := 46) Z ((i + (n - j)) * 5) W1 _ hb1 (by simp [hov]; omega)
        simpa using this
      have hlen : (xs.take i ++ xs.drop j).length = i + (n - j) := by rw [List.length_append, List.length_take, List.length_drop, ← hn]; omega
      refine ⟨?_, grown_trans hg1 (by rw [hW2]; exact grown_setCells _ _ _)⟩
      rw [← hlen]
      refine Ow.of_block hbg hb2 (by omega) hcm (by simp; rw [over_len (by omega), hov]; rfl) ?_
      have he : (over (over cur.toList (i * 5) (inner.drop (j * 5))) ((i + (n - j)) * 5) Z).toArray.toList.take ((xs.take i ++ xs.drop j).length * kN.sz) = inner.take (i * 5) ++ inner.drop (j * 5) := by
        rw [hlen, show kN.sz = 5 from rfl]
        unfold over
        have h1 : (cur.toList.take (i * 5)).length = i * 5 := by rw [List.length_take]; omega
        have h2 : inner.take (i * 5) = cur.toList.take (i * 5) := by rw [hin, List.take_take, Nat.min_eq_left (by omega)]
        rw [h2, List.toList_toArray, List.take_append_of_le_length (by simp; omega), List.take_take, Nat.min_self, ← List.append_assoc, List.take_append_of_le_length (by simp; omega)]
        exact List.take_of_length_le (by simp; omega)
      rw [he]
      exact Reps.app (YtbkbpdpegiekhaaGreatDoorW.PrintWords.Reps.imp_ (Reps.take hr i) fun _ _ hk => flat_node.free hk) (YtbkbpdpegiekhaaGreatDoorW.PrintWords.Reps.imp_ (Reps.drop hr j) fun _ _ hk => flat_node.free hk)
    have HEnd := Aside0.mk hend
    clear hend hb1 hov hg1 hZl hsp hfz hcell hone hr hW1 hW2 hZ hin hil hcl hcs hg hdl
    have hni : ¬ (n = i) := by omega
    have hwr : IntKind.i64.wrap ((i : Int) + ((n - j : Nat) : Int)) = ((i + (n - j) : Nat) : Int) := by rw [IntKind.wrap_i64]; omega
    have hcn : ¬ (cap = i + (n - j)) := by omega
    have hc63 : cap ≤ 9223372036854775807 := by simpa [maxLen] using hcm
    have HN := Aside0.mk hn
    clear hi0 hz0 hz1 hz2 hcm hne hn
    have hic : i ≤ cap := by omega
    have hjc : j ≤ cap := by omega
    by_cases hnj : n = j
    · -- nothing stands behind
      have e0 : n - j = 0 := by omega
      simp only [e0, Nat.add_zero] at happ hclr HEnd hwr hcn
      have hcl2 := hclr
      by_cases hcj : cap = j
      · have happ1 := fun ty => happ ⟨g, 0, none⟩ ty 0 (fun h => by omega)
        obtain rfl : n = cap := by omega
        subst hcj
        clear happ e0 hnj
        go_enter Tryz.func226, Tryz.ntmps226
        go_wp2_with fail
        go_region_law (refine step_append_run rfl _ _ 22 22 rfl _ _ (by simp [Act.eval, Act.put]) (by simp [Act.eval, Act.put]) (happ1 _) ?_)
        go_wp2_with (at_builtin; refine wpList_clear_run _ rfl _ 22 rfl _ rfl (hclr _ _) ?_)
        go_ret
        exact ⟨_, rfl, HEnd.out.1, HEnd.out.2, rfl⟩
      · have happ1 := fun ty => happ ⟨g, j * 5, none⟩ ty (cap - j) (fun h => rfl)
        subst hnj
        clear happ e0
        go_enter Tryz.func226, Tryz.ntmps226
        go_wp2_with fail
        go_region_law (refine step_append_run rfl _ _ 22 22 rfl _ _ (by simp [Act.eval, Act.put]) (by simp [Act.eval, Act.put]) (happ1 _) ?_)
        go_wp2_with (at_builtin; refine wpList_clear_run _ rfl _ 22 rfl _ rfl (hclr _ _) ?_)
        go_ret
        exact ⟨_, rfl, HEnd.out.1, HEnd.out.2, rfl⟩
    · have hcj : ¬ (cap = j) := by omega
      have happ1 := fun ty => happ ⟨g, j * 5, none⟩ ty (cap - j) (fun h => rfl)
      clear happ
      go_enter Tryz.func226, Tryz.ntmps226
      go_wp2_with fail
      go_region_law (refine step_append_run rfl _ _ 22 22 rfl _ _ (by simp [Act.eval, Act.put]) (by simp [Act.eval, Act.put]) (happ1 _) ?_)
      go_wp2_with (at_builtin; refine wpList_clear_run _ rfl _ 22 rfl _ rfl (hclr _ _) ?_)
      go_ret
      exact ⟨_, rfl, HEnd.out.1, HEnd.out.2, rfl⟩

end Go.Proofs.YtbkbpdpegiekhaaGreatDoor
