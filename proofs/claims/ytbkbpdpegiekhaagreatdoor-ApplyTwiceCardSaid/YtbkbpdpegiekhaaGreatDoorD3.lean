/- slices.Insert of one node into a row of the call's own. -/
import Derived.Test.YtbkbpdpegiekhaaGreatDoorD2
import Derived.Lib.AppendZerosOnto
import Derived.Lib.Overlaps
import Derived.Laws.Externs
import Derived.Laws.NewBlocks
set_option linter.unusedVariables false
set_option linter.unusedSimpArgs false
namespace Go.Proofs.YtbkbpdpegiekhaaGreatDoor
open Go.RowKit Go.Proofs.YtbkbpdpegiekhaaGreatDoorW.PrintWords Mo

theorem run_copy_rows {P : Program} (w : World) (dT sT ty elem : TypeId) (k b o dLen dCap : Nat) (a : Addr) (sLen sCap : Nat) (cs : List Value)
    (hu : P.underlying dT = some (.slice elem)) (hs : (P.info? elem).map (·.size) = some k) (hn : cs.length = Nat.min sLen dLen * k)
    (hsrc : ∀ j v, cs[j]? = some v → w.cell? (a.add j) = some v) (hc : ∀ j, j < cs.length → (w.cell? ⟨b, o + j, none⟩).isSome = true) (hf : ∀ j, j < cs.length → w.frozen? ⟨b, o + j, none⟩ = false) (h1 : ∀ v ∈ cs, v.oneCell' = true) :
    (Builtin.copy_ #[dT, sT] ty #[.slice (some ⟨b, o, none⟩) dLen dCap, .slice (some a) sLen sCap]).run P w = .ok (goInt (Nat.min sLen dLen)) (w.setCells b o cs) := by
  have hl := run_loadCells_list (P := P) w a cs hsrc
  have hst := run_storeCells_cells (P := P) b o cs 0 w (by simpa using hc) (by simpa using hf) h1
  cases hq : P.info? elem with
  | none => simp [hq] at hs
  | some i =>
    have hi : i.size = k := by simpa [hq] using hs
    simp [Builtin.copy_, run_underlying hu, Builtin.lenOf, Builtin.firstCells, sizeOf, typeInfo, hq, hi, ← hn, hl, hst]
theorem step_copy_run {P : Program} {ops : Array Oper} {o : Oper} {a : Act} {w : World} {K : Act → World → Prop} {Q : Exit → Act → World → Prop} {E : Prop}
    (hg : o.guard = none) (d x : Operand) (dT sT : TypeId) (hop : o.op = Op.call { callee := Callee.builtin Builtin.copy, args := #[d, x], argTypes := #[dT, sT] })
    (v u : Value) (hd : a.eval d = v) (hx : a.eval x = u) {v' : Value} {w' : World} (hr : (Builtin.copy_ #[dT, sT] o.type #[v, u]).run P w = .ok v' w') (hK : K (a.put o.dst v') w') :
    if Region.wanted o (yielded ops a.tmps) = true then Oper.wp P o a w K Q else E := by
  have hw : Region.wanted o (yielded ops a.tmps) = true := by simp [Region.wanted, hg]
  rw [if_pos hw]
  unfold Oper.wp
  simp [execOp, hop, resolve, invoke, builtin, hd, hx, hr, Result.andThen]
  exact hK
theorem wpList_copy_run {P : Program} (w : World) {ops : Array Oper} {rest : List Oper} {o : Oper} {a : Act} {Q : Exit → Act → World → Prop} (hgd : o.guard = none) (d s : Operand) (t t' : TypeId)
    (ho : o.op = .call { callee := .builtin .copy, args := #[d, s], argTypes := #[t, t'] }) (v u : Value) (hd : a.eval d = v) (hs : a.eval s = u) {v' : Value} {w' : World}
    (hr : (Builtin.copy_ #[t, t'] o.type #[v, u]).run P w = .ok v' w') (h : wpList P ops Q rest (a.put o.dst v') w') : wpList P ops Q (o :: rest) a w :=
  wpList_plain hgd fun _ hK => by
    unfold Oper.wp execOp
    simp only [ho, resolve, invoke, builtin, Sem.run_bind, Sem.run_pure, Result.andThen_ok, List.map_toArray, List.map_cons, List.map_nil, hd, hs, hr]
    exact hK _ _ h

theorem over_two {α : Type} {cur z d : List α} {a c : Nat} (hz : z.length = c) (hl : a + c + d.length ≤ cur.length) : (over (over cur (a + c) d) a z).take (a + c + d.length) = cur.take a ++ (z ++ d) := by
  subst hz
  have h1 : (cur.take (a + z.length)).length = a + z.length := by rw [List.length_take]; omega
  have h2 : (over cur (a + z.length) d).take a = cur.take a := by
    unfold over
    rw [List.take_append_of_le_length (by omega), List.take_take, Nat.min_eq_left (by omega)]
  have h3 : (over cur (a + z.length) d).drop (a + z.length) = d ++ cur.drop (a + z.length + d.length) := by
    unfold over
    rw [List.drop_append_of_le_length (by omega), List.drop_of_length_le (by omega), List.nil_append]
  have h4 : (cur.take a).length = a := by rw [List.length_take]; omega
  show ((over cur (a + z.length) d).take a ++ (z ++ (over cur (a + z.length) d).drop (a + z.length))).take (a + z.length + d.length) = _
  rw [h2, h3, ← List.append_assoc, ← List.append_assoc, List.take_append_of_le_length (by simp only [List.length_append, h4]; omega), List.take_of_length_le (by simp only [List.length_append, h4]; omega), List.append_assoc]
/-- One element in a block of its own. -/
theorem C_one {α : Type} {d : Kd α} {w : World} {nb : Nat} {x : α} {cs : List Value} {t : TypeId} (h : d.K w x cs) (hb : w.heap[nb]? = some (.cells cs.toArray t (0, 0))) : d.C w (some ⟨nb, 0, none⟩) 1 [x] := by
  refine ⟨rfl, by simp, fun _ => ⟨_, rfl, fun j p hj => ?_⟩⟩
  cases j with
  | succ j => simp at hj
  | zero =>
    obtain rfl : x = p := by simpa using hj
    refine ⟨cs, d.K_len h, h, fun i u hu => ?_⟩
    rw [add_flat, cell_of_row w nb _ cs.toArray t (0, 0) hb]
    simpa using hu
theorem cN_len (x : Nd) : (cN x).length = 5 := rfl
theorem size46 : (Tryz.prog.info? 46).map (·.size) = some 5 := by
  obtain ⟨i0, hi0, hzz⟩ := Option.map_eq_some_iff.1 info46
  simp only [Prod.mk.injEq] at hzz
  rw [hi0]
  simp [hzz.2.1]
theorem sizeOf46 (w : World) : (Go.sizeOf 46).run Tryz.prog w = .ok 5 w := by
  obtain ⟨i0, hi0, hzz⟩ := Option.map_eq_some_iff.1 info46
  simp only [Prod.mk.injEq] at hzz
  simp [sizeOf, typeInfo, hi0, hzz.2.1]

set_option maxRecDepth 100000 in
set_option maxHeartbeats 4000000 in
/-- Behind the last one. -/
theorem insert_end (xs : List Nd) (x : Nd) (v : Value) (base nb : Nat) (w : World) (ho : Ow kN 46 w base v xs) (hb : base ≤ w.heap.size) (hnb : w.heap[nb]? = some (.cells (cN x).toArray 46 (0, 0))) (hsz : xs.length ≤ 1000000000) :
    Calls Tryz.prog 319 #[v, .int .i64 xs.length, .slice (some ⟨nb, 0, none⟩) 1 1] w fun e w' => ∃ v', e = .returned v' ∧ Ow kN 46 w' base v' (xs ++ [x]) ∧ w.grownBy w' v.ownBlock ∧ (v'.ownBlock = v.ownBlock ∨ v'.ownBlock = some w.heap.size) := by
  obtain ⟨A, cc, rfl, hcc⟩ := ho.slice
  have hm : cc ≤ 9223372036854775807 := by
    obtain ⟨inner, ⟨_, h2⟩, _⟩ := ho
    rcases h2 with ⟨h2, _⟩ | ⟨g, cap, cur, h3, _, _, _, h7, _, _⟩
    · injection h2 with _ _ h2; omega
    · injection h3 with _ _ h3; simp only [maxLen] at h7; omega
  have HO := Aside0.mk ho
  have HC := Aside0.mk (C_one (d := kN) (kN_mk w x) hnb)
  clear ho hnb
  obtain ⟨n, hn⟩ : ∃ n, n = xs.length := ⟨_, rfl⟩
  rw [← hn] at hcc hsz ⊢
  have HN := Aside0.mk hn
  clear hn
  by_cases hcn : cc = n
  all_goals
   go_enter Tryz.func319, Tryz.ntmps319
   go_wp2_with (at_builtin; refine Ow.app kN flat_node _ base rfl _ _ 22 46 _ 56 rfl Tryz.underlying22 info46 rfl (by decide) (.slice A n cc) xs [x] rfl (some ⟨nb, 0, none⟩) 1 rfl ?hC ?hO ?hB ?hL ?_; (case hC => exact HC.out); (case hO => rw [HN.out]; exact HO.out); (case hB => exact hb); (case hL => rw [← HN.out]; simp; omega); intro v1 w1 ho1 hg1 hat1; obtain ⟨A1, n1, c1, rfl⟩ := ho1.sl; have H1 := Aside0.mk ho1; have G1 := Aside0.mk hg1; have T1 := Aside0.mk hat1; clear ho1 hg1 hat1)
   go_ret
   exact ⟨_, rfl, H1.out, G1.out, T1.out⟩

theorem overlaps_apart (W : World) (g nb : Nat) (cur : Array Value) (x : Nd) (hg : W.heap[g]? = some (.cells cur 46 (0, 0))) (hc : 0 < cur.size) (hnb : W.heap[nb]? = some (.cells (cN x).toArray 46 (0, 0))) (hne : nb ≠ g) (o lb cb : Nat) :
    (callFunc 320 #[.slice (some ⟨nb, 0, none⟩) 1 1, .slice (some ⟨g, o, none⟩) lb cb]).run Tryz.prog W = .ok (.value (.bool false)) W := by
  have hsa : W.shape? nb = some (46, 5) := by simp [World.shape?, hnb]
  have hsb : W.shape? g = some (46, cur.size) := by simp [World.shape?, hg]
  rw [run_callFunc_extern Tryz.func320 (by kernel_rfl) (by kernel_rfl) (by kernel_rfl) (e := Extern.SlicesOverlaps.overlaps #[22, 22] #[4]) (by kernel_rfl),
    Lib.run_overlaps_apart W 22 4 46 Tryz.underlying22 5 sizeOf46 ⟨nb, 0, none⟩ ⟨g, o, none⟩ 1 1 lb cb hne 46 46 5 cur.size hsa hsb (by omega) (blk_frozen hnb 0) (blk_frozen hnb 5)]
  rfl

set_option maxRecDepth 100000 in
set_option maxHeartbeats 4000000 in
/-- Before others, where there is room. -/
theorem insert_room (xs : List Nd) (x : Nd) (base nb g cap i n : Nat) (cur : Array Value) (w : World) (hn : n = xs.length) (hi : i < n) (hbg : base ≤ g) (hg : w.heap[g]? = some (.cells cur 46 (0, 0))) (hroom : n + 1 ≤ cap) (hcm : cap ≤ maxLen) (hcs : cur.size = cap * 5)
    (hr : Reps (kN.K w) 5 xs (cur.toList.take (n * 5))) (hnb : w.heap[nb]? = some (.cells (cN x).toArray 46 (0, 0))) (hne : nb ≠ g) (hsz : n ≤ 1000000000) :
    Calls Tryz.prog 319 #[.slice (some ⟨g, 0, none⟩) n cap, .int .i64 i, .slice (some ⟨nb, 0, none⟩) 1 1] w fun e w' => e = .returned (.slice (some ⟨g, 0, none⟩) (n + 1) cap) ∧ Ow kN 46 w' base (.slice (some ⟨g, 0, none⟩) (n + 1) cap) (xs.take i ++ x :: xs.drop i) ∧ w.grownBy w' (some g) := by
  obtain ⟨inner, hin⟩ : ∃ inner, inner = cur.toList.take (n * 5) := ⟨_, rfl⟩
  rw [← hin] at hr
  have hcl : cur.toList.length = cap * 5 := by simpa using hcs
  have hil : inner.length = n * 5 := by rw [hin, List.length_take]; omega
  have hcell : ∀ k u, inner[k]? = some u → w.cell? ⟨g, k, none⟩ = some u := fun k u hu => by
    rw [cell_of_row w g k cur 46 (0, 0) hg]
    rw [hin, List.getElem?_take] at hu
    split at hu
    · simpa using hu
    · cases hu
  have hone := reps_one hr
  have hov := fun lb cb => overlaps_apart w g nb cur x hg (by omega) hnb hne ((i + 1) * 5) lb cb
  have hdl : (inner.drop (i * 5)).length = (n - i) * 5 := by rw [List.length_drop, hil]; omega
  have hsp : ∀ k, k < cap * 5 → (w.cell? ⟨g, k, none⟩).isSome = true := fun k hk => by
    rw [cell_of_row w g k cur 46 (0, 0) hg, Array.getElem?_eq_getElem (by omega)]; rfl
  have hfz : ∀ k, w.frozen? ⟨g, k, none⟩ = false := fun k => blk_frozen hg k
  obtain ⟨W1, hW1⟩ : ∃ W1, W1 = w.drew.setCells g ((i + 1) * 5) (inner.drop (i * 5)) := ⟨_, rfl⟩
  have hcp1 : ∀ ty dc sc, (Builtin.copy_ #[22, 22] ty #[.slice (some ⟨g, (i + 1) * 5, none⟩) (n - i) dc, .slice (some ⟨g, i * 5, none⟩) (n + 1 - i) sc]).run Tryz.prog w.drew = .ok (goInt ((n - i : Nat) : Int)) W1 := fun ty dc sc => by
    have h := run_copy_rows (P := Tryz.prog) w.drew 22 22 ty 46 5 g ((i + 1) * 5) (n - i) dc ⟨g, i * 5, none⟩ (n + 1 - i) sc (inner.drop (i * 5)) Tryz.underlying22 size46 (by rw [hdl, show Nat.min (n + 1 - i) (n - i) = n - i by simp only [Nat.min_def]; split <;> omega])
      (fun j v hj => by rw [add_flat]; exact hcell _ v (by rwa [List.getElem?_drop] at hj)) (fun j hj => hsp _ (by omega)) (fun j hj => hfz _) (fun v hv => hone v (List.mem_of_mem_drop hv))
    rw [show Nat.min (n + 1 - i) (n - i) = n - i by simp only [Nat.min_def]; split <;> omega, ← hW1] at h
    exact h
  have hb1 : W1.heap[g]? = some (.cells (over cur.toList ((i + 1) * 5) (inner.drop (i * 5))).toArray 46 (0, 0)) := by rw [hW1]; exact blk_setCells _ _ _ _ hg (by omega)
  have hovl : (over cur.toList ((i + 1) * 5) (inner.drop (i * 5))).length = cap * 5 := by rw [over_len (by omega)]; exact hcl
  have hg1 : w.grownBy W1 (some g) := by rw [hW1]; exact grown_trans (b := w.drew) ⟨rfl, rfl, rfl, Nat.le_refl _, fun _ _ _ => rfl⟩ (grown_setCells _ _ w.drew)
  have hnb1 : W1.heap[nb]? = some (.cells (cN x).toArray 46 (0, 0)) := blk_grown hnb hg1 (fun e => hne (by injection e))
  obtain ⟨W2, hW2⟩ : ∃ W2, W2 = W1.setCells g (i * 5) (cN x) := ⟨_, rfl⟩
  have hcp2 : ∀ ty dc, (Builtin.copy_ #[22, 22] ty #[.slice (some ⟨g, i * 5, none⟩) (n + 1 - i) dc, .slice (some ⟨nb, 0, none⟩) 1 1]).run Tryz.prog W1 = .ok (goInt 1) W2 := fun ty dc => by
    have hm : Nat.min 1 (n + 1 - i) = 1 := by simp only [Nat.min_def]; split <;> omega
    have h := run_copy_rows (P := Tryz.prog) W1 22 22 ty 46 5 g (i * 5) (n + 1 - i) dc ⟨nb, 0, none⟩ 1 1 (cN x) Tryz.underlying22 size46 (by rw [hm]; rfl)
      (fun j v hj => by rw [add_flat, cell_of_row W1 nb _ _ 46 (0, 0) hnb1]; simpa using hj) (fun j hj => by rw [cell_of_row W1 g _ _ 46 (0, 0) hb1, Array.getElem?_eq_getElem (by rw [cN_len] at hj; simp [hovl]; omega)]; rfl) (fun j hj => blk_frozen hb1 _) (reps_one (reps_single (d := kN) (kN_mk w x)))
    rw [hm, ← hW2] at h
    exact h
  have hend : Ow kN 46 W2 base (.slice (some ⟨g, 0, none⟩) (n + 1) cap) (xs.take i ++ x :: xs.drop i) ∧ w.grownBy W2 (some g) := by
    have hb2 : W2.heap[g]? = some (.cells (over (over cur.toList ((i + 1) * 5) (inner.drop (i * 5))) (i * 5) (cN x)).toArray 46 (0, 0)) := by
      rw [hW2]
      have := blk_setCells (g := g) (t := 46) (cN x) (i * 5) W1 _ hb1 (by rw [cN_len]; simp [hovl]; omega)
      simpa using this
    have hlen : (xs.take i ++ x :: xs.drop i).length = n + 1 := by rw [List.length_append, List.length_take, List.length_cons, List.length_drop, ← hn]; omega
    refine ⟨?_, grown_trans hg1 (by rw [hW2]; exact grown_setCells _ _ _)⟩
    rw [← hlen]
    refine Ow.of_block hbg hb2 (by omega) hcm (by simp; rw [over_len (by rw [cN_len]; omega), hovl]; rfl) ?_
    have he : (over (over cur.toList ((i + 1) * 5) (inner.drop (i * 5))) (i * 5) (cN x)).toArray.toList.take ((xs.take i ++ x :: xs.drop i).length * kN.sz) = inner.take (i * 5) ++ (cN x ++ inner.drop (i * 5)) := by
      have h2 : inner.take (i * 5) = cur.toList.take (i * 5) := by rw [hin, List.take_take, Nat.min_eq_left (by omega)]
      have h := over_two (cur := cur.toList) (z := cN x) (d := inner.drop (i * 5)) (a := i * 5) (c := 5) rfl (by omega)
      rw [show i * 5 + 5 = (i + 1) * 5 by omega, hdl, show (i + 1) * 5 + (n - i) * 5 = (n + 1) * 5 by omega] at h
      rw [hlen, show kN.sz = 5 from rfl, h2]
      exact h
    rw [he]
    have hx := reps_single (d := kN) (kN_mk w x)
    exact Reps.app (YtbkbpdpegiekhaaGreatDoorW.PrintWords.Reps.imp_ (Reps.take hr i) fun _ _ hk => flat_node.free hk) (Reps.app (YtbkbpdpegiekhaaGreatDoorW.PrintWords.Reps.imp_ hx fun _ _ hk => flat_node.free hk) (YtbkbpdpegiekhaaGreatDoorW.PrintWords.Reps.imp_ (Reps.drop hr i) fun _ _ hk => flat_node.free hk))
  have HEnd := Aside0.mk hend
  have HN := Aside0.mk hn
  have hni : ¬ (i = n) := by omega
  have hc63 : cap ≤ 9223372036854775807 := by simpa [maxLen] using hcm
  have hin2 : i ≤ n := by omega
  have hcn : ¬ (cap = i + 1) := by omega
  have hci : ¬ (cap = i) := by omega
  have hwr : IntKind.i64.wrap ((i : Int) + 1) = (i : Int) + 1 := by rw [IntKind.wrap_i64]; omega
  have hb0 : (0 : Int) ≤ (i : Int) + 1 := by omega
  have htn : ((i : Int) + 1).toNat = i + 1 := by omega
  have hb3 : (i : Int) ≤ (n : Int) + 1 := by omega
  clear hend hb1 hovl hg1 hnb1 hsp hfz hcell hone hr hW1 hW2 hin hil hcl hcs hg hdl hnb hn hcm
  go_enter Tryz.func319, Tryz.ntmps319
  go_wp2_with (simp only [hov])
  go_region_law (refine step_copy_run rfl _ _ 22 22 rfl _ _ (by simp [Act.eval, Act.put]) (by simp [Act.eval, Act.put]) (hcp1 _ _ _) ?_)
  go_wp2_with (at_builtin; refine wpList_copy_run _ rfl _ _ 22 22 rfl _ _ rfl rfl (hcp2 _ _) ?_)
  go_ret
  exact ⟨rfl, HEnd.out⟩

end Go.Proofs.YtbkbpdpegiekhaaGreatDoor
