/- What newSecond's walk wants. -/
import Derived.Test.YtbkbpdpegiekhaaGreatDoorR21
set_option linter.unusedVariables false
set_option linter.unusedSimpArgs false
namespace Go.Proofs.YtbkbpdpegiekhaaGreatDoor
open Go.RowKit Go.Proofs.YtbkbpdpegiekhaaGreatDoorW.PrintWords Mo

/-- append(v, ys...) at a step of a region that draws its order. -/
theorem Ow.app_step {P : Program} {ops : Array Oper} {o : Oper} {a : Act} {K : Act → World → Prop} {Q : Exit → Act → World → Prop} {E : Prop} {α : Type} (d : Kd α) (hF : Flat d) (W : World) (base : Nat) (hgd : o.guard = none) (s x : Operand) (t e : TypeId) (z : Value) (bytes : Nat)
    (ho : o.op = .call { callee := .builtin .append, args := #[s, x], argTypes := #[t, t] })
    (ht : P.underlying t = some (.slice e)) (hinfo : (P.info? e).map (fun i => (i.zero, i.size, i.bytes)) = some (some z, d.sz, bytes)) (hz : z.cells.size = d.sz) (hb0 : 0 < bytes)
    (v : Value) (xs ys : List α) (hs : a.eval s = v) (hne : ys ≠ []) (A : Option Addr) (c : Nat) (hx : a.eval x = .slice A ys.length c) (hy : d.C W A ys.length ys)
    (HO : Ow d e W base v xs) (hbase : base ≤ W.heap.size) (hl : (xs.length + ys.length) * bytes ≤ 140737488355328)
    (h : ∀ v1 w1, Ow d e w1 base v1 (xs ++ ys) → W.grownBy w1 v.ownBlock → (v1.ownBlock = v.ownBlock ∨ v1.ownBlock = some W.heap.size) → K (a.put o.dst v1) w1) :
    if Region.wanted o (yielded ops a.tmps) = true then Oper.wp P o a W K Q else E := by
  have hw : Region.wanted o (yielded ops a.tmps) = true := by simp [Region.wanted, hgd]
  rw [if_pos hw]
  obtain ⟨i0, hi, hzz⟩ := Option.map_eq_some_iff.1 hinfo
  simp only [Prod.mk.injEq] at hzz
  obtain ⟨hz0, hz1, hz2⟩ := hzz
  obtain ⟨inner, hown, hr⟩ := HO
  obtain ⟨ad, news, rfl, hrn, hcell⟩ := hF.cells hy hne
  have hlen : xs.length + ys.length ≤ 140737488355328 := Nat.le_trans (Nat.le_mul_of_pos_right _ hb0) hl
  obtain ⟨v1, w1, hrun, hown1, hg, _, hat⟩ := run_append_own_at (w := W) base t o.type e i0 z d.sz bytes ht hi hz0 hz1 hz2 hz hF.pos v xs.length inner hown ad ys.length c news hrn.1 hcell (Reps.one hF.pos hrn) (by simp only [maxLen]; omega) hl hbase
  unfold Oper.wp
  simp only [execOp, ho, resolve, invoke, builtin, Sem.run_bind, Sem.run_pure, Result.andThen_ok, List.map_toArray, List.map_cons, List.map_nil, hs, hx, hrun]
  refine h v1 w1 ⟨inner ++ news, ?_, ?_⟩ hg hat
  · rw [List.length_append]; exact hown1
  · exact YtbkbpdpegiekhaaGreatDoorW.PrintWords.Reps.imp_ (Reps.app hr hrn) fun _ _ hp => hF.free hp

theorem Nmap.put_run {w : World} {b : Nat} {xs : List Nd} (h : Nmap w b xs) (hl : xs.length ≤ 1000000000000) (n : Nd) (hs : n.path.size ≤ 9223372036854775807) :
    ∃ w', (Instr.mapUpdate 123 (.map (some b)) (.string n.path) (vN n)).run Tryz.prog w = .ok () w' ∧ Nmap w' b (xs ++ [n]) ∧ w.grownBy w' (some b) := by
  obtain ⟨k, D, hn, h, hd⟩ := h
  obtain ⟨w', hrun, h', hg'⟩ := h.update (key := .string n.path) (kl := keyS n.path) law9 Tryz.underlying123 (by unfold maxLen; omega) (WideMaps.keyOf_string_mk Tryz.underlying9 (by simpa [maxLen] using hs)) (nodeElem_mk n)
  refine ⟨w', hrun, ⟨k + 1, _, by simp; omega, h', fun t => ?_⟩, hg'⟩
  rw [lastAt_snoc]
  by_cases e : n.path = t
  · subst e
    rw [if_pos rfl, Maps.has_put_same h.isMap (show WideAt.IsKeyLit (keyS _) from trivial), Maps.atKey_put_same h.isMap (show WideAt.IsKeyLit (keyS _) from trivial)]
    exact ⟨rfl, fun m hm => by rw [Option.some.inj hm]⟩
  · rw [if_neg e, Maps.has_put_other (keyS_ne e), Maps.atKey_put_other (keyS_ne e)]
    exact hd t
theorem Nmap.cell_ne {w : World} {m g : Nat} {xs : List Nd} {cs : Array Value} {t : TypeId} (h : Nmap w m xs) (hg : w.heap[g]? = some (.cells cs t (0, 0))) : g ≠ m := by
  obtain ⟨n, D, _, ⟨es, clock, hb, _⟩, _⟩ := h
  intro e
  rw [e, hb] at hg
  cases hg
theorem Ow.ne_map {α : Type} {d : Kd α} {e : Nat} {w : World} {base m : Nat} {v : Value} {xs : List α} {ns : List Nd} (h : Ow d e w base v xs) (hm : Nmap w m ns) : v.ownBlock ≠ some m := by
  intro hk
  obtain ⟨c, hc⟩ := h.typed m hk
  exact hm.cell_ne hc rfl
theorem fileS_snoc_dir (l : List Nd) (n : Nd) (h : n.dir = true) : fileS (l ++ [n]) = fileS l := by
  unfold fileS
  rw [List.filter_append, List.filter_cons, if_neg (by simp [h])]
  simp
theorem fileS_snoc_file (l : List Nd) (n : Nd) (h : n.dir = false) : fileS (l ++ [n]) = fileS l ++ [n.path] := by
  unfold fileS
  rw [List.filter_append, List.filter_cons, if_pos (by simp [h])]
  simp
theorem fileS_len (l : List Nd) : (fileS l).length ≤ l.length := by
  unfold fileS
  rw [List.length_map]
  exact List.length_filter_le _ _

theorem take_node (l : List Nd) (k : Nat) (h : k < l.length) : l.take (k + 1) = l.take k ++ [l.getD k Nd.zero] := by
  rw [List.take_add_one, List.getD_eq_getElem?_getD, List.getElem?_eq_getElem h]; rfl

/-- What newSecond's loop keeps. -/
structure NS (w wr : World) (lc : Array Value) (g m : Nat) (a0 a1 a2 vf ve : Value) (E : List S) (md : List Nd) (fd : List S) : Prop where
  lay : wr.heap[w.heap.size]? = some (.cells lc 25 (0, 0))
  sec : wr.heap[g]? = some (.cells #[a0, a1, a2, .map (some m), vf, ve] 171 (0, 0))
  map : Nmap wr m md
  ens : Ow Kd.string 9 wr w.heap.size ve E
  fil : Ow Kd.string 9 wr w.heap.size vf fd
  ne : ve.ownBlock = none ∨ ve.ownBlock ≠ vf.ownBlock
  below : Below w.heap.size w wr
  mb : w.heap.size < m
  gb : w.heap.size < g
section
variable {w wr wr' : World} {lc : Array Value} {g m : Nat} {a0 a1 a2 vf ve : Value} {E : List S} {md : List Nd} {fd : List S}
theorem NS.step (h : NS w wr lc g m a0 a1 a2 vf ve E md fd) (hb : Below wr.heap.size wr wr') : NS w wr' lc g m a0 a1 a2 vf ve E md fd :=
  ⟨(hb.block _ (blk_lt h.lay)).trans h.lay, (hb.block _ (blk_lt h.sec)).trans h.sec, h.map.below hb, h.ens.below flat_string hb, h.fil.below flat_string hb, h.ne, below_then h.below h.below.size hb, h.mb, h.gb⟩
theorem NS.mapped (h : NS w wr lc g m a0 a1 a2 vf ve E md fd) {md' : List Nd} (hm : Nmap wr' m md') (hg : wr.grownBy wr' (some m)) : NS w wr' lc g m a0 a1 a2 vf ve E md' fd :=
  ⟨blk_grown h.lay hg (fun e => by injection e with e; exact h.map.cell_ne h.lay e), blk_grown h.sec hg (fun e => by injection e with e; exact h.map.cell_ne h.sec e), hm,
    h.ens.grown flat_string hg (.inr (h.ens.ne_map h.map)), h.fil.grown flat_string hg (.inr (h.fil.ne_map h.map)), h.ne, h.below.grown hg h.below.size (fun k hk => by injection hk with hk; have := h.mb; omega), h.mb, h.gb⟩
theorem NS.put (h : NS w wr lc g m a0 a1 a2 vf ve E md fd) {vf' : Value} {fd' : List S} (ho : Ow Kd.string 9 wr' w.heap.size vf' fd') (hg : wr.grownBy wr' vf.ownBlock) (hat : vf'.ownBlock = vf.ownBlock ∨ vf'.ownBlock = some wr.heap.size) :
    NS w (wr'.setCell ⟨g, 4, none⟩ vf') lc g m a0 a1 a2 vf' ve E md fd' := by
  have hs := blk_grown h.sec hg (fun e => h.fil.ne_type h.sec (by decide) e.symm)
  have hl := blk_grown h.lay hg (fun e => h.fil.ne_type h.lay (by decide) e.symm)
  have hm := h.map.kept hg (fun e => h.fil.ne_map h.map e.symm)
  have hen := h.ens.grown flat_string hg h.ne
  have hgs : wr'.grownBy (wr'.setCell ⟨g, 4, none⟩ vf') (some g) := ⟨rfl, rfl, rfl, by simp [World.setCell], fun k hk hne => Below.heap_setCell _ _ _ _ (fun e => hne (by rw [e]))⟩
  refine ⟨blk_far hl (by have := h.gb; intro e; simp at e; omega) _, ?_, hm.kept hgs (fun e => by injection e with e; exact hm.cell_ne hs e.symm), hen.grown flat_string hgs (.inr (hen.ne_type hs (by decide))), ho.grown flat_string hgs (.inr (ho.ne_type hs (by decide))), ?_, ?_, h.mb, h.gb⟩
  · have := blk_set hs 4 vf'
    simpa using this
  · rcases h.ne with h1 | h1
    · exact .inl h1
    · rcases hat with h2 | h2
      · right; rw [h2]; exact h1
      · right
        rw [h2]
        intro e
        have := h.ens.lt _ e
        omega
  · exact (h.below.grown hg h.below.size (fun k hk => h.fil.base_le k hk)).setCell (by have := h.gb; simp; omega) _
end

theorem ChkS.keepAD {w W : World} {va vw vo : Value} {o : Obj} (h : ChkS w va vw vo W.drew) : ChkS w va vw vo (W.alloc o).drew := (h.st.alloc o).all

/-- The cells that a region reads: the map's variable, a node. -/
def NB (g m nb : Nat) (x : Nd) (W : World) : Prop := W.cell? ⟨g, 3, none⟩ = some (.map (some m)) ∧ W.cell? ⟨nb, 0, none⟩ = some (.string x.path) ∧ W.cell? ⟨nb, 1, none⟩ = some (.bool x.dir) ∧
  W.cell? ⟨nb, 2, none⟩ = some (.string x.data) ∧ W.cell? ⟨nb, 3, none⟩ = some (.int .i64 x.mode) ∧ W.cell? ⟨nb, 4, none⟩ = some (.int .i64 x.time)
theorem NB.mk {g m nb : Nat} {x : Nd} {W : World} {a0 a1 a2 vf ve : Value} (hs : W.heap[g]? = some (.cells #[a0, a1, a2, .map (some m), vf, ve] 171 (0, 0)))
    (hn : W.heap[nb]? = some (.cells #[.string x.path, .bool x.dir, .string x.data, .int .i64 x.mode, .int .i64 x.time] 46 (0, 0))) : NB g m nb x W :=
  ⟨blk_cell hs 3, blk_cell hn 0, blk_cell hn 1, blk_cell hn 2, blk_cell hn 3, blk_cell hn 4⟩

end Go.Proofs.YtbkbpdpegiekhaaGreatDoor
