/- apply: what is kept while a layer is laid. -/
import Derived.Test.YtbkbpdpegiekhaaGreatDoorT14
import Derived.Test.YtbkbpdpegiekhaaGreatDoorU4
/- apply: one path of a layer. -/
set_option linter.unusedVariables false
set_option linter.unusedSimpArgs false
namespace Go.Proofs.YtbkbpdpegiekhaaGreatDoor
open Go.RowKit Go.Proofs.YtbkbpdpegiekhaaGreatDoorW.PrintWords Mo

theorem path_right2 {l : Ly} {p : S} (h : Okl l) (hp : p ∈ pathsL l) : pRight p = true := by
  rcases mem_pathsL.1 hp with hp | ⟨n, hn, rfl⟩
  · exact h.ens_right hp
  · exact (h.right n hn).1

set_option maxRecDepth 100000 in
set_option maxHeartbeats 2000000 in
theorem adder_path (l : Ly) (p : S) (xs : List Nd) (ab mb tb base : Nat) (v : Value) (w : World) (hB : 2 < base) (hE : Env w) (hl : Okl l) (hp : p ∈ pathsL l) (hab : w.heap[ab]? = some (.cells #[.pointer (some ⟨tb, 0, none⟩), .map (some mb)] 211 (0, 0)))
    (hm : Nmap w mb l.adds) (ht : Tr base w tb v xs) (ho : Okt xs) (hx : ∀ n ∈ xs, n.path.size < 1000000000) (hps : p.size ≤ 100000) (hlen : xs.length ≤ 10000000) :
    Calls Tryz.prog 180 #[.pointer (some ⟨ab, 0, none⟩), .string p] w (Laid1 base w tb v (stepF l xs p)) := by
  have hr := path_right2 hl hp
  have HM := Aside0.mk hm
  have c0 := blk_cell hab 0
  have c1 := blk_cell hab 1
  have HT := Aside0.mk ht
  cases hla : lastAt l.adds p with
  | some n =>
    have hn : n ∈ l.adds ∧ n.path = p := by
      rw [lastAt_atT hl.adds] at hla
      exact atT_mem hla
    obtain ⟨W, hW⟩ : ∃ W, W = w.alloc (.cells #[.string n.path, .bool n.dir, .string n.data, .int .i64 n.mode, .int .i64 n.time] 46) := ⟨_, rfl⟩
    have hbw : Below w.heap.size w W := by rw [hW]; exact ((Grew.refl w).alloc _).below
    have hnb : W.heap[w.heap.size]? = some (.cells #[.string n.path, .bool n.dir, .string n.data, .int .i64 n.mode, .int .i64 n.time] 46 (0, 0)) := by rw [hW]; exact heap_alloc_new w _
    have HBl := Aside0.mk hbw.drew
    have HP := Aside0.mk (tree_Put n xs base tb v W.drew hB (hE.below HBl.out) (ht.below HBl.out) ho (by rw [hn.2]; exact hr) (hl.right n hn.1).2 hx (by rw [hn.2]; omega) (by rw [hn.2]; omega))
    have HS := Aside0.mk (show stepF l xs p = putF xs n by unfold stepF; rw [hla])
    have hla := Aside0.mk (show (lastAt l.adds p).getD Nd.zero = n ∧ (lastAt l.adds p).isSome = true by rw [hla]; exact ⟨rfl, rfl⟩)
    have K0 := Aside0.mk (blk_cell ((hbw.block ab (blk_lt hab)).trans hab) 0)
    have HNb := Aside0.mk hnb
    have HW := Aside0.mk hW
    clear hE hl hp hab hm ht ho hx hr hn hnb hbw hW
    go_enter Tryz.func180, Tryz.ntmps180
    go_wp2_with (at_lookup; refine Nmap.look _ rfl _ _ _ rfl _ _ rfl HM.out _ (by omega) rfl ?_; rw [hla.out.1, hla.out.2])
    rw [← HW.out]
    have k0 := K0.out
    have m0 := blk_cell HNb.out 0
    have m1 := blk_cell HNb.out 1
    have m2 := blk_cell HNb.out 2
    have m3 := blk_cell HNb.out 3
    have m4 := blk_cell HNb.out 4
    clear HW
    go_still_tail 5, (by kernel_rfl)
    go_wp2_with fail
    refine HP.out.mono ?_
    intro e1 w1 h1
    have H1 := Aside0.mk (Laid1.after (zs := xs) HT.out (TSt.of_below HBl.out) (Heir.refl _ _) h1)
    rw [← HS.out] at H1
    rcases h1 with ⟨_, rfl, _⟩ | ⟨_, rfl, _⟩
    · go_wp2_with fail
      go_ret
      exact H1.out
    · go_wp2_with fail
      go_ret
      exact H1.out
  | none =>
    have HBl := Aside0.mk ((Grew.refl w).alloc (.cells #[.string Nd.zero.path, .bool Nd.zero.dir, .string Nd.zero.data, .int .i64 Nd.zero.mode, .int .i64 Nd.zero.time] 46)).below
    have HP := Aside0.mk (tree_Ensure p xs base tb v (w.alloc (.cells #[.string Nd.zero.path, .bool Nd.zero.dir, .string Nd.zero.data, .int .i64 Nd.zero.mode, .int .i64 Nd.zero.time] 46)) hB (hE.below HBl.out) (ht.below HBl.out) ho hr hx (by omega) (by omega))
    have HS := Aside0.mk (show stepF l xs p = ensF xs p by unfold stepF; rw [hla])
    have hla := Aside0.mk (show (lastAt l.adds p).getD Nd.zero = Nd.zero ∧ (lastAt l.adds p).isSome = false by rw [hla]; exact ⟨rfl, rfl⟩)
    have k0 := blk_cell ((HBl.out.block ab (blk_lt hab)).trans hab) 0
    clear hE hl hp hab hm ht ho hx hr
    go_enter Tryz.func180, Tryz.ntmps180
    go_wp2_with (at_lookup; refine Nmap.look _ rfl _ _ _ rfl _ _ rfl HM.out _ (by omega) rfl ?_; rw [hla.out.1, hla.out.2])
    refine HP.out.mono ?_
    intro e1 w1 h1
    have H1 := Aside0.mk (Laid1.after (zs := xs) HT.out (TSt.of_below HBl.out) (Heir.refl _ _) h1)
    rw [← HS.out] at H1
    rcases h1 with ⟨_, rfl, _⟩ | ⟨_, rfl, _⟩
    · go_wp2_with fail
      go_ret
      exact H1.out
    · go_wp2_with fail
      go_ret
      exact H1.out

end Go.Proofs.YtbkbpdpegiekhaaGreatDoor

set_option linter.unusedVariables false
set_option linter.unusedSimpArgs false
namespace Go.Proofs.YtbkbpdpegiekhaaGreatDoor
open Go.RowKit Go.Proofs.YtbkbpdpegiekhaaGreatDoorW.PrintWords Mo

theorem Nmap.move {w w' : World} {b : Nat} {xs : List Nd} (h : Nmap w b xs) (hb : w'.heap[b]? = w.heap[b]?) : Nmap w' b xs := by
  obtain ⟨n, D, hn, ⟨es, clock, h1, h2⟩, hd⟩ := h
  exact ⟨n, D, hn, ⟨es, clock, hb.trans h1, h2⟩, hd⟩
theorem rows_apart {α β : Type} {d : Kd α} {d' : Kd β} {e e' : Nat} {w : World} {base base' : Nat} {v v' : Value} {xs : List α} {ys : List β} (h : Ow d e w base v xs) (h' : Ow d' e' w base' v' ys) (hne : e ≠ e') {k : Nat} (hk : v.ownBlock = some k) : v'.ownBlock ≠ some k := by
  intro hk'
  obtain ⟨c, hc⟩ := h.typed k hk
  obtain ⟨c', hc'⟩ := h'.typed k hk'
  rw [hc] at hc'
  injection hc' with hc'
  injection hc' with _ e
  exact hne e
/-- The layer, the map, the adder, the paths; w: the world when it began. -/
structure AP (w wr : World) (va vw vo : Value) (tb : Nat) (vp : Value) (ps : List S) (ms : List Nd) : Prop where
  lay : wr.heap[w.heap.size]? = some (.cells #[va, vw, vo] 25 (0, 0))
  ab : wr.heap[w.heap.size + 2]? = some (.cells #[.pointer (some ⟨tb, 0, none⟩), .map (some (w.heap.size + 1))] 211 (0, 0))
  map : Nmap wr (w.heap.size + 1) ms
  row : Ow Kd.string 9 wr w.heap.size vp ps
  old : tb < w.heap.size
section
variable {w wr wr' : World} {va vw vo v vp : Value} {tb base : Nat} {ps : List S} {ms xs : List Nd}
theorem AP.step (h : AP w wr va vw vo tb vp ps ms) (hb : Below wr.heap.size wr wr') : AP w wr' va vw vo tb vp ps ms :=
  ⟨(hb.block _ (blk_lt h.lay)).trans h.lay, (hb.block _ (blk_lt h.ab)).trans h.ab, h.map.below hb, h.row.below flat_string hb, h.old⟩
/-- The tree has turned. -/
theorem AP.tree (h : AP w wr va vw vo tb vp ps ms) (ht : Tr base wr tb v xs) (hs : TSt wr wr' tb v) : AP w wr' va vw vo tb vp ps ms := by
  have ho := h.old
  refine ⟨(hs.block _ (blk_lt h.lay) (by omega) (ht.row.ne_type h.lay (by decide))).trans h.lay, (hs.block _ (blk_lt h.ab) (by omega) (ht.row.ne_type h.ab (by decide))).trans h.ab,
    h.map.move (hs.block _ h.map.lt (by omega) (ht.row.ne_map h.map)), h.row.move flat_string fun k hk => hs.block k (h.row.lt k hk) (by have := h.row.base_le k hk; omega) (rows_apart h.row ht.row (by decide) hk), h.old⟩
/-- The map has turned. -/
theorem AP.mapped (h : AP w wr va vw vo tb vp ps ms) {ms' : List Nd} (hm : Nmap wr' (w.heap.size + 1) ms') (hg : wr.grownBy wr' (some (w.heap.size + 1))) : AP w wr' va vw vo tb vp ps ms' :=
  ⟨blk_grown h.lay hg (fun e => by injection e with e; omega), blk_grown h.ab hg (fun e => by injection e with e; omega), hm, h.row.grown flat_string hg (.inr (h.row.ne_map h.map)), h.old⟩
/-- The paths have turned. -/
theorem AP.listed (h : AP w wr va vw vo tb vp ps ms) {vp' : Value} {ps' : List S} (ho : Ow Kd.string 9 wr' w.heap.size vp' ps') (hg : wr.grownBy wr' vp.ownBlock) : AP w wr' va vw vo tb vp' ps' ms :=
  ⟨blk_grown h.lay hg (fun e => h.row.ne_type h.lay (by decide) e.symm), blk_grown h.ab hg (fun e => h.row.ne_type h.ab (by decide) e.symm), h.map.kept hg (fun e => h.row.ne_map h.map e.symm), ho, h.old⟩
end
theorem Tr.grown {base : Nat} {w w' : World} {tb : Nat} {v : Value} {xs : List Nd} {row : Option Nat} (h : Tr base w tb v xs) (hg : w.grownBy w' row) (h1 : row ≠ some tb) (h2 : v.ownBlock = none ∨ v.ownBlock ≠ row) : Tr base w' tb v xs :=
  ⟨blk_grown h.box hg (fun e => h1 e.symm), h.row.grown flat_node hg h2, h.lo⟩
theorem AP.grown {w wr wr' : World} {va vw vo v vp : Value} {tb base : Nat} {ps : List S} {ms xs : List Nd} (h : AP w wr va vw vo tb vp ps ms) (ht : Tr base wr tb v xs) (hg : wr.grownBy wr' vp.ownBlock) : Tr base wr' tb v xs := by
  refine ht.grown hg (fun e => by have := h.row.base_le tb e; have := h.old; omega) ?_
  cases hv : v.ownBlock with
  | none => exact .inl rfl
  | some k => exact .inr fun e => rows_apart ht.row h.row (by decide) hv e.symm
theorem stepF_ok {l : Ly} {c : List Nd} {p : S} (hl : Okl l) (hp : p ∈ pathsL l) (ho : Okt c) : Okt (stepF l c p) := by
  unfold stepF
  cases hla : lastAt l.adds p with
  | some n =>
    have hn : n ∈ l.adds ∧ n.path = p := by
      rw [lastAt_atT hl.adds] at hla
      exact atT_mem hla
    exact ho.putF (by rw [hn.2]; exact hl.paths_fine hp)
  | none => exact ho.ensF (hl.paths_fine hp)
theorem stepF_small {l : Ly} {c : List Nd} {p : S} {B : Nat} (hl : Okl l) (hc : ∀ n ∈ c, n.path.size < B) (hp : p.size < B) : ∀ n ∈ stepF l c p, n.path.size < B := by
  unfold stepF
  cases hla : lastAt l.adds p with
  | some n =>
    have hn : n ∈ l.adds ∧ n.path = p := by
      rw [lastAt_atT hl.adds] at hla
      exact atT_mem hla
    exact putF_small hc (by rw [hn.2]; exact hp)
  | none => exact ensF_small hc hp
theorem paths_small {l : Ly} (h : Lb l) : ∀ s ∈ ensL l ++ l.adds.map (·.path), s.size ≤ 100000 := by
  intro s hs
  rcases List.mem_append.1 hs with hs | hs
  · exact ensL_small h s hs
  · obtain ⟨n, hn, rfl⟩ := List.mem_map.1 hs
    exact h.a n hn
theorem drops_small {B : Nat} : ∀ (ws : List S) (c : List Nd), (∀ n ∈ c, n.path.size < B) → ∀ n ∈ ws.foldl dropF c, n.path.size < B
  | [], c, h => h
  | w :: t, c, h => drops_small t (dropF c w) (drop_small h)
theorem drops_len : ∀ (ws : List S) (c : List Nd), (ws.foldl dropF c).length ≤ c.length
  | [], c => Nat.le_refl _
  | w :: t, c => Nat.le_trans (drops_len t (dropF c w)) (drop_len c w)
theorem clear_small {c : List Nd} {p : S} {B : Nat} (h : ∀ n ∈ c, n.path.size < B) : ∀ m ∈ clearF c p, m.path.size < B := by
  intro m hm
  unfold clearF at hm
  split at hm
  · cases hm
  · exact h m (List.mem_filter.1 hm).1
theorem clears_small {B : Nat} : ∀ (ws : List S) (c : List Nd), (∀ n ∈ c, n.path.size < B) → ∀ n ∈ ws.foldl clearF c, n.path.size < B
  | [], c, h => h
  | w :: t, c, h => clears_small t (clearF c w) (clear_small h)
theorem clears_len : ∀ (ws : List S) (c : List Nd), (ws.foldl clearF c).length ≤ c.length
  | [], c => Nat.le_refl _
  | w :: t, c => Nat.le_trans (clears_len t (clearF c w)) (clear_len c w)
theorem foldl_take {α β : Type} (f : α → β → α) (a : α) (l : List β) (k : Nat) (h : k < l.length) : (l.take (k + 1)).foldl f a = f ((l.take k).foldl f a) l[k] := by
  rw [List.take_succ_eq_append_getElem h, List.foldl_append]
  rfl
end Go.Proofs.YtbkbpdpegiekhaaGreatDoor
