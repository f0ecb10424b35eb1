/- Rows of the call's own, of elements that name no memory: read, appended to. -/
import Derived.Test.YtbkbpdpegiekhaaGreatDoorB0
set_option linter.unusedVariables false
set_option linter.unusedSimpArgs false
namespace Go.Proofs.YtbkbpdpegiekhaaGreatDoor
open Go.RowKit Go.Proofs.YtbkbpdpegiekhaaGreatDoorW.PrintWords Mo

/-- What such an element's cells say hangs on no world. -/
structure Flat {α : Type} (d : Kd α) : Prop where
  pos : 0 < d.sz
  free : ∀ {w w' : World} {x cs}, d.K w x cs → d.K w' x cs
theorem flat_scalar {α : Type} (enc : α → Value) (h1 : ∀ x, (enc x).oneCell' = true) : Flat (Kd.scalar enc h1) := ⟨Nat.one_pos, fun h => h⟩
theorem flat_string : Flat Kd.string := flat_scalar _ _
theorem flat_int (k : IntKind) : Flat (Kd.int k) := flat_scalar _ _
theorem flat_pair {α β : Type} {a : Kd α} {b : Kd β} (ha : Flat a) (hb : Flat b) : Flat (Kd.pair a b) :=
  ⟨Nat.lt_of_lt_of_le ha.pos (Nat.le_add_right _ _), fun ⟨c0, c1, e, h0, h1⟩ => ⟨c0, c1, e, ha.free h0, hb.free h1⟩⟩
theorem flat_iso {α β : Type} {d : Kd α} (f : β → α) (h : Flat d) : Flat (Kd.iso d f) := ⟨h.pos, fun k => h.free k⟩
theorem flat_node : Flat kN := flat_iso _ (flat_pair flat_string (flat_pair (flat_scalar _ _) (flat_pair flat_string (flat_pair (flat_int _) (flat_int _)))))

theorem Reps.app {α : Type} {R : α → List Value → Prop} {size : Nat} {ps qs : List α} {cs ds : List Value} (h : Reps R size ps cs) (k : Reps R size qs ds) : Reps R size (ps ++ qs) (cs ++ ds) := by
  refine ⟨by rw [List.length_append, List.length_append, h.1, k.1, Nat.add_mul], fun j p hj => ?_⟩
  rcases Nat.lt_or_ge j ps.length with hlt | hge
  · rw [List.getElem?_append_left hlt] at hj
    have h1 : j * size + size ≤ cs.length := by rw [h.1, ← Nat.succ_mul]; exact Nat.mul_le_mul_right _ hlt
    rw [List.drop_append_of_le_length (by omega), List.take_append_of_le_length (by rw [List.length_drop]; omega)]
    exact h.2 j p hj
  · rw [List.getElem?_append_right hge] at hj
    have h2 := k.2 _ p hj
    have e : j * size = cs.length + (j - ps.length) * size := by
      rw [h.1, ← Nat.add_mul]
      congr 1
      omega
    rw [e, ← List.drop_drop, List.drop_left]
    exact h2

/-- A row of the call's own. -/
def Ow {α : Type} (d : Kd α) (e : Nat) (w : World) (base : Nat) (v : Value) (xs : List α) : Prop :=
  ∃ inner, w.ownsRow base e d.sz v xs.length inner ∧ Reps (d.K w) d.sz xs inner
section
variable {α : Type} {d : Kd α} {e : Nat} {w w' : World} {base : Nat} {v : Value} {xs : List α}
theorem Ow.nil (d : Kd α) (e : Nat) (w : World) (base : Nat) : Ow d e w base (.slice none 0 0) [] := ⟨[], own_nil _ _ _ _, Reps.none _ _⟩
theorem Ow.of_R {ok : Nat → Prop} (h : d.R e w base ok v xs) : Ow d e w base v xs := by
  obtain ⟨_, inner, ho, hr⟩ := h
  exact ⟨inner, ho, hr.imp_ fun _ _ hp => d.K_of_M hp⟩
theorem Ow.rd (h : Ow d e w base v xs) : Rd d w v xs := by
  obtain ⟨inner, ho, hr⟩ := h
  obtain ⟨A, c, e1, hc⟩ := own_reads_row ho hr rfl
  refine ⟨A, c, e1, ?_, hc⟩
  rcases ho.2 with ⟨h1, h2⟩ | ⟨g, cap, cur, h1, _, _, h2, _⟩
  · omega
  · rw [h1] at e1
    simp only [Value.slice.injEq] at e1
    omega
theorem Ow.slice (h : Ow d e w base v xs) : ∃ A c, v = .slice A xs.length c ∧ xs.length ≤ c := by
  obtain ⟨A, c, e1, hl, _⟩ := h.rd
  exact ⟨A, c, e1, hl⟩
theorem Ow.move (hF : Flat d) (h : Ow d e w base v xs) (hm : ∀ k, v.ownBlock = some k → w'.heap[k]? = w.heap[k]?) : Ow d e w' base v xs := by
  obtain ⟨inner, ho, hr⟩ := h
  exact ⟨inner, own_move ho hm, hr.imp_ fun _ _ hp => hF.free hp⟩
theorem Ow.lt (h : Ow d e w base v xs) : ∀ k, v.ownBlock = some k → k < w.heap.size := by
  obtain ⟨inner, ho, hr⟩ := h
  exact own_lt ho
theorem Ow.base_le (h : Ow d e w base v xs) : ∀ k, v.ownBlock = some k → base ≤ k := by
  obtain ⟨inner, ho, hr⟩ := h
  exact own_base ho
theorem Ow.below (hF : Flat d) (h : Ow d e w base v xs) (hb : Below w.heap.size w w') : Ow d e w' base v xs := h.move hF fun k hk => hb.block k (h.lt k hk)
theorem Ow.grown (hF : Flat d) (h : Ow d e w base v xs) {row : Option Nat} (hg : w.grownBy w' row) (hne : v.ownBlock = none ∨ v.ownBlock ≠ row) : Ow d e w' base v xs :=
  h.move hF fun k hk => hg.block k (h.lt k hk) (by rcases hne with h1 | h1; rw [h1] at hk; cases hk; rw [← hk]; exact h1)
theorem Ow.lower (h : Ow d e w base v xs) {b : Nat} (hb : b ≤ base) : Ow d e w b v xs := by
  obtain ⟨inner, ho, hr⟩ := h
  exact ⟨inner, own_weaken ho hb, hr⟩
theorem Ow.typed (h : Ow d e w base v xs) (k : Nat) (hk : v.ownBlock = some k) : ∃ cells, w.heap[k]? = some (.cells cells e (0, 0)) := by
  obtain ⟨inner, ho, hr⟩ := h
  exact own_typed ho k hk
/-- A row lies apart from a block of another type. -/
theorem Ow.ne_type (h : Ow d e w base v xs) {g t : Nat} {cells : Array Value} (hg : w.heap[g]? = some (.cells cells t (0, 0))) (ht : e ≠ t) : v.ownBlock ≠ some g := by
  intro hk
  obtain ⟨c, hc⟩ := h.typed g hk
  rw [hg] at hc
  injection hc with hc
  injection hc with _ hc
  exact ht hc.symm
end

theorem Flat.cells {α : Type} {d : Kd α} {w : World} {A : Option Addr} {ys : List α} (hF : Flat d) (h : d.C w A ys.length ys) (hne : ys ≠ []) : ∃ ad inner, A = some ad ∧ Reps (d.K w) d.sz ys inner ∧
    (∀ j u, inner[j]? = some u → w.cell? (ad.add j) = some u) := by
  rcases C_flat h hF.pos with h0 | ⟨b, off, rfl, _, hc⟩
  · exact absurd h0 hne
  · have key : ∀ n, n ≤ ys.length → ∃ inner, Reps (d.K w) d.sz (ys.take n) inner ∧ ∀ j u, inner[j]? = some u → w.cell? ⟨b, off + j, none⟩ = some u := by
      intro n
      induction n with
      | zero => exact fun _ => ⟨[], by simpa using Reps.none _ _, fun j u h => by simp at h⟩
      | succ n ih =>
        intro hn
        obtain ⟨inner, hr, hi⟩ := ih (by omega)
        obtain ⟨c, hl, hk, hh⟩ := hc n (by omega)
        refine ⟨inner ++ c, ?_, fun j u hu => ?_⟩
        · rw [List.take_succ_eq_append_getElem (by omega)]
          exact hr.snoc hk hl
        · have hil : inner.length = n * d.sz := by rw [hr.1, List.length_take, Nat.min_eq_left (by omega)]
          rcases Nat.lt_or_ge j inner.length with hlt | hge
          · rw [List.getElem?_append_left hlt] at hu
            exact hi j u hu
          · rw [List.getElem?_append_right hge] at hu
            have := hh _ _ hu
            rw [← this]
            congr 2
            omega
    obtain ⟨inner, hr, hi⟩ := key ys.length (Nat.le_refl _)
    rw [List.take_length] at hr
    exact ⟨_, inner, rfl, hr, fun j u hu => by rw [add_flat]; exact hi j u hu⟩

theorem Reps.one {α : Type} {d : Kd α} {w : World} {xs : List α} {inner : List Value} (hs : 0 < d.sz) (h : Reps (d.K w) d.sz xs inner) : ∀ u ∈ inner, u.oneCell' = true := by
  intro u hu
  obtain ⟨j, hj, rfl⟩ := List.mem_iff_getElem.1 hu
  have hlt : j / d.sz < xs.length := by rw [Nat.div_lt_iff_lt_mul hs]; rw [← h.1]; exact hj
  have hk := h.2 (j / d.sz) _ (List.getElem?_eq_getElem hlt)
  refine d.K_one hk _ ?_
  have hm : j % d.sz < d.sz := Nat.mod_lt _ hs
  have e : j / d.sz * d.sz + j % d.sz = j := by rw [Nat.mul_comm]; exact Nat.div_add_mod j d.sz
  refine List.mem_of_getElem? (i := j % d.sz) ?_
  rw [List.getElem?_take, if_pos hm, List.getElem?_drop, e]
  exact List.getElem?_eq_getElem hj

section
variable {P : Program} {ops : Array Oper} {rest : List Oper} {o : Oper} {a : Act} {Q : Exit → Act → World → Prop} {α : Type}
theorem run_append_nil (w : World) (base : Nat) (t ty e : TypeId) (i : TypeInfo) (size : Nat) (ht : P.underlying t = some (.slice e)) (hi : P.info? e = some i)
    (v : Value) (n : Nat) (xs : List Value) (c : Nat) (hown : w.ownsRow base e size v n xs) (A : Option Addr) :
    (Builtin.append_ #[t, t] ty #[v, .slice A 0 c]).run P w = .ok v w := by
  rcases hown.2 with ⟨rfl, rfl⟩ | ⟨g, cap, cur, rfl, _, _, hnc, _⟩
  · cases A <;> simp [Builtin.append_, run_underlying ht, sizeOf, typeInfo, hi, Builtin.lenOf, Builtin.firstCells, loadCells, loadCellsFrom]
  · cases A <;> simp [Builtin.append_, run_underlying ht, sizeOf, typeInfo, hi, Builtin.lenOf, Builtin.firstCells, hnc, storeCells, loadCells, loadCellsFrom]

/-- append(v, ys...): v a row of the call's own, ys read. -/
theorem Ow.app (d : Kd α) (hF : Flat d) (W : World) (base : Nat) (hgd : o.guard = none) (s x : Operand) (t e : TypeId) (z : Value) (bytes : Nat)
    (ho : o.op = .call { callee := .builtin .append, args := #[s, x], argTypes := #[t, t] })
    (ht : P.underlying t = some (.slice e)) (hinfo : (P.info? e).map (fun i => (i.zero, i.size, i.bytes)) = some (some z, d.sz, bytes)) (hz : z.cells.size = d.sz) (hb0 : 0 < bytes)
    (v : Value) (xs ys : List α) (hs : a.eval s = v) (A : Option Addr) (c : Nat) (hx : a.eval x = .slice A ys.length c) (hy : d.C W A ys.length ys)
    (HO : Ow d e W base v xs) (hbase : base ≤ W.heap.size) (hl : (xs.length + ys.length) * bytes ≤ 140737488355328)
    (h : ∀ v1 w1, Ow d e w1 base v1 (xs ++ ys) → W.grownBy w1 v.ownBlock → (v1.ownBlock = v.ownBlock ∨ v1.ownBlock = some W.heap.size) → wpList P ops Q rest (a.put o.dst v1) w1) :
    wpList P ops Q (o :: rest) a W := by
  obtain ⟨i0, hi, hzz⟩ := Option.map_eq_some_iff.1 hinfo
  simp only [Prod.mk.injEq] at hzz
  obtain ⟨hz0, hz1, hz2⟩ := hzz
  obtain ⟨inner, hown, hr⟩ := HO
  by_cases hne : ys = []
  · subst hne
    have hrun := run_append_nil (P := P) W base t o.type e i0 d.sz ht hi v xs.length inner c hown A
    refine wpList_plain hgd fun K hK => ?_
    unfold Oper.wp
    have hx' : a.eval x = .slice A 0 c := hx
    simp only [execOp, ho, resolve, invoke, builtin, Sem.run_bind, Sem.run_pure, Result.andThen_ok, List.map_toArray, List.map_cons, List.map_nil, hs, hx', hrun]
    exact hK _ _ (h v W (by rw [List.append_nil]; exact ⟨inner, hown, hr⟩) ⟨rfl, rfl, rfl, Nat.le_refl _, fun _ _ _ => rfl⟩ (.inl rfl))
  · obtain ⟨ad, news, rfl, hrn, hcell⟩ := hF.cells hy hne
    have hlen : xs.length + ys.length ≤ 140737488355328 := Nat.le_trans (Nat.le_mul_of_pos_right _ hb0) hl
    refine wpList_append_own_at W hgd s x t ho base e i0 z d.sz bytes ht hi hz0 hz1 hz2 hz hF.pos v xs.length inner hs hown ad ys.length c news hx hrn.1 hcell (Reps.one hF.pos hrn)
      (by simp only [maxLen]; omega) hl hbase fun v1 w1 hown1 hg _ hat => h v1 w1 ⟨inner ++ news, ?_, ?_⟩ hg hat
    · rw [List.length_append]; exact hown1
    · exact YtbkbpdpegiekhaaGreatDoorW.PrintWords.Reps.imp_ (Reps.app hr hrn) fun _ _ hp => hF.free hp
end

/-- Elements, laid for an append. -/
theorem C_lits {α : Type} {d : Kd α} (hF : Flat d) (W : World) (t : TypeId) (xs : List α) (cs : List Value) (h : Reps (d.K W) d.sz xs cs) (hm : xs.length ≤ 9223372036854775807) (n : Nat) (hn : W.heap.size = n) :
    d.C (W.alloc (.cells cs.toArray t)) (some ⟨n, 0, none⟩) xs.length xs := by
  subst hn
  refine ⟨rfl, hm, fun _ => ⟨_, rfl, fun j p hj => ⟨(cs.drop (j * d.sz)).take d.sz, d.K_len (h.2 j p hj), hF.free (h.2 j p hj), fun i u hu => ?_⟩⟩⟩
  rw [add_flat, Nat.zero_add]
  rw [cell_of_row (W.alloc (.cells cs.toArray t)) W.heap.size (j * d.sz + i) cs.toArray t (0, 0) (heap_alloc_new W _)]
  rw [List.getElem?_take] at hu
  split at hu
  · rw [List.getElem?_drop] at hu
    simpa using hu
  · cases hu
theorem reps_single {α : Type} {d : Kd α} {w : World} {x : α} {cs : List Value} (h : d.K w x cs) : Reps (d.K w) d.sz [x] cs := by
  have := (Reps.none (d.K w) d.sz).snoc h (d.K_len h)
  simpa using this
/-- One element, laid for an append. -/
theorem C_lit {α : Type} {d : Kd α} (hF : Flat d) (W : World) (t : TypeId) (x : α) (cs : List Value) (h : d.K W x cs) (n : Nat) (hn : W.heap.size = n) : d.C (W.alloc (.cells cs.toArray t)) (some ⟨n, 0, none⟩) 1 [x] :=
  C_lits hF W t [x] cs (reps_single h) (by simp) n hn
theorem grown_refl (w : World) (row : Option Nat) : w.grownBy w row := ⟨rfl, rfl, rfl, Nat.le_refl _, fun _ _ _ => rfl⟩
theorem grown_trans {a b c : World} {row : Option Nat} (h : a.grownBy b row) (k : b.grownBy c row) : a.grownBy c row :=
  ⟨k.os.trans h.os, k.tape.trans h.tape, k.output.trans h.output, Nat.le_trans h.size k.size, fun i hi hne => (k.block i (Nat.lt_of_lt_of_le hi h.size) hne).trans (h.block i hi hne)⟩
theorem Ow.sl {α : Type} {d : Kd α} {e : Nat} {w : World} {base : Nat} {v : Value} {xs : List α} (h : Ow d e w base v xs) : ∃ A n c, v = .slice A n c := by
  obtain ⟨A, c, e, _⟩ := h.slice
  exact ⟨A, _, c, e⟩

end Go.Proofs.YtbkbpdpegiekhaaGreatDoor
