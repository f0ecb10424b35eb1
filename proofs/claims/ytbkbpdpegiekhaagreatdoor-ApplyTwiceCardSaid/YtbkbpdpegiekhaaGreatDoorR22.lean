/- What newSecond's walk wants. -/
import Derived.Test.YtbkbpdpegiekhaaGreatDoorR19
import Derived.Shelf.Spec.SlicesGrow
/- squash: what the second layer does to a path. -/
set_option linter.unusedVariables false
set_option linter.unusedSimpArgs false
namespace Go.Proofs.YtbkbpdpegiekhaaGreatDoor
open Go.RowKit Go.Proofs.YtbkbpdpegiekhaaGreatDoorW.PrintWords Mo

theorem Rd.sl {α : Type} {d : Kd α} {w : World} {v : Value} {xs : List α} (h : Rd d w v xs) : ∃ A n c, v = .slice A n c := by
  obtain ⟨A, c, e, _⟩ := h
  exact ⟨A, _, c, e⟩

end Go.Proofs.YtbkbpdpegiekhaaGreatDoor

set_option linter.unusedVariables false
set_option linter.unusedSimpArgs false
namespace Go.Proofs.YtbkbpdpegiekhaaGreatDoor
open Go.RowKit Go.Proofs.YtbkbpdpegiekhaaGreatDoorW.PrintWords Mo

/-- append(v, ys...) at a step of a region that draws its order. -/
theorem Ow.app_step {P : Program} {ops : Array Oper} {o : Oper} {a : Act} {K : Act → World → Prop} {Q : Exit → Act → World → Prop} {E : Prop} {α : Type} (d : Kd α) (hF : Flat d) (W : World) (base : Nat) (hgd : o.guard = none) (s x : Operand) (t e : TypeId) (z : Value) (bytes : Nat)
    (ho : o.op = .call { callee := .builtin .append, args := #[s, x], argTypes := #[t, t] })
    (ht : P.underlying t = some (.slice e)) (hinfo : (P.info? e).map (fun i => (i.zero, i.size, i.bytes)) = some (some z, d.sz, bytes)) (hz : z.cells.size = d.sz) (hb0 : 0 < bytes)
    (v : Value) (xs ys : List α) (hs : a.eval s = v) (hne : ys ≠ []) (A : Option Addr) (c : Nat) (hx : a.eval x = .slice A ys.length c) (hy : d.C W A ys.length ys)
    (HO : Ow d e W base v xs) (hbase : base ≤ W.heap.size) (hl : (xs.length + ys.length) * bytes ≤ 140737488355328)
    (h : ∀ v1 w1, Ow d e w1 base v1 (xs ++ ys) → W.grownBy w1 v.ownBlock → (v1.ownBlock = v.ownBlock ∨ v1.ownBlock = some W.heap.size) → K (a.put o.dst v1) w1) :
    if Region.wanted o (yielded ops a.tmps) = true then Oper.wp P o a W K Q else E := by
  have hw : Region.wanted o (yielded ops a.tmps) = true := by simp [Region.wanted, hgd]
  rw [if_pos hw]
  obtain ⟨i0, hi, hzz⟩ := Option.map_eq_some_iff.1 hinfo
  simp only [Prod.mk.injEq] at hzz
  obtain ⟨hz0, hz1, hz2⟩ := hzz
  obtain ⟨inner, hown, hr⟩ := HO
  obtain ⟨ad, news, rfl, hrn, hcell⟩ := hF.cells hy hne
  have hlen : xs.length + ys.length ≤ 140737488355328 := Nat.le_trans (Nat.le_mul_of_pos_right _ hb0) hl
  obtain ⟨v1, w1, hrun, hown1, hg, _, hat⟩ := run_append_own_at (w := W) base t o.type e i0 z d.sz bytes ht hi hz0 hz1 hz2 hz hF.pos v xs.length inner hown ad ys.length c news hrn.1 hcell (Reps.one hF.pos hrn) (by simp only [maxLen]; omega) hl hbase
  unfold Oper.wp
  simp only [execOp, ho, resolve, invoke, builtin, Sem.run_bind, Sem.run_pure, Result.andThen_ok, List.map_toArray, List.map_cons, List.map_nil, hs, hx, hrun]
  refine h v1 w1 ⟨inner ++ news, ?_, ?_⟩ hg hat
  · rw [List.length_append]; exact hown1
  · exact YtbkbpdpegiekhaaGreatDoorW.PrintWords.Reps.imp_ (Reps.app hr hrn) fun _ _ hp => hF.free hp

theorem Nmap.cell_ne {w : World} {m g : Nat} {xs : List Nd} {cs : Array Value} {t : TypeId} (h : Nmap w m xs) (hg : w.heap[g]? = some (.cells cs t (0, 0))) : g ≠ m := by
  obtain ⟨n, D, _, ⟨es, clock, hb, _⟩, _⟩ := h
  intro e
  rw [e, hb] at hg
  cases hg
theorem Ow.ne_map {α : Type} {d : Kd α} {e : Nat} {w : World} {base m : Nat} {v : Value} {xs : List α} {ns : List Nd} (h : Ow d e w base v xs) (hm : Nmap w m ns) : v.ownBlock ≠ some m := by
  intro hk
  obtain ⟨c, hc⟩ := h.typed m hk
  exact hm.cell_ne hc rfl
theorem take_node (l : List Nd) (k : Nat) (h : k < l.length) : l.take (k + 1) = l.take k ++ [l.getD k Nd.zero] := by
  rw [List.take_add_one, List.getD_eq_getElem?_getD, List.getElem?_eq_getElem h]; rfl

section
variable {w wr wr' : World} {lc : Array Value} {g m : Nat} {a0 a1 a2 vf ve : Value} {E : List S} {md : List Nd} {fd : List S}
end

end Go.Proofs.YtbkbpdpegiekhaaGreatDoor
