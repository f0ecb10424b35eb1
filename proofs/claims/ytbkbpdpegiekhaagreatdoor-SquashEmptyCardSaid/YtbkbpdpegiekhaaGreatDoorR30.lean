/- squash: All, of no layer and of one. -/
import Derived.Test.YtbkbpdpegiekhaaGreatDoorR28
import Derived.Test.YtbkbpdpegiekhaaGreatDoorR29
set_option linter.unusedVariables false
set_option linter.unusedSimpArgs false
namespace Go.Proofs.YtbkbpdpegiekhaaGreatDoor
open Go.RowKit Go.Proofs.YtbkbpdpegiekhaaGreatDoorW.PrintWords Mo

/-- No cell of an element is a slice. -/
def NoSlice {α : Type} (d : Kd α) : Prop := ∀ w x cs, d.K w x cs → ∀ u ∈ cs, ∀ A n k, u ≠ .slice A n k
theorem noSlice_string : NoSlice Kd.string := fun w x cs h u hu A n k => by
  obtain rfl := h
  rw [List.mem_singleton] at hu
  subst hu
  exact fun e => by cases e
theorem noSlice_node : NoSlice kN := fun w x cs h u hu A n k => by
  obtain rfl := kN_open h
  intro e
  subst e
  simp at hu
/-- What is read lies apart from a cell that holds a slice. -/
theorem Rd.set {α : Type} {d : Kd α} (hF : Flat d) (hN : NoSlice d) {W : World} {p : Addr} {u v : Value} {xs : List α} {A : Option Addr} {n k : Nat} (h : Rd d W v xs) (hp : W.cell? p = some (.slice A n k)) : Rd d (W.setCell p u) v xs := by
  obtain ⟨A', c, rfl, hl, h1, h2, h3⟩ := h
  refine ⟨A', c, rfl, hl, h1, h2, fun h0 => ?_⟩
  obtain ⟨ad, e, hc⟩ := h3 h0
  refine ⟨ad, e, fun j x hj => ?_⟩
  obtain ⟨cs, hcl, hk, hcell⟩ := hc j x hj
  refine ⟨cs, hcl, hF.free hk, fun i y hi => ?_⟩
  have hq := hcell i y hi
  rw [World.cell?_setCell_other]
  · exact hq
  · intro e'
    rw [← e', hp] at hq
    exact hN W x cs hk y (List.mem_of_getElem? hi) _ _ _ (Option.some.inj hq).symm
theorem RdL.set {W : World} {p : Addr} {u va vw vo : Value} {l : Ly} {A : Option Addr} {n k : Nat} (h : RdL W va vw vo l) (hp : W.cell? p = some (.slice A n k)) : RdL (W.setCell p u) va vw vo l :=
  ⟨h.1.set flat_node noSlice_node hp, h.2.1.set flat_string noSlice_string hp, h.2.2.set flat_string noSlice_string hp⟩
/-- A layer's block, written anew. -/
theorem RdL.put3 {W : World} {r : Nat} {A0 A1 A2 : Option Addr} {n0 n1 n2 k0 k1 k2 : Nat} {A3 A4 A5 : Option Addr} {n3 n4 n5 k3 k4 k5 : Nat} {va vw vo : Value} {l : Ly}
    (h : RdL W va vw vo l) (hr : W.heap[r]? = some (.cells #[.slice A0 n0 k0, .slice A1 n1 k1, .slice A2 n2 k2] 25 (0, 0))) :
    RdL (((W.setCell ⟨r, 0, none⟩ (.slice A3 n3 k3)).setCell ⟨r, 1, none⟩ (.slice A4 n4 k4)).setCell ⟨r, 2, none⟩ (.slice A5 n5 k5)) va vw vo l := by
  have h0 : W.cell? ⟨r, 0, none⟩ = some (.slice A0 n0 k0) := blk_cell hr 0
  have h1 : (W.setCell ⟨r, 0, none⟩ (.slice A3 n3 k3)).cell? ⟨r, 1, none⟩ = some (.slice A1 n1 k1) := blk_cell (blk_set hr 0 (.slice A3 n3 k3)) 1
  have h2 : ((W.setCell ⟨r, 0, none⟩ (.slice A3 n3 k3)).setCell ⟨r, 1, none⟩ (.slice A4 n4 k4)).cell? ⟨r, 2, none⟩ = some (.slice A2 n2 k2) := blk_cell (blk_set (blk_set hr 0 (.slice A3 n3 k3)) 1 (.slice A4 n4 k4)) 2
  exact ((h.set h0).set h1).set h2
theorem ret24 {R : Ending → World → Prop} {tmps : Array Value} {W : World} {r : Nat} {a b c : Value} {e : Int} (h4 : tmps.getD 2 undef = .pointer (some ⟨r, 0, none⟩)) (h5 : tmps.getD 3 undef = .int .i64 e) (hh : W.heap[r]? = some (.cells #[a, b, c] 25 (0, 0)))
    (hR : R (.returned (.tuple #[.agg #[a, b, c], .int .i64 e])) W) : bodyPost Tryz.prog Tryz.f24 R .ret { tmps := tmps, defers := [] } W := by
  have q0 : W.cell? ⟨r, 0, none⟩ = some a := blk_cell hh 0
  have q1 : W.cell? ⟨r, 1, none⟩ = some b := blk_cell hh 1
  have q2 : W.cell? ⟨r, 2, none⟩ = some c := blk_cell hh 2
  refine bodyPost_ret (v := .tuple #[.agg #[a, b, c], .int .i64 e]) ?_ rfl hR
  rw [results_cell_tmp rfl, h4, h5]
  go_simp
/-- The two blocks of All: what is answered, what has come so far. -/
structure AlSt (w W : World) (cs : Array Value) : Prop where
  res : W.heap[w.heap.size]? = some (.cells #[.slice none 0 0, .slice none 0 0, .slice none 0 0] 25 (0, 0))
  out : W.heap[w.heap.size + 1]? = some (.cells cs 25 (0, 0))
  below : Below w.heap.size w W
theorem AlSt.step {w W W' : World} {cs : Array Value} (h : AlSt w W cs) (hb : Below W.heap.size W W') : AlSt w W' cs :=
  ⟨(hb.block _ (blk_lt h.res)).trans h.res, (hb.block _ (blk_lt h.out)).trans h.out, below_then h.below h.below.size hb⟩
theorem AlSt.wrote {w W : World} {p0 p1 p2 : Value} (h : AlSt w W #[p0, p1, p2]) (a b c : Value) : AlSt w (((W.setCell ⟨w.heap.size + 1, 0, none⟩ a).setCell ⟨w.heap.size + 1, 1, none⟩ b).setCell ⟨w.heap.size + 1, 2, none⟩ c) #[a, b, c] := by
  refine ⟨?_, put3 h.out a b c, ((h.below.setCell (Nat.le_succ _) _).setCell (Nat.le_succ _) _).setCell (Nat.le_succ _) _⟩
  have hn : w.heap.size ≠ w.heap.size + 1 := by omega
  exact (Below.heap_setCell _ _ _ _ hn).trans ((Below.heap_setCell _ _ _ _ hn).trans ((Below.heap_setCell _ _ _ _ hn).trans h.res))
theorem al_mk (w : World) : AlSt w ((w.alloc (.cells #[.slice none 0 0, .slice none 0 0, .slice none 0 0] 25)).alloc (.cells #[.slice none 0 0, .slice none 0 0, .slice none 0 0] 25)) #[.slice none 0 0, .slice none 0 0, .slice none 0 0] := by
  refine ⟨blk_lt' (heap_alloc_new _ _) _, ?_, ((Grew.refl w).alloc _).alloc _ |>.below⟩
  rw [show w.heap.size + 1 = (w.alloc (.cells #[.slice none 0 0, .slice none 0 0, .slice none 0 0] 25)).heap.size from by simp]; exact heap_alloc_new _ _

set_option maxHeartbeats 4000000 in
theorem all_nil (w : World) :
    Calls Tryz.prog 24 #[.slice none 0 0] w fun e w' => ∃ va vw vo, e = .returned (.tuple #[.agg #[va, vw, vo], .int .i64 0]) ∧ RdL w' va vw vo Ly.none ∧ Below w.heap.size w w' := by
  go_enter Tryz.func24, Tryz.ntmps24
  go_wp2_with fail
  obtain ⟨W, hW⟩ : ∃ W, W = ((w.alloc (.cells #[.slice none 0 0, .slice none 0 0, .slice none 0 0] 25)).alloc (.cells #[.slice none 0 0, .slice none 0 0, .slice none 0 0] 25)) := ⟨_, rfl⟩
  rw [← hW]
  have HA := Aside0.mk (al_mk w)
  rw [← hW] at HA
  clear hW
  go_loop [11] (fun i => i = .int .i64 0) (fun i => 0)
  case atStart => exact rfl
  case round =>
    subst hrel
    have r0 := blk_cell HA.out.res 0
    have r1 := blk_cell HA.out.res 1
    have r2 := blk_cell HA.out.res 2
    have f0 := blk_frozen HA.out.res 0
    have f1 := blk_frozen HA.out.res 1
    have f2 := blk_frozen HA.out.res 2
    have o0 := blk_cell HA.out.out 0
    have o1 := blk_cell HA.out.out 1
    have o2 := blk_cell HA.out.out 2
    go_wp2_with fail
    refine ret24 rfl rfl (put3 HA.out.res _ _ _) ⟨_, _, _, rfl, rdl_none _, ?_⟩
    exact ((HA.out.below.setCell (Nat.le_refl _) _).setCell (Nat.le_refl _) _).setCell (Nat.le_refl _) _

set_option maxHeartbeats 8000000 in
theorem all_one (x : Ly) (h : Nat) (xa xw xo : Value) (w : World) (hE : Env w) (h0 : w.cell? ⟨h, 0, none⟩ = some xa) (h1 : w.cell? ⟨h, 1, none⟩ = some xw) (h2 : w.cell? ⟨h, 2, none⟩ = some xo) (hrx : RdL w xa xw xo x) (hx : Lsm x) :
    Calls Tryz.prog 24 #[.slice (some ⟨h, 0, none⟩) 1 1] w fun e w' => ∃ va vw vo, e = .returned (.tuple #[.agg #[va, vw, vo], .int .i64 (squashL Ly.none x).2]) ∧ RdL w' va vw vo (squashL Ly.none x).1 ∧ Below w.heap.size w w' := by
  have HE := Aside0.mk (fun W (hb : Below w.heap.size w W) => hE.below hb)
  have HRx := Aside0.mk (fun W (hb : Below w.heap.size w W) => hrx.below hb)
  have HX := Aside0.mk hx
  obtain ⟨A1, n1, c1, rfl⟩ := hrx.1.sl
  obtain ⟨A2, n2, c2, rfl⟩ := hrx.2.1.sl
  obtain ⟨A3, n3, c3, rfl⟩ := hrx.2.2.sl
  have HC := Aside0.mk (fun W (hb : Below w.heap.size w W) => And.intro (pw_cell_below hb h0) (And.intro (pw_cell_below hb h1) (pw_cell_below hb h2)))
  clear hE hrx hx h0 h1 h2
  go_enter Tryz.func24, Tryz.ntmps24
  go_wp2_with fail
  obtain ⟨W, hW⟩ : ∃ W, W = ((w.alloc (.cells #[.slice none 0 0, .slice none 0 0, .slice none 0 0] 25)).alloc (.cells #[.slice none 0 0, .slice none 0 0, .slice none 0 0] 25)) := ⟨_, rfl⟩
  rw [← hW]
  have HA := Aside0.mk (al_mk w)
  rw [← hW] at HA
  clear hW
  have HSm := Aside0.mk (show Lsm Ly.none from ⟨Nat.zero_le _, Nat.zero_le _, Nat.zero_le _, fun n hn => (by cases hn), fun n hn => (by cases hn), fun n hn => (by cases hn), fun n hn => (by cases hn)⟩)
  go_loopw [11] (fun i wr => (i = .int .i64 0 ∧ Aside0 (AlSt w wr #[.slice none 0 0, .slice none 0 0, .slice none 0 0])) ∨
      (i = .int .i64 1 ∧ Aside0 ((squashL Ly.none x).2 = 0 ∧ ∃ (A4 A5 A6 : Option Addr) (n4 n5 n6 c4 c5 c6 : Nat), AlSt w wr #[.slice A4 n4 c4, .slice A5 n5 c5, .slice A6 n6 c6] ∧ RdL wr (.slice A4 n4 c4) (.slice A5 n5 c5) (.slice A6 n6 c6) (squashL Ly.none x).1)))
    (fun i _ => 1 - (intOf i).toNat)
  case atStart => exact .inl ⟨rfl, HA⟩
  case round =>
    clear HA
    rcases hrel with ⟨rfl, HA⟩ | ⟨rfl, HA⟩
    · obtain ⟨q0, q1, q2⟩ := HC.out wr HA.out.below
      have o0 := blk_cell HA.out.out 0
      have o1 := blk_cell HA.out.out 1
      have o2 := blk_cell HA.out.out 2
      have HAt := Aside0.mk (HA.out.step ((Grew.refl wr).alloc (.cells #[.slice A1 n1 c1, .slice A2 n2 c2, .slice A3 n3 c3] 25)).below)
      have p0 := blk_cell HAt.out.out 0
      have p1 := blk_cell HAt.out.out 1
      have p2 := blk_cell HAt.out.out 2
      go_wp2_with fail
      refine (squash_Squash Ly.none x _ _ _ _ _ _ _ (HE.out _ HAt.out.below) (rdl_none _) (HRx.out _ HAt.out.below) HSm.out HX.out).mono ?_
      rintro e1 w1 ⟨va, vw, vo, rfl, hrl, hb1⟩
      have HA1 := Aside0.mk (HAt.out.step hb1)
      have HRL := Aside0.mk hrl
      obtain ⟨A4, n4, c4, rfl⟩ := hrl.1.sl
      obtain ⟨A5, n5, c5, rfl⟩ := hrl.2.1.sl
      obtain ⟨A6, n6, c6, rfl⟩ := hrl.2.2.sl
      clear hrl hb1 HAt HA q0 q1 q2 o0 o1 o2 p0 p1 p2
      obtain ⟨r, hr⟩ : ∃ r, r = squashL Ly.none x := ⟨_, rfl⟩
      rw [← hr] at HRL ⊢
      have HRR := Aside0.mk hr
      clear hr
      have HA2 := Aside0.mk (HA1.out.step ((Grew.refl w1).alloc (.cells #[.slice A4 n4 c4, .slice A5 n5 c5, .slice A6 n6 c6] 25)).below)
      have HRL2 := Aside0.mk (HRL.out.below ((Grew.refl w1).alloc (.cells #[.slice A4 n4 c4, .slice A5 n5 c5, .slice A6 n6 c6] 25)).below)
      have HZ2 := Aside0.mk (heap_alloc_new w1 (.cells #[.slice A4 n4 c4, .slice A5 n5 c5, .slice A6 n6 c6] 25))
      by_cases hz : r.2 = 0
      · rw [hz]
        have HRz := Aside0.mk hz
        clear hz
        have o0 := blk_cell HA2.out.out 0
        have o1 := blk_cell HA2.out.out 1
        have o2 := blk_cell HA2.out.out 2
        have g0 := blk_frozen HA2.out.out 0
        have g1 := blk_frozen HA2.out.out 1
        have g2 := blk_frozen HA2.out.out 2
        have hsz := HA2.out.below.size
        go_wp2_with fail
        go_roundw
        case rel => exact .inr ⟨by go_num, ⟨by rw [← HRR.out]; exact HRz.out, A4, A5, A6, n4, n5, n6, c4, c5, c6, AlSt.wrote HA2.out _ _ _, by rw [← HRR.out]; exact RdL.put3 HRL2.out HA2.out.out⟩⟩
        case measure => simp [intOf] <;> omega
      · have hzb : (r.2 != 0) = true := by simpa using hz
        have HN := Aside0.mk (show (squashL Ly.none x).1 = Ly.none by
          rw [none_squash]
          by_cases hc : checkL x = 0
          · exfalso; apply hz; rw [HRR.out, none_squash, if_pos hc]
          · rw [if_neg hc])
        clear hz
        have r0 := blk_cell HA2.out.res 0
        have r1 := blk_cell HA2.out.res 1
        have r2 := blk_cell HA2.out.res 2
        have f0 := blk_frozen HA2.out.res 0
        have f1 := blk_frozen HA2.out.res 1
        have f2 := blk_frozen HA2.out.res 2
        go_wp2_with fail
        refine ret24 rfl rfl (put3 HA2.out.res _ _ _) ⟨_, _, _, by rw [HRR.out], by rw [HN.out]; exact rdl_none _, ?_⟩
        exact ((HA2.out.below.setCell (Nat.le_refl _) _).setCell (Nat.le_refl _) _).setCell (Nat.le_refl _) _
    · obtain ⟨hz, A4, A5, A6, n4, n5, n6, c4, c5, c6, ha, hrl⟩ := HA.out
      have HA2 := Aside0.mk ha
      have HRL2 := Aside0.mk hrl
      have HRz := Aside0.mk hz
      clear hz ha hrl HA
      have r0 := blk_cell HA2.out.res 0
      have r1 := blk_cell HA2.out.res 1
      have r2 := blk_cell HA2.out.res 2
      have f0 := blk_frozen HA2.out.res 0
      have f1 := blk_frozen HA2.out.res 1
      have f2 := blk_frozen HA2.out.res 2
      have o0 := blk_cell HA2.out.out 0
      have o1 := blk_cell HA2.out.out 1
      have o2 := blk_cell HA2.out.out 2
      go_wp2_with fail
      refine ret24 rfl rfl (put3 HA2.out.res _ _ _) ⟨_, _, _, by rw [HRz.out], RdL.put3 HRL2.out HA2.out.res, ?_⟩
      exact ((HA2.out.below.setCell (Nat.le_refl _) _).setCell (Nat.le_refl _) _).setCell (Nat.le_refl _) _
end Go.Proofs.YtbkbpdpegiekhaaGreatDoor
