/- The statements' guards: Small. -/
import Derived.Lib.SplitLaws
import Derived.Lib.LastIndexLaws
import Derived.Lib.Strings
import Derived.Below
import Derived.Deep.Draws
import Derived.Deep.AppendLies
import Derived.Maps.AppendAt
import Derived.OwnWalk
import Derived.Laws.BytesArg
import Derived.Laws.MakeOwn
import Derived.Laws.OwnMore
import Derived.Deep.OwnRows
import Derived.Tactics
import Derived.Lib.ConvBytes
import Derived.Laws.Slices
import Derived.WalkKit
import Derived.KernelRfl
import Derived.RowKit3
import Derived.Deep.LoopGhost
import Derived.Deep.QuietTactic
import Derived.BigQuiet
import Derived.WideLaws
import Derived.Deep.DeepCutAuto
import Derived.Deep.CutBlock
import Derived.Deep.RegionHeld3
import Derived.Laws.Rows
import Derived.Lib.AppendStr
import Derived.ArgAppend
import Derived.Laws.IdiomCopy
import Derived.RowKit
import Derived.Shelf.Unicode.DecodeSlow
import Derived.Sort.Grow
import Derived.Deep.DeepMust
import Derived.Shelf.SlGeneric
import Derived.Shelf.Unicode.ValidAny
import Derived.Shelf.SlSortCmp.WholeK
import Derived.Shelf.SlicesQ.Equal
import Derived.Shelf.SlicesQ.IndexFunc
import Derived.Shelf.SlicesQ.Reverse
import Derived.Shelf.SlCmpFuncs.BinarySearchFunc
import Derived.Shelf.SlCmpFuncs.None
import Derived.Ground.SlgqProg
import Derived.Ground.SlsgProg
import Derived.Ground.NamesProg
import Derived.Shelf.Strings.Builder1
import Derived.Shelf.Small.Bits
import Derived.Shelf.Small.Wraps
import Derived.Shelf.Strings.BuilderF
import Derived.Shelf.Strings.BuilderK
import Derived.Shelf.Strings.BuilderRune
import Derived.Shelf.Utf8.AppendRune
import Derived.Shelf.Utf8.AppendRunePlain
import Derived.Shelf.Utf8.RuneCount
import Derived.Shelf.Strconv.Itoa0
import Derived.Shelf.Strings.Search1
import Derived.Shelf.Strings.Search2
import Derived.Shelf.Strings.Search3
import Derived.Shelf.Strings.Count
import Derived.Shelf.LaysM
import Derived.Shelf.Strings.Shaped
import Derived.Shelf.Strings.LastIndex
import Derived.Shelf.Strings.LastIndexAll
import Derived.Shelf.GgClosure.StringsIndexFunc
import Derived.Ground.GgwProg
import Derived.Shelf.GgClosure.StringsIndexFuncTop
import Derived.Shelf.GgClosure.StringsRunes
import Derived.Shelf.Strings.Prefix
import Derived.Shelf.Strings.Split
import Derived.Shelf.Strings.SplitShaped
import Derived.Shelf.Unicode.Decode
import Derived.Shelf.Strings.RuneCount
import Derived.Shelf.Strings.Explode
import Derived.Shelf.Unicode.DecodeAny
import Derived.Shelf.Strings.FuncGrows
import Derived.Shelf.Strings.BuilderCap
import Derived.Shelf.Slices.Turned
import Derived.Ground.Names2Prog
import Derived.Shelf.Slices.Clone
import Derived.Shelf.Slices.CompactS
import Derived.Shelf.Slices.SearchI
import Derived.Shelf.Slices.Cells
import Derived.Ground.SlgnProg
import Derived.Shelf.SlicesE.Index
import Derived.Shelf.SlicesE.Compact
import Derived.Shelf.SlicesE.Clone
import Derived.Ground.SlgfProg
import Derived.Shelf.SlicesE.IndexFunc
import Derived.Shelf.SlicesE.DeleteFunc
import Derived.Ground.SlsfProg
import Derived.Shelf.SlSortCmp.Insertion
import Derived.Shelf.SlSortCmp.SiftDown1
import Derived.Shelf.SlSortCmp.HeapSort1
import Derived.Shelf.SlSortCmp.Insertion1
import Derived.Shelf.SlSortCmp.Median1
import Derived.Shelf.SlSortCmp.Pivot1
import Derived.Shelf.SlSortCmp.ReverseRange1
import Derived.Shelf.SlSortCmp.PartialInsertion1
import Derived.Shelf.SlSortCmp.PartitionEqual1
import Derived.Shelf.SlSortCmp.Partition1
import Derived.Shelf.SlSortCmp.Pdq1
import Derived.Shelf.SlSortCmp.Whole1
import Derived.Shelf.SlSortCmp.NoneTotal
import Derived.Outline
import Derived.WalkLawsBesides
import Derived.WalkSpells
import Derived.Shelf.Strings.BuilderX
import Derived.Lib.Slices
import Derived.Lib.Walk
import Derived.Lib.Builder
import Derived.Lib.UnsafeStr
import Derived.Lib.MakeNoZero
import Derived.Laws.Externs
import Derived.Laws.BitsLemmas
import Derived.Lib.TrimUEq
import Derived.Lib.MapLaws
import Derived.Maps.OwnOps
import Derived.Maps.OwnSet
import Derived.Maps.Views
import Derived.Lib.ValidLaws
import Derived.Lib.OwnBridge
import Derived.IntWalk
import Derived.Shelf.Spec.SlicesGrow
import Derived.Laws.ResultCell
import Derived.Laws.StructEq
import Derived.Test.YtbkbpdpegiekhaaGreatDoorR12
import Derived.Test.YtbkbpdpegiekhaaGreatDoorR9
import Derived.Test.YtbkbpdpegiekhaaGreatDoorR18
import Derived.Test.YtbkbpdpegiekhaaGreatDoorR25
import Derived.Test.YtbkbpdpegiekhaaGreatDoorN2
import Derived.Test.YtbkbpdpegiekhaaGreatDoorF6
import Derived.Test.YtbkbpdpegiekhaaGreatDoorR4
import Derived.Test.YtbkbpdpegiekhaaGreatDoorN1
import Derived.Test.YtbkbpdpegiekhaaGreatDoorR10
import Derived.Test.YtbkbpdpegiekhaaGreatDoorF7
import Derived.Test.YtbkbpdpegiekhaaGreatDoorG1
/- The reference's layers: below, Bytes. -/
set_option linter.unusedVariables false
set_option linter.unusedSimpArgs false
namespace Go.Proofs.YtbkbpdpegiekhaaGreatDoor
open Go.RowKit Go.Proofs.YtbkbpdpegiekhaaGreatDoorW.PrintWords Mo

def belowB (l : Ly) (p : S) : Bool := l.adds.any (fun n => pUnder n.path p) || (l.whites.any (fun q => pUnder q p) || l.opaques.any (fun q => decide (q = p) || pUnder q p))
end Go.Proofs.YtbkbpdpegiekhaaGreatDoor

/- The reference's layers: Check. -/
set_option linter.unusedVariables false
set_option linter.unusedSimpArgs false
namespace Go.Proofs.YtbkbpdpegiekhaaGreatDoor
open Go.RowKit Go.Proofs.YtbkbpdpegiekhaaGreatDoorW.PrintWords Mo

theorem C_nodes {w : World} {A : Option Addr} {xs : List Nd} (h : kN.C w A xs.length xs) : xs = [] ∨ ∃ b off, A = some ⟨b, off, none⟩ ∧ b < w.heap.size ∧
    ∀ j (hj : j < xs.length), w.cell? ⟨b, off + j * 5, none⟩ = some (.string xs[j].path) ∧ w.cell? ⟨b, off + j * 5 + 1, none⟩ = some (.bool xs[j].dir) ∧ w.cell? ⟨b, off + j * 5 + 2, none⟩ = some (.string xs[j].data) ∧
      w.cell? ⟨b, off + j * 5 + 3, none⟩ = some (.int .i64 xs[j].mode) ∧ w.cell? ⟨b, off + j * 5 + 4, none⟩ = some (.int .i64 xs[j].time) := by
  rcases C_flat h (by decide) with h | ⟨b, off, e, hb, hc⟩
  · exact .inl h
  · refine .inr ⟨b, off, e, hb, fun j hj => ?_⟩
    obtain ⟨c, hlc, hk, hh⟩ := hc j hj
    have hs : kN.sz = 5 := rfl
    rw [hs] at hh
    have hk : kN.K w xs[j] c := hk
    obtain rfl := kN_open hk
    have e : ∀ i, off + (j * 5 + i) = off + j * 5 + i := fun i => by omega
    exact ⟨by have := hh 0 _ rfl; rw [e] at this; exact this, by have := hh 1 _ rfl; rw [e] at this; exact this, by have := hh 2 _ rfl; rw [e] at this; exact this, by have := hh 3 _ rfl; rw [e] at this; exact this, by have := hh 4 _ rfl; rw [e] at this; exact this⟩

end Go.Proofs.YtbkbpdpegiekhaaGreatDoor

set_option linter.unusedVariables false
set_option linter.unusedSimpArgs false
namespace Go.Proofs.YtbkbpdpegiekhaaGreatDoor
open Go.RowKit Go.Proofs.YtbkbpdpegiekhaaGreatDoorW.PrintWords Mo

/-- append(v, ys...) at a step of a region that draws its order, ys of any length. -/
theorem Ow.app_any {P : Program} {ops : Array Oper} {o : Oper} {a : Act} {K : Act → World → Prop} {Q : Exit → Act → World → Prop} {E : Prop} {α : Type} (d : Kd α) (hF : Flat d) (W : World) (base : Nat) (hgd : o.guard = none) (s x : Operand) (t e : TypeId) (z : Value) (bytes : Nat)
    (ho : o.op = .call { callee := .builtin .append, args := #[s, x], argTypes := #[t, t] })
    (ht : P.underlying t = some (.slice e)) (hinfo : (P.info? e).map (fun i => (i.zero, i.size, i.bytes)) = some (some z, d.sz, bytes)) (hz : z.cells.size = d.sz) (hb0 : 0 < bytes)
    (v : Value) (xs ys : List α) (hs : a.eval s = v) (A : Option Addr) (c : Nat) (hx : a.eval x = .slice A ys.length c) (hy : d.C W A ys.length ys)
    (HO : Ow d e W base v xs) (hbase : base ≤ W.heap.size) (hl : (xs.length + ys.length) * bytes ≤ 140737488355328)
    (h : ∀ v1 w1, Ow d e w1 base v1 (xs ++ ys) → W.grownBy w1 v.ownBlock → (v1.ownBlock = v.ownBlock ∨ v1.ownBlock = some W.heap.size) → K (a.put o.dst v1) w1) :
    if Region.wanted o (yielded ops a.tmps) = true then Oper.wp P o a W K Q else E := by
  by_cases hne : ys = []
  · subst hne
    have hw : Region.wanted o (yielded ops a.tmps) = true := by simp [Region.wanted, hgd]
    rw [if_pos hw]
    obtain ⟨i0, hi, hzz⟩ := Option.map_eq_some_iff.1 hinfo
    obtain ⟨inner, hown, hr⟩ := HO
    have hrun := run_append_nil (P := P) W base t o.type e i0 d.sz ht hi v xs.length inner c hown A
    have hx' : a.eval x = .slice A 0 c := hx
    unfold Oper.wp
    simp only [execOp, ho, resolve, invoke, builtin, Sem.run_bind, Sem.run_pure, Result.andThen_ok, List.map_toArray, List.map_cons, List.map_nil, hs, hx', hrun]
    exact h v W (by rw [List.append_nil]; exact ⟨inner, hown, hr⟩) ⟨rfl, rfl, rfl, Nat.le_refl _, fun _ _ _ => rfl⟩ (.inl rfl)
  · exact Ow.app_step d hF W base hgd s x t e z bytes ho ht hinfo hz hb0 v xs ys hs hne A c hx hy HO hbase hl h
theorem Ow.app_wp {P : Program} {o : Oper} {a : Act} {K : Act → World → Prop} {Q : Exit → Act → World → Prop} {α : Type} (d : Kd α) (hF : Flat d) (W : World) (base : Nat) (hgd : o.guard = none) (s x : Operand) (t e : TypeId) (z : Value) (bytes : Nat)
    (ho : o.op = .call { callee := .builtin .append, args := #[s, x], argTypes := #[t, t] })
    (ht : P.underlying t = some (.slice e)) (hinfo : (P.info? e).map (fun i => (i.zero, i.size, i.bytes)) = some (some z, d.sz, bytes)) (hz : z.cells.size = d.sz) (hb0 : 0 < bytes)
    (v : Value) (xs ys : List α) (hs : a.eval s = v) (A : Option Addr) (c : Nat) (hx : a.eval x = .slice A ys.length c) (hy : d.C W A ys.length ys)
    (HO : Ow d e W base v xs) (hbase : base ≤ W.heap.size) (hl : (xs.length + ys.length) * bytes ≤ 140737488355328)
    (h : ∀ v1 w1, Ow d e w1 base v1 (xs ++ ys) → W.grownBy w1 v.ownBlock → (v1.ownBlock = v.ownBlock ∨ v1.ownBlock = some W.heap.size) → K (a.put o.dst v1) w1) : Oper.wp P o a W K Q := by
  have h0 := Ow.app_any (P := P) (ops := #[]) (Q := Q) (E := True) d hF W base hgd s x t e z bytes ho ht hinfo hz hb0 v xs ys hs A c hx hy HO hbase hl h
  rwa [if_pos (by simp [Region.wanted, hgd])] at h0
/-- A row that is made of nothing. -/
theorem Ow.empty {α : Type} (d : Kd α) (e : Nat) (W : World) (base : Nat) (hb : base ≤ W.heap.size) : Ow d e (W.alloc (.cells #[] e)) base (.slice (some ⟨W.heap.size, 0, none⟩) 0 0) [] := by
  refine ⟨[], ⟨by simp, .inr ⟨W.heap.size, 0, #[], rfl, hb, heap_alloc_new W _, Nat.le_refl _, Nat.zero_le _, by simp, by simp⟩⟩, Reps.none _ _⟩

def smallB (l : Ly) (m : Nat) : Bool := decide (l.adds.length ≤ m) && (decide (l.whites.length ≤ m) && (decide (l.opaques.length ≤ m) && (l.adds.all (fun n => decide (n.path.size ≤ 60) && decide (n.data.size ≤ 60)) && (l.whites ++ l.opaques).all fun p => decide (p.size ≤ 60))))
theorem all_take_step {α : Type} {f : α → Bool} {xs : List α} {k : Nat} (h : k < xs.length) (h1 : (xs.take k).all f = true) (h2 : f xs[k] = true) : (xs.take (k + 1)).all f = true := by
  rw [List.take_succ_eq_append_getElem h, List.all_append, h1]
  simp [h2]
theorem all_here {α : Type} {f : α → Bool} {xs : List α} {k : Nat} (h : k < xs.length) (h2 : f xs[k] = false) : xs.all f = false := by
  rw [Bool.eq_false_iff]
  intro h3
  have := List.all_eq_true.1 h3 _ (List.getElem_mem h)
  rw [h2] at this; cases this
theorem all_take_all {α : Type} {f : α → Bool} {xs : List α} {n : Nat} (hn : n = xs.length) (h1 : (xs.take n).all f = true) : xs.all f = true := by
  rw [List.take_of_length_le (by omega)] at h1; exact h1

set_option maxHeartbeats 16000000 in
set_option maxRecDepth 100000 in
theorem law_Small (l : Ly) (m : Nat) (hm : m ≤ 1000) (va vw vo : Value) (w : World) (hr : RdL w va vw vo l) :
    Calls Tryz.prog 22 #[.agg #[va, vw, vo], .int .i64 (m : Int)] w fun e w' => e = .returned (.bool (smallB l m)) ∧ Below w.heap.size w w' := by
  obtain ⟨A, ca, rfl, hca, hCa⟩ := hr.1
  obtain ⟨Wp, cw, rfl, hcw, hCw⟩ := hr.2.1
  obtain ⟨Op, co, rfl, hco, hCo⟩ := hr.2.2
  have HCa := Aside0.mk hCa
  have HCw := Aside0.mk hCw
  have HCo := Aside0.mk hCo
  have mna := hCa.2.1
  have mnw := hCw.2.1
  have mno := hCo.2.1
  clear hCa hCw hCo hr
  obtain ⟨na, hna0⟩ : ∃ n, n = l.adds.length := ⟨_, rfl⟩
  obtain ⟨nw, hnw0⟩ : ∃ n, n = l.whites.length := ⟨_, rfl⟩
  obtain ⟨no, hno0⟩ : ∃ n, n = l.opaques.length := ⟨_, rfl⟩
  have HF := Aside0.mk (show smallB l m = (decide (na ≤ m) && (decide (nw ≤ m) && (decide (no ≤ m) && (l.adds.all (fun n => decide (n.path.size ≤ 60) && decide (n.data.size ≤ 60)) && (l.whites ++ l.opaques).all fun p => decide (p.size ≤ 60))))) by unfold smallB; rw [hna0, hnw0, hno0])
  rw [← hna0] at mna hca ⊢
  rw [← hnw0] at mnw hcw ⊢
  rw [← hno0] at mno hco ⊢
  have HNa := Aside0.mk hna0
  have HNw := Aside0.mk hnw0
  have HNo := Aside0.mk hno0
  clear hna0 hnw0 hno0
  have hst : ChkSt w (w.alloc (.cells #[.slice A na ca, .slice Wp nw cw, .slice Op no co] 25)) (.slice A na ca) (.slice Wp nw cw) (.slice Op no co) := ⟨heap_alloc_new w _, ((Grew.refl w).alloc _).below⟩
  have HS0 := Aside0.mk hst
  clear hst
  by_cases a1 : na ≤ m
  rotate_left
  · have HR := Aside0.mk (show smallB l m = false by rw [HF.out, decide_eq_false a1]; rfl)
    have b1 : (m : Int) < na := by omega
    go_enter Tryz.func22, Tryz.ntmps22
    go_wp2_with fail
    go_ret
    exact ⟨by rw [HR.out]; rfl, HS0.out.below⟩
  have b1 : ¬ (m : Int) < na := by omega
  by_cases a2 : nw ≤ m
  rotate_left
  · have HR := Aside0.mk (show smallB l m = false by rw [HF.out, decide_eq_false a2]; simp)
    have b2 : (m : Int) < nw := by omega
    go_enter Tryz.func22, Tryz.ntmps22
    go_wp2_with fail
    go_ret
    exact ⟨by rw [HR.out]; rfl, HS0.out.below⟩
  have b2 : ¬ (m : Int) < nw := by omega
  by_cases a3 : no ≤ m
  rotate_left
  · have HR := Aside0.mk (show smallB l m = false by rw [HF.out, decide_eq_false a3]; simp)
    have b3 : (m : Int) < no := by omega
    go_enter Tryz.func22, Tryz.ntmps22
    go_wp2_with fail
    go_ret
    exact ⟨by rw [HR.out]; rfl, HS0.out.below⟩
  have b3 : ¬ (m : Int) < no := by omega
  have HF2 := Aside0.mk (show smallB l m = (l.adds.all (fun n => decide (n.path.size ≤ 60) && decide (n.data.size ≤ 60)) && (l.whites ++ l.opaques).all fun p => decide (p.size ≤ 60)) by rw [HF.out, decide_eq_true a1, decide_eq_true a2, decide_eq_true a3]; rfl)
  clear HF
  go_enter Tryz.func22, Tryz.ntmps22
  go_wp2_with fail
  go_loopw [31] (fun i wr => ∃ k : Nat, k ≤ na ∧ i = .int .i64 k ∧ Aside0 ((l.adds.take k).all (fun n => decide (n.path.size ≤ 60) && decide (n.data.size ≤ 60)) = true) ∧ Aside0 (ChkSt w wr (.slice A na ca) (.slice Wp nw cw) (.slice Op no co))) (fun i _ => na - (intOf i).toNat)
  case atStart => exact ⟨0, Nat.zero_le _, rfl, ⟨by simp⟩, HS0⟩
  case round =>
    clear HS0
    obtain ⟨k, hk, rfl, HA, HS⟩ := hrel
    by_cases hlt : k < na
    · have hk2 : k < l.adds.length := by rw [← HNa.out]; exact hlt
      rcases C_nodes (Kd.C_below HCa.out HS.out.below) with h0 | ⟨b, off, rfl, hbl, hcell⟩
      · rw [h0] at hk2; cases hk2
      obtain ⟨q0, q1, q2, q3, q4⟩ := hcell k hk2
      have HT := Aside0.mk (fun h => all_take_step hk2 HA.out h)
      have HX := Aside0.mk (show (decide (l.adds[k].path.size ≤ 60) && decide (l.adds[k].data.size ≤ 60)) = false → smallB l m = false from fun h => by rw [HF2.out, all_here hk2 h]; rfl)
      have HSt := Aside0.mk (HS.out.alloc (.cells #[.string l.adds[k].path, .bool l.adds[k].dir, .string l.adds[k].data, .int .i64 l.adds[k].mode, .int .i64 l.adds[k].time] 46))
      obtain ⟨x, hx⟩ : ∃ x, x = l.adds[k] := ⟨_, rfl⟩
      rw [← hx] at q0 q1 q2 q3 q4 HT HX HSt
      clear hx hk2 hcell HA hbl
      have hkk : (k : Int) < na := by omega
      (try dsimp only at HT)
      by_cases c1 : x.path.size ≤ 60
      rotate_left
      · have HR := Aside0.mk (HX.out (by rw [decide_eq_false c1]; rfl))
        have d1 : (60 : Int) < x.path.size := by omega
        clear HT HX c1
        go_wp2_with fail
        go_ret
        exact ⟨by rw [HR.out]; rfl, HSt.out.below⟩
      have d1 : ¬ (60 : Int) < x.path.size := by omega
      by_cases c2 : x.data.size ≤ 60
      rotate_left
      · have HR := Aside0.mk (HX.out (by rw [decide_eq_false c2]; simp))
        have d2 : (60 : Int) < x.data.size := by omega
        clear HT HX c1 c2
        go_wp2_with fail
        go_ret
        exact ⟨by rw [HR.out]; rfl, HSt.out.below⟩
      have d2 : ¬ (60 : Int) < x.data.size := by omega
      have HT2 := Aside0.mk (HT.out (by rw [decide_eq_true c1, decide_eq_true c2]; rfl))
      clear HT HX c1 c2
      go_wp2_with fail
      go_roundw
      case rel => exact ⟨k + 1, by omega, by go_num, HT2, HSt⟩
      case measure => simp [intOf] <;> omega
    · obtain rfl : na = k := by omega
      have HF3 := Aside0.mk (show smallB l m = (l.whites ++ l.opaques).all fun p => decide (p.size ≤ 60) by rw [HF2.out, all_take_all HNa.out HA.out]; rfl)
      have c1 := blk_cell HS.out.lay 1
      have c2 := blk_cell HS.out.lay 2
      clear hlt HA HF2
      go_wp2_with fail
      have HKp := Aside0.mk (show ∀ W, ChkSt w W (.slice A na ca) (.slice Wp nw cw) (.slice Op no co) → W.cell? ⟨w.heap.size, 1, none⟩ = some (.slice Wp nw cw) ∧ W.cell? ⟨w.heap.size, 2, none⟩ = some (.slice Op no co) ∧ ChkSt w W (.slice A na ca) (.slice Wp nw cw) (.slice Op no co) from fun W h => ⟨blk_cell h.lay 1, blk_cell h.lay 2, h⟩)
      have HS1 := Aside0.mk (HS.out.step ((Grew.refl wr).drew).below)
      have hst := HKp.out _ HS1.out
      clear c1 c2 HS
      refine Reg.start (fun W => W.cell? ⟨w.heap.size, 1, none⟩ = some (.slice Wp nw cw) ∧ W.cell? ⟨w.heap.size, 2, none⟩ = some (.slice Op no co) ∧ ChkSt w W (.slice A na ca) (.slice Wp nw cw) (.slice Op no co)) (by kernel_rfl) hst (fun _ _ _ _ _ _ h => h) (fun R Q' HQ HR => ?_)
      simp only [List.size_toArray, List.length_cons, List.length_nil, Nat.zero_add, Nat.reduceAdd, Array.replicate, List.replicate]
      refine HR.take 1 47 (v := ?v1) rfl (by kernel_rfl) (by kernel_rfl) (by kernel_rfl) (Or.inl ⟨by rfl, ?hy1⟩) hst rfl ?rs1; (case hy1 => (intro w hSw; (try dsimp only at hSw); go_simp; (try with_reducible rfl))); simp only [List.setIfInBounds_toArray, List.set_cons_zero, List.set_cons_succ]
      refine HR.take 2 48 (v := ?v2) rfl (by kernel_rfl) (by kernel_rfl) (by kernel_rfl) (Or.inl ⟨by rfl, ?hy2⟩) hst rfl ?rs2; (case hy2 => (intro w hSw; (try dsimp only at hSw); go_simp; (try with_reducible rfl))); simp only [List.setIfInBounds_toArray, List.set_cons_zero, List.set_cons_succ]
      refine HR.take 4 50 (v := ?v4) rfl (by kernel_rfl) (by kernel_rfl) (by kernel_rfl) (Or.inl ⟨by rfl, ?hy4⟩) hst rfl ?rs4; (case hy4 => (intro w hSw; (try dsimp only at hSw); go_simp; (try with_reducible rfl))); simp only [List.setIfInBounds_toArray, List.set_cons_zero, List.set_cons_succ]
      refine HR.take 5 51 (v := ?v5) rfl (by kernel_rfl) (by kernel_rfl) (by kernel_rfl) (Or.inl ⟨by rfl, ?hy5⟩) hst rfl ?rs5; (case hy5 => (intro w hSw; (try dsimp only at hSw); go_simp; (try with_reducible rfl))); simp only [List.setIfInBounds_toArray, List.set_cons_zero, List.set_cons_succ]
      refine HR.take 8 54 (v := ?v8) rfl (by kernel_rfl) (by kernel_rfl) (by kernel_rfl) (Or.inl ⟨by rfl, ?hy8⟩) hst rfl ?rs8; (case hy8 => (intro w hSw; (try dsimp only at hSw); go_simp; (try with_reducible rfl))); simp only [List.setIfInBounds_toArray, List.set_cons_zero, List.set_cons_succ]
      refine HR.one 0 (by kernel_rfl) rfl (fun K hK => ?_)
      simp only [List.getElem_toArray, List.getElem_cons_succ, List.getElem_cons_zero]
      go_simp
      have HS2 := Aside0.mk (HS1.out.alloc (.cells #[] 9))
      have HO2 := Aside0.mk (Ow.empty Kd.string 9 wr.drew w.heap.size HS1.out.below.size)
      refine hK.out _ _ (HKp.out _ HS2.out) (fun _ => ?_)
      clear hK K
      simp only [Act.put, List.setIfInBounds_toArray, List.set_cons_zero, List.set_cons_succ]
      refine HR.one 3 (by kernel_rfl) rfl (fun K hK => ?_)
      simp only [List.getElem_toArray, List.getElem_cons_succ, List.getElem_cons_zero]
      have hsz2 := HS2.out.below.size
      have HW2 := Aside0.mk (Kd.C_below HCw.out HS2.out.below)
      rw [if_pos (by rfl)]
      refine Ow.app_wp Kd.string flat_string _ w.heap.size (by rfl) _ _ 23 9 _ 16 (by rfl) Tryz.underlying23 info9 rfl (by decide) (.slice (some ⟨wr.heap.size, 0, none⟩) 0 0) [] l.whites (by rfl) Wp cw ?hX HW2.out HO2.out hsz2 ?hL ?_
      case hX => rw [← HNw.out]; rfl
      case hL => rw [← HNw.out]; simp; omega
      intro v3 w3 ho3 hg3 hat3
      (try dsimp only)
      obtain ⟨A3, n3, c3, rfl⟩ := ho3.sl0
      have HS3 := Aside0.mk (show ChkSt w w3 (.slice A na ca) (.slice Wp nw cw) (.slice Op no co) from ⟨(hg3.block _ (blk_lt HS2.out.lay) (fun e => HO2.out.ne_type HS2.out.lay (by decide) e.symm)).trans HS2.out.lay, Below.grown HS2.out.below hg3 hsz2 (fun j hj => HO2.out.base_le j hj)⟩)
      have HO3 := Aside0.mk ho3
      refine hK.out _ _ (HKp.out _ HS3.out) (fun _ => ?_)
      clear hK K ho3 hg3 hat3 hsz2
      simp only [Act.put, List.setIfInBounds_toArray, List.set_cons_zero, List.set_cons_succ]
      refine HR.one 6 (by kernel_rfl) rfl (fun K hK => ?_)
      simp only [List.getElem_toArray, List.getElem_cons_succ, List.getElem_cons_zero]
      have hsz3 := HS3.out.below.size
      have HW3 := Aside0.mk (Kd.C_below HCo.out HS3.out.below)
      rw [if_pos (by rfl)]
      refine Ow.app_wp Kd.string flat_string _ w.heap.size (by rfl) _ _ 23 9 _ 16 (by rfl) Tryz.underlying23 info9 rfl (by decide) (.slice A3 n3 c3) ([] ++ l.whites) l.opaques (by rfl) Op co ?hX2 HW3.out HO3.out hsz3 ?hL2 ?_
      case hX2 => rw [← HNo.out]; rfl
      case hL2 => rw [List.length_append, ← HNw.out, ← HNo.out]; simp; omega
      intro v4 w4 ho4 hg4 hat4
      (try dsimp only)
      have HL4 := Aside0.mk (show ([] ++ l.whites ++ l.opaques).length = nw + no by rw [List.length_append, List.length_append, ← HNw.out, ← HNo.out]; simp)
      obtain ⟨A4, c4, rfl, _⟩ := ho4.slice
      have HS4 := Aside0.mk (show ChkSt w w4 (.slice A na ca) (.slice Wp nw cw) (.slice Op no co) from ⟨(hg4.block _ (blk_lt HS3.out.lay) (fun e => HO3.out.ne_type HS3.out.lay (by decide) e.symm)).trans HS3.out.lay, Below.grown HS3.out.below hg4 hsz3 (fun j hj => HO3.out.base_le j hj)⟩)
      have HR4 := Aside0.mk ho4.rd
      rw [HL4.out]
      refine hK.out _ _ (HKp.out _ HS4.out) (fun _ => ?_)
      clear hK K ho4 hg4 hat4 hsz3
      simp only [Act.put, List.setIfInBounds_toArray, List.set_cons_zero, List.set_cons_succ]
      refine HR.one 7 (by kernel_rfl) rfl (fun K hK => ?_)
      simp only [List.getElem_toArray, List.getElem_cons_succ, List.getElem_cons_zero]
      go_simp
      refine hK.out _ _ (HKp.out _ HS4.out) (fun _ => ?_)
      clear hK K
      simp only [Act.put, List.setIfInBounds_toArray, List.set_cons_zero, List.set_cons_succ]
      refine HR.done (by kernel_rfl) ?_
      rw [HQ.out]
      have HF4 := Aside0.mk (show smallB l m = ([] ++ l.whites ++ l.opaques).all fun p => decide (p.size ≤ 60) by rw [HF3.out]; rfl)
      obtain ⟨ys, hys⟩ : ∃ ys, ys = [] ++ l.whites ++ l.opaques := ⟨_, rfl⟩
      rw [← hys] at HL4 HR4 HF4
      obtain ⟨A5, c5, e5, l5, hC5⟩ := HR4.out
      rw [HL4.out] at e5
      injection e5 with e5a e5b e5c
      subst e5a e5c
      have HC5 := Aside0.mk hC5
      obtain ⟨nt, hnt⟩ : ∃ nt, nt = nw + no := ⟨_, rfl⟩
      rw [← hnt] at HL4 ⊢
      have hnt2 : nt ≤ 2000 := by omega
      have HNt := Aside0.mk hnt
      clear hC5 hys HR4 HS1 HS2 HS3 hst HO2 HO3 HR HQ HKp HF3 e5b hnt l5
      go_wp2_with fail
      go_loop [54] (fun i => ∃ k : Nat, k ≤ nt ∧ i = .int .i64 k ∧ Aside0 ((ys.take k).all (fun p => decide (p.size ≤ 60)) = true)) (fun i => nt - (intOf i).toNat)
      case atStart => exact ⟨0, Nat.zero_le _, rfl, ⟨by simp⟩⟩
      case round =>
        obtain ⟨k, hk, rfl, HA⟩ := hrel
        by_cases hlt : k < nt
        · have hk2 : k < ys.length := by rw [HL4.out]; exact hlt
          obtain ⟨ad, rfl, q0⟩ := C_str HC5.out k hk2
          rw [getD_get hk2] at q0
          have HT := Aside0.mk (fun h => all_take_step hk2 HA.out h)
          have HX := Aside0.mk (show decide (ys[k].size ≤ 60) = false → smallB l m = false from fun h => by rw [HF4.out, all_here hk2 h])
          obtain ⟨x, hx⟩ : ∃ x, x = ys[k] := ⟨_, rfl⟩
          rw [← hx] at q0 HT HX
          clear hx hk2 HA
          (try dsimp only at HT)
          have hkk : (k : Int) < (nw : Int) + no := by have := HNt.out; omega
          by_cases c1 : x.size ≤ 60
          · have HT2 := Aside0.mk (HT.out (decide_eq_true c1))
            have d1 : ¬ (60 : Int) < x.size := by omega
            clear HT HX c1
            go_wp2_with fail
            go_round
            case rel => exact ⟨k + 1, by omega, by go_num, HT2⟩
            case measure => simp [intOf] <;> omega
          · have HRs := Aside0.mk (HX.out (decide_eq_false c1))
            have d1 : (60 : Int) < x.size := by omega
            clear HT HX c1
            go_wp2_with fail
            go_ret
            exact ⟨by rw [HRs.out]; rfl, HS4.out.below⟩
        · obtain rfl : nt = k := by omega
          have hkk : ¬ (nt : Int) < (nw : Int) + no := by have := HNt.out; omega
          have HRs := Aside0.mk (show smallB l m = true by rw [HF4.out, all_take_all HL4.out.symm HA.out])
          clear hlt HA
          go_wp2_with fail
          go_ret
          exact ⟨by rw [HRs.out]; rfl, HS4.out.below⟩

end Go.Proofs.YtbkbpdpegiekhaaGreatDoor
