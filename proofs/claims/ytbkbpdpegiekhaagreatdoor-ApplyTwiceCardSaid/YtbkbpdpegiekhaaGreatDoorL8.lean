/- ApplyTwice, walked. -/
import Derived.Lib.SplitLaws
import Derived.Lib.LastIndexLaws
import Derived.Lib.Strings
import Derived.Below
import Derived.Deep.Draws
import Derived.Deep.AppendLies
import Derived.Maps.AppendAt
import Derived.OwnWalk
import Derived.Laws.BytesArg
import Derived.Laws.MakeOwn
import Derived.Laws.OwnMore
import Derived.Deep.OwnRows
import Derived.Tactics
import Derived.Lib.ConvBytes
import Derived.Laws.Slices
import Derived.WalkKit
import Derived.KernelRfl
import Derived.RowKit3
import Derived.Deep.LoopGhost
import Derived.Deep.QuietTactic
import Derived.BigQuiet
import Derived.WideLaws
import Derived.Deep.DeepCutAuto
import Derived.Deep.CutBlock
import Derived.Deep.RegionHeld3
import Derived.Laws.Rows
import Derived.Lib.AppendStr
import Derived.ArgAppend
import Derived.Laws.IdiomCopy
import Derived.RowKit
import Derived.Shelf.Unicode.DecodeSlow
import Derived.Sort.Grow
import Derived.Deep.DeepMust
import Derived.Shelf.SlGeneric
import Derived.Shelf.Unicode.ValidAny
import Derived.Shelf.SlSortCmp.WholeK
import Derived.Shelf.SlicesQ.Equal
import Derived.Shelf.SlicesQ.IndexFunc
import Derived.Shelf.SlicesQ.Reverse
import Derived.Shelf.SlCmpFuncs.BinarySearchFunc
import Derived.Shelf.SlCmpFuncs.None
import Derived.Ground.SlgqProg
import Derived.Ground.SlsgProg
import Derived.Ground.NamesProg
import Derived.Shelf.Strings.Builder1
import Derived.Shelf.Small.Bits
import Derived.Shelf.Small.Wraps
import Derived.Shelf.Strings.BuilderF
import Derived.Shelf.Strings.BuilderK
import Derived.Shelf.Strings.BuilderRune
import Derived.Shelf.Utf8.AppendRune
import Derived.Shelf.Utf8.AppendRunePlain
import Derived.Shelf.Utf8.RuneCount
import Derived.Shelf.Strconv.Itoa0
import Derived.Shelf.Strings.Search1
import Derived.Shelf.Strings.Search2
import Derived.Shelf.Strings.Search3
import Derived.Shelf.Strings.Count
import Derived.Shelf.LaysM
import Derived.Shelf.Strings.Shaped
import Derived.Shelf.Strings.LastIndex
import Derived.Shelf.Strings.LastIndexAll
import Derived.Shelf.GgClosure.StringsIndexFunc
import Derived.Ground.GgwProg
import Derived.Shelf.GgClosure.StringsIndexFuncTop
import Derived.Shelf.GgClosure.StringsRunes
import Derived.Shelf.Strings.Prefix
import Derived.Shelf.Strings.Split
import Derived.Shelf.Strings.SplitShaped
import Derived.Shelf.Unicode.Decode
import Derived.Shelf.Strings.RuneCount
import Derived.Shelf.Strings.Explode
import Derived.Shelf.Unicode.DecodeAny
import Derived.Shelf.Strings.FuncGrows
import Derived.Shelf.Strings.BuilderCap
import Derived.Shelf.Slices.Turned
import Derived.Ground.Names2Prog
import Derived.Shelf.Slices.Clone
import Derived.Shelf.Slices.CompactS
import Derived.Shelf.Slices.SearchI
import Derived.Shelf.Slices.Cells
import Derived.Ground.SlgnProg
import Derived.Shelf.SlicesE.Index
import Derived.Shelf.SlicesE.Compact
import Derived.Shelf.SlicesE.Clone
import Derived.Ground.SlgfProg
import Derived.Shelf.SlicesE.IndexFunc
import Derived.Shelf.SlicesE.DeleteFunc
import Derived.Ground.SlsfProg
import Derived.Shelf.SlSortCmp.Insertion
import Derived.Shelf.SlSortCmp.SiftDown1
import Derived.Shelf.SlSortCmp.HeapSort1
import Derived.Shelf.SlSortCmp.Insertion1
import Derived.Shelf.SlSortCmp.Median1
import Derived.Shelf.SlSortCmp.Pivot1
import Derived.Shelf.SlSortCmp.ReverseRange1
import Derived.Shelf.SlSortCmp.PartialInsertion1
import Derived.Shelf.SlSortCmp.PartitionEqual1
import Derived.Shelf.SlSortCmp.Partition1
import Derived.Shelf.SlSortCmp.Pdq1
import Derived.Shelf.SlSortCmp.Whole1
import Derived.Shelf.SlSortCmp.NoneTotal
import Derived.Outline
import Derived.WalkLawsBesides
import Derived.WalkSpells
import Derived.Shelf.Strings.BuilderX
import Derived.Lib.Slices
import Derived.Lib.Walk
import Derived.Lib.Builder
import Derived.Lib.UnsafeStr
import Derived.Lib.MakeNoZero
import Derived.Laws.Externs
import Derived.Laws.BitsLemmas
import Derived.Lib.TrimUEq
import Derived.Lib.MapLaws
import Derived.Maps.OwnOps
import Derived.Maps.OwnSet
import Derived.Maps.Views
import Derived.Lib.OwnBridge
import Derived.Shelf.Spec.SlicesGrow
import Derived.Deep.RegionLaw
import Derived.Lib.SliceRun
import Derived.Deep.AppendSrc
import Derived.Lib.AppendZerosOnto
import Derived.Lib.Overlaps
import Derived.Laws.NewBlocks
import Derived.StillTailTactics
import Derived.Lib.ValidLaws
import Derived.IntWalk
import Derived.Laws.ResultCell
import Derived.Laws.StructEq
import Derived.Test.YtbkbpdpegiekhaaGreatDoorU4
import Derived.Test.YtbkbpdpegiekhaaGreatDoorL5
import Derived.Test.YtbkbpdpegiekhaaGreatDoorF7
/- The awakening of the laying statements, plainly. -/
set_option linter.unusedVariables false
set_option linter.unusedSimpArgs false
namespace Go.Proofs.YtbkbpdpegiekhaaGreatDoor
open Go.RowKit Go.Proofs.YtbkbpdpegiekhaaGreatDoorW.PrintWords Mo

theorem right_by {p : S} (h : (!p.data.toList.isEmpty && decide (p.size ≤ 1024) && pRunes p && decide ((pParts p).length ≤ 32) && !(pParts p).any fun x => !(!x.data.toList.isEmpty && decide (x.size ≤ 255) && !(x.data.toList == [46]) && !(x.data.toList == [46, 46]))) = true) : pRight p = true := by
  rw [pRight_eq, Lib.toList_data]
  have e : (fun x => !okPart x) = fun x : S => !(!x.data.toList.isEmpty && decide (x.size ≤ 255) && !(x.data.toList == [46]) && !(x.data.toList == [46, 46])) := by
    funext x
    unfold okPart
    rw [Lib.toList_data]
  rw [e]
  exact h
def q0 : S := ⟨#[97]⟩
def q1 : S := ⟨#[98]⟩
def q2 : S := ⟨#[98, 47, 99]⟩
def n0 : Nd := ⟨q0, false, ⟨#[]⟩, 0, 0⟩
def n1 : Nd := ⟨q1, true, ⟨#[]⟩, 448, 0⟩
def n2 : Nd := ⟨q2, false, ⟨#[120]⟩, 0, 0⟩
def l24 : Ly := ⟨[n2], [q0], []⟩
def t24 : List Nd := [n0, n1]
theorem right_q0 : pRight q0 = true := right_by (by decide)
theorem right_q1 : pRight q1 = true := right_by (by decide)
theorem right_q2 : pRight q2 = true := right_by (by decide)
theorem right_wq0 : pRight ⟨#[46, 119, 104, 46, 97]⟩ = true := right_by (by decide)
theorem checkL_of {l : Ly} (h1 : ¬ 4096 < l.adds.length + l.whites.length + l.opaques.length) (h2 : addsE ⟨#[]⟩ [] l.adds = 0) (h3 : markersE 1 none l.whites = 0) (h4 : markersE 2 none l.opaques = 0) (h5 : filesB l = true) (h6 : ¬ 4194304 < bytesN l.adds) : checkL l = 0 := by
  have he : entsE l = 0 := by unfold entsE orE; rw [h2, h3, h4]; rfl
  unfold checkL
  rw [if_neg h1, he, if_pos rfl, h5, if_pos rfl, if_neg h6]
theorem rest_by {n : Nd} (h : (decide (0 ≤ n.mode) && decide (n.mode ≤ 511) && decide (0 ≤ n.time) && decide (n.time ≤ 4294967295) && (!n.dir || n.data.data.toList.isEmpty)) = true) : okRest n = true := by
  unfold okRest
  rw [Lib.toList_data]
  exact h
theorem adds_24 : addsE ⟨#[]⟩ [] l24.adds = 0 := by
  have h : addE n2 ⟨#[]⟩ [] = 0 := by
    have hk : kindE (pKind n2.path) = false := by
      rw [kind_clear (show pRight n2.path = true from right_q2)]
      decide
    unfold addE
    rw [show pRight n2.path = true from right_q2, show okRest n2 = true from rest_by (by decide), hk]
    decide
  show (if addE n2 ⟨#[]⟩ [] = 0 then _ else _) = _
  rw [if_pos h]
  rfl
theorem whites_24 : markersE 1 none l24.whites = 0 := by
  have hm : mPath 1 q0 = ⟨#[46, 119, 104, 46, 97]⟩ := by decide
  have hp : (pPath 1 q0).2 = 0 := by
    unfold pPath
    rw [if_neg (not_or.2 ⟨fun h => by rw [right_q0] at h; exact absurd h.1 (by decide), by rw [hm, right_wq0]; decide⟩), if_neg (by decide), if_neg (by decide)]
  show (if markE 1 none q0 = 0 then _ else _) = _
  have : markE 1 none q0 = 0 := by unfold markE; rw [if_pos hp]; rfl
  rw [if_pos this]
  rfl
theorem srcs_24 : srcs l24 = [q1] := by decide
theorem ens_24 : ensL l24 = [q1] := by
  unfold ensL
  rw [srcs_24]
  exact tidy_self (List.pairwise_singleton _ _)
theorem files_24 : filesB l24 = true := by
  unfold filesB
  have : blockB l24 n2 = false := by unfold blockB; rw [ens_24]; decide
  show (!(blockB l24 n2 || false)) = true
  rw [this]
  rfl
theorem check_24 : checkL l24 = 0 := checkL_of (by decide) adds_24 whites_24 rfl files_24 (by decide)
theorem paths_24 : pathsL l24 = [q1, q2] := by
  unfold pathsL
  rw [ens_24]
  exact tidy_self (List.pairwise_pair.2 (by unfold ltS; decide))
theorem start_24 : startF l24 t24 = [n1] := by kernel_rfl
theorem run_24 : runF l24 [n1] [q1, q2] = some [n1, n2] := by kernel_rfl
theorem tree_24 : checkT t24 = 0 := by
  have h0 : okRest n0 = true := rest_by (by decide)
  have h1 : okRest n1 = true := rest_by (by decide)
  have e0 : nodeE n0 ⟨#[]⟩ [] [] = 0 := nodeE_zero.2 ⟨right_q0, h0, by decide, by decide, by decide⟩
  have e1 : nodeE n1 q0 [] [pFold q0] = 0 := nodeE_zero.2 ⟨right_q1, h1, by decide, by decide, by decide⟩
  unfold checkT
  rw [if_neg (by decide)]
  show (if nodeE n0 ⟨#[]⟩ [] [] = 0 then _ else _) = _
  rw [if_pos e0]
  show (if nodeE n1 q0 [] [pFold q0] = 0 then _ else _) = _
  rw [if_pos e1]
  rfl
theorem apply_24 : applyL l24 t24 = ([n1, n2], 0) := by
  unfold applyL
  rw [if_pos ⟨tree_24, check_24⟩, start_24, paths_24, run_24]
  unfold endF
  simp only
  rw [if_neg (by decide), if_neg (by decide)]
theorem removes_24 : removesB l24 ⟨#[97, 47, 120]⟩ = true ∧ removesB l24 q1 = false := by decide

end Go.Proofs.YtbkbpdpegiekhaaGreatDoor

/- The awakening of the laying statements, walked. -/
set_option linter.unusedVariables false
set_option linter.unusedSimpArgs false
namespace Go.Proofs.YtbkbpdpegiekhaaGreatDoor
open Go.RowKit Go.Proofs.YtbkbpdpegiekhaaGreatDoorW.PrintWords Mo

theorem apply_to {l : Ly} {t r : List Nd} {c : Int} (h : applyL l t = (r, c)) {va vw vo vt : Value} {w : World} (hE : Env w) (hr : RdL w va vw vo l) (hl : Lb l) (hld : ∀ n ∈ l.adds, n.data.size < 1000000000) (hv : Rd kN w vt t) (hx : ∀ n ∈ t, n.path.size < 1000000000 ∧ n.data.size < 1000000000) (hsz : t.length ≤ 1000000) :
    Calls Tryz.prog 53 #[.agg #[va, vw, vo], vt] w fun e w' => ∃ u, e = .returned (.tuple #[u, .int .i64 c]) ∧ Ow kN 46 w' w.heap.size u r ∧ Below w.heap.size w w' := by
  have := apply_Apply l va vw vo t vt w hE hr hl hld hv hx hsz
  unfold AppE at this
  rw [h] at this
  exact this

set_option maxRecDepth 100000 in
set_option maxHeartbeats 2000000 in
theorem lay_awakens (w : World) (hE : Env w) : Calls Tryz.prog 52 #[] w fun e w' => e = .returned (.bool true) ∧ Below w.heap.size w w' := by
  have HE := Aside0.mk (fun W (hb : Below w.heap.size w W) => hE.below hb)
  obtain ⟨o1, h1⟩ : ∃ o, o = Obj.cells #[.string ⟨#[98, 47, 99]⟩, .bool false, .string ⟨#[120]⟩, .int .i64 0, .int .i64 0] 46 := ⟨_, rfl⟩
  obtain ⟨o2, h2⟩ : ∃ o, o = Obj.cells #[.string ⟨#[97]⟩] 9 := ⟨_, rfl⟩
  obtain ⟨o3, h3⟩ : ∃ o, o = Obj.cells #[.slice (some ⟨w.heap.size, 0, none⟩) 1 1, .slice (some ⟨w.heap.size + 1, 0, none⟩) 1 1, .slice none 0 0] 25 := ⟨_, rfl⟩
  obtain ⟨o4, h4⟩ : ∃ o, o = Obj.cells #[.string ⟨#[97]⟩, .bool false, .string ⟨#[]⟩, .int .i64 0, .int .i64 0, .string ⟨#[98]⟩, .bool true, .string ⟨#[]⟩, .int .i64 448, .int .i64 0] 46 := ⟨_, rfl⟩
  have hA : kN.C (w.alloc o1) (some ⟨w.heap.size, 0, none⟩) 1 [n2] := by rw [h1]; exact C_lit flat_node w 46 n2 _ (kN_mk w n2) _ rfl
  have hW : Kd.string.C ((w.alloc o1).alloc o2) (some ⟨w.heap.size + 1, 0, none⟩) 1 [q0] := by rw [h2]; exact C_lit flat_string (w.alloc o1) 9 q0 _ rfl _ (by simp)
  have hT : kN.C ((((w.alloc o1).alloc o2).alloc o3).alloc o4) (some ⟨w.heap.size + 3, 0, none⟩) 2 t24 := by
    rw [h4]
    exact C_lits flat_node (((w.alloc o1).alloc o2).alloc o3) 46 t24 (cN n0 ++ cN n1) (Reps.app (reps_single (d := kN) (kN_mk w n0)) (reps_single (d := kN) (kN_mk _ n1))) (by decide) _ (by simp)
  have hb1 := ((Grew.refl w).alloc o1).below
  have hb2 := ((Grew.refl (w.alloc o1)).alloc o2).below
  have hb3 := ((Grew.refl ((w.alloc o1).alloc o2)).alloc o3).below
  have hb4 := ((Grew.refl (((w.alloc o1).alloc o2).alloc o3)).alloc o4).below
  have hlay := heap_alloc_new ((w.alloc o1).alloc o2) o3
  rw [show ((w.alloc o1).alloc o2).heap.size = w.heap.size + 2 by simp] at hlay
  have hR : RdL ((((w.alloc o1).alloc o2).alloc o3).alloc o4) (.slice (some ⟨w.heap.size, 0, none⟩) 1 1) (.slice (some ⟨w.heap.size + 1, 0, none⟩) 1 1) (.slice none 0 0) l24 :=
    ⟨⟨_, 1, rfl, Nat.le_refl _, Kd.C_below (Kd.C_below (Kd.C_below hA hb2) hb3) hb4⟩, ⟨_, 1, rfl, Nat.le_refl _, Kd.C_below (Kd.C_below hW hb3) hb4⟩, (Ow.nil Kd.string 9 _ 0).rd⟩
  have HR := Aside0.mk hR
  have HT := Aside0.mk (show Rd kN ((((w.alloc o1).alloc o2).alloc o3).alloc o4) (.slice (some ⟨w.heap.size + 3, 0, none⟩) 2 2) t24 from ⟨_, 2, rfl, Nat.le_refl _, hT⟩)
  have HB := Aside0.mk ((((Grew.refl w).alloc o1).alloc o2).alloc o3 |>.alloc o4).below
  have hlay4 := (hb4.block _ (blk_lt hlay)).trans hlay
  have HLb := Aside0.mk (show Lb l24 from ⟨by decide, by decide, by decide, by decide, by decide, by decide, by decide⟩)
  have HLd := Aside0.mk (show ∀ n ∈ l24.adds, n.data.size < 1000000000 by decide)
  have HTx := Aside0.mk (show ∀ n ∈ t24, n.path.size < 1000000000 ∧ n.data.size < 1000000000 by decide)
  clear hA hW hT hb1 hb2 hb3 hb4 hlay hR hE
  go_enter Tryz.func52, Tryz.ntmps52
  subst h1 h2 h3 h4
  have HLay := Aside0.mk hlay4
  clear hlay4
  go_wp2_with fail
  refine (apply_to apply_24 (HE.out _ HB.out) HR.out HLb.out HLd.out HT.out HTx.out (by decide)).mono ?_
  rintro e1 w1 ⟨u, rfl, ho, hb⟩
  have HB1 := Aside0.mk (below_then HB.out HB.out.size hb)
  have HR1 := Aside0.mk (HR.out.below hb)
  have HLay1 := Aside0.mk ((hb.block _ (blk_lt HLay.out)).trans HLay.out)
  obtain ⟨A, c, rfl, hl, hC⟩ := ho.rd
  rcases C_nodes hC with h0 | ⟨b, off, rfl, _, hc⟩
  · cases h0
  have k0 := (hc 0 (show 0 < 2 by decide)).2.2.2.1
  have k1 := (hc 1 (show 1 < 2 by decide)).1
  have hl2 : ([n1, n2] : List Nd).length = 2 := rfl
  rw [hl2] at hl ⊢
  have b0 := blk_cell HLay1.out 0
  have b1 := blk_cell HLay1.out 1
  have b2 := blk_cell HLay1.out 2
  have j0 : w1.cell? ⟨b, off + 3, none⟩ = some (.int .i64 448) := by simpa [n1] using k0
  have j1 : w1.cell? ⟨b, off + 5, none⟩ = some (.string ⟨#[98, 47, 99]⟩) := by simpa [n2, q2] using k1
  clear ho hb hC hc hl2 k0 k1
  go_wp2_with fail
  refine (apply_Removes l24 _ _ _ ⟨#[97, 47, 120]⟩ _ HR1.out HLb.out).mono ?_
  rintro e2 w2 ⟨rfl, hb2⟩
  rw [removes_24.1]
  have HB2 := Aside0.mk (below_then HB1.out HB1.out.size hb2)
  have HR2 := Aside0.mk (HR1.out.below hb2)
  have HLay2 := Aside0.mk ((hb2.block _ (blk_lt HLay1.out)).trans HLay1.out)
  clear hb2 b0 b1 b2 j0 j1
  have b0 := blk_cell HLay2.out 0
  have b1 := blk_cell HLay2.out 1
  have b2 := blk_cell HLay2.out 2
  go_wp2_with fail
  refine (apply_Removes l24 _ _ _ ⟨#[98]⟩ _ HR2.out HLb.out).mono ?_
  rintro e3 w3 ⟨rfl, hb3⟩
  rw [show removesB l24 ⟨#[98]⟩ = false from removes_24.2]
  have HB3 := Aside0.mk (below_then HB2.out HB2.out.size hb3)
  clear hb3
  go_wp2_with fail
  go_ret
  exact ⟨rfl, HB3.out⟩

end Go.Proofs.YtbkbpdpegiekhaaGreatDoor

set_option linter.unusedVariables false
set_option linter.unusedSimpArgs false
namespace Go.Proofs.YtbkbpdpegiekhaaGreatDoor
open Go.RowKit Go.Proofs.YtbkbpdpegiekhaaGreatDoorW.PrintWords Mo

theorem applyL_err {l : Ly} {t : List Nd} (h : (applyL l t).2 ≠ 0) : (applyL l t).1 = [] := by
  unfold applyL at h ⊢
  by_cases hc : checkT t = 0 ∧ checkL l = 0
  · rw [if_pos hc] at h ⊢
    cases hr : runF l (startF l t) (pathsL l) with
    | none => rfl
    | some r =>
      rw [hr] at h
      unfold endF at h ⊢
      simp only at h ⊢
      by_cases hb : 4194304 < bytesN r
      · rw [if_pos hb]
      · rw [if_neg hb] at h ⊢
        by_cases hk : collT r = true
        · rw [if_pos hk]
        · rw [if_neg hk] at h
          exact absurd rfl h
  · rw [if_neg hc]
theorem ups_short : ∀ (q p : S), q ∈ ups p → q.size ≤ p.size := fun q p h => Nat.le_of_lt (ups_size p q h)
theorem ens_short {l : Ly} {m : Nat} (h : Short l m) {q : S} (hq : q ∈ ensL l) : q.size ≤ 60 := by
  rw [ensL_mem, mem_srcs] at hq
  rcases hq with ⟨n, hn, hx⟩ | ⟨p, hp, hx⟩ | ⟨p, hp, hx | ⟨h1, rfl⟩⟩
  · exact Nat.le_trans (ups_short _ _ hx) (h.a n hn).1
  · exact Nat.le_trans (ups_short _ _ hx) (h.w p hp)
  · exact Nat.le_trans (ups_short _ _ hx) (h.o p hp)
  · exact h.o q hp
/-- What a short layer makes of short nodes is short. -/
theorem made_short {l : Ly} {m : Nat} {t r : List Nd} {c : Int} (hl : Short l m) (ht : ∀ n ∈ t, n.path.size ≤ 60 ∧ n.data.size ≤ 60) (h : applyL l t = (r, c)) : (∀ n ∈ r, n.path.size ≤ 60 ∧ n.data.size ≤ 60) ∧ r.length ≤ 4096 := by
  by_cases hc : c = 0
  · subst hc
    obtain ⟨h1, h2, h3, h4, h5, h6⟩ := applyL_ok h
    refine ⟨fun n hn => ?_, (made_tree h).len⟩
    rcases made_from h3 h1.ok h4 n hn with h | h | ⟨q, hq, rfl⟩
    · exact hl.a n h
    · exact ht n h
    · exact ⟨ens_short hl hq, (by decide : (0 : Nat) ≤ 60)⟩
  · have := applyL_err (l := l) (t := t) (by rw [h]; exact hc)
    rw [h] at this
    simp only at this
    subst this
    exact ⟨fun n hn => (by cases hn), by simp⟩

set_option maxRecDepth 100000 in
set_option maxHeartbeats 2000000 in
theorem twice_any (l : Ly) (va vw vo : Value) (t : List Nd) (vt : Value) (w : World) (hE : Env w) (hr : RdL w va vw vo l) (hv : Rd kN w vt t) :
    Calls Tryz.prog 12 #[.agg #[va, vw, vo], vt] w fun e w' => e = .returned (.bool true) ∧ Below w.heap.size w w' := by
  obtain ⟨o, ho⟩ : ∃ o, o = Obj.cells #[va, vw, vo] 25 := ⟨_, rfl⟩
  have HB0 := Aside0.mk ((Grew.refl w).alloc o).below
  have hw0 := heap_alloc_new w o
  have HE := Aside0.mk fun (W : World) (hb : Below w.heap.size w W) => hE.below hb
  have HR := Aside0.mk fun (W : World) (hb : Below w.heap.size w W) => hr.below hb
  have HV := Aside0.mk fun (W : World) (hb : Below w.heap.size w W) => hv.below hb
  have HAw := Aside0.mk (lay_awakens (w.alloc o) (hE.below HB0.out))
  obtain ⟨Aa, na, ca, rfl⟩ : ∃ A n c, va = .slice A n c := by obtain ⟨A, c, h, _⟩ := hr.1; exact ⟨_, _, _, h⟩
  obtain ⟨Aw, nw, cw, rfl⟩ : ∃ A n c, vw = .slice A n c := by obtain ⟨A, c, h, _⟩ := hr.2.1; exact ⟨_, _, _, h⟩
  obtain ⟨Ao, no, co, rfl⟩ : ∃ A n c, vo = .slice A n c := by obtain ⟨A, c, h, _⟩ := hr.2.2; exact ⟨_, _, _, h⟩
  obtain ⟨At, nt, ct, rfl⟩ : ∃ A n c, vt = .slice A n c := by obtain ⟨A, c, h, _⟩ := hv; exact ⟨_, _, _, h⟩
  clear hE hr hv
  go_enter Tryz.func12, Tryz.ntmps12
  subst ho
  have HW0 := Aside0.mk hw0
  clear hw0
  go_wp2_with fail
  refine HAw.out.mono ?_
  rintro e1 w1 ⟨rfl, hb1⟩
  have HB1 := Aside0.mk (below_then HB0.out HB0.out.size hb1)
  have HW1 := Aside0.mk ((hb1.block _ (blk_lt HW0.out)).trans HW0.out)
  clear hb1 HAw
  have b0 := blk_cell HW1.out 0
  have b1 := blk_cell HW1.out 1
  have b2 := blk_cell HW1.out 2
  go_wp2_with fail
  refine (law_Small l 20 (by decide) _ _ _ w1 (HR.out _ HB1.out)).mono ?_
  rintro e2 w2 ⟨rfl, hb2⟩
  have HB2 := Aside0.mk (below_then HB1.out HB1.out.size hb2)
  have HW2 := Aside0.mk ((hb2.block _ (blk_lt HW1.out)).trans HW1.out)
  clear hb2 b0 b1 b2
  cases hsm : smallB l 20
  · clear hsm
    go_wp2_with fail
    go_ret
    exact ⟨rfl, HB2.out⟩
  have HSm := Aside0.mk (small_short hsm)
  clear hsm
  go_wp2_with fail
  refine (law_Few t 30 (by decide) _ w2 (HV.out _ HB2.out)).mono ?_
  rintro e3 w3 ⟨rfl, hb3⟩
  have HB3 := Aside0.mk (below_then HB2.out HB2.out.size hb3)
  have HW3 := Aside0.mk ((hb3.block _ (blk_lt HW2.out)).trans HW2.out)
  clear hb3
  cases hfw : fewB t 30
  · clear hfw
    go_wp2_with fail
    go_ret
    exact ⟨rfl, HB3.out⟩
  have hl30 := few_len hfw
  have HFw := Aside0.mk (few_short hfw)
  clear hfw
  have b0 := blk_cell HW3.out 0
  have b1 := blk_cell HW3.out 1
  have b2 := blk_cell HW3.out 2
  obtain ⟨r, c, hrc⟩ : ∃ r c, applyL l t = (r, c) := ⟨_, _, rfl⟩
  have HRc := Aside0.mk hrc
  have HSh := Aside0.mk (made_short HSm.out HFw.out hrc)
  clear hrc
  go_wp2_with fail
  refine (apply_to HRc.out (HE.out _ HB3.out) (HR.out _ HB3.out) (HSm.out.lb (by decide)) HSm.out.ld (HV.out _ HB3.out) (fun n hn => by have := HFw.out n hn; omega) (by omega)).mono ?_
  rintro e4 w4 ⟨u, rfl, ho4, hb4⟩
  have HB4 := Aside0.mk (below_then HB3.out HB3.out.size hb4)
  have HW4 := Aside0.mk ((hb4.block _ (blk_lt HW3.out)).trans HW3.out)
  have HO4 := Aside0.mk ho4
  obtain ⟨A4, c4, rfl, _⟩ := ho4.slice
  clear hb4 ho4 b0 b1 b2
  by_cases hc : c = 0
  · subst hc
    have HT := Aside0.mk (apply_twice HRc.out)
    have hr4 := HSh.out.2
    have b0 := blk_cell HW4.out 0
    have b1 := blk_cell HW4.out 1
    have b2 := blk_cell HW4.out 2
    go_wp2_with fail
    refine (apply_to HT.out (HE.out _ HB4.out) (HR.out _ HB4.out) (HSm.out.lb (by decide)) HSm.out.ld HO4.out.rd (fun n hn => by have := HSh.out.1 n hn; omega) (by omega)).mono ?_
    rintro e5 w5 ⟨u5, rfl, ho5, hb5⟩
    have HB5 := Aside0.mk (below_then HB4.out HB4.out.size hb5)
    have HO5 := Aside0.mk ho5
    have HO45 := Aside0.mk (HO4.out.rd.below hb5)
    obtain ⟨A5, c5, rfl, _⟩ := ho5.slice
    clear hb5 ho5 b0 b1 b2
    go_wp2_with fail
    refine (ref_NSame r r _ _ w5 HO45.out HO5.out.rd).mono ?_
    rintro e6 w6 ⟨rfl, hw6⟩
    rw [decide_eq_true (show r = r from rfl)]
    have HB6 := Aside0.mk (below_then HB5.out HB5.out.size hw6)
    clear hw6
    go_wp2_with fail
    go_ret
    exact ⟨rfl, HB6.out⟩
  · have HC := Aside0.mk (applyL_err (l := l) (t := t) (by rw [HRc.out]; exact hc))
    have hcb : (c != 0) = true := by simpa using hc
    have hr0 : r = [] := by have := HC.out; rw [HRc.out] at this; exact this
    subst hr0
    clear hc
    go_wp2_with fail
    go_ret
    exact ⟨rfl, HB4.out⟩

end Go.Proofs.YtbkbpdpegiekhaaGreatDoor
