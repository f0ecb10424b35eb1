/- tree: rest, May; layer: add, adds. -/
import Derived.Lib.SplitLaws
import Derived.Lib.LastIndexLaws
import Derived.Lib.Strings
import Derived.Below
import Derived.Deep.Draws
import Derived.Deep.AppendLies
import Derived.Maps.AppendAt
import Derived.OwnWalk
import Derived.Laws.BytesArg
import Derived.Laws.MakeOwn
import Derived.Laws.OwnMore
import Derived.Deep.OwnRows
import Derived.Tactics
import Derived.Lib.ConvBytes
import Derived.Laws.Slices
import Derived.WalkKit
import Derived.KernelRfl
import Derived.RowKit3
import Derived.Deep.LoopGhost
import Derived.Deep.QuietTactic
import Derived.BigQuiet
import Derived.WideLaws
import Derived.Deep.DeepCutAuto
import Derived.Deep.CutBlock
import Derived.Deep.RegionHeld3
import Derived.Laws.Rows
import Derived.Lib.AppendStr
import Derived.ArgAppend
import Derived.Laws.IdiomCopy
import Derived.RowKit
import Derived.Shelf.Unicode.DecodeSlow
import Derived.Sort.Grow
import Derived.Deep.DeepMust
import Derived.Shelf.SlGeneric
import Derived.Shelf.Unicode.ValidAny
import Derived.Shelf.SlSortCmp.WholeK
import Derived.Shelf.SlicesQ.Equal
import Derived.Shelf.SlicesQ.IndexFunc
import Derived.Shelf.SlicesQ.Reverse
import Derived.Shelf.SlCmpFuncs.BinarySearchFunc
import Derived.Shelf.SlCmpFuncs.None
import Derived.Ground.SlgqProg
import Derived.Ground.SlsgProg
import Derived.Ground.NamesProg
import Derived.Shelf.Strings.Builder1
import Derived.Shelf.Small.Bits
import Derived.Shelf.Small.Wraps
import Derived.Shelf.Strings.BuilderF
import Derived.Shelf.Strings.BuilderK
import Derived.Shelf.Strings.BuilderRune
import Derived.Shelf.Utf8.AppendRune
import Derived.Shelf.Utf8.AppendRunePlain
import Derived.Shelf.Utf8.RuneCount
import Derived.Shelf.Strconv.Itoa0
import Derived.Shelf.Strings.Search1
import Derived.Shelf.Strings.Search2
import Derived.Shelf.Strings.Search3
import Derived.Shelf.Strings.Count
import Derived.Shelf.LaysM
import Derived.Shelf.Strings.Shaped
import Derived.Shelf.Strings.LastIndex
import Derived.Shelf.Strings.LastIndexAll
import Derived.Shelf.GgClosure.StringsIndexFunc
import Derived.Ground.GgwProg
import Derived.Shelf.GgClosure.StringsIndexFuncTop
import Derived.Shelf.GgClosure.StringsRunes
import Derived.Shelf.Strings.Prefix
import Derived.Shelf.Strings.Split
import Derived.Shelf.Strings.SplitShaped
import Derived.Shelf.Unicode.Decode
import Derived.Shelf.Strings.RuneCount
import Derived.Shelf.Strings.Explode
import Derived.Shelf.Unicode.DecodeAny
import Derived.Shelf.Strings.FuncGrows
import Derived.Shelf.Strings.BuilderCap
import Derived.Shelf.Slices.Turned
import Derived.Ground.Names2Prog
import Derived.Shelf.Slices.Clone
import Derived.Shelf.Slices.CompactS
import Derived.Shelf.Slices.SearchI
import Derived.Shelf.Slices.Cells
import Derived.Ground.SlgnProg
import Derived.Shelf.SlicesE.Index
import Derived.Shelf.SlicesE.Compact
import Derived.Shelf.SlicesE.Clone
import Derived.Ground.SlgfProg
import Derived.Shelf.SlicesE.IndexFunc
import Derived.Shelf.SlicesE.DeleteFunc
import Derived.Ground.SlsfProg
import Derived.Shelf.SlSortCmp.Insertion
import Derived.Shelf.SlSortCmp.SiftDown1
import Derived.Shelf.SlSortCmp.HeapSort1
import Derived.Shelf.SlSortCmp.Insertion1
import Derived.Shelf.SlSortCmp.Median1
import Derived.Shelf.SlSortCmp.Pivot1
import Derived.Shelf.SlSortCmp.ReverseRange1
import Derived.Shelf.SlSortCmp.PartialInsertion1
import Derived.Shelf.SlSortCmp.PartitionEqual1
import Derived.Shelf.SlSortCmp.Partition1
import Derived.Shelf.SlSortCmp.Pdq1
import Derived.Shelf.SlSortCmp.Whole1
import Derived.Shelf.SlSortCmp.NoneTotal
import Derived.Outline
import Derived.WalkLawsBesides
import Derived.WalkSpells
import Derived.Shelf.Strings.BuilderX
import Derived.Lib.Slices
import Derived.Lib.Walk
import Derived.Lib.Builder
import Derived.Lib.UnsafeStr
import Derived.Lib.MakeNoZero
import Derived.Laws.Externs
import Derived.Laws.BitsLemmas
import Derived.Lib.TrimUEq
import Derived.Lib.MapLaws
import Derived.Maps.OwnOps
import Derived.Maps.OwnSet
import Derived.Maps.Views
import Derived.Test.YtbkbpdpegiekhaaGreatDoorR6
import Derived.Test.YtbkbpdpegiekhaaGreatDoorB2
/- strings.Builder: copyCheck, WriteString (as the shelf has them, at this program's own copyCheck). -/
set_option linter.unusedVariables false
set_option linter.unusedSimpArgs false
namespace Go.Proofs.YtbkbpdpegiekhaaGreatDoor
open Go.RowKit Go.Proofs.YtbkbpdpegiekhaaGreatDoorW.PrintWords Mo

theorem sizeBuilder : (Tryz.prog.info? 261).map (·.size) = some 2 := by kernel_rfl
theorem liesBuilder : liesAt Tryz.prog Tryz.prog.depth 261 (2 / Tryz.prog.cellsOf 261) 0 261 1 = true := by kernel_rfl
theorem info5 : (Tryz.prog.info? 5).map (fun i => (i.zero, i.size, i.bytes)) = some (some (.int .u8 0), 1, 1) := by kernel_rfl

set_option maxHeartbeats 1000000 in
set_option maxRecDepth 100000 in
theorem copyCheck_used (b : Nat) (w : World) (h0 : w.cell? ⟨b, 0, none⟩ = some (.pointer (some ⟨b, 0, none⟩))) :
    Calls Tryz.prog 288 #[.pointer (some ⟨b, 0, none⟩)] w fun e w' => e = .returned (.tuple #[]) ∧ w' = w := by
  obtain ⟨j, hj, _⟩ := Option.map_eq_some_iff.1 sizeBuilder
  go_enter Tryz.func288, Tryz.ntmps288
  go_wp2
  rw [Lib.run_neq_ptr_same w _ Tryz.underlying259 hj]
  go_wp2
  go_end0
  exact ⟨rfl, rfl⟩

set_option maxHeartbeats 1000000 in
set_option maxRecDepth 100000 in
theorem copyCheck_fresh (b : Nat) (w : World) (h0 : w.cell? ⟨b, 0, none⟩ = some (.pointer none)) (hsh : w.shape? b = some (261, 2)) (hfz : w.frozen? ⟨b, 0, none⟩ = false) :
    Calls Tryz.prog 288 #[.pointer (some ⟨b, 0, none⟩)] w fun e w' => e = .returned (.tuple #[]) ∧ w' = w.setCell ⟨b, 0, none⟩ (.pointer (some ⟨b, 0, none⟩)) := by
  obtain ⟨j, hj, hjs⟩ := Option.map_eq_some_iff.1 sizeBuilder
  go_enter Tryz.func288, Tryz.ntmps288
  go_wp2
  rw [Lib.run_to_unsafe w ⟨b, 0, none⟩ Tryz.underlying259 Tryz.underlying326 hj (by rw [hjs]; decide) hsh (Nat.zero_lt_succ 1)]
  simp only [Result.andThen]
  rw [Oper.upon_value]
  go_wp2
  rw [run_callFunc_extern Tryz.func310 (by kernel_rfl) (by kernel_rfl) (by kernel_rfl) (e := Extern.AbiNoEscape.same) (by kernel_rfl)]
  rw [Lib.run_noEscape]
  simp only [Result.andThen]
  rw [Oper.upon_value]
  go_wp2
  rw [Lib.run_from_unsafe w ⟨b, 0, none⟩ Tryz.underlying326 Tryz.underlying259 hj hsh liesBuilder]
  simp only [Result.andThen]
  rw [Oper.upon_value]
  go_wp2
  go_end0
  exact ⟨rfl, rfl⟩

theorem copyCheck_any (B b : Nat) (bs : List Value) (w : World) (h : Lib.IsBuilder 261 5 B b bs w) :
    Calls Tryz.prog 288 #[.pointer (some ⟨b, 0, none⟩)] w fun e w' => e = .returned (.tuple #[]) ∧ (Lib.BuilderAt 261 5 B b (.pointer (some ⟨b, 0, none⟩)) bs w' ∧ Below B w w') := by
  rcases h with h | h
  · refine (copyCheck_fresh b w h.cell0 h.shape h.frozen0).mono ?_
    rintro e w' ⟨rfl, rfl⟩
    exact ⟨rfl, h.used _, (Below.refl B w).setCell (p := ⟨b, 0, none⟩) h.1 _⟩
  · refine (copyCheck_used b w h.cell0).mono ?_
    rintro e w' ⟨rfl, rfl⟩
    exact ⟨rfl, h, Below.refl B _⟩

set_option maxHeartbeats 2000000 in
set_option maxRecDepth 100000 in
theorem WriteString_any (B b : Nat) (bs : List Value) (s : ByteArray) (w : World) (h : Lib.IsBuilder 261 5 B b bs w) (hlen : bs.length + s.size ≤ 140737488355328) (hBw : B ≤ w.heap.size) :
    Calls Tryz.prog 232 #[.pointer (some ⟨b, 0, none⟩), .string s] w fun e w' => e = .returned (.tuple #[.int .i64 s.size, .nilIface]) ∧ (Lib.BuilderAt 261 5 B b (.pointer (some ⟨b, 0, none⟩)) (bs ++ Lib.strCells s) w' ∧ Below B w w') := by
  obtain ⟨i0, hi, hz0, hz1, hz2⟩ := info_parts info5
  go_enter Tryz.func232, Tryz.ntmps232
  go_wp2_with (go_at_call 288; refine (copyCheck_any B b bs _ h).mono ?_)
  rintro e w1 ⟨rfl, h1, hb1⟩
  obtain ⟨hB, v, hbk, hown, hne⟩ := h1
  have c0 : w1.cell? ⟨b, 0, none⟩ = some (.pointer (some ⟨b, 0, none⟩)) := by rw [Lib.cell_of_heap hbk]; rfl
  have c1 : w1.cell? ⟨b, 1, none⟩ = some v := by rw [Lib.cell_of_heap hbk]; rfl
  go_wp2_with (at_builtin; refine Lib.wpList_append_own_string _ rfl _ _ 235 9 rfl B 5 i0 Tryz.underlying235 Tryz.underlying9 hi hz0 hz1 hz2 _ _ _ rfl hown s rfl ?c3 ?c4 ?c5 ?_)
  case c3 => unfold maxLen; omega
  case c4 => omega
  case c5 => have := hb1.size; omega
  intro v' w2 hown' hgrow _
  have hlt : b < w1.heap.size := by
    rcases Nat.lt_or_ge b w1.heap.size with h' | h'
    · exact h'
    · simp [Array.getElem?_eq_none h'] at hbk
  have hb2 : w2.heap[b]? = some (.cells #[.pointer (some ⟨b, 0, none⟩), v] 261 (0, 0)) := by
    rw [hgrow.block b hlt (fun e => hne e.symm)]
    exact hbk
  have d0 : w2.cell? ⟨b, 0, none⟩ = some (.pointer (some ⟨b, 0, none⟩)) := by rw [Lib.cell_of_heap hb2]; rfl
  have d1 : w2.cell? ⟨b, 1, none⟩ = some v := by rw [Lib.cell_of_heap hb2]; rfl
  have f1 : w2.frozen? ⟨b, 1, none⟩ = false := Lib.frozen_of_heap hb2 1
  obtain ⟨ao, n', cap, rfl⟩ : ∃ ao n' cap, v' = .slice ao n' cap := by
    rcases hown'.2 with ⟨hv, _⟩ | ⟨g, cap, cur, hv, _⟩
    · exact ⟨_, _, _, hv⟩
    · exact ⟨_, _, _, hv⟩
  go_wp2
  go_ret2
  refine ⟨rfl, ?_, ?_⟩
  · exact Lib.BuilderAt.put (T := 261) (e := 5) hB hb2 (bs' := bs ++ Lib.strCells s) (by simpa [Lib.strCells_length] using hown') (by decide)
  · exact (hb1.grown hgrow (by have := hb1.size; omega) (fun k hk => (hown.lt k hk).1)).setCell (p := ⟨b, 1, none⟩) hB _

set_option maxHeartbeats 2000000 in
set_option maxRecDepth 100000 in
theorem WriteRune_any (B b : Nat) (bs : List Value) (r : Int) (hr0 : -2147483648 ≤ r) (hr1 : r ≤ 2147483647) (w : World) (h : Lib.IsBuilder 261 5 B b bs w) (hlen : bs.length + 4 ≤ 140737488355328) (hBw : B ≤ w.heap.size) :
    Calls Tryz.prog 231 #[.pointer (some ⟨b, 0, none⟩), .int .i32 r] w fun e w' => e = .returned (.tuple #[.int .i64 (Lib.runeCells r).length, .nilIface]) ∧ (Lib.BuilderAt 261 5 B b (.pointer (some ⟨b, 0, none⟩)) (bs ++ Lib.runeCells r) w' ∧ Below B w w') := by
  have hk4 := Lib.runeCells_le r
  go_enter Tryz.func231, Tryz.ntmps231
  go_wp2_with (go_at_call 288; refine (copyCheck_any B b bs _ h).mono ?_)
  rintro e w1 ⟨rfl, h1, hb1⟩
  obtain ⟨hB, v, hbk, hown, hne⟩ := h1
  obtain ⟨ao, cap, rfl⟩ : ∃ ao cap, v = .slice ao bs.length cap := by
    rcases hown.2 with ⟨hv, h0⟩ | ⟨g, cap, cur, hv, _⟩
    · exact ⟨none, 0, by rw [hv, h0]⟩
    · exact ⟨_, _, hv⟩
  have c0 : w1.cell? ⟨b, 0, none⟩ = some (.pointer (some ⟨b, 0, none⟩)) := by rw [Lib.cell_of_heap hbk]; rfl
  have c1 : w1.cell? ⟨b, 1, none⟩ = some (.slice ao bs.length cap) := by rw [Lib.cell_of_heap hbk]; rfl
  go_wp2_with (go_at_call 289; refine (Tryz.utf8_AppendRune_plain B _ bs.length bs r hr0 hr1 _ hown hlen (by have := hb1.size; omega)).mono ?_)
  rintro e w2 ⟨v', rfl, hown', o, hgrow⟩
  have hlt : b < w1.heap.size := by
    rcases Nat.lt_or_ge b w1.heap.size with h' | h'
    · exact h'
    · simp [Array.getElem?_eq_none h'] at hbk
  have hb2 : w2.heap[b]? = some (.cells #[.pointer (some ⟨b, 0, none⟩), .slice ao bs.length cap] 261 (0, 0)) := by
    rw [hgrow.block b (by simp; omega) (fun e => hne e.symm), Below.heap_alloc w1 _ b hlt]
    exact hbk
  have d0 : w2.cell? ⟨b, 0, none⟩ = some (.pointer (some ⟨b, 0, none⟩)) := by rw [Lib.cell_of_heap hb2]; rfl
  have d1 : w2.cell? ⟨b, 1, none⟩ = some (.slice ao bs.length cap) := by rw [Lib.cell_of_heap hb2]; rfl
  have f1 : w2.frozen? ⟨b, 1, none⟩ = false := Lib.frozen_of_heap hb2 1
  obtain ⟨g, cap', rfl⟩ : ∃ g cap', v' = .slice (some ⟨g, 0, none⟩) (bs.length + (Lib.runeCells r).length) cap' := by
    rcases hown'.2 with ⟨_, h0⟩ | ⟨g, cap', cur, hv, _⟩
    · omega
    · exact ⟨g, cap', hv⟩
  go_wp2
  go_ret2
  refine ⟨?_, ?_, ?_⟩
  · have e : ((bs.length : Int) + ((Lib.runeCells r).length : Int) - (bs.length : Int)) = ((Lib.runeCells r).length : Int) := by omega
    simp [e]
  · exact Lib.BuilderAt.put (T := 261) (e := 5) hB hb2 (bs' := bs ++ Lib.runeCells r) (by simpa using hown') (by decide)
  · exact ((hb1.alloc (by have := hb1.size; omega) _).grown hgrow (by have := hb1.size; simp; omega) (fun k hk => (hown.lt k hk).1)).setCell (p := ⟨b, 1, none⟩) hB _

end Go.Proofs.YtbkbpdpegiekhaaGreatDoor

/- fold: Fold. -/
set_option linter.unusedVariables false
set_option linter.unusedSimpArgs false
namespace Mo
open Go Go.Lib
open Go.Proofs.YtbkbpdpegiekhaaGreatDoor (smallS)
/-- What a code point becomes. -/
def foldOne (l : B) : B := if smallS (decodeL l).1 = (decodeL l).1 then l.take (decodeL l).2 else encodeRune (smallS (decodeL l).1)
def foldN : Nat → B → B
  | 0, _ => []
  | n + 1, l => if l = [] then [] else foldOne l ++ foldN n (l.drop (decodeL l).2)
def foldB (l : B) : B := foldN l.length l
def pFold (s : S) : S := mk (foldB (bs s))

theorem foldN_nil : ∀ n, foldN n [] = []
  | 0 => rfl
  | _ + 1 => rfl
theorem foldN_fuel : ∀ (n m : Nat) (l : B), l.length ≤ n → l.length ≤ m → foldN n l = foldN m l
  | 0, m, l, hn, _ => by
    have : l = [] := List.eq_nil_of_length_eq_zero (by omega)
    subst this
    rw [foldN_nil, foldN_nil]
  | n + 1, 0, l, _, hm => by
    have : l = [] := List.eq_nil_of_length_eq_zero (by omega)
    subst this
    rw [foldN_nil, foldN_nil]
  | n + 1, m + 1, l, hn, hm => by
    unfold foldN
    by_cases hne : l = []
    · simp [hne]
    · have hw := decodeL_width l
      have hl : 0 < l.length := List.length_pos_iff.2 hne
      rw [if_neg hne, if_neg hne, foldN_fuel n m (l.drop (decodeL l).2) (by rw [List.length_drop]; omega) (by rw [List.length_drop]; omega)]
theorem foldB_step (l : B) (hne : l ≠ []) : foldB l = foldOne l ++ foldB (l.drop (decodeL l).2) := by
  have hl : 0 < l.length := List.length_pos_iff.2 hne
  have hw := decodeL_width l
  obtain ⟨n, hn⟩ : ∃ n, l.length = n + 1 := ⟨l.length - 1, by omega⟩
  unfold foldB
  rw [hn]
  show (if l = [] then [] else _) = _
  rw [if_neg hne, foldN_fuel n (l.drop (decodeL l).2).length _ (by rw [List.length_drop]; omega) (Nat.le_refl _)]
theorem smallS_range (c : Int) (h0 : 0 ≤ c) (h1 : c ≤ 1114111) : 0 ≤ smallS c ∧ smallS c ≤ 1114111 := by
  unfold smallS
  repeat' split
  all_goals omega
end Mo
namespace Go.Proofs.YtbkbpdpegiekhaaGreatDoor
open Go.RowKit Go.Proofs.YtbkbpdpegiekhaaGreatDoorW.PrintWords Mo

theorem decode_ext (s : ByteArray) (k : Nat) (hk : k < s.size) : Lib.decodeGo (s.extract k s.size) = Lib.decodeL ((bs s).drop k) := by
  unfold Lib.decodeGo
  rw [if_neg (by rw [ByteArray.size_extract]; omega), ← Lib.decodeL_drop]
  congr 1
  rw [List.drop_zero, Lib.extract_data]
  unfold bs
  rw [List.take_of_length_le]
  rw [List.length_drop, ← Lib.size_eq]; omega

theorem take_ext (s : ByteArray) (k n : Nat) (h : k + n ≤ s.size) : Lib.strCells (s.extract k (k + n)) = Lib.byteCells (((bs s).drop k).take n) := by
  rw [Lib.strCells_eq, Lib.extract_data]
  congr 2
  omega

theorem builder_below {B b : Nat} {cs : List Value} {w w' : World} (h : Lib.IsBuilder 261 5 B b cs w) (hb : Below w.heap.size w w') : Lib.IsBuilder 261 5 B b cs w' := by
  have key : ∀ p, Lib.BuilderAt 261 5 B b p cs w → Lib.BuilderAt 261 5 B b p cs w' := by
    rintro p ⟨h1, v, h2, h3, h4⟩
    exact ⟨h1, v, (hb.block b (blk_lt h2)).trans h2, pw_own_below h3 hb, h4⟩
  rcases h with h | h
  · exact .inl (key _ h)
  · exact .inr (key _ h)
set_option maxHeartbeats 4000000 in
theorem fold_Fold (s : S) (w : World) (hE : Env w) (hs : s.size ≤ 1000000000) :
    Calls Tryz.prog 181 #[.string s] w fun e w' => e = .returned (.string (pFold s)) ∧ Below w.heap.size w w' := by
  have HE := Aside0.mk hE
  clear hE
  go_enter Tryz.func181, Tryz.ntmps181
  go_wp2_with fail
  go_loopw [4] (fun i wr => ∃ (k : Nat) (done : B), k ≤ s.size ∧ i = .int .i64 k ∧ done.length ≤ 4 * k ∧ Aside0 (done ++ foldB ((bs s).drop k) = foldB (bs s)) ∧ Aside0 (Lib.IsBuilder 261 5 w.heap.size w.heap.size (Lib.byteCells done) wr) ∧ Aside0 (Below w.heap.size w wr))
    (fun i _ => s.size - (intOf i).toNat)
  case atStart =>
    refine ⟨0, [], Nat.zero_le _, rfl, Nat.le_refl _, ⟨by simp⟩, ⟨.inl ?_⟩, ⟨below_alloc (Below.refl _ _) _⟩⟩
    exact ⟨Nat.le_refl _, .slice none 0 0, heap_alloc_new w _, own_nil _ _ _ _, by simp [Value.ownBlock]⟩
  case round =>
    obtain ⟨k, done, hk, rfl, hd, HF, HI, HB⟩ := hrel
    have hsz := HB.out.size
    by_cases hlt : k < s.size
    · have hne : (bs s).drop k ≠ [] := by
        intro h
        have := congrArg List.length h
        rw [List.length_drop, bs_size] at this
        simp at this
        omega
      have hdec := decode_ext s k hlt
      have hstep := foldB_step _ hne
      have hw1 := Lib.decodeL_width ((bs s).drop k)
      have hw2 := Lib.decodeL_le ((bs s).drop k) hne
      have hr := Lib.decodeL_rune ((bs s).drop k)
      rw [List.length_drop, bs_size] at hw2
      rw [List.drop_drop] at hstep
      obtain ⟨r, hr0⟩ : ∃ r, r = (Lib.decodeL ((bs s).drop k)).1 := ⟨_, rfl⟩
      obtain ⟨n, hn0⟩ : ∃ n, n = (Lib.decodeL ((bs s).drop k)).2 := ⟨_, rfl⟩
      rw [← hn0] at hw1 hw2 hstep
      rw [← hr0] at hr
      have HD := Aside0.mk hdec
      have HS := Aside0.mk hstep
      have HR := Aside0.mk hr0
      have HN := Aside0.mk hn0
      clear hdec hstep hr0 hn0 hne
      go_wp2_with fail
      refine (Tryz.utf8_DecodeRuneInString _ _ (HE.out.below HB.out).tabs).mono ?_
      rintro e w1 ⟨rfl, hb1⟩
      rw [HD.out, ← HR.out, ← HN.out]
      have HB1 := Aside0.mk (below_then HB.out hsz hb1)
      have HI1 := Aside0.mk (builder_below HI.out hb1)
      clear hb1 HB HI
      go_wp2_with fail
      refine (fold_Small (r : Int) (by omega) (by omega) _).mono ?_
      rintro e w2 ⟨rfl, hb2⟩
      have hsz2 := HB1.out.size
      have HB2 := Aside0.mk (below_then HB1.out hsz2 hb2)
      have HI2 := Aside0.mk (builder_below HI1.out hb2)
      clear hb2 HB1 HI1 hsz2
      have hsr := smallS_range (r : Int) (by omega) (by omega)
      obtain ⟨q, hq⟩ : ∃ q, q = smallS (r : Int) := ⟨_, rfl⟩
      rw [← hq] at hsr ⊢
      have HQ := Aside0.mk hq
      obtain ⟨hq0, hq1⟩ := hsr
      clear hq
      have hsz3 := HB2.out.size
      have hdone : ∀ x : B, x.length ≤ 4 * n → (done ++ x).length ≤ 4 * (k + n) := fun x hx => by rw [List.length_append]; omega
      by_cases heq : q = (r : Int)
      · have hb : ((q : Int) != (r : Int)) = false := by rw [heq]; simp
        have hone : foldOne ((bs s).drop k) = ((bs s).drop k).take n := by
          unfold foldOne
          rw [← HR.out, ← HN.out, if_pos (by rw [← HQ.out]; exact heq)]
        have HO := Aside0.mk hone
        have HDN := Aside0.mk hdone
        clear heq hone hdone
        go_wp2_with fail
        refine (WriteString_any w.heap.size w.heap.size _ (s.extract k (k + n)) _ HI2.out (by rw [Lib.byteCells_length, ByteArray.size_extract]; omega) hsz3).mono ?_
        rintro e w3 ⟨rfl, hi3, hb3⟩
        have HB3 := Aside0.mk (HB2.out.trans hb3)
        have HI3 := Aside0.mk (show Lib.IsBuilder 261 5 w.heap.size w.heap.size (Lib.byteCells (done ++ ((bs s).drop k).take n)) w3 by rw [Lib.byteCells_append, ← take_ext s k n (by omega)]; exact .inr hi3)
        clear hi3 hb3 HB2 HI2
        go_wp2_with fail
        go_roundw
        case rel => exact ⟨k + n, done ++ ((bs s).drop k).take n, by omega, by go_num, HDN.out _ (by rw [List.length_take]; omega), ⟨by rw [List.append_assoc, ← HO.out, ← HS.out]; exact HF.out⟩, HI3, HB3⟩
        case measure => simp [intOf]; omega
      · have hb : ((q : Int) != (r : Int)) = true := by simpa using heq
        have hone : foldOne ((bs s).drop k) = Lib.encodeRune q := by
          unfold foldOne
          rw [← HR.out, ← HN.out, if_neg (by rw [← HQ.out]; exact heq), ← HQ.out]
        have HO := Aside0.mk hone
        have HDN := Aside0.mk hdone
        clear heq hone hdone
        go_wp2_with fail
        refine (WriteRune_any w.heap.size w.heap.size _ q (by omega) (by omega) _ HI2.out (by rw [Lib.byteCells_length]; omega) hsz3).mono ?_
        rintro e w3 ⟨rfl, hi3, hb3⟩
        have HB3 := Aside0.mk (HB2.out.trans hb3)
        have HI3 := Aside0.mk (show Lib.IsBuilder 261 5 w.heap.size w.heap.size (Lib.byteCells (done ++ Lib.encodeRune q)) w3 by rw [Lib.byteCells_append, Lib.byteCells_encodeRune]; exact .inr hi3)
        clear hi3 hb3 HB2 HI2
        have he4 : (Lib.encodeRune q).length ≤ 4 * n := by have := (Lib.runeCells_le q).2; rw [Lib.runeCells_length] at this; omega
        go_wp2_with fail
        go_roundw
        case rel => exact ⟨k + n, done ++ Lib.encodeRune q, by omega, by go_num, HDN.out _ he4, ⟨by rw [List.append_assoc, ← HO.out, ← HS.out]; exact HF.out⟩, HI3, HB3⟩
        case measure => simp [intOf]; omega
    · have hk2 : k = s.size := by omega
      subst hk2
      have HFin := Aside0.mk (show done = foldB (bs s) by
        have := HF.out
        rw [List.drop_of_length_le (by rw [bs_size]; exact Nat.le_refl _)] at this
        simpa [foldB, foldN] using this)
      clear HF hlt hk
      go_wp2_with fail
      refine (Any.Builder_String_any Tryz.lays169 Tryz.Builder_Extra_169 w.heap.size w.heap.size done _ HI.out hsz).mono ?_
      rintro e w1 ⟨rfl, hb1⟩
      have HB1 := Aside0.mk (HB.out.trans hb1)
      clear hb1 HB HI
      go_wp2_with fail
      go_ret
      exact ⟨by rw [HFin.out]; rfl, HB1.out⟩

end Go.Proofs.YtbkbpdpegiekhaaGreatDoor

set_option linter.unusedVariables false
set_option linter.unusedSimpArgs false
namespace Go.Proofs.YtbkbpdpegiekhaaGreatDoor
open Go.RowKit Go.Proofs.YtbkbpdpegiekhaaGreatDoorW.PrintWords Mo

def okRest (n : Nd) : Bool := decide (0 ≤ n.mode) && decide (n.mode ≤ 511) && decide (0 ≤ n.time) && decide (n.time ≤ 4294967295) && (!n.dir || n.data.toList.isEmpty)

set_option maxHeartbeats 1000000 in
theorem tree_rest (n : Nd) (w : World) : Calls Tryz.prog 206 #[vN n] w fun e w' => e = .returned (.bool (okRest n)) ∧ Grew w w' := by
  obtain ⟨p, d, t, m, s⟩ := n
  unfold okRest
  simp only
  by_cases h1 : 0 ≤ m
  rotate_left
  · rw [decide_eq_false h1]
    have h1b : decide (m < 0) = true := by simp; omega
    go_enter Tryz.func206, Tryz.ntmps206
    go_wp2_with fail
    go_ret
    exact ⟨by simp [*], (Grew.refl _).alloc _⟩
  by_cases h2 : m ≤ 511
  rotate_left
  · rw [decide_eq_false h2]
    go_enter Tryz.func206, Tryz.ntmps206
    go_wp2_with fail
    go_ret
    exact ⟨by simp [*], (Grew.refl _).alloc _⟩
  by_cases h3 : 0 ≤ s
  rotate_left
  · rw [decide_eq_false h3]
    go_enter Tryz.func206, Tryz.ntmps206
    go_wp2_with fail
    go_ret
    exact ⟨by simp [*], (Grew.refl _).alloc _⟩
  by_cases h4 : s ≤ 4294967295
  rotate_left
  · rw [decide_eq_false h4]
    go_enter Tryz.func206, Tryz.ntmps206
    go_wp2_with fail
    go_ret
    exact ⟨by simp [*], (Grew.refl _).alloc _⟩
  rw [decide_eq_true h1, decide_eq_true h2, decide_eq_true h3, decide_eq_true h4]
  cases d
  · go_enter Tryz.func206, Tryz.ntmps206
    go_wp2_with fail
    go_ret
    exact ⟨by simp [*], (Grew.refl _).alloc _⟩
  · go_enter Tryz.func206, Tryz.ntmps206
    go_wp2_with fail
    go_ret
    exact ⟨by simp [*], (Grew.refl _).alloc _⟩

theorem tree_May (n : Nd) (w : World) (hE : Env w) (hs : n.path.size < 1000000000) :
    Calls Tryz.prog 243 #[vN n] w fun e w' => e = .returned (.bool (pRight n.path && okRest n)) ∧ Below w.heap.size w w' := by
  have hE' : ∀ o, Env (w.alloc o) := fun o => hE.grew ((Grew.refl w).alloc o)
  have HE := Aside0.mk hE'
  clear hE hE'
  cases h1 : pRight n.path
  · go_enter Tryz.func243, Tryz.ntmps243
    go_wp2_with fail
    refine (route_Check _ _ (HE.out _) (by omega)).mono ?_
    rintro e w1 ⟨rfl, hb⟩
    have HB := Aside0.mk (below_then ((below_alloc (Below.refl _ _) _) : Below w.heap.size w (w.alloc (.cells #[.string n.path, .bool n.dir, .string n.data, .int .i64 n.mode, .int .i64 n.time] 46))) (by simp) hb)
    have hc : ∀ j v, (w.alloc (.cells #[.string n.path, .bool n.dir, .string n.data, .int .i64 n.mode, .int .i64 n.time] 46)).cell? ⟨w.heap.size, j, none⟩ = some v → w1.cell? ⟨w.heap.size, j, none⟩ = some v := fun j v h => pw_cell_below hb h
    clear hb hc
    rw [h1, show okE false 5 = 5 from rfl]
    go_wp2_with fail
    go_ret
    exact ⟨by simp, HB.out⟩
  · go_enter Tryz.func243, Tryz.ntmps243
    go_wp2_with fail
    refine (route_Check _ _ (HE.out _) (by omega)).mono ?_
    rintro e w1 ⟨rfl, hb⟩
    have hw := heap_alloc_new w (.cells #[.string n.path, .bool n.dir, .string n.data, .int .i64 n.mode, .int .i64 n.time] 46)
    have hw1 := (hb.block w.heap.size (by simp)).trans hw
    have c0 := blk_cell hw1 0
    have c1 := blk_cell hw1 1
    have c2 := blk_cell hw1 2
    have c3 := blk_cell hw1 3
    have c4 := blk_cell hw1 4
    have HB := Aside0.mk (below_then ((below_alloc (Below.refl _ _) _) : Below w.heap.size w (w.alloc (.cells #[.string n.path, .bool n.dir, .string n.data, .int .i64 n.mode, .int .i64 n.time] 46))) (by simp) hb)
    clear hb hw hw1
    rw [h1, show okE true 5 = 0 from rfl]
    go_wp2_with fail
    refine (tree_rest n _).mono ?_
    rintro e w2 ⟨rfl, hg⟩
    have HB2 := Aside0.mk (below_then HB.out HB.out.size hg.below)
    clear hg HB
    go_wp2_with fail
    go_ret
    exact ⟨by simp, HB2.out⟩

end Go.Proofs.YtbkbpdpegiekhaaGreatDoor
