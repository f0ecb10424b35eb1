/- tree: the checker's node. -/
import Derived.Test.YtbkbpdpegiekhaaGreatDoorR22
set_option linter.unusedVariables false
set_option linter.unusedSimpArgs false
namespace Go.Proofs.YtbkbpdpegiekhaaGreatDoor
open Go.RowKit Go.Proofs.YtbkbpdpegiekhaaGreatDoorW.PrintWords Mo

set_option maxRecDepth 100000 in
theorem Cnt.run {w : World} {b : Nat} {xs : List S} (h : Cnt w b xs) (s : S) (hs : s.size ≤ 9223372036854775807) :
    (Instr.lookup 50 (.map (some b)) (.string s) false).run Tryz.prog w = .ok (.int .i64 (xs.count s : Nat)) w := by
  obtain ⟨n, D, hn, h, hd⟩ := h
  obtain ⟨c, hrun, hat, hwc⟩ := h.lookup_int (key := .string s) (kl := keyS s) law9 Tryz.underlying50 Tryz.underlying3 (Tryz.zeroValue3 w) (WideMaps.keyOf_string_mk Tryz.underlying9 (by simpa [maxLen] using hs))
  have hat2 := (hd s).symm.trans hat
  injection hat2 with hat2
  injection hat2 with _ hat2
  subst hat2
  exact hrun
theorem Cnt.inc_run {w : World} {b : Nat} {xs : List S} (h : Cnt w b xs) (hl : xs.length ≤ 1000000000000) (s : S) (hs : s.size ≤ 9223372036854775807) :
    ∃ w', (Instr.mapUpdate 50 (.map (some b)) (.string s) (.int .i64 ((xs.count s : Nat) + 1))).run Tryz.prog w = .ok () w' ∧ Cnt w' b (xs ++ [s]) ∧ w.grownBy w' (some b) := by
  obtain ⟨n, D, hn, h, hd⟩ := h
  have hc : xs.count s ≤ 1000000000000 := Nat.le_trans List.count_le_length hl
  have hwf : (Lit.int .i64 ((xs.count s : Nat) + 1)).wf = true := WalkArith.wf_i64 (by omega)
  obtain ⟨w', hrun, h', hg'⟩ := h.update (key := .string s) (kl := keyS s) law9 Tryz.underlying50 (by unfold maxLen; omega) (WideMaps.keyOf_string_mk Tryz.underlying9 (by simpa [maxLen] using hs)) (plainElem_int Tryz.underlying3 hwf)
  refine ⟨w', hrun, ⟨n + 1, _, by simp; omega, h', fun t => ?_⟩, hg'⟩
  by_cases e : s = t
  · subst e
    rw [Maps.atKey_put_same h.isMap (show WideAt.IsKeyLit (keyS _) from trivial)]
    simp [List.count_append, List.count_cons]
  · rw [Maps.atKey_put_other (keyS_ne e), hd t]
    have e2 : (s == t) = false := by simpa using e
    simp [List.count_append, List.count_cons, e2]
theorem Cnt.cell_ne {w : World} {m g : Nat} {xs : List S} {cs : Array Value} {t : TypeId} (h : Cnt w m xs) (hg : w.heap[g]? = some (.cells cs t (0, 0))) : g ≠ m := by
  obtain ⟨n, D, _, ⟨es, clock, hb, _⟩, _⟩ := h
  intro e
  rw [e, hb] at hg
  cases hg

/-- A directory above that isn't there. -/
def lackE (dirs : List S) (p : S) : Bool := (pParent p).isSome && decide (dirs.count (pDir p) = 0)
/-- What is wrong with a node behind others. -/
def nodeE (n : Nd) (last : S) (dirs alike : List S) : Int :=
  match pRight n.path, okRest n, pastE last n.path, lackE dirs n.path, decide (0 < alike.count (pFold n.path)) with
  | false, _, _, _, _ => 5
  | true, false, _, _, _ => 1
  | true, true, true, _, _ => 2
  | true, true, false, true, _ => 8
  | true, true, false, false, true => 6
  | true, true, false, false, false => 0
def dirsE (n : Nd) (dirs : List S) : List S := if n.dir then dirs ++ [n.path] else dirs
/-- The checker: what stood before. -/
structure Chk (base : Nat) (w : World) (cb bd ba : Nat) (dirs alike : List S) (bytes : Int) (last : S) : Prop where
  box : w.heap[cb]? = some (.cells #[.map (some bd), .map (some ba), .int .i64 bytes, .string last] 186 (0, 0))
  cd : Cnt w bd dirs
  ca : Cnt w ba alike
  ne : bd ≠ ba
  lo : base ≤ cb ∧ base ≤ bd ∧ base ≤ ba
theorem Chk.below {base : Nat} {w w' : World} {cb bd ba : Nat} {dirs alike : List S} {bytes : Int} {last : S} (h : Chk base w cb bd ba dirs alike bytes last) (hb : Below w.heap.size w w') : Chk base w' cb bd ba dirs alike bytes last :=
  ⟨(hb.block cb (blk_lt h.box)).trans h.box, h.cd.below hb, h.ca.below hb, h.ne, h.lo⟩
theorem Chk.incA {base : Nat} {w w' : World} {cb bd ba : Nat} {dirs alike al2 : List S} {bytes : Int} {last : S} (h : Chk base w cb bd ba dirs alike bytes last) (hm : Cnt w' ba al2) (hg : w.grownBy w' (some ba)) : Chk base w' cb bd ba dirs al2 bytes last :=
  ⟨blk_grown h.box hg (fun e => h.ca.cell_ne h.box (by injection e)), h.cd.kept hg (fun e => h.ne (by injection e)), hm, h.ne, h.lo⟩
theorem Chk.incD {base : Nat} {w w' : World} {cb bd ba : Nat} {dirs d2 alike : List S} {bytes : Int} {last : S} (h : Chk base w cb bd ba dirs alike bytes last) (hm : Cnt w' bd d2) (hg : w.grownBy w' (some bd)) : Chk base w' cb bd ba d2 alike bytes last :=
  ⟨blk_grown h.box hg (fun e => h.cd.cell_ne h.box (by injection e)), hm, h.ca.kept hg (fun e => h.ne (by injection e; simp_all)), h.ne, h.lo⟩
theorem Chk.store3 {base : Nat} {w : World} {cb bd ba : Nat} {dirs alike : List S} {bytes : Int} {last : S} (h : Chk base w cb bd ba dirs alike bytes last) (s : S) : Chk base (w.setCell ⟨cb, 3, none⟩ (.string s)) cb bd ba dirs alike bytes s := by
  have hgs : w.grownBy (w.setCell ⟨cb, 3, none⟩ (.string s)) (some cb) := ⟨rfl, rfl, rfl, by simp [World.setCell], fun k hk hne => Below.heap_setCell _ _ _ _ (fun e => hne (by rw [e]))⟩
  exact ⟨blk_set h.box 3 (.string s), h.cd.kept hgs (fun e => h.cd.cell_ne h.box (by injection e; simp_all)), h.ca.kept hgs (fun e => h.ca.cell_ne h.box (by injection e; simp_all)), h.ne, h.lo⟩
theorem Chk.store2 {base : Nat} {w : World} {cb bd ba : Nat} {dirs alike : List S} {bytes : Int} {last : S} (h : Chk base w cb bd ba dirs alike bytes last) (n : Int) : Chk base (w.setCell ⟨cb, 2, none⟩ (.int .i64 n)) cb bd ba dirs alike n last := by
  have hgs : w.grownBy (w.setCell ⟨cb, 2, none⟩ (.int .i64 n)) (some cb) := ⟨rfl, rfl, rfl, by simp [World.setCell], fun k hk hne => Below.heap_setCell _ _ _ _ (fun e => hne (by rw [e]))⟩
  exact ⟨blk_set h.box 2 (.int .i64 n), h.cd.kept hgs (fun e => h.cd.cell_ne h.box (by injection e; simp_all)), h.ca.kept hgs (fun e => h.ca.cell_ne h.box (by injection e; simp_all)), h.ne, h.lo⟩

end Go.Proofs.YtbkbpdpegiekhaaGreatDoor
