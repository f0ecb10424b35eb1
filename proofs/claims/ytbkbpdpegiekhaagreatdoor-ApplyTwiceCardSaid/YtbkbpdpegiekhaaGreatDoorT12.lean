/- tree: Put, Ensure. -/
import Derived.Test.YtbkbpdpegiekhaaGreatDoorT11
set_option linter.unusedVariables false
set_option linter.unusedSimpArgs false
namespace Go.Proofs.YtbkbpdpegiekhaaGreatDoor
open Go.RowKit Go.Proofs.YtbkbpdpegiekhaaGreatDoorW.PrintWords Mo

set_option maxRecDepth 100000 in
set_option maxHeartbeats 1000000 in
theorem put_deed (n : Nd) (xs : List Nd) (base tb b1 b2 : Nat) (v : Value) (W : World) (h1 : W.heap[b1]? = some (.cells #[.pointer (some ⟨tb, 0, none⟩)] 145 (0, 0)))
    (h2 : W.heap[b2]? = some (.cells #[.string n.path, .bool n.dir, .string n.data, .int .i64 n.mode, .int .i64 n.time] 46 (0, 0))) (hB : 2 < base) (hE : Env W) (ht : Tr base W tb v xs) (ho : Okt xs) (hf : pFine n.path) (hx : ∀ n ∈ xs, n.path.size < 1000000000) (hp : n.path.size < 1000000000) (hlen : xs.length + n.path.size ≤ 100000000) :
    Calls Tryz.prog 281 #[.pointer (some ⟨b1, 0, none⟩), .pointer (some ⟨b2, 0, none⟩)] W fun e w' => e = .returned (.tuple #[]) ∧ Tdone base W w' tb v (putF xs n) := by
  have HP := Aside0.mk (tree_put n xs base tb v W hB hE ht ho hf hx hp hlen)
  have c0 := blk_cell h1 0
  have n0 := blk_cell h2 0
  have n1 := blk_cell h2 1
  have n2 := blk_cell h2 2
  have n3 := blk_cell h2 3
  have n4 := blk_cell h2 4
  clear hE ht ho hf hx h1 h2
  go_enter Tryz.func281, Tryz.ntmps281
  go_wp2_with fail
  refine HP.out.mono ?_
  rintro e1 w1 ⟨rfl, hd⟩
  have HD := Aside0.mk hd
  clear hd
  go_wp2_with fail
  go_end0
  exact ⟨rfl, HD.out⟩
set_option maxRecDepth 100000 in
set_option maxHeartbeats 1000000 in
theorem ensure_deed (p : S) (xs : List Nd) (base tb b1 b2 : Nat) (v : Value) (W : World) (h1 : W.heap[b1]? = some (.cells #[.pointer (some ⟨tb, 0, none⟩)] 145 (0, 0)))
    (h2 : W.heap[b2]? = some (.cells #[.string p] 9 (0, 0))) (hB : 2 < base) (hE : Env W) (ht : Tr base W tb v xs) (ho : Okt xs) (hf : pFine p) (hx : ∀ n ∈ xs, n.path.size < 1000000000) (hp : p.size < 1000000000) (hlen : xs.length + p.size ≤ 100000000) :
    Calls Tryz.prog 283 #[.pointer (some ⟨b1, 0, none⟩), .pointer (some ⟨b2, 0, none⟩)] W fun e w' => e = .returned (.tuple #[]) ∧ Tdone base W w' tb v (ensF xs p) := by
  have HP := Aside0.mk (tree_ensure base tb hB p.size p xs v W (Nat.le_refl _) hE ht ho hf hx hp hlen)
  have c0 := blk_cell h1 0
  have n0 := blk_cell h2 0
  clear hE ht ho hf hx h1 h2
  go_enter Tryz.func283, Tryz.ntmps283
  go_wp2_with fail
  refine HP.out.mono ?_
  rintro e1 w1 ⟨rfl, hd⟩
  have HD := Aside0.mk hd
  clear hd
  go_wp2_with fail
  go_end0
  exact ⟨rfl, HD.out⟩
theorem put_room {xs : List Nd} {n : Nd} (hf : pFine n.path) (h : xs.length + (pParts n.path).length ≤ 4096) : (putF xs n).length ≤ 4096 := by
  have h1 := putF_len xs n
  rw [parts_ups n.path.size n.path (Nat.le_refl _) hf] at h
  omega
theorem ensure_room {xs : List Nd} {p : S} (hf : pFine p) (h : xs.length + (pParts p).length ≤ 4096) : (ensF xs p).length ≤ 4096 := by
  have h1 := ensF_len xs p
  rw [parts_ups p.size p (Nat.le_refl _) hf] at h
  omega
/-- What comes of one path. -/
def Laid1 (base : Nat) (w : World) (tb : Nat) (v : Value) (ys : List Nd) (e : Ending) (w' : World) : Prop :=
  (ys.length ≤ 4096 ∧ e = .returned (.int .i64 0) ∧ Tdone base w w' tb v ys) ∨ (4096 < ys.length ∧ e = .returned (.int .i64 7) ∧ Below base w w')
theorem Laid1.after {base : Nat} {w w1 w2 : World} {tb : Nat} {v v1 : Value} {xs zs ys : List Nd} {e : Ending} (ht : Tr base w tb v xs) (h : TSt w w1 tb v) (hh : Heir w v v1) (k : Laid1 base w1 tb v1 ys e w2) : Laid1 base w tb v ys e w2 := by
  rcases k with ⟨h1, h2, h3⟩ | ⟨h1, h2, h3⟩
  · exact .inl ⟨h1, h2, Tdone.after h hh h3⟩
  · refine .inr ⟨h1, h2, ?_⟩
    have hb := h.below ht
    exact ⟨h3.os.trans hb.os, h3.tape.trans hb.tape, h3.output.trans hb.output, Nat.le_trans hb.size h3.size, fun k hk => (h3.block k hk).trans (hb.block k hk)⟩
theorem alloc_box {w : World} (o o2 : Obj) : ((w.alloc o).alloc o2).heap[w.heap.size]? = some o := by
  have h := heap_alloc_new w o
  exact (Below.heap_alloc (w.alloc o) o2 w.heap.size (blk_lt h)).trans h

set_option maxRecDepth 100000 in
set_option maxHeartbeats 1000000 in
theorem tree_Put (n : Nd) (xs : List Nd) (base tb : Nat) (v : Value) (w : World) (hB : 2 < base) (hE : Env w) (ht : Tr base w tb v xs) (ho : Okt xs) (hr : pRight n.path = true) (hrest : okRest n = true) (hx : ∀ n ∈ xs, n.path.size < 1000000000) (hp : n.path.size < 100000000) (hlen : xs.length + 2 * n.path.size ≤ 50000000) :
    Calls Tryz.prog 228 #[.pointer (some ⟨tb, 0, none⟩), vN n] w (Laid1 base w tb v (putF xs n)) := by
  obtain ⟨o1, ho1⟩ : ∃ o, o = Obj.cells #[.pointer (some ⟨tb, 0, none⟩)] 145 := ⟨_, rfl⟩
  obtain ⟨o2, ho2⟩ : ∃ o, o = Obj.cells #[.string n.path, .bool n.dir, .string n.data, .int .i64 n.mode, .int .i64 n.time] 46 := ⟨_, rfl⟩
  have HBl := Aside0.mk (((Grew.refl w).alloc o1).alloc o2).below
  have hbx1 := alloc_box (w := w) o1 o2
  have hbx2 := heap_alloc_new (w.alloc o1) o2
  rw [show (w.alloc o1).heap.size = w.heap.size + 1 by simp] at hbx2
  have HT := Aside0.mk ht
  have HE := Aside0.mk hE
  have hf := fine_of_right hr
  have HPU := Aside0.mk fun (W : World) (hb : Below w.heap.size w W) (h1 : W.heap[w.heap.size]? = some (.cells #[.pointer (some ⟨tb, 0, none⟩)] 145 (0, 0))) (h2 : W.heap[w.heap.size + 1]? = some (.cells #[.string n.path, .bool n.dir, .string n.data, .int .i64 n.mode, .int .i64 n.time] 46 (0, 0))) =>
    put_deed n xs base tb w.heap.size (w.heap.size + 1) v W h1 h2 hB (hE.below hb) (ht.below hb) ho hf hx (by omega) (by omega)
  have hpl := putF_len xs n
  have hul := ups_len n.path
  have HR := Aside0.mk (put_room (xs := xs) hf)
  have HC := Aside0.mk fun (W : World) (hb : Below w.heap.size w W) => route_Check n.path W (hE.below hb) (by omega)
  rw [hr, show okE true 5 = 0 from rfl] at HC
  have HRe := Aside0.mk fun (W : World) => tree_rest n W
  rw [hrest] at HRe
  clear hE ht ho hf hx hr hrest
  go_enter Tryz.func228, Tryz.ntmps228
  subst ho1
  subst ho2
  have HX1 := Aside0.mk hbx1
  have HX2 := Aside0.mk hbx2
  have c0 := blk_cell hbx1 0
  have n0 := blk_cell hbx2 0
  clear hbx1 hbx2
  go_wp2_with fail
  refine (HC.out _ HBl.out).mono ?_
  rintro e1 w1 ⟨rfl, hb1⟩
  have HB1 := Aside0.mk (below_then HBl.out HBl.out.size hb1)
  have HY1 := Aside0.mk ((hb1.block w.heap.size (blk_lt HX1.out)).trans HX1.out)
  have HY2 := Aside0.mk ((hb1.block (w.heap.size + 1) (blk_lt HX2.out)).trans HX2.out)
  clear hb1 c0 n0 HX1 HX2 HBl HC
  have n0 := blk_cell HY2.out 0
  have n1 := blk_cell HY2.out 1
  have n2 := blk_cell HY2.out 2
  have n3 := blk_cell HY2.out 3
  have n4 := blk_cell HY2.out 4
  go_wp2_with fail
  refine (HRe.out _).mono ?_
  rintro e2 w2 ⟨rfl, hg2⟩
  have hb2 := hg2.below
  have HB2 := Aside0.mk (below_then HB1.out HB1.out.size hb2)
  have HZ1 := Aside0.mk ((hb2.block w.heap.size (blk_lt HY1.out)).trans HY1.out)
  have HZ2 := Aside0.mk ((hb2.block (w.heap.size + 1) (blk_lt HY2.out)).trans HY2.out)
  clear hg2 hb2 n0 n1 n2 n3 n4 HY1 HY2 HB1 HRe
  have c0 := blk_cell HZ1.out 0
  have n0 := blk_cell HZ2.out 0
  go_wp2_with fail
  refine (tree_try_281 n.path xs (putF xs n) base tb v w2 _ hB (HE.out.below HB2.out) (HT.out.below HB2.out) (by omega) (by omega) (by omega) HR.out (fun W hW => HPU.out W (below_then HB2.out HB2.out.size hW) ((hW.block _ (blk_lt HZ1.out)).trans HZ1.out) ((hW.block _ (blk_lt HZ2.out)).trans HZ2.out))).mono ?_
  intro e3 w3 h3
  have H3 := Aside0.mk (Laid1.after (zs := xs) HT.out (TSt.of_below HB2.out) (Heir.refl _ _) (show Laid1 base w2 tb v (putF xs n) e3 w3 from h3))
  rcases h3 with ⟨_, rfl, _⟩ | ⟨_, rfl, _⟩
  · go_wp2_with fail
    go_ret
    exact H3.out
  · go_wp2_with fail
    go_ret
    exact H3.out
set_option maxRecDepth 100000 in
set_option maxHeartbeats 1000000 in
theorem tree_Ensure (p : S) (xs : List Nd) (base tb : Nat) (v : Value) (w : World) (hB : 2 < base) (hE : Env w) (ht : Tr base w tb v xs) (ho : Okt xs) (hr : pRight p = true) (hx : ∀ n ∈ xs, n.path.size < 1000000000) (hp : p.size < 100000000) (hlen : xs.length + 2 * p.size ≤ 50000000) :
    Calls Tryz.prog 229 #[.pointer (some ⟨tb, 0, none⟩), .string p] w (Laid1 base w tb v (ensF xs p)) := by
  obtain ⟨o1, ho1⟩ : ∃ o, o = Obj.cells #[.pointer (some ⟨tb, 0, none⟩)] 145 := ⟨_, rfl⟩
  obtain ⟨o2, ho2⟩ : ∃ o, o = Obj.cells #[.string p] 9 := ⟨_, rfl⟩
  have HBl := Aside0.mk (((Grew.refl w).alloc o1).alloc o2).below
  have hbx1 := alloc_box (w := w) o1 o2
  have hbx2 := heap_alloc_new (w.alloc o1) o2
  rw [show (w.alloc o1).heap.size = w.heap.size + 1 by simp] at hbx2
  have HT := Aside0.mk ht
  have HE := Aside0.mk hE
  have hf := fine_of_right hr
  have HPU := Aside0.mk fun (W : World) (hb : Below w.heap.size w W) (h1 : W.heap[w.heap.size]? = some (.cells #[.pointer (some ⟨tb, 0, none⟩)] 145 (0, 0))) (h2 : W.heap[w.heap.size + 1]? = some (.cells #[.string p] 9 (0, 0))) =>
    ensure_deed p xs base tb w.heap.size (w.heap.size + 1) v W h1 h2 hB (hE.below hb) (ht.below hb) ho hf hx (by omega) (by omega)
  have hpl := ensF_len xs p
  have hul := ups_len p
  have HR := Aside0.mk (ensure_room (xs := xs) hf)
  have HC := Aside0.mk fun (W : World) (hb : Below w.heap.size w W) => route_Check p W (hE.below hb) (by omega)
  rw [hr, show okE true 5 = 0 from rfl] at HC
  clear hE ht ho hf hx hr
  go_enter Tryz.func229, Tryz.ntmps229
  subst ho1
  subst ho2
  have HX1 := Aside0.mk hbx1
  have HX2 := Aside0.mk hbx2
  have c0 := blk_cell hbx1 0
  have n0 := blk_cell hbx2 0
  clear hbx1 hbx2
  go_wp2_with fail
  refine (HC.out _ HBl.out).mono ?_
  rintro e1 w2 ⟨rfl, hb1⟩
  have HB2 := Aside0.mk (below_then HBl.out HBl.out.size hb1)
  have HZ1 := Aside0.mk ((hb1.block w.heap.size (blk_lt HX1.out)).trans HX1.out)
  have HZ2 := Aside0.mk ((hb1.block (w.heap.size + 1) (blk_lt HX2.out)).trans HX2.out)
  clear hb1 c0 n0 HX1 HX2 HBl HC
  have c0 := blk_cell HZ1.out 0
  have n0 := blk_cell HZ2.out 0
  go_wp2_with fail
  refine (tree_try_283 p xs (ensF xs p) base tb v w2 _ hB (HE.out.below HB2.out) (HT.out.below HB2.out) (by omega) (by omega) (by omega) HR.out (fun W hW => HPU.out W (below_then HB2.out HB2.out.size hW) ((hW.block _ (blk_lt HZ1.out)).trans HZ1.out) ((hW.block _ (blk_lt HZ2.out)).trans HZ2.out))).mono ?_
  intro e3 w3 h3
  have H3 := Aside0.mk (Laid1.after (zs := xs) HT.out (TSt.of_below HB2.out) (Heir.refl _ _) (show Laid1 base w2 tb v (ensF xs p) e3 w3 from h3))
  rcases h3 with ⟨_, rfl, _⟩ | ⟨_, rfl, _⟩
  · go_wp2_with fail
    go_ret
    exact H3.out
  · go_wp2_with fail
    go_ret
    exact H3.out

end Go.Proofs.YtbkbpdpegiekhaaGreatDoor
