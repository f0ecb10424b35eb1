/- tree: try. -/
import Derived.Test.YtbkbpdpegiekhaaGreatDoorT9
/- tree: put. -/
set_option linter.unusedVariables false
set_option linter.unusedSimpArgs false
namespace Go.Proofs.YtbkbpdpegiekhaaGreatDoor
open Go.RowKit Go.Proofs.YtbkbpdpegiekhaaGreatDoorW.PrintWords Mo

/-- A node in a block apart from a tree. -/
structure NBx (w : World) (nb tb : Nat) (v : Value) (n : Nd) : Prop where
  box : w.heap[nb]? = some (.cells #[.string n.path, .bool n.dir, .string n.data, .int .i64 n.mode, .int .i64 n.time] 46 (0, 0))
  ne : nb ≠ tb
  own : v.ownBlock ≠ some nb
theorem NBx.step {w w1 : World} {nb tb : Nat} {v v1 : Value} {n : Nd} (h : NBx w nb tb v n) (hs : TSt w w1 tb v) (hh : Heir w v v1) : NBx w1 nb tb v1 n := by
  refine ⟨(hs.block nb (blk_lt h.box) h.ne h.own).trans h.box, h.ne, fun e => ?_⟩
  rcases hh with hh | hh
  · exact h.own (hh ▸ e)
  · have := hh nb e
    have := blk_lt h.box
    omega
theorem NBx.mk' {w : World} {base tb : Nat} {v : Value} {xs : List Nd} {n : Nd} (ht : Tr base w tb v xs) : NBx (w.alloc (.cells #[.string n.path, .bool n.dir, .string n.data, .int .i64 n.mode, .int .i64 n.time] 46)) w.heap.size tb v n :=
  ⟨heap_alloc_new w _, fun e => by have := blk_lt ht.box; omega, fun e => by have := ht.row.lt _ e; omega⟩

set_option maxRecDepth 100000 in
set_option maxHeartbeats 1000000 in
theorem tree_put (n : Nd) (xs : List Nd) (base tb : Nat) (v : Value) (w : World) (hB : 2 < base) (hE : Env w) (ht : Tr base w tb v xs) (ho : Okt xs) (hf : pFine n.path) (hx : ∀ n ∈ xs, n.path.size < 1000000000) (hp : n.path.size < 1000000000) (hlen : xs.length + n.path.size ≤ 100000000) :
    Calls Tryz.prog 282 #[.pointer (some ⟨tb, 0, none⟩), vN n] w fun e w' => e = .returned (.tuple #[]) ∧ Tdone base w w' tb v (putF xs n) := by
  obtain ⟨o, hob⟩ : ∃ o, o = Obj.cells #[.string n.path, .bool n.dir, .string n.data, .int .i64 n.mode, .int .i64 n.time] 46 := ⟨_, rfl⟩
  have hbl := ((Grew.refl w).alloc o).below
  have HP := Aside0.mk (route_Parent n.path (w.alloc o) (by omega))
  obtain ⟨EE, hEE⟩ : ∃ EE, EE = putF xs n := ⟨_, rfl⟩
  rw [← hEE]
  have HEq := Aside0.mk (show EE = setF (if n.dir then upsT xs n.path else dropF (upsT xs n.path) n.path) n from hEE)
  have HOY := Aside0.mk (ho.upsT hf)
  have HXY := Aside0.mk (upsT_small hx hp)
  have hul := upsT_len xs n.path
  have hup := ups_len n.path
  have HF := Aside0.mk hf
  have HT0 := Aside0.mk (ht.below hbl)
  have HE0 := Aside0.mk (hE.below hbl)
  have HN0 := Aside0.mk (show NBx (w.alloc o) w.heap.size tb v n by rw [hob]; exact NBx.mk' ht)
  have HD0 := Aside0.mk (show TSt w (w.alloc o) tb v from TSt.of_below hbl)
  clear hEE hbl hE ht
  cases h0 : pParent n.path with
  | none =>
    have hy : upsT xs n.path = xs := upsT_none h0
    rw [hy] at HEq HOY HXY
    have hil : (pParent n.path).isSome = false := by rw [h0]; rfl
    rw [hil] at HP
    obtain ⟨ys, hys⟩ : ∃ ys, ys = xs := ⟨_, rfl⟩
    rw [← hys] at HEq HOY HXY HT0
    have hyl : ys.length ≤ 100000000 := by rw [hys]; omega
    clear ho hf hx hul hup h0 hy hys hil
    go_enter Tryz.func282, Tryz.ntmps282
    subst hob
    have c0 := blk_cell HN0.out.box 0
    go_wp2_with fail
    refine HP.out.mono ?_
    rintro e1 w1 ⟨rfl, rfl⟩
    obtain ⟨w1, hw1⟩ : ∃ w1, w1 = w.alloc (.cells #[.string n.path, .bool n.dir, .string n.data, .int .i64 n.mode, .int .i64 n.time] 46) := ⟨_, rfl⟩
    obtain ⟨v1, hv1⟩ : ∃ v1, v1 = v := ⟨_, rfl⟩
    have HT1 : Aside0 (Tr base w1 tb v1 ys) := by rw [hw1, hv1]; exact HT0
    have HE1 : Aside0 (Env w1) := by rw [hw1]; exact HE0
    have HN1 : Aside0 (NBx w1 w.heap.size tb v1 n) := by rw [hw1, hv1]; exact HN0
    have HD1 : Aside0 (TSt w w1 tb v ∧ Heir w v v1) := by rw [hw1, hv1]; exact ⟨HD0.out, Heir.refl _ _⟩
    rw [← hw1]
    clear hw1 hv1 HP HN0 HE0 HT0 HD0 c0
    have HN1' := HN1
    have c1 := blk_cell HN1.out.box 1
    cases hd : n.dir
    · have HE3 := Aside0.mk (show EE = setF (dropF ys n.path) n by rw [HEq.out, hd]; rfl)
      rw [hd] at c1
      have c0 := blk_cell HN1.out.box 0
      clear hd
      go_wp2_with fail
      refine (tree_drop ys n.path base tb v1 w1 HE1.out HT1.out HOY.out HF.out.ne (fun n hn => by have := HXY.out n hn; omega) (by omega) (by omega)).mono ?_
      rintro e3 w3 ⟨⟨k3, rfl⟩, v3, ht3, hs3, hh3⟩
      have HT3 := Aside0.mk ht3
      have HE4 := Aside0.mk (HE1.out.tdone hB HT1.out hs3)
      have HD3 := Aside0.mk (And.intro (HD1.out.1.trans HD1.out.2 hs3) (HD1.out.2.trans HD1.out.1.size hh3))
      have hn3 := HN1.out.step hs3 hh3
      obtain ⟨_, n0, n1, n2, n3, n4⟩ := TN.mk ht3.box hn3.box
      have hdl := drop_len ys n.path
      clear ht3 hs3 hh3 hn3 HD1 HT1 HE1 HN1 HN1' c0 c1
      go_wp2_with fail
      refine (tree_set (dropF ys n.path) n base tb v3 w3 HE4.out HT3.out (drop_sorted HOY.out.sorted _) (fun n hn => by have := drop_small HXY.out n hn; omega) (by omega) (by omega)).mono ?_
      rintro e4 w4 ⟨rfl, hd4⟩
      have HD4 := Aside0.mk (Tdone.after HD3.out.1 HD3.out.2 hd4)
      clear hd4
      go_wp2_with fail
      go_end0
      exact ⟨rfl, by rw [HE3.out]; exact HD4.out⟩
    · have HE3 := Aside0.mk (show EE = setF ys n by rw [HEq.out, hd]; rfl)
      obtain ⟨_, n0, n1, n2, n3, n4⟩ := TN.mk HT1.out.box HN1.out.box
      have hnn : (⟨n.path, true, n.data, n.mode, n.time⟩ : Nd) = n := by rw [← hd]
      have HS := Aside0.mk (tree_set ys ⟨n.path, true, n.data, n.mode, n.time⟩ base tb v1 w1 HE1.out HT1.out HOY.out.sorted (fun n hn => by have := HXY.out n hn; omega) (show n.path.size < 4294967281 by omega) (by omega))
      have HNN := Aside0.mk hnn
      rw [hd] at n1
      clear hd hnn c1
      go_wp2_with fail
      refine HS.out.mono ?_
      rintro e4 w4 ⟨rfl, hd4⟩
      have HD4 := Aside0.mk (Tdone.after HD1.out.1 HD1.out.2 hd4)
      clear hd4
      go_wp2_with fail
      go_end0
      exact ⟨rfl, by rw [HE3.out, ← HNN.out]; exact HD4.out⟩
  | some d =>
    have hy : upsT xs n.path = ensF xs d := upsT_some h0
    have hl := pParent_len h0
    have hpd : pDir n.path = d := by unfold pDir; rw [h0]; rfl
    have hil : (pParent n.path).isSome = true := by rw [h0]; rfl
    rw [hil, hpd] at HP
    rw [hy] at HEq HOY HXY hul
    have HI := Aside0.mk (tree_ensure base tb hB d.size d xs v (w.alloc o) (Nat.le_refl _) HE0.out HT0.out ho (hf.up h0) hx (by omega) (by omega))
    obtain ⟨ys, hys⟩ : ∃ ys, ys = ensF xs d := ⟨_, rfl⟩
    rw [← hys] at HEq HOY HXY HI hul
    have hyl : ys.length ≤ 100000000 := by omega
    clear ho hf hx hup h0 hy hil hpd hul hl hys
    go_enter Tryz.func282, Tryz.ntmps282
    subst hob
    have c0 := blk_cell HN0.out.box 0
    go_wp2_with fail
    refine HP.out.mono ?_
    rintro e1 w1 ⟨rfl, rfl⟩
    go_wp2_with fail
    refine HI.out.mono ?_
    rintro e1 w1 ⟨rfl, v1, ht1, hs1, hh1⟩
    have HT1 := Aside0.mk ht1
    have HE1 := Aside0.mk (HE0.out.tdone hB HT0.out hs1)
    have HN1 := Aside0.mk (HN0.out.step hs1 hh1)
    have HD1 := Aside0.mk (And.intro (HD0.out.trans (Heir.refl _ _) hs1) ((Heir.refl w v).trans HD0.out.size hh1))
    clear ht1 hs1 hh1 c0 HI HP
    have HN1' := HN1
    have c1 := blk_cell HN1.out.box 1
    cases hd : n.dir
    · have HE3 := Aside0.mk (show EE = setF (dropF ys n.path) n by rw [HEq.out, hd]; rfl)
      rw [hd] at c1
      have c0 := blk_cell HN1.out.box 0
      clear hd
      go_wp2_with fail
      refine (tree_drop ys n.path base tb v1 w1 HE1.out HT1.out HOY.out HF.out.ne (fun n hn => by have := HXY.out n hn; omega) (by omega) (by omega)).mono ?_
      rintro e3 w3 ⟨⟨k3, rfl⟩, v3, ht3, hs3, hh3⟩
      have HT3 := Aside0.mk ht3
      have HE4 := Aside0.mk (HE1.out.tdone hB HT1.out hs3)
      have HD3 := Aside0.mk (And.intro (HD1.out.1.trans HD1.out.2 hs3) (HD1.out.2.trans HD1.out.1.size hh3))
      have hn3 := HN1.out.step hs3 hh3
      obtain ⟨_, n0, n1, n2, n3, n4⟩ := TN.mk ht3.box hn3.box
      have hdl := drop_len ys n.path
      clear ht3 hs3 hh3 hn3 HD1 HT1 HE1 HN1 HN1' c0 c1
      go_wp2_with fail
      refine (tree_set (dropF ys n.path) n base tb v3 w3 HE4.out HT3.out (drop_sorted HOY.out.sorted _) (fun n hn => by have := drop_small HXY.out n hn; omega) (by omega) (by omega)).mono ?_
      rintro e4 w4 ⟨rfl, hd4⟩
      have HD4 := Aside0.mk (Tdone.after HD3.out.1 HD3.out.2 hd4)
      clear hd4
      go_wp2_with fail
      go_end0
      exact ⟨rfl, by rw [HE3.out]; exact HD4.out⟩
    · have HE3 := Aside0.mk (show EE = setF ys n by rw [HEq.out, hd]; rfl)
      obtain ⟨_, n0, n1, n2, n3, n4⟩ := TN.mk HT1.out.box HN1.out.box
      have hnn : (⟨n.path, true, n.data, n.mode, n.time⟩ : Nd) = n := by rw [← hd]
      have HS := Aside0.mk (tree_set ys ⟨n.path, true, n.data, n.mode, n.time⟩ base tb v1 w1 HE1.out HT1.out HOY.out.sorted (fun n hn => by have := HXY.out n hn; omega) (show n.path.size < 4294967281 by omega) (by omega))
      have HNN := Aside0.mk hnn
      rw [hd] at n1
      clear hd hnn c1
      go_wp2_with fail
      refine HS.out.mono ?_
      rintro e4 w4 ⟨rfl, hd4⟩
      have HD4 := Aside0.mk (Tdone.after HD1.out.1 HD1.out.2 hd4)
      clear hd4
      go_wp2_with fail
      go_end0
      exact ⟨rfl, by rw [HE3.out, ← HNN.out]; exact HD4.out⟩

end Go.Proofs.YtbkbpdpegiekhaaGreatDoor

set_option linter.unusedVariables false
set_option linter.unusedSimpArgs false
namespace Go.Proofs.YtbkbpdpegiekhaaGreatDoor
open Go.RowKit Go.Proofs.YtbkbpdpegiekhaaGreatDoorW.PrintWords Mo

theorem parts_le (s : S) : (pParts s).length ≤ s.size + 1 := by
  unfold pParts
  rw [List.length_map]
  unfold parts
  split
  · simp
  · have key : ∀ l : Mo.B, (Mo.split l).length ≤ l.length + 1 := by
      intro l
      induction l with
      | nil => simp [Mo.split]
      | cons c t ih =>
        unfold Mo.split
        split
        · simp; omega
        · cases hs : Mo.split t with
          | nil => exact absurd hs (split_ne t)
          | cons x r => rw [hs] at ih; simp at ih ⊢; omega
    rw [size_bs]; exact key _
theorem Tr.len {base : Nat} {w : World} {tb : Nat} {v : Value} {xs : List Nd} (h : Tr base w tb v xs) : ∃ A c, v = .slice A xs.length c ∧ xs.length ≤ c := by
  obtain ⟨A, c, h1, h2⟩ := h.row.slice
  exact ⟨A, c, h1, h2⟩

set_option maxRecDepth 100000 in
set_option maxHeartbeats 1000000 in
theorem tree_fits_no (tb y : Nat) (A : Option Addr) (c : Nat) (A' : Option Addr) (nc : Nat × Nat) (w : World) (c0 : w.cell? ⟨tb, 0, none⟩ = some (.slice A y c)) (f0 : w.frozen? ⟨tb, 0, none⟩ = false) (hy : 4096 < y) (hyl : y ≤ 100000000) :
    Calls Tryz.prog 308 #[.pointer (some ⟨tb, 0, none⟩), .slice A' nc.1 nc.2] w fun e w' => e = .returned (.int .i64 7) ∧ w' = w.setCell ⟨tb, 0, none⟩ (.slice A' nc.1 nc.2) := by
  obtain ⟨n', c'⟩ := nc
  go_enter Tryz.func308, Tryz.ntmps308
  go_wp2_with fail
  go_ret
  exact ⟨rfl, rfl⟩
set_option maxRecDepth 100000 in
set_option maxHeartbeats 1000000 in
theorem tree_fits_yes (tb y : Nat) (A : Option Addr) (c : Nat) (u : Value) (w : World) (c0 : w.cell? ⟨tb, 0, none⟩ = some (.slice A y c)) (hy : y ≤ 4096) (hyl : y ≤ 100000000) :
    Calls Tryz.prog 308 #[.pointer (some ⟨tb, 0, none⟩), u] w fun e w' => e = .returned (.int .i64 0) ∧ w' = w := by
  go_enter Tryz.func308, Tryz.ntmps308
  go_wp2_with fail
  go_ret
  exact ⟨rfl, rfl⟩

set_option maxRecDepth 100000 in
set_option maxHeartbeats 1000000 in
theorem tree_try_281 (p : S) (xs ys : List Nd) (base tb : Nat) (v : Value) (w : World) (lb : Array Value) (hB : 2 < base) (hE : Env w) (ht : Tr base w tb v xs) (hp : p.size < 1000000000) (hl : xs.length ≤ 100000000) (hyl : ys.length ≤ 100000000)
    (hroom : xs.length + (pParts p).length ≤ 4096 → ys.length ≤ 4096) (hd : ∀ W, Below w.heap.size w W → Calls Tryz.prog 281 lb W fun e W' => e = .returned (.tuple #[]) ∧ Tdone base W W' tb v ys) :
    Calls Tryz.prog 280 #[.pointer (some ⟨tb, 0, none⟩), .string p, .func (.func 281) #[] lb] w fun e w' =>
      (ys.length ≤ 4096 ∧ e = .returned (.int .i64 0) ∧ Tdone base w w' tb v ys) ∨ (4096 < ys.length ∧ e = .returned (.int .i64 7) ∧ Below base w w') := by
  have HT := Aside0.mk ht
  have c0 := blk_cell ht.box 0
  have HP := Aside0.mk fun W (h : Below w.heap.size w W) => route_Parts p W (hE.below h) (by omega)
  have HD := Aside0.mk hd
  have hpl := parts_le p
  obtain ⟨A, cc, rfl, hcc⟩ := ht.len
  have HS := Aside0.mk fun W (h : Below w.heap.size w W) => blk_cell (ht.below h).box 0
  have HB0 := Aside0.mk ((Grew.refl w).drew.below)
  obtain ⟨m, hm⟩ : ∃ m, m = (pParts p).length := ⟨_, rfl⟩
  obtain ⟨n, hn⟩ : ∃ n, n = xs.length := ⟨_, rfl⟩
  have HM := Aside0.mk hm
  have HN := Aside0.mk hn
  rw [← hm] at hpl hroom
  rw [← hn] at hl hroom hcc c0 HS HD ⊢
  clear hm hn ht hd hE
  have hwr : IntKind.i64.wrap ((n : Int) + (m : Int)) = (n : Int) + (m : Int) := by rw [IntKind.wrap_i64]; omega
  go_enter Tryz.func280, Tryz.ntmps280
  go_wp2_with fail
  go_region_held3 (fun W => W.cell? ⟨tb, 0, none⟩ = some (.slice A n cc) ∧ Below w.heap.size w W)
    (first | exact ⟨c0, HB0.out⟩ | exact ⟨HS.out _ (below_then HB0.out HB0.out.size (by assumption)), below_then HB0.out HB0.out.size (by assumption)⟩ | assumption)
    ((go_at_call 172; refine (HP.out _ HB0.out).mono ?_; rintro e w1 ⟨v1, rfl, hr1, hg1⟩; have hb1 := hg1.below; obtain ⟨A1, c1, rfl, hc1⟩ := (Ow.of_R hr1).slice; rw [← HM.out]))
  have HB1 := Aside0.mk (below_then HB0.out HB0.out.size hb1)
  clear hr1 hg1 hb1 hc1 HB0 hwr
  by_cases hle : n + m ≤ 4096
  · have hro := hroom hle
    have hle2 : (n : Int) + (m : Int) ≤ 4096 := by omega
    clear hroom
    go_wp2_with fail
    refine (HD.out _ HB1.out).mono ?_
    rintro e2 w2 ⟨rfl, hd2⟩
    have HD2 := Aside0.mk (Tdone.after (TSt.of_below HB1.out) (Heir.refl _ _) hd2)
    clear hd2
    go_wp2_with fail
    go_ret
    exact .inl ⟨hro, rfl, by rw [HN.out] at HD2 ⊢; exact HD2.out⟩
  · have hle2 : 4096 < (n : Int) + (m : Int) := by omega
    have k0 := HS.out _ HB1.out
    clear hroom c0
    go_wp2_with fail
    have hT1 := HT.out.below HB1.out
    refine (clone_nodes xs (.slice A n cc) w1 (by rw [HN.out]; exact hT1.row.rd) (by rw [← HN.out]; omega)).mono ?_
    rintro e2 w2 ⟨v2, rfl, ho2, hb2⟩
    obtain ⟨A2, c2, rfl, hc2⟩ := ho2.slice
    have HB2 := Aside0.mk (below_then HB1.out HB1.out.size hb2)
    clear ho2 hb2 hc2 k0 hT1
    go_wp2_with fail
    refine (HD.out _ HB2.out).mono ?_
    rintro e3 w3 ⟨rfl, hd3⟩
    have HD3 := Aside0.mk (Tdone.after (TSt.of_below HB2.out) (Heir.refl _ _) hd3)
    clear hd3
    obtain ⟨v3, ht3, hs3, hh3⟩ := HD3.out
    have hbl3 : Below base w w3 := by
      refine hs3.below (xs := xs) ?_
      rw [HN.out]
      exact HT.out
    have c3 := blk_cell ht3.box 0
    have f3 := blk_frozen ht3.box 0
    have HBL := Aside0.mk hbl3
    have hlo := ht3.lo
    obtain ⟨A3, c3', rfl, hc3⟩ := ht3.len
    obtain ⟨y, hy⟩ : ∃ y, y = ys.length := ⟨_, rfl⟩
    have HY := Aside0.mk hy
    rw [← hy] at c3 hyl hc3
    clear hs3 hh3 ht3 hbl3 hy
    by_cases hfit : 4096 < y
    · go_wp2_with fail
      refine (tree_fits_no tb y _ _ _ (_, _) w3 c3 f3 hfit hyl).mono ?_
      rintro e4 w4 ⟨rfl, hw4⟩
      have HW4 := Aside0.mk hw4
      clear hw4 c3 f3
      go_wp2_with fail
      go_ret
      exact .inr ⟨by rw [← HY.out]; exact hfit, rfl, by rw [HW4.out]; exact HBL.out.setCell hlo _⟩
    · go_wp2_with fail
      refine (tree_fits_yes tb y _ _ _ w3 c3 (by omega) hyl).mono ?_
      rintro e4 w4 ⟨rfl, hw4⟩
      have HW4 := Aside0.mk hw4
      clear hw4 c3 f3
      go_wp2_with fail
      go_ret
      exact .inl ⟨by rw [← HY.out]; omega, rfl, by rw [HW4.out]; rw [HN.out] at HD3 ⊢; exact HD3.out⟩

set_option maxRecDepth 100000 in
set_option maxHeartbeats 1000000 in
theorem tree_try_283 (p : S) (xs ys : List Nd) (base tb : Nat) (v : Value) (w : World) (lb : Array Value) (hB : 2 < base) (hE : Env w) (ht : Tr base w tb v xs) (hp : p.size < 1000000000) (hl : xs.length ≤ 100000000) (hyl : ys.length ≤ 100000000)
    (hroom : xs.length + (pParts p).length ≤ 4096 → ys.length ≤ 4096) (hd : ∀ W, Below w.heap.size w W → Calls Tryz.prog 283 lb W fun e W' => e = .returned (.tuple #[]) ∧ Tdone base W W' tb v ys) :
    Calls Tryz.prog 280 #[.pointer (some ⟨tb, 0, none⟩), .string p, .func (.func 283) #[] lb] w fun e w' =>
      (ys.length ≤ 4096 ∧ e = .returned (.int .i64 0) ∧ Tdone base w w' tb v ys) ∨ (4096 < ys.length ∧ e = .returned (.int .i64 7) ∧ Below base w w') := by
  have HT := Aside0.mk ht
  have c0 := blk_cell ht.box 0
  have HP := Aside0.mk fun W (h : Below w.heap.size w W) => route_Parts p W (hE.below h) (by omega)
  have HD := Aside0.mk hd
  have hpl := parts_le p
  obtain ⟨A, cc, rfl, hcc⟩ := ht.len
  have HS := Aside0.mk fun W (h : Below w.heap.size w W) => blk_cell (ht.below h).box 0
  have HB0 := Aside0.mk ((Grew.refl w).drew.below)
  obtain ⟨m, hm⟩ : ∃ m, m = (pParts p).length := ⟨_, rfl⟩
  obtain ⟨n, hn⟩ : ∃ n, n = xs.length := ⟨_, rfl⟩
  have HM := Aside0.mk hm
  have HN := Aside0.mk hn
  rw [← hm] at hpl hroom
  rw [← hn] at hl hroom hcc c0 HS HD ⊢
  clear hm hn ht hd hE
  have hwr : IntKind.i64.wrap ((n : Int) + (m : Int)) = (n : Int) + (m : Int) := by rw [IntKind.wrap_i64]; omega
  go_enter Tryz.func280, Tryz.ntmps280
  go_wp2_with fail
  go_region_held3 (fun W => W.cell? ⟨tb, 0, none⟩ = some (.slice A n cc) ∧ Below w.heap.size w W)
    (first | exact ⟨c0, HB0.out⟩ | exact ⟨HS.out _ (below_then HB0.out HB0.out.size (by assumption)), below_then HB0.out HB0.out.size (by assumption)⟩ | assumption)
    ((go_at_call 172; refine (HP.out _ HB0.out).mono ?_; rintro e w1 ⟨v1, rfl, hr1, hg1⟩; have hb1 := hg1.below; obtain ⟨A1, c1, rfl, hc1⟩ := (Ow.of_R hr1).slice; rw [← HM.out]))
  have HB1 := Aside0.mk (below_then HB0.out HB0.out.size hb1)
  clear hr1 hg1 hb1 hc1 HB0 hwr
  by_cases hle : n + m ≤ 4096
  · have hro := hroom hle
    have hle2 : (n : Int) + (m : Int) ≤ 4096 := by omega
    clear hroom
    go_wp2_with fail
    refine (HD.out _ HB1.out).mono ?_
    rintro e2 w2 ⟨rfl, hd2⟩
    have HD2 := Aside0.mk (Tdone.after (TSt.of_below HB1.out) (Heir.refl _ _) hd2)
    clear hd2
    go_wp2_with fail
    go_ret
    exact .inl ⟨hro, rfl, by rw [HN.out] at HD2 ⊢; exact HD2.out⟩
  · have hle2 : 4096 < (n : Int) + (m : Int) := by omega
    have k0 := HS.out _ HB1.out
    clear hroom c0
    go_wp2_with fail
    have hT1 := HT.out.below HB1.out
    refine (clone_nodes xs (.slice A n cc) w1 (by rw [HN.out]; exact hT1.row.rd) (by rw [← HN.out]; omega)).mono ?_
    rintro e2 w2 ⟨v2, rfl, ho2, hb2⟩
    obtain ⟨A2, c2, rfl, hc2⟩ := ho2.slice
    have HB2 := Aside0.mk (below_then HB1.out HB1.out.size hb2)
    clear ho2 hb2 hc2 k0 hT1
    go_wp2_with fail
    refine (HD.out _ HB2.out).mono ?_
    rintro e3 w3 ⟨rfl, hd3⟩
    have HD3 := Aside0.mk (Tdone.after (TSt.of_below HB2.out) (Heir.refl _ _) hd3)
    clear hd3
    obtain ⟨v3, ht3, hs3, hh3⟩ := HD3.out
    have hbl3 : Below base w w3 := by
      refine hs3.below (xs := xs) ?_
      rw [HN.out]
      exact HT.out
    have c3 := blk_cell ht3.box 0
    have f3 := blk_frozen ht3.box 0
    have HBL := Aside0.mk hbl3
    have hlo := ht3.lo
    obtain ⟨A3, c3', rfl, hc3⟩ := ht3.len
    obtain ⟨y, hy⟩ : ∃ y, y = ys.length := ⟨_, rfl⟩
    have HY := Aside0.mk hy
    rw [← hy] at c3 hyl hc3
    clear hs3 hh3 ht3 hbl3 hy
    by_cases hfit : 4096 < y
    · go_wp2_with fail
      refine (tree_fits_no tb y _ _ _ (_, _) w3 c3 f3 hfit hyl).mono ?_
      rintro e4 w4 ⟨rfl, hw4⟩
      have HW4 := Aside0.mk hw4
      clear hw4 c3 f3
      go_wp2_with fail
      go_ret
      exact .inr ⟨by rw [← HY.out]; exact hfit, rfl, by rw [HW4.out]; exact HBL.out.setCell hlo _⟩
    · go_wp2_with fail
      refine (tree_fits_yes tb y _ _ _ w3 c3 (by omega) hyl).mono ?_
      rintro e4 w4 ⟨rfl, hw4⟩
      have HW4 := Aside0.mk hw4
      clear hw4 c3 f3
      go_wp2_with fail
      go_ret
      exact .inl ⟨by rw [← HY.out]; omega, rfl, by rw [HW4.out]; rw [HN.out] at HD3 ⊢; exact HD3.out⟩

end Go.Proofs.YtbkbpdpegiekhaaGreatDoor
