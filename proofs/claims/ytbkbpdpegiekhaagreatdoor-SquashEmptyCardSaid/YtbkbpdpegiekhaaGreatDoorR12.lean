/- layer: add. -/
import Derived.Test.YtbkbpdpegiekhaaGreatDoorR9
set_option linter.unusedVariables false
set_option linter.unusedSimpArgs false
namespace Go.Proofs.YtbkbpdpegiekhaaGreatDoor
open Go.RowKit Go.Proofs.YtbkbpdpegiekhaaGreatDoorW.PrintWords Mo

theorem foldOne_len (l : Mo.B) (h : l ≠ []) : (foldOne l).length ≤ 4 * (Lib.decodeL l).2 := by
  have hw := Lib.decodeL_width l
  unfold foldOne
  split
  · rw [List.length_take]; omega
  · have := (Lib.runeCells_le (smallS (Lib.decodeL l).1)).2
    rw [Lib.runeCells_length] at this
    omega
theorem foldN_len : ∀ (n : Nat) (l : Mo.B), (foldN n l).length ≤ 4 * l.length
  | 0, l => Nat.zero_le _
  | n + 1, l => by
    unfold foldN
    by_cases hne : l = []
    · simp [hne]
    · rw [if_neg hne, List.length_append]
      have h1 := foldOne_len l hne
      have h2 := foldN_len n (l.drop (Lib.decodeL l).2)
      have h3 := Lib.decodeL_le l hne
      rw [List.length_drop] at h2
      omega
theorem pFold_size (s : S) : (pFold s).size ≤ 4 * s.size := by
  unfold pFold
  rw [size_bs, bs_mk, size_bs]
  exact foldN_len _ _

def kindE (k : Int × S × Int) : Bool := (k.2.2 != 0) || (k.1 != 0)
def pastE (last p : S) : Bool := (last != ⟨#[]⟩) && decide (0 ≤ pCmp last p)
/-- What is wrong with an Add behind others. -/
def addE (n : Nd) (last : S) (seen : List S) : Int :=
  match pRight n.path, okRest n, kindE (pKind n.path), pastE last n.path, decide (0 < seen.count (pFold n.path)) with
  | false, _, _, _, _ => 5
  | true, false, _, _, _ => 1
  | true, true, true, _, _ => 11
  | true, true, false, true, _ => 2
  | true, true, false, false, true => 6
  | true, true, false, false, false => 0

theorem box_below {w w' : World} (o : Obj) (h : Below (w.alloc o).heap.size (w.alloc o) w') : Below w.heap.size w w' :=
  below_then ((Grew.refl w).alloc o).below ((Grew.refl w).alloc o).below.size h
set_option maxHeartbeats 2000000 in
theorem layer_add (n : Nd) (last : S) (b : Nat) (seen : List S) (w : World) (hE : Env w) (hc : Cnt w b seen) (hs : n.path.size < 1000000000) (hl : last.size < 1000000000) :
    Calls Tryz.prog 192 #[vN n, .string last, .map (some b)] w fun e w' => e = .returned (.int .i64 (addE n last seen)) ∧ Below w.heap.size w w' := by
  obtain ⟨o, ho⟩ : ∃ o, o = Obj.cells #[.string n.path, .bool n.dir, .string n.data, .int .i64 n.mode, .int .i64 n.time] 46 := ⟨_, rfl⟩
  have HO := Aside0.mk ho
  have hE' : Env (w.alloc o) := hE.below ((Grew.refl w).alloc o).below
  have hc' : Cnt (w.alloc o) b seen := hc.below ((Grew.refl w).alloc o).below
  have HE := Aside0.mk hE'
  have HC := Aside0.mk hc'
  clear hE hE' hc hc'
  obtain ⟨k, t, e, hk⟩ : ∃ k t e, pKind n.path = (k, t, e) := ⟨_, _, _, rfl⟩
  have HK := Aside0.mk hk
  have hmay := tree_May n
  have hkind := mark_Kind n.path
  rw [hk] at hkind
  have HM := Aside0.mk hmay
  have HKd := Aside0.mk hkind
  clear hmay hkind hk
  go_enter Tryz.func192, Tryz.ntmps192
  subst ho
  go_wp2_with fail
  refine (HKd.out _ HE.out hs).mono ?_
  rintro e1 w1 ⟨rfl, hb1⟩
  have HB1 := Aside0.mk (box_below _ hb1)
  have HE1 := Aside0.mk (HE.out.below hb1)
  have HC1 := Aside0.mk (HC.out.below hb1)
  have hw1 := (hb1.block w.heap.size (by simp)).trans (heap_alloc_new w _)
  have HW1 := Aside0.mk hw1
  have c0 := blk_cell hw1 0
  clear hb1 hw1 HE HC
  go_wp2_with fail
  refine (route_Check _ _ HE1.out (by omega)).mono ?_
  rintro e2 w2 ⟨rfl, hb2⟩
  have HB2 := Aside0.mk (below_then HB1.out HB1.out.size hb2)
  have HE2 := Aside0.mk (HE1.out.below hb2)
  have HC2 := Aside0.mk (HC1.out.below hb2)
  have hw2 := (hb2.block w.heap.size (blk_lt HW1.out)).trans HW1.out
  have HW2 := Aside0.mk hw2
  clear hb2 hw2 HE1 HC1 HB1 HW1 c0
  cases h1 : pRight n.path
  · have hA : addE n last seen = 5 := by unfold addE; rw [h1]
    have HA := Aside0.mk hA
    rw [show okE false 5 = 5 from rfl]
    clear hA h1
    go_wp2_with fail
    go_ret
    exact ⟨by rw [HA.out]; rfl, HB2.out⟩
  have H1 := Aside0.mk h1
  rw [show okE true 5 = 0 from rfl]
  clear h1
  have c0 := blk_cell HW2.out 0
  have c1 := blk_cell HW2.out 1
  have c2 := blk_cell HW2.out 2
  have c3 := blk_cell HW2.out 3
  have c4 := blk_cell HW2.out 4
  go_wp2_with fail
  refine (HM.out _ HE2.out hs).mono ?_
  rintro e3 w3 ⟨rfl, hb3⟩
  have HB3 := Aside0.mk (below_then HB2.out HB2.out.size hb3)
  have HE3 := Aside0.mk (HE2.out.below hb3)
  have HC3 := Aside0.mk (HC2.out.below hb3)
  have hw3 := (hb3.block w.heap.size (blk_lt HW2.out)).trans HW2.out
  have HW3 := Aside0.mk hw3
  clear hb3 hw3 HE2 HC2 HB2 HW2 c0 c1 c2 c3 c4
  rw [H1.out, Bool.true_and]
  cases h2 : okRest n
  · have hA : addE n last seen = 1 := by unfold addE; rw [H1.out, h2]
    have HA := Aside0.mk hA
    clear hA h2
    go_wp2_with fail
    go_ret
    exact ⟨by rw [HA.out]; rfl, HB3.out⟩
  have H2 := Aside0.mk h2
  clear h2
  by_cases he : e = 0
  rotate_left
  · have hA : addE n last seen = 11 := by
      have hK0 : kindE (pKind n.path) = true := by rw [HK.out]; simp [kindE, he]
      unfold addE; rw [H1.out, H2.out, hK0]
    have heb : (e != 0) = true := by simpa using he
    have HA := Aside0.mk hA
    clear hA he
    go_wp2_with fail
    go_ret
    exact ⟨by rw [HA.out]; rfl, HB3.out⟩
  subst he
  by_cases hkk : k = 0
  rotate_left
  · have hA : addE n last seen = 11 := by
      have hK0 : kindE (pKind n.path) = true := by rw [HK.out]; simp [kindE, hkk]
      unfold addE; rw [H1.out, H2.out, hK0]
    have heb : (k != 0) = true := by simpa using hkk
    have HA := Aside0.mk hA
    clear hA hkk
    go_wp2_with fail
    go_ret
    exact ⟨by rw [HA.out]; rfl, HB3.out⟩
  subst hkk
  have hK0 : kindE (pKind n.path) = false := by rw [HK.out]; rfl
  have H3 := Aside0.mk hK0
  clear hK0
  have c0 := blk_cell HW3.out 0
  by_cases hlast : last = ⟨#[]⟩
  · subst hlast
    have hp : pastE ⟨#[]⟩ n.path = false := by unfold pastE; simp
    have H4 := Aside0.mk hp
    clear hp
    have hz := pFold_size n.path
    by_cases hm : 0 < seen.count (pFold n.path)
    · have hA : addE n ⟨#[]⟩ seen = 6 := by
        unfold addE
        rw [H1.out, H2.out, H3.out, H4.out, decide_eq_true hm]
      have HA := Aside0.mk hA
      have hmb : pFold n.path ∈ seen := List.count_pos_iff.1 hm
      clear hA hm
      go_wp2_with fail
      refine (fold_Fold _ _ HE3.out (by omega)).mono ?_
      rintro e5 w5 ⟨rfl, hb5⟩
      have HB5 := Aside0.mk (below_then HB3.out HB3.out.size hb5)
      have HC5 := Aside0.mk (HC3.out.below hb5)
      clear hb5
      go_wp2_with (at_lookup; refine Cnt.look _ rfl _ _ rfl _ _ rfl HC5.out _ (by omega) rfl ?_)
      go_ret
      exact ⟨by rw [HA.out]; rfl, HB5.out⟩
    · have hA : addE n ⟨#[]⟩ seen = 0 := by
        unfold addE
        rw [H1.out, H2.out, H3.out, H4.out, decide_eq_false hm]
      have HA := Aside0.mk hA
      have hm0 : seen.count (pFold n.path) = 0 := by omega
      clear hA hm
      go_wp2_with fail
      refine (fold_Fold _ _ HE3.out (by omega)).mono ?_
      rintro e5 w5 ⟨rfl, hb5⟩
      have HB5 := Aside0.mk (below_then HB3.out HB3.out.size hb5)
      have HC5 := Aside0.mk (HC3.out.below hb5)
      clear hb5
      go_wp2_with (at_lookup; refine Cnt.look _ rfl _ _ rfl _ _ rfl HC5.out _ (by omega) rfl ?_; rw [hm0])
      go_ret
      exact ⟨by rw [HA.out]; rfl, HB5.out⟩
  have hlb : ¬ last.toList = [] := fun h => hlast (isEmpty_eq (by rw [h]; rfl))
  have hlc : last.toList.isEmpty = false := by simpa using hlb
  go_wp2_with fail
  refine (route_Compare last n.path _ HE3.out (by omega) (by omega)).mono ?_
  rintro e4 w4 ⟨rfl, hg4⟩
  have hb4 := hg4.below
  have HB4 := Aside0.mk (below_then HB3.out HB3.out.size hb4)
  have HE4 := Aside0.mk (HE3.out.below hb4)
  have HC4 := Aside0.mk (HC3.out.below hb4)
  have hw4 := (hb4.block w.heap.size (blk_lt HW3.out)).trans HW3.out
  have HW4 := Aside0.mk hw4
  have c0 := blk_cell hw4 0
  have hr := pCmp_range last n.path
  have hpe : pastE last n.path = decide (0 ≤ pCmp last n.path) := by unfold pastE; simp [hlast]
  obtain ⟨c, hc⟩ : ∃ c, c = pCmp last n.path := ⟨_, rfl⟩
  rw [← hc] at hr hpe ⊢
  clear hc hg4 hb4 hw4
  have H5 := Aside0.mk hpe
  clear hpe
  by_cases hcc : c = -1
  · subst hcc
    have H4 := Aside0.mk (show pastE last n.path = false from H5.out)
    have hz := pFold_size n.path
    by_cases hm : 0 < seen.count (pFold n.path)
    · have hA : addE n last seen = 6 := by
        unfold addE
        rw [H1.out, H2.out, H3.out, H4.out, decide_eq_true hm]
      have HA := Aside0.mk hA
      have hmb : pFold n.path ∈ seen := List.count_pos_iff.1 hm
      clear hA hm
      go_wp2_with fail
      refine (fold_Fold _ _ HE4.out (by omega)).mono ?_
      rintro e5 w5 ⟨rfl, hb5⟩
      have HB5 := Aside0.mk (below_then HB4.out HB4.out.size hb5)
      have HC5 := Aside0.mk (HC4.out.below hb5)
      clear hb5
      go_wp2_with (at_lookup; refine Cnt.look _ rfl _ _ rfl _ _ rfl HC5.out _ (by omega) rfl ?_)
      go_ret
      exact ⟨by rw [HA.out]; rfl, HB5.out⟩
    · have hA : addE n last seen = 0 := by
        unfold addE
        rw [H1.out, H2.out, H3.out, H4.out, decide_eq_false hm]
      have HA := Aside0.mk hA
      have hm0 : seen.count (pFold n.path) = 0 := by omega
      clear hA hm
      go_wp2_with fail
      refine (fold_Fold _ _ HE4.out (by omega)).mono ?_
      rintro e5 w5 ⟨rfl, hb5⟩
      have HB5 := Aside0.mk (below_then HB4.out HB4.out.size hb5)
      have HC5 := Aside0.mk (HC4.out.below hb5)
      clear hb5
      go_wp2_with (at_lookup; refine Cnt.look _ rfl _ _ rfl _ _ rfl HC5.out _ (by omega) rfl ?_; rw [hm0])
      go_ret
      exact ⟨by rw [HA.out]; rfl, HB5.out⟩
  · have hA : addE n last seen = 2 := by
      have : pastE last n.path = true := by rw [H5.out]; simp; omega
      unfold addE
      rw [H1.out, H2.out, H3.out, this]
    have HA := Aside0.mk hA
    have hcb : 0 ≤ c := by omega
    clear hA hcc
    go_wp2_with fail
    go_ret
    exact ⟨by rw [HA.out]; rfl, HB4.out⟩

end Go.Proofs.YtbkbpdpegiekhaaGreatDoor

/- layer: adds, markers; cmp.Or. -/
set_option linter.unusedVariables false
set_option linter.unusedSimpArgs false
namespace Go.Proofs.YtbkbpdpegiekhaaGreatDoor
open Go.RowKit Go.Proofs.YtbkbpdpegiekhaaGreatDoorW.PrintWords Mo

/-- The first that is wrong of Adds. -/
def addsE : S → List S → List Nd → Int
  | _, _, [] => 0
  | last, seen, n :: t => if addE n last seen = 0 then addsE n.path (seen ++ [pFold n.path]) t else addE n last seen
theorem addE_range (n : Nd) (last : S) (seen : List S) : 0 ≤ addE n last seen ∧ addE n last seen ≤ 11 := by
  unfold addE
  split <;> omega
theorem drop_node (xs : List Nd) (k : Nat) (h : k < xs.length) : xs.drop k = xs.getD k Nd.zero :: xs.drop (k + 1) := by
  rw [List.drop_eq_getElem_cons h, List.getD_eq_getElem?_getD, List.getElem?_eq_getElem h]; rfl
theorem getD_mem (xs : List Nd) (k : Nat) (h : k < xs.length) : xs.getD k Nd.zero ∈ xs := by
  rw [List.getD_eq_getElem?_getD, List.getElem?_eq_getElem h]; simp

set_option maxHeartbeats 2000000 in
theorem layer_adds (xs : List Nd) (v : Value) (w : World) (hE : Env w) (hv : Rd kN w v xs) (hx : ∀ n ∈ xs, n.path.size < 1000000000) (hsz : xs.length ≤ 1000000000) :
    Calls Tryz.prog 141 #[v] w fun e w' => e = .returned (.int .i64 (addsE ⟨#[]⟩ [] xs)) ∧ Below w.heap.size w w' := by
  obtain ⟨A, c, rfl, hl, hc⟩ := hv
  have HE := Aside0.mk hE
  have HX := Aside0.mk hx
  have HC := Aside0.mk hc
  clear hE hx hc
  obtain ⟨n, hn0⟩ : ∃ n, n = xs.length := ⟨_, rfl⟩
  rw [← hn0] at hsz hl ⊢
  have HN := Aside0.mk hn0
  clear hn0
  have hmm := @run_makeMap Tryz.prog
  go_enter Tryz.func141, Tryz.ntmps141
  go_wp2_with fail
  go_loopw [3, 11] (fun l i wr => ∃ (k : Nat) (last : S) (seen : List S), k ≤ n ∧ l = .string last ∧ i = .int .i64 k ∧ seen.length = k ∧ last.size < 1000000000 ∧ Aside0 (addsE last seen (xs.drop k) = addsE ⟨#[]⟩ [] xs) ∧ Aside0 (Cnt wr w.heap.size seen) ∧ Aside0 (Below w.heap.size w wr))
    (fun l i _ => n - (intOf i).toNat)
  case atStart => exact ⟨0, ⟨#[]⟩, [], Nat.zero_le _, rfl, rfl, rfl, by decide, ⟨rfl⟩, ⟨Cnt.made w⟩, ⟨below_alloc (Below.refl _ _) _⟩⟩
  case round =>
    obtain ⟨k, last, seen, hk, rfl, rfl, hsl, hlast, HA, HM, HB⟩ := hrel
    by_cases hlt : k < n
    · have hk2 : k < xs.length := by rw [← HN.out]; exact hlt
      obtain ⟨ad, rfl, k0, k1, k2, k3, k4⟩ := C_node (Kd.C_below HC.out HB.out) k (by rw [← HN.out]; exact hlt)
      have hp1 := HX.out (xs.getD k Nd.zero) (getD_mem _ _ hk2)
      have HD := Aside0.mk (drop_node xs k hk2)
      obtain ⟨x, hx0⟩ : ∃ x, x = xs.getD k Nd.zero := ⟨_, rfl⟩
      rw [← hx0] at hp1 HD k0 k1 k2 k3 k4
      clear hx0 hk2
      go_wp2_with fail
      have hw0 := heap_alloc_new wr (.cells #[.string x.path, .bool x.dir, .string x.data, .int .i64 x.mode, .int .i64 x.time] 46)
      have hb0 := ((Grew.refl wr).alloc (.cells #[.string x.path, .bool x.dir, .string x.data, .int .i64 x.mode, .int .i64 x.time] 46)).below
      refine (layer_add x last w.heap.size seen _ ((HE.out.below HB.out).below hb0) (HM.out.below hb0) hp1 hlast).mono ?_
      rintro e1 w1 ⟨rfl, hb1⟩
      have hsz0 := HB.out.size
      have HB1 := Aside0.mk (below_then HB.out hsz0 (box_below _ hb1))
      have HM1 := Aside0.mk (HM.out.below (box_below _ hb1))
      have hw1 := (hb1.block wr.heap.size (by simp)).trans hw0
      have c0 := blk_cell hw1 0
      clear hb0 hb1 hw0 hw1 k0 k1 k2 k3 k4 HM HB
      have hst : addsE last seen (x :: xs.drop (k + 1)) = if addE x last seen = 0 then addsE x.path (seen ++ [pFold x.path]) (xs.drop (k + 1)) else addE x last seen := rfl
      by_cases ha : addE x last seen = 0
      · rw [if_pos ha] at hst
        have HS := Aside0.mk hst
        rw [ha]
        clear hst ha
        have hz := pFold_size x.path
        have hsl2 : seen.length ≤ 1000000000000 := by omega
        go_wp2_with fail
        refine (fold_Fold _ _ (HE.out.below HB1.out) (by omega)).mono ?_
        rintro e2 w2 ⟨rfl, hb2⟩
        have hsz1 := HB1.out.size
        have HB2 := Aside0.mk (below_then HB1.out hsz1 hb2)
        have HM2 := Aside0.mk (HM1.out.below hb2)
        clear hb2 HB1 HM1 hsz1
        have hcl : seen.count (pFold x.path) ≤ seen.length := List.count_le_length
        go_wp2_with (first
          | (at_lookup; refine Cnt.look _ rfl _ _ rfl _ _ rfl HM2.out _ (by omega) rfl ?_)
          | (at_mapUpdate; refine Cnt.inc _ rfl _ _ _ rfl _ _ rfl HM2.out hsl2 _ (by omega) rfl rfl ?_; intro w3 hm3 hg3; have HB3 := Aside0.mk (HB2.out.grown hg3 HB2.out.size (fun k hk => by injection hk with hk; omega)); have HM3 := Aside0.mk hm3; clear hm3 hg3))
        go_roundw
        case rel => exact ⟨k + 1, x.path, seen ++ [pFold x.path], by omega, rfl, by go_num, by simp [hsl], hp1, ⟨by rw [← HS.out, ← HD.out]; exact HA.out⟩, HM3, HB3⟩
        case measure => simp [intOf]; omega
      · rw [if_neg ha] at hst
        have HS := Aside0.mk (show addE x last seen = addsE ⟨#[]⟩ [] xs by rw [← HA.out, HD.out, hst])
        have hab : (addE x last seen != 0) = true := by simpa using ha
        clear hst ha
        go_wp2_with fail
        go_ret
        exact ⟨by rw [← HS.out]; rfl, HB1.out⟩
    · have hk2 : k = n := by omega
      subst hk2
      have HF := Aside0.mk (show addsE ⟨#[]⟩ [] xs = 0 by
        rw [← HA.out, List.drop_of_length_le (by rw [← HN.out]; exact Nat.le_refl _)]; rfl)
      clear HA hlt
      go_wp2_with fail
      go_ret
      exact ⟨by rw [HF.out]; rfl, HB.out⟩

end Go.Proofs.YtbkbpdpegiekhaaGreatDoor

/- layer: markers; cmp.Or. -/
set_option linter.unusedVariables false
set_option linter.unusedSimpArgs false
namespace Go.Proofs.YtbkbpdpegiekhaaGreatDoor
open Go.RowKit Go.Proofs.YtbkbpdpegiekhaaGreatDoorW.PrintWords Mo

def nextE : Option S → S → Bool
  | none, _ => false
  | some q, p => decide (0 ≤ pCmp q p)
def markE (k : Int) (prev : Option S) (p : S) : Int := if (pPath k p).2 = 0 then (if nextE prev p = true then 2 else 0) else (pPath k p).2
/-- The first that is wrong of markers. -/
def markersE (k : Int) : Option S → List S → Int
  | _, [] => 0
  | prev, p :: t => if markE k prev p = 0 then markersE k (some p) t else markE k prev p

theorem getD_memS (xs : List S) (k : Nat) (h : k < xs.length) : xs[k] ∈ xs := List.getElem_mem h

set_option maxHeartbeats 2000000 in
theorem layer_markers (kind : Int) (hkind : kind = 1 ∨ kind = 2) (xs : List S) (v : Value) (w : World) (hE : Env w) (hv : Rd Kd.string w v xs) (hx : ∀ s ∈ xs, s.size < 1000000000) (hsz : xs.length ≤ 1000000000) :
    Calls Tryz.prog 142 #[v, .int .i64 kind] w fun e w' => e = .returned (.int .i64 (markersE kind none xs)) ∧ Below w.heap.size w w' := by
  obtain ⟨A, c, rfl, hl, hc⟩ := hv
  rcases C_strs hc with rfl | ⟨b, off, rfl, hb, hcell⟩
  · go_enter Tryz.func142, Tryz.ntmps142
    go_wp2_with fail
    go_loop [11] (fun i => i = .int .i64 0) (fun i => 0)
    case atStart => exact rfl
    case round =>
      subst hrel
      go_wp2_with fail
      go_ret
      exact ⟨rfl, Below.refl _ _⟩
  have HE := Aside0.mk hE
  have HX := Aside0.mk hx
  have HC := Aside0.mk hcell
  have HKi := Aside0.mk hkind
  clear hE hx hc hcell hkind
  obtain ⟨n, hn0⟩ : ∃ n, n = xs.length := ⟨_, rfl⟩
  rw [← hn0] at hsz hl ⊢
  have HN := Aside0.mk hn0
  clear hn0
  go_enter Tryz.func142, Tryz.ntmps142
  go_wp2_with fail
  go_loopw [11] (fun i wr => ∃ (k : Nat) (prev : Option S), k ≤ n ∧ i = .int .i64 k ∧ Aside0 ((k = 0 ∧ prev = none) ∨ ∃ j q, k = j + 1 ∧ xs[j]? = some q ∧ prev = some q) ∧ Aside0 (markersE kind prev (xs.drop k) = markersE kind none xs) ∧ Aside0 (Below w.heap.size w wr))
    (fun i _ => n - (intOf i).toNat)
  case atStart => exact ⟨0, none, Nat.zero_le _, rfl, ⟨.inl ⟨rfl, rfl⟩⟩, ⟨rfl⟩, ⟨Below.refl _ _⟩⟩
  case round =>
    obtain ⟨k, prev, hk, rfl, HP, HA, HB⟩ := hrel
    by_cases hlt : k < n
    · have hk2 : k < xs.length := by rw [← HN.out]; exact hlt
      have k0 := pw_cell_below HB.out (HC.out k hk2)
      have hp1 := HX.out xs[k] (List.getElem_mem hk2)
      have HD := Aside0.mk (List.drop_eq_getElem_cons hk2)
      have HG := Aside0.mk (List.getElem?_eq_getElem hk2)
      obtain ⟨x, hx0⟩ : ∃ x, x = xs[k] := ⟨_, rfl⟩
      rw [← hx0] at hp1 HD k0 HG
      clear hx0 hk2
      have hsz0 := HB.out.size
      go_wp2_with fail
      refine (mark_Path kind HKi.out x _ (HE.out.below HB.out) hp1).mono ?_
      rintro e1 w1 ⟨rfl, hb1⟩
      have HB1 := Aside0.mk (below_then HB.out hsz0 hb1)
      clear hb1 HB k0
      have hst : markersE kind prev (x :: xs.drop (k + 1)) = if markE kind prev x = 0 then markersE kind (some x) (xs.drop (k + 1)) else markE kind prev x := rfl
      by_cases he : (pPath kind x).2 = 0
      rotate_left
      · have hm : markE kind prev x = (pPath kind x).2 := by unfold markE; rw [if_neg he]
        rw [if_neg (by rw [hm]; exact he), hm] at hst
        have HS := Aside0.mk (show (pPath kind x).2 = markersE kind none xs by rw [← HA.out, HD.out, hst])
        clear hst hm
        obtain ⟨y, hy⟩ : ∃ y, y = (pPath kind x).2 := ⟨_, rfl⟩
        rw [← hy] at he HS ⊢
        have hab : (y != 0) = true := by simpa using he
        clear he hy
        go_wp2_with fail
        go_ret
        exact ⟨by rw [← HS.out]; rfl, HB1.out⟩
      have hm : markE kind prev x = if nextE prev x = true then 2 else 0 := by unfold markE; rw [if_pos he]
      rw [he]
      clear he
      rcases HP.out with ⟨rfl, rfl⟩ | ⟨j, q, rfl, hj, rfl⟩
      · have hst2 := Aside0.mk (show markersE kind (some x) (xs.drop (0 + 1)) = markersE kind none xs by
          rw [← HA.out, HD.out, hst, if_pos (by rw [hm]; rfl)])
        clear hst hm
        go_wp2_with fail
        go_roundw
        case rel => exact ⟨0 + 1, some x, by omega, by go_num, ⟨.inr ⟨0, x, rfl, HG.out, rfl⟩⟩, hst2, HB1⟩
        case measure => simp [intOf]; omega
      · have hjl : j < xs.length := by rw [← HN.out]; omega
        have k1 := pw_cell_below HB1.out (HC.out j hjl)
        have hq : xs[j] = q := by
          rw [List.getElem?_eq_getElem hjl] at hj
          exact Option.some.inj hj
        have hq1 := HX.out xs[j] (List.getElem_mem hjl)
        rw [hq] at k1 hq1
        clear hq hjl hj
        go_wp2_with fail
        refine (route_Compare q x _ (HE.out.below HB1.out) (by omega) (by omega)).mono ?_
        rintro e4 w4 ⟨rfl, hg4⟩
        have hsz1 := HB1.out.size
        have HB4 := Aside0.mk (below_then HB1.out hsz1 hg4.below)
        clear hg4 k1 hsz1
        have hr := pCmp_range q x
        have hne : nextE (some q) x = decide (0 ≤ pCmp q x) := rfl
        obtain ⟨c1, hc1⟩ : ∃ c1, c1 = pCmp q x := ⟨_, rfl⟩
        rw [← hc1] at hr hne ⊢
        clear hc1
        by_cases hcc : c1 = -1
        · subst hcc
          have hst2 := Aside0.mk (show markersE kind (some x) (xs.drop (j + 1 + 1)) = markersE kind none xs by
            rw [← HA.out, HD.out, hst, if_pos (by rw [hm, hne]; rfl)])
          clear hst hm hne
          go_wp2_with fail
          go_roundw
          case rel => exact ⟨j + 1 + 1, some x, by omega, by go_num, ⟨.inr ⟨j + 1, x, rfl, HG.out, rfl⟩⟩, hst2, HB4⟩
          case measure => simp [intOf]; omega
        · have hcb : 0 ≤ c1 := by omega
          have hm2 : markE kind (some q) x = 2 := by rw [hm, hne, decide_eq_true hcb]; rfl
          have hst2 := Aside0.mk (show 2 = markersE kind none xs by
            rw [← HA.out, HD.out, hst, if_neg (by rw [hm2]; decide), hm2])
          clear hst hm hne hm2 hcc
          go_wp2_with fail
          go_ret
          exact ⟨by rw [← hst2.out]; rfl, HB4.out⟩
    · have hk2 : k = n := by omega
      subst hk2
      have HF := Aside0.mk (show markersE kind none xs = 0 by
        rw [← HA.out, List.drop_of_length_le (by rw [← HN.out]; exact Nat.le_refl _)]; rfl)
      clear HA hlt
      go_wp2_with fail
      go_ret
      exact ⟨by rw [HF.out]; rfl, HB.out⟩

def orE (a b c : Int) : Int := if a = 0 then (if b = 0 then c else b) else a
theorem cmp_Or (a b c : Int) (g : Nat) (w : World) (h0 : w.cell? ⟨g, 0, none⟩ = some (.int .i64 a)) (h1 : w.cell? ⟨g, 1, none⟩ = some (.int .i64 b)) (h2 : w.cell? ⟨g, 2, none⟩ = some (.int .i64 c)) :
    Calls Tryz.prog 140 #[.slice (some ⟨g, 0, none⟩) 3 3] w fun e w' => e = .returned (.int .i64 (orE a b c)) ∧ w = w' := by
  by_cases ha : a = 0
  rotate_left
  · have HO := Aside0.mk (show orE a b c = a by unfold orE; rw [if_neg ha])
    have hab : (a != 0) = true := by simpa using ha
    clear ha
    go_enter Tryz.func140, Tryz.ntmps140
    go_wp2_with fail
    go_loop [8] (fun i => i = .int .i64 0) (fun i => 3 - (intOf i).toNat)
    case atStart => exact rfl
    case round =>
      subst hrel
      go_wp2_with fail
      go_ret
      exact ⟨by rw [HO.out]; rfl, rfl⟩
  subst ha
  by_cases hb : b = 0
  rotate_left
  · have HO := Aside0.mk (show orE 0 b c = b by unfold orE; rw [if_pos rfl, if_neg hb])
    have hab : (b != 0) = true := by simpa using hb
    clear hb
    go_enter Tryz.func140, Tryz.ntmps140
    go_wp2_with fail
    go_loop [8] (fun i => i = .int .i64 0 ∨ i = .int .i64 1) (fun i => 3 - (intOf i).toNat)
    case atStart => exact .inl rfl
    case round =>
      rcases hrel with rfl | rfl
      · go_wp2_with fail
        go_round
        case rel => exact .inr (by go_num)
        case measure => simp [intOf]
      · go_wp2_with fail
        go_ret
        exact ⟨by rw [HO.out]; rfl, rfl⟩
  subst hb
  have HO := Aside0.mk (show orE 0 0 c = c by unfold orE; rw [if_pos rfl, if_pos rfl])
  by_cases hc : c = 0
  · subst hc
    go_enter Tryz.func140, Tryz.ntmps140
    go_wp2_with fail
    go_loop [8] (fun i => i = .int .i64 0 ∨ i = .int .i64 1 ∨ i = .int .i64 2 ∨ i = .int .i64 3) (fun i => 3 - (intOf i).toNat)
    case atStart => exact .inl rfl
    case round =>
      rcases hrel with rfl | rfl | rfl | rfl
      · go_wp2_with fail
        go_round
        case rel => exact .inr (.inl (by go_num))
        case measure => simp [intOf]
      · go_wp2_with fail
        go_round
        case rel => exact .inr (.inr (.inl (by go_num)))
        case measure => simp [intOf]
      · go_wp2_with fail
        go_round
        case rel => exact .inr (.inr (.inr (by go_num)))
        case measure => simp [intOf]
      · go_wp2_with fail
        go_ret
        exact ⟨by rw [HO.out]; rfl, rfl⟩
  · have hab : (c != 0) = true := by simpa using hc
    clear hc
    go_enter Tryz.func140, Tryz.ntmps140
    go_wp2_with fail
    go_loop [8] (fun i => i = .int .i64 0 ∨ i = .int .i64 1 ∨ i = .int .i64 2) (fun i => 3 - (intOf i).toNat)
    case atStart => exact .inl rfl
    case round =>
      rcases hrel with rfl | rfl | rfl
      · go_wp2_with fail
        go_round
        case rel => exact .inr (.inl (by go_num))
        case measure => simp [intOf]
      · go_wp2_with fail
        go_round
        case rel => exact .inr (.inr (by go_num))
        case measure => simp [intOf]
      · go_wp2_with fail
        go_ret
        exact ⟨by rw [HO.out]; rfl, rfl⟩

end Go.Proofs.YtbkbpdpegiekhaaGreatDoor
