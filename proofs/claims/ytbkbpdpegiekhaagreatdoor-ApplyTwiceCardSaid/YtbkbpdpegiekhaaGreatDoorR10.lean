/- layer: add. -/
import Derived.Test.YtbkbpdpegiekhaaGreatDoorR9
set_option linter.unusedVariables false
set_option linter.unusedSimpArgs false
namespace Go.Proofs.YtbkbpdpegiekhaaGreatDoor
open Go.RowKit Go.Proofs.YtbkbpdpegiekhaaGreatDoorW.PrintWords Mo

theorem foldOne_len (l : Mo.B) (h : l ≠ []) : (foldOne l).length ≤ 4 * (Lib.decodeL l).2 := by
  have hw := Lib.decodeL_width l
  unfold foldOne
  split
  · rw [List.length_take]; omega
  · have := (Lib.runeCells_le (smallS (Lib.decodeL l).1)).2
    rw [Lib.runeCells_length] at this
    omega
theorem foldN_len : ∀ (n : Nat) (l : Mo.B), (foldN n l).length ≤ 4 * l.length
  | 0, l => Nat.zero_le _
  | n + 1, l => by
    unfold foldN
    by_cases hne : l = []
    · simp [hne]
    · rw [if_neg hne, List.length_append]
      have h1 := foldOne_len l hne
      have h2 := foldN_len n (l.drop (Lib.decodeL l).2)
      have h3 := Lib.decodeL_le l hne
      rw [List.length_drop] at h2
      omega
theorem pFold_size (s : S) : (pFold s).size ≤ 4 * s.size := by
  unfold pFold
  rw [size_bs, bs_mk, size_bs]
  exact foldN_len _ _

def kindE (k : Int × S × Int) : Bool := (k.2.2 != 0) || (k.1 != 0)
def pastE (last p : S) : Bool := (last != ⟨#[]⟩) && decide (0 ≤ pCmp last p)
/-- What is wrong with an Add behind others. -/
def addE (n : Nd) (last : S) (seen : List S) : Int :=
  match pRight n.path, okRest n, kindE (pKind n.path), pastE last n.path, decide (0 < seen.count (pFold n.path)) with
  | false, _, _, _, _ => 5
  | true, false, _, _, _ => 1
  | true, true, true, _, _ => 11
  | true, true, false, true, _ => 2
  | true, true, false, false, true => 6
  | true, true, false, false, false => 0

theorem box_below {w w' : World} (o : Obj) (h : Below (w.alloc o).heap.size (w.alloc o) w') : Below w.heap.size w w' :=
  below_then ((Grew.refl w).alloc o).below ((Grew.refl w).alloc o).below.size h
set_option maxHeartbeats 2000000 in
theorem layer_add (n : Nd) (last : S) (b : Nat) (seen : List S) (w : World) (hE : Env w) (hc : Cnt w b seen) (hs : n.path.size < 1000000000) (hl : last.size < 1000000000) :
    Calls Tryz.prog 192 #[vN n, .string last, .map (some b)] w fun e w' => e = .returned (.int .i64 (addE n last seen)) ∧ Below w.heap.size w w' := by
  obtain ⟨o, ho⟩ : ∃ o, o = Obj.cells #[.string n.path, .bool n.dir, .string n.data, .int .i64 n.mode, .int .i64 n.time] 46 := ⟨_, rfl⟩
  have HO := Aside0.mk ho
  have hE' : Env (w.alloc o) := hE.below ((Grew.refl w).alloc o).below
  have hc' : Cnt (w.alloc o) b seen := hc.below ((Grew.refl w).alloc o).below
  have HE := Aside0.mk hE'
  have HC := Aside0.mk hc'
  clear hE hE' hc hc'
  obtain ⟨k, t, e, hk⟩ : ∃ k t e, pKind n.path = (k, t, e) := ⟨_, _, _, rfl⟩
  have HK := Aside0.mk hk
  have hmay := tree_May n
  have hkind := mark_Kind n.path
  rw [hk] at hkind
  have HM := Aside0.mk hmay
  have HKd := Aside0.mk hkind
  clear hmay hkind hk
  go_enter Tryz.func192, Tryz.ntmps192
  subst ho
  go_wp2_with fail
  refine (HKd.out _ HE.out hs).mono ?_
  rintro e1 w1 ⟨rfl, hb1⟩
  have HB1 := Aside0.mk (box_below _ hb1)
  have HE1 := Aside0.mk (HE.out.below hb1)
  have HC1 := Aside0.mk (HC.out.below hb1)
  have hw1 := (hb1.block w.heap.size (by simp)).trans (heap_alloc_new w _)
  have HW1 := Aside0.mk hw1
  have c0 := blk_cell hw1 0
  clear hb1 hw1 HE HC
  go_wp2_with fail
  refine (route_Check _ _ HE1.out (by omega)).mono ?_
  rintro e2 w2 ⟨rfl, hb2⟩
  have HB2 := Aside0.mk (below_then HB1.out HB1.out.size hb2)
  have HE2 := Aside0.mk (HE1.out.below hb2)
  have HC2 := Aside0.mk (HC1.out.below hb2)
  have hw2 := (hb2.block w.heap.size (blk_lt HW1.out)).trans HW1.out
  have HW2 := Aside0.mk hw2
  clear hb2 hw2 HE1 HC1 HB1 HW1 c0
  cases h1 : pRight n.path
  · have hA : addE n last seen = 5 := by unfold addE; rw [h1]
    have HA := Aside0.mk hA
    rw [show okE false 5 = 5 from rfl]
    clear hA h1
    go_wp2_with fail
    go_ret
    exact ⟨by rw [HA.out]; rfl, HB2.out⟩
  have H1 := Aside0.mk h1
  rw [show okE true 5 = 0 from rfl]
  clear h1
  have c0 := blk_cell HW2.out 0
  have c1 := blk_cell HW2.out 1
  have c2 := blk_cell HW2.out 2
  have c3 := blk_cell HW2.out 3
  have c4 := blk_cell HW2.out 4
  go_wp2_with fail
  refine (HM.out _ HE2.out hs).mono ?_
  rintro e3 w3 ⟨rfl, hb3⟩
  have HB3 := Aside0.mk (below_then HB2.out HB2.out.size hb3)
  have HE3 := Aside0.mk (HE2.out.below hb3)
  have HC3 := Aside0.mk (HC2.out.below hb3)
  have hw3 := (hb3.block w.heap.size (blk_lt HW2.out)).trans HW2.out
  have HW3 := Aside0.mk hw3
  clear hb3 hw3 HE2 HC2 HB2 HW2 c0 c1 c2 c3 c4
  rw [H1.out, Bool.true_and]
  cases h2 : okRest n
  · have hA : addE n last seen = 1 := by unfold addE; rw [H1.out, h2]
    have HA := Aside0.mk hA
    clear hA h2
    go_wp2_with fail
    go_ret
    exact ⟨by rw [HA.out]; rfl, HB3.out⟩
  have H2 := Aside0.mk h2
  clear h2
  by_cases he : e = 0
  rotate_left
  · have hA : addE n last seen = 11 := by
      have hK0 : kindE (pKind n.path) = true := by rw [HK.out]; simp [kindE, he]
      unfold addE; rw [H1.out, H2.out, hK0]
    have heb : (e != 0) = true := by simpa using he
    have HA := Aside0.mk hA
    clear hA he
    go_wp2_with fail
    go_ret
    exact ⟨by rw [HA.out]; rfl, HB3.out⟩
  subst he
  by_cases hkk : k = 0
  rotate_left
  · have hA : addE n last seen = 11 := by
      have hK0 : kindE (pKind n.path) = true := by rw [HK.out]; simp [kindE, hkk]
      unfold addE; rw [H1.out, H2.out, hK0]
    have heb : (k != 0) = true := by simpa using hkk
    have HA := Aside0.mk hA
    clear hA hkk
    go_wp2_with fail
    go_ret
    exact ⟨by rw [HA.out]; rfl, HB3.out⟩
  subst hkk
  have hK0 : kindE (pKind n.path) = false := by rw [HK.out]; rfl
  have H3 := Aside0.mk hK0
  clear hK0
  have c0 := blk_cell HW3.out 0
  by_cases hlast : last = ⟨#[]⟩
  · subst hlast
    have hp : pastE ⟨#[]⟩ n.path = false := by unfold pastE; simp
    have H4 := Aside0.mk hp
    clear hp
    have hz := pFold_size n.path
    by_cases hm : 0 < seen.count (pFold n.path)
    · have hA : addE n ⟨#[]⟩ seen = 6 := by
        unfold addE
        rw [H1.out, H2.out, H3.out, H4.out, decide_eq_true hm]
      have HA := Aside0.mk hA
      have hmb : pFold n.path ∈ seen := List.count_pos_iff.1 hm
      clear hA hm
      go_wp2_with fail
      refine (fold_Fold _ _ HE3.out (by omega)).mono ?_
      rintro e5 w5 ⟨rfl, hb5⟩
      have HB5 := Aside0.mk (below_then HB3.out HB3.out.size hb5)
      have HC5 := Aside0.mk (HC3.out.below hb5)
      clear hb5
      go_wp2_with (at_lookup; refine Cnt.look _ rfl _ _ rfl _ _ rfl HC5.out _ (by omega) rfl ?_)
      go_ret
      exact ⟨by rw [HA.out]; rfl, HB5.out⟩
    · have hA : addE n ⟨#[]⟩ seen = 0 := by
        unfold addE
        rw [H1.out, H2.out, H3.out, H4.out, decide_eq_false hm]
      have HA := Aside0.mk hA
      have hm0 : seen.count (pFold n.path) = 0 := by omega
      clear hA hm
      go_wp2_with fail
      refine (fold_Fold _ _ HE3.out (by omega)).mono ?_
      rintro e5 w5 ⟨rfl, hb5⟩
      have HB5 := Aside0.mk (below_then HB3.out HB3.out.size hb5)
      have HC5 := Aside0.mk (HC3.out.below hb5)
      clear hb5
      go_wp2_with (at_lookup; refine Cnt.look _ rfl _ _ rfl _ _ rfl HC5.out _ (by omega) rfl ?_; rw [hm0])
      go_ret
      exact ⟨by rw [HA.out]; rfl, HB5.out⟩
  have hlb : ¬ last.toList = [] := fun h => hlast (isEmpty_eq (by rw [h]; rfl))
  have hlc : last.toList.isEmpty = false := by simpa using hlb
  go_wp2_with fail
  refine (route_Compare last n.path _ HE3.out (by omega) (by omega)).mono ?_
  rintro e4 w4 ⟨rfl, hg4⟩
  have hb4 := hg4.below
  have HB4 := Aside0.mk (below_then HB3.out HB3.out.size hb4)
  have HE4 := Aside0.mk (HE3.out.below hb4)
  have HC4 := Aside0.mk (HC3.out.below hb4)
  have hw4 := (hb4.block w.heap.size (blk_lt HW3.out)).trans HW3.out
  have HW4 := Aside0.mk hw4
  have c0 := blk_cell hw4 0
  have hr := pCmp_range last n.path
  have hpe : pastE last n.path = decide (0 ≤ pCmp last n.path) := by unfold pastE; simp [hlast]
  obtain ⟨c, hc⟩ : ∃ c, c = pCmp last n.path := ⟨_, rfl⟩
  rw [← hc] at hr hpe ⊢
  clear hc hg4 hb4 hw4
  have H5 := Aside0.mk hpe
  clear hpe
  by_cases hcc : c = -1
  · subst hcc
    have H4 := Aside0.mk (show pastE last n.path = false from H5.out)
    have hz := pFold_size n.path
    by_cases hm : 0 < seen.count (pFold n.path)
    · have hA : addE n last seen = 6 := by
        unfold addE
        rw [H1.out, H2.out, H3.out, H4.out, decide_eq_true hm]
      have HA := Aside0.mk hA
      have hmb : pFold n.path ∈ seen := List.count_pos_iff.1 hm
      clear hA hm
      go_wp2_with fail
      refine (fold_Fold _ _ HE4.out (by omega)).mono ?_
      rintro e5 w5 ⟨rfl, hb5⟩
      have HB5 := Aside0.mk (below_then HB4.out HB4.out.size hb5)
      have HC5 := Aside0.mk (HC4.out.below hb5)
      clear hb5
      go_wp2_with (at_lookup; refine Cnt.look _ rfl _ _ rfl _ _ rfl HC5.out _ (by omega) rfl ?_)
      go_ret
      exact ⟨by rw [HA.out]; rfl, HB5.out⟩
    · have hA : addE n last seen = 0 := by
        unfold addE
        rw [H1.out, H2.out, H3.out, H4.out, decide_eq_false hm]
      have HA := Aside0.mk hA
      have hm0 : seen.count (pFold n.path) = 0 := by omega
      clear hA hm
      go_wp2_with fail
      refine (fold_Fold _ _ HE4.out (by omega)).mono ?_
      rintro e5 w5 ⟨rfl, hb5⟩
      have HB5 := Aside0.mk (below_then HB4.out HB4.out.size hb5)
      have HC5 := Aside0.mk (HC4.out.below hb5)
      clear hb5
      go_wp2_with (at_lookup; refine Cnt.look _ rfl _ _ rfl _ _ rfl HC5.out _ (by omega) rfl ?_; rw [hm0])
      go_ret
      exact ⟨by rw [HA.out]; rfl, HB5.out⟩
  · have hA : addE n last seen = 2 := by
      have : pastE last n.path = true := by rw [H5.out]; simp; omega
      unfold addE
      rw [H1.out, H2.out, H3.out, this]
    have HA := Aside0.mk hA
    have hcb : 0 ≤ c := by omega
    clear hA hcc
    go_wp2_with fail
    go_ret
    exact ⟨by rw [HA.out]; rfl, HB4.out⟩

end Go.Proofs.YtbkbpdpegiekhaaGreatDoor
