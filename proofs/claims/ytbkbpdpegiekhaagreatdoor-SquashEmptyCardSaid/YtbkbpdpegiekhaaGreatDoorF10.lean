/- The reference's markers: Path. -/
import Derived.Test.YtbkbpdpegiekhaaGreatDoorF8
set_option linter.unusedVariables false
set_option linter.unusedSimpArgs false
namespace Go.Proofs.YtbkbpdpegiekhaaGreatDoor
open Go.RowKit Go.Proofs.YtbkbpdpegiekhaaGreatDoorW.PrintWords Mo

set_option maxHeartbeats 4000000 in
set_option maxRecDepth 100000 in
theorem ref_Path1 (t : S) (w : World) (hs : t.size ≤ 100000000) :
    Calls Tryz.prog 160 #[.int .i64 1, .string t] w fun e w' => e = .returned (.tuple #[.string (pPath 1 t).1, .int .i64 (pPath 1 t).2]) ∧ Below w.heap.size w w' := by
  have hz := mPath_size 1 t
  have hd := pDir_size t
  have hb := pBase_size t
  have hz2 : (wh ++ pBase t).size ≤ 4 + t.size := by
    rw [ByteArray.size_append]
    have : wh.size = 4 := rfl
    omega
  go_enter Tryz.func160, Tryz.ntmps160
  go_wp2_with fail
  refine (ref_Right t _ (by omega)).mono ?_
  rintro e1 w1 ⟨rfl, hb1⟩
  have HB1 := Aside0.mk hb1
  clear hb1
  cases hr : pRight t
  · have HE := Aside0.mk (show pPath 1 t = (⟨#[]⟩, 5) by unfold pPath; rw [if_pos (.inl ⟨hr, .inl (by decide)⟩)])
    clear hr
    go_wp2_with fail
    go_ret2
    exact ⟨by rw [HE.out]; rfl, HB1.out⟩
  have hgood := Aside0.mk (show ¬ (pRight t = false ∧ ((1 : Int) ≠ 2 ∨ t ≠ ⟨#[]⟩)) from fun h => by rw [hr] at h; exact absurd h.1 (by decide))
  clear hr
  go_wp2_with fail
  refine (ref_Parent t _ (by omega)).mono ?_
  rintro e2 w2 ⟨rfl, rfl⟩
  go_wp2_with fail
  refine (ref_Base t _ (by omega)).mono ?_
  rintro e3 w3 ⟨rfl, rfl⟩
  go_wp2_with fail
  refine (ref_Join (pDir t) (wh ++ pBase t) _ (by omega)).mono ?_
  rintro e4 w4 ⟨rfl, rfl⟩
  have hq0 : pJoin (pDir t) (wh ++ pBase t) = mPath 1 t := rfl
  rw [hq0]
  clear hq0 hz2 hd hb
  go_wp2_with fail
  refine (ref_Right (mPath 1 t) _ (by omega)).mono ?_
  rintro e8 w8 ⟨rfl, hb8⟩
  have HB8 := Aside0.mk (below_then HB1.out HB1.out.size hb8)
  clear hb8 HB1
  cases hq : pRight (mPath 1 t)
  · have HE := Aside0.mk (show pPath 1 t = (⟨#[]⟩, 5) by unfold pPath; rw [if_pos (.inr hq)])
    clear hq hgood
    go_wp2_with fail
    go_ret2
    exact ⟨by rw [HE.out]; rfl, HB8.out⟩
  go_wp2_with fail
  refine (ref_Clear t _ (by omega)).mono ?_
  rintro e9 w9 ⟨rfl, hb9⟩
  have HB9 := Aside0.mk (below_then HB8.out HB8.out.size hb9)
  clear hb9 HB8
  cases hm : (pParts t).any begins
  · have HE := Aside0.mk (show pPath 1 t = (mPath 1 t, 0) by unfold pPath; rw [if_neg (not_or.2 ⟨hgood.out, by rw [hq]; simp⟩), if_neg (by rw [hm]; simp), if_neg (by omega)])
    clear hq hm hgood
    go_wp2_with fail
    go_ret2
    exact ⟨by rw [HE.out]; rfl, HB9.out⟩
  · have HE := Aside0.mk (show pPath 1 t = (⟨#[]⟩, 11) by unfold pPath; rw [if_neg (not_or.2 ⟨hgood.out, by rw [hq]; simp⟩), if_pos hm])
    clear hq hm hgood
    go_wp2_with fail
    go_ret2
    exact ⟨by rw [HE.out]; rfl, HB9.out⟩

set_option maxHeartbeats 4000000 in
set_option maxRecDepth 100000 in
theorem ref_Path2 (t : S) (w : World) (hs : t.size ≤ 100000000) :
    Calls Tryz.prog 160 #[.int .i64 2, .string t] w fun e w' => e = .returned (.tuple #[.string (pPath 2 t).1, .int .i64 (pPath 2 t).2]) ∧ Below w.heap.size w w' := by
  have hz := mPath_size 2 t
  have ho : whOpq.size = 12 := rfl
  go_enter Tryz.func160, Tryz.ntmps160
  go_wp2_with fail
  refine (ref_Right t _ (by omega)).mono ?_
  rintro e1 w1 ⟨rfl, hb1⟩
  have HB1 := Aside0.mk hb1
  clear hb1
  cases hr : pRight t
  · by_cases he : t = ⟨#[]⟩
    · have hgood := Aside0.mk (show ¬ (pRight t = false ∧ ((2 : Int) ≠ 2 ∨ t ≠ ⟨#[]⟩)) from fun h => h.2.elim (fun h => h rfl) (fun h => h he))
      have h3 : t.toList.isEmpty = true := by rw [he, Lib.toList_data]; rfl
      clear hr he
      go_wp2_with fail
      refine (ref_Join t whOpq _ (by omega)).mono ?_
      rintro e4 w4 ⟨rfl, rfl⟩
      have hq0 : pJoin t whOpq = mPath 2 t := rfl
      rw [hq0]
      clear hq0 h3 ho
      go_wp2_with fail
      refine (ref_Right (mPath 2 t) _ (by omega)).mono ?_
      rintro e8 w8 ⟨rfl, hb8⟩
      have HB8 := Aside0.mk (below_then HB1.out HB1.out.size hb8)
      clear hb8 HB1
      cases hq : pRight (mPath 2 t)
      · have HE := Aside0.mk (show pPath 2 t = (⟨#[]⟩, 5) by unfold pPath; rw [if_pos (.inr hq)])
        clear hq hgood
        go_wp2_with fail
        go_ret2
        exact ⟨by rw [HE.out]; rfl, HB8.out⟩
      go_wp2_with fail
      refine (ref_Clear t _ (by omega)).mono ?_
      rintro e9 w9 ⟨rfl, hb9⟩
      have HB9 := Aside0.mk (below_then HB8.out HB8.out.size hb9)
      clear hb9 HB8
      cases hm : (pParts t).any begins
      · have HE := Aside0.mk (show pPath 2 t = (mPath 2 t, 0) by unfold pPath; rw [if_neg (not_or.2 ⟨hgood.out, by rw [hq]; simp⟩), if_neg (by rw [hm]; simp), if_neg (by omega)])
        clear hq hm hgood
        go_wp2_with fail
        go_ret2
        exact ⟨by rw [HE.out]; rfl, HB9.out⟩
      · have HE := Aside0.mk (show pPath 2 t = (⟨#[]⟩, 11) by unfold pPath; rw [if_neg (not_or.2 ⟨hgood.out, by rw [hq]; simp⟩), if_pos hm])
        clear hq hm hgood
        go_wp2_with fail
        go_ret2
        exact ⟨by rw [HE.out]; rfl, HB9.out⟩
    · have HE := Aside0.mk (show pPath 2 t = (⟨#[]⟩, 5) by unfold pPath; rw [if_pos (.inl ⟨hr, .inr he⟩)])
      have h3 : t.toList.isEmpty = false := by
        cases hh : t.toList.isEmpty with
        | false => rfl
        | true => exact absurd (isEmpty_eq hh) he
      clear hr he
      go_wp2_with fail
      go_ret2
      exact ⟨by rw [HE.out]; rfl, HB1.out⟩
  have hgood := Aside0.mk (show ¬ (pRight t = false ∧ ((2 : Int) ≠ 2 ∨ t ≠ ⟨#[]⟩)) from fun h => by rw [hr] at h; exact absurd h.1 (by decide))
  clear hr
  go_wp2_with fail
  refine (ref_Join t whOpq _ (by omega)).mono ?_
  rintro e4 w4 ⟨rfl, rfl⟩
  have hq0 : pJoin t whOpq = mPath 2 t := rfl
  rw [hq0]
  clear hq0 ho
  go_wp2_with fail
  refine (ref_Right (mPath 2 t) _ (by omega)).mono ?_
  rintro e8 w8 ⟨rfl, hb8⟩
  have HB8 := Aside0.mk (below_then HB1.out HB1.out.size hb8)
  clear hb8 HB1
  cases hq : pRight (mPath 2 t)
  · have HE := Aside0.mk (show pPath 2 t = (⟨#[]⟩, 5) by unfold pPath; rw [if_pos (.inr hq)])
    clear hq hgood
    go_wp2_with fail
    go_ret2
    exact ⟨by rw [HE.out]; rfl, HB8.out⟩
  go_wp2_with fail
  refine (ref_Clear t _ (by omega)).mono ?_
  rintro e9 w9 ⟨rfl, hb9⟩
  have HB9 := Aside0.mk (below_then HB8.out HB8.out.size hb9)
  clear hb9 HB8
  cases hm : (pParts t).any begins
  · have HE := Aside0.mk (show pPath 2 t = (mPath 2 t, 0) by unfold pPath; rw [if_neg (not_or.2 ⟨hgood.out, by rw [hq]; simp⟩), if_neg (by rw [hm]; simp), if_neg (by omega)])
    clear hq hm hgood
    go_wp2_with fail
    go_ret2
    exact ⟨by rw [HE.out]; rfl, HB9.out⟩
  · have HE := Aside0.mk (show pPath 2 t = (⟨#[]⟩, 11) by unfold pPath; rw [if_neg (not_or.2 ⟨hgood.out, by rw [hq]; simp⟩), if_pos hm])
    clear hq hm hgood
    go_wp2_with fail
    go_ret2
    exact ⟨by rw [HE.out]; rfl, HB9.out⟩

theorem ref_Path (k : Int) (hk : k = 1 ∨ k = 2) (t : S) (w : World) (hs : t.size ≤ 100000000) :
    Calls Tryz.prog 160 #[.int .i64 k, .string t] w fun e w' => e = .returned (.tuple #[.string (pPath k t).1, .int .i64 (pPath k t).2]) ∧ Below w.heap.size w w' := by
  rcases hk with rfl | rfl
  · exact ref_Path1 t w hs
  · exact ref_Path2 t w hs

end Go.Proofs.YtbkbpdpegiekhaaGreatDoor
