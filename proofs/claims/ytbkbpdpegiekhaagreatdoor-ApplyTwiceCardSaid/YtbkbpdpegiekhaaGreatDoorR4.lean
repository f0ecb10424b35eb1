/- mark: Kind, Path. -/
import Derived.Test.YtbkbpdpegiekhaaGreatDoorR3
set_option linter.unusedVariables false
set_option linter.unusedSimpArgs false
namespace Mo
def pDir (p : S) : S := (pParent p).getD ⟨#[]⟩
def begins (s : S) : Bool := Go.Lib.hasPrefix s.data.toList [46, 119, 104, 46]
def wh : S := ⟨#[46, 119, 104, 46]⟩
def whOpq : S := ⟨#[46, 119, 104, 46, 46, 119, 104, 46, 46, 111, 112, 113]⟩
def cut4 (s : S) : S := ⟨(Go.Lib.trimPrefix s.data.toList [46, 119, 104, 46]).toArray⟩
def pKind (p : S) : Int × S × Int :=
  if pRight p = true then
    (if (pParts (pDir p)).any begins = true then (0, ⟨#[]⟩, 11)
    else if begins (pBase p) = true then
      (if pBase p = whOpq then (2, pDir p, 0)
      else if begins (cut4 (pBase p)) = true ∨ pRight (cut4 (pBase p)) = false then (0, ⟨#[]⟩, 11)
      else (1, pJoin (pDir p) (cut4 (pBase p)), 0))
    else (0, p, 0))
  else (0, ⟨#[]⟩, 5)
/-- A marker's path. -/
def mPath (k : Int) (t : S) : S := if k = 1 then pJoin (pDir t) (wh ++ pBase t) else if k = 2 then pJoin t whOpq else t
def pPath (k : Int) (t : S) : S × Int :=
  if (pRight t = false ∧ (k ≠ 2 ∨ t ≠ ⟨#[]⟩)) ∨ pRight (mPath k t) = false then (⟨#[]⟩, 5)
  else if (pParts t).any begins = true then (⟨#[]⟩, 11)
  else if k < 0 ∨ 2 < k then (⟨#[]⟩, 1)
  else (mPath k t, 0)
theorem pDir_size (p : S) : (pDir p).size ≤ p.size := by
  unfold pDir
  cases h : pParent p with
  | none => exact Nat.zero_le _
  | some d => have := pParent_len h; simp; omega
theorem pBase_size (p : S) : (pBase p).size ≤ p.size := by
  rcases pParent_cases p with ⟨_, _, h⟩ | ⟨k, _, hk, _, h⟩
  · rw [h]; exact Nat.le_refl _
  · rw [h, ByteArray.size_extract]; omega
theorem cut4_size (p : S) : (cut4 p).size ≤ p.size := by
  unfold cut4 Go.Lib.trimPrefix
  rw [size_bs, size_bs]
  unfold bs
  split <;> simp
end Mo
namespace Go.Proofs.YtbkbpdpegiekhaaGreatDoor
open Go.RowKit Go.Proofs.YtbkbpdpegiekhaaGreatDoorW.PrintWords Mo

theorem route_Parent (s : S) (w : World) (hs : s.size < 4611686018427387904) :
    Calls Tryz.prog 116 #[.string s] w fun e w' => e = .returned (.tuple #[.string (pDir s), .bool (pParent s).isSome]) ∧ w = w' := by
  unfold pDir
  cases h : pParent s with
  | none => exact route_Parent_none s w hs h
  | some d => exact route_Parent_some s d w hs h

theorem marked_any (s : S) (w : World) : Calls Tryz.prog 237 #[.string s] w fun e w' => e = .returned (.bool (begins s)) ∧ w = w' := by
  go_enter Tryz.func237, Tryz.ntmps237
  go_wp2_with (go_at_call 183; refine (Tryz.strings_HasPrefix _ _ _).mono ?_; rintro e w' ⟨rfl, rfl⟩)
  go_ret
  exact ⟨rfl, rfl⟩
theorem marked_pays (w : World) : PredAt Tryz.prog 237 #[] Value.string begins w := by
  intro W s _
  exact (marked_any s W).mono fun e w' ⟨he, hw⟩ => ⟨he, 0, hw.symm⟩

theorem cut_any (s : S) (w : World) : Calls Tryz.prog 236 #[.string s, .string wh] w fun e w' => e = .returned (.tuple #[.string (cut4 s), .bool (begins s)]) ∧ w = w' :=
  (Tryz.strings_CutPrefix s wh w).mono fun e w' ⟨he, hw⟩ => ⟨he, hw.symm⟩
theorem tup2 {a b a' b' : Value} (h1 : a = a') (h2 : b = b') : Ending.returned (.tuple #[a, b]) = .returned (.tuple #[a', b']) := by rw [h1, h2]

set_option maxHeartbeats 1000000 in
theorem mark_Kind (p : S) (w : World) (hE : Env w) (hs : p.size < 1000000000) :
    Calls Tryz.prog 186 #[.string p] w fun e w' => e = .returned (.tuple #[.int .i64 (pKind p).1, .string (pKind p).2.1, .int .i64 (pKind p).2.2]) ∧ Below w.heap.size w w' := by
  have HE := Aside0.mk hE
  clear hE
  have hd := pDir_size p
  have hb := pBase_size p
  have hc := cut4_size (pBase p)
  by_cases h1 : pRight p = true
  rotate_left
  · have e : pKind p = (0, ⟨#[]⟩, 5) := by simp [pKind, h1]
    rw [e]
    have h1' : okE (pRight p) 5 = 5 := by simp [okE, h1]
    go_enter Tryz.func186, Tryz.ntmps186
    go_wp2_with fail
    refine (route_Check p _ HE.out (by omega)).mono ?_
    rintro e w1 ⟨rfl, hb1⟩
    rw [h1']
    go_wp2_with fail
    go_ret3
    exact ⟨rfl, hb1⟩
  have h1' : okE (pRight p) 5 = 0 := by simp [okE, h1]
  obtain ⟨r, hr⟩ : ∃ r, r = pKind p := ⟨_, rfl⟩
  rw [← hr]
  have HR := Aside0.mk hr
  clear hr
  go_enter Tryz.func186, Tryz.ntmps186
  go_wp2_with fail
  refine (route_Check p _ HE.out (by omega)).mono ?_
  rintro e w1 ⟨rfl, hb1⟩
  rw [h1']
  have HB1 := Aside0.mk hb1
  clear hb1
  go_wp2_with fail
  refine (route_Parent p _ (by omega)).mono ?_
  rintro e w1' ⟨rfl, rfl⟩
  go_wp2_with fail
  refine (route_Base p _ (by omega)).mono ?_
  rintro e w1' ⟨rfl, rfl⟩
  go_wp2_with fail
  refine (cut_any _ _).mono ?_
  rintro e w1' ⟨rfl, rfl⟩
  go_wp2_with fail
  refine (route_Parts (pDir p) _ (HE.out.below HB1.out) (by omega)).mono ?_
  rintro e w2 ⟨v2, rfl, hr2, hg2⟩
  have HB2 := Aside0.mk (below_then HB1.out HB1.out.size hg2.below)
  have HR2 := Aside0.mk (Rd.of_R hr2)
  clear hg2 hr2 HB1
  obtain ⟨A2, c2, rfl, _, _⟩ := HR2.out
  go_wp2_with fail
  refine (any_parts (pParts (pDir p)) _ _ HR2.out begins 237 #[] (enters_of Tryz.func237 (by kernel_rfl) rfl) (marked_pays _)).mono ?_
  rintro e w3 ⟨rfl, hg⟩
  have HB3 := Aside0.mk (below_then HB2.out HB2.out.size hg.below)
  clear hg HB2 HR2
  cases hk : (pParts (pDir p)).any begins
  rotate_left
  · have e : r = (0, ⟨#[]⟩, 11) := by rw [HR.out]; simp only [pKind, h1, hk, if_true]
    have HE2 := Aside0.mk e
    clear e HR
    go_wp2_with fail
    go_ret3
    exact ⟨by rw [HE2.out]; rfl, HB3.out⟩
  cases hg : begins (pBase p)
  · have e : r = (0, p, 0) := by rw [HR.out]; simp only [pKind, h1, hk, hg, if_true, if_false, Bool.false_eq_true]
    have HE2 := Aside0.mk e
    clear e HR
    go_wp2_with fail
    go_ret3
    exact ⟨by rw [HE2.out]; rfl, HB3.out⟩
  by_cases hq : pBase p = whOpq
  · have e : r = (2, pDir p, 0) := by rw [HR.out]; simp only [pKind, h1, hk, hg, if_true, if_false, Bool.false_eq_true]; rw [if_pos hq]
    have hq' : ((pBase p).toList == [46, 119, 104, 46, 46, 119, 104, 46, 46, 111, 112, 113]) = true := by rw [hq, Lib.toList_data]; rfl
    have HE2 := Aside0.mk e
    clear e HR hq
    go_wp2_with fail
    go_ret3
    exact ⟨by rw [HE2.out]; rfl, HB3.out⟩
  have hq' : ((pBase p).toList == [46, 119, 104, 46, 46, 119, 104, 46, 46, 111, 112, 113]) = false := by
    rw [beq_eq_false_iff_ne]
    intro h
    apply hq
    rw [Lib.toList_data] at h
    exact bs_inj h
  cases hm : begins (cut4 (pBase p))
  rotate_left
  · have e : r = (0, ⟨#[]⟩, 11) := by rw [HR.out]; simp only [pKind, h1, hk, hg, if_true, if_false, Bool.false_eq_true]; rw [if_neg hq, if_pos (.inl hm)]
    have HE2 := Aside0.mk e
    clear e HR hq
    go_wp2_with fail
    refine (marked_any _ _).mono ?_
    rintro e w' ⟨rfl, rfl⟩
    rw [hm]
    go_wp2_with fail
    go_ret3
    exact ⟨by rw [HE2.out]; rfl, HB3.out⟩
  cases hv : pRight (cut4 (pBase p))
  · have e : r = (0, ⟨#[]⟩, 11) := by rw [HR.out]; simp only [pKind, h1, hk, hg, if_true, if_false, Bool.false_eq_true]; rw [if_neg hq, if_pos (.inr hv)]
    have HE2 := Aside0.mk e
    clear e HR hq
    go_wp2_with fail
    refine (marked_any _ _).mono ?_
    rintro e w' ⟨rfl, rfl⟩
    rw [hm]
    go_wp2_with fail
    refine (route_Check _ _ (HE.out.below HB3.out) (by omega)).mono ?_
    rintro e w4 ⟨rfl, hb4⟩
    have HB4 := Aside0.mk (below_then HB3.out HB3.out.size hb4)
    clear hb4 HB3
    rw [hv, show okE false 5 = 5 from rfl]
    go_wp2_with fail
    go_ret3
    exact ⟨by rw [HE2.out]; rfl, HB4.out⟩
  · have e : r = (1, pJoin (pDir p) (cut4 (pBase p)), 0) := by rw [HR.out]; simp only [pKind, h1, hk, hg, if_true, if_false, Bool.false_eq_true]; rw [if_neg hq, if_neg (by simp [hm, hv])]
    have HE2 := Aside0.mk e
    clear e HR hq
    go_wp2_with fail
    refine (marked_any _ _).mono ?_
    rintro e w' ⟨rfl, rfl⟩
    rw [hm]
    go_wp2_with fail
    refine (route_Check _ _ (HE.out.below HB3.out) (by omega)).mono ?_
    rintro e w4 ⟨rfl, hb4⟩
    have HB4 := Aside0.mk (below_then HB3.out HB3.out.size hb4)
    clear hb4 HB3
    rw [hv, show okE true 5 = 0 from rfl]
    go_wp2_with fail
    refine (route_Join _ _ _ (by omega)).mono ?_
    rintro e w' ⟨rfl, rfl⟩
    go_wp2_with fail
    go_ret3
    exact ⟨by rw [HE2.out]; rfl, HB4.out⟩

theorem mark_path1 (t : S) (w : World) (hs : t.size < 1000000000) :
    Calls Tryz.prog 244 #[.int .i64 1, .string t] w fun e w' => e = .returned (.string (mPath 1 t)) ∧ w = w' := by
  have hd := pDir_size t
  have hb := pBase_size t
  have e : mPath 1 t = pJoin (pDir t) (wh ++ pBase t) := rfl
  have hz : (wh ++ pBase t).size ≤ 4 + t.size := by
    rw [ByteArray.size_append]
    have : wh.size = 4 := rfl
    omega
  rw [e]
  go_enter Tryz.func244, Tryz.ntmps244
  go_wp2_with fail
  refine (route_Parent t _ (by omega)).mono ?_
  rintro e w1' ⟨rfl, rfl⟩
  go_wp2_with fail
  refine (route_Base t _ (by omega)).mono ?_
  rintro e w1' ⟨rfl, rfl⟩
  go_wp2_with fail
  refine (route_Join (pDir t) (wh ++ pBase t) _ (by omega)).mono ?_
  rintro e w' ⟨rfl, rfl⟩
  go_wp2_with fail
  go_ret
  exact ⟨rfl, rfl⟩

theorem mark_path2 (t : S) (w : World) (hs : t.size < 1000000000) :
    Calls Tryz.prog 244 #[.int .i64 2, .string t] w fun e w' => e = .returned (.string (mPath 2 t)) ∧ w = w' := by
  have e : mPath 2 t = pJoin t whOpq := rfl
  have hz : whOpq.size = 12 := rfl
  rw [e]
  go_enter Tryz.func244, Tryz.ntmps244
  go_wp2_with fail
  refine (route_Parent t _ (by omega)).mono ?_
  rintro e w1' ⟨rfl, rfl⟩
  go_wp2_with fail
  refine (route_Join t whOpq _ (by omega)).mono ?_
  rintro e w' ⟨rfl, rfl⟩
  go_wp2_with fail
  go_ret
  exact ⟨rfl, rfl⟩

theorem mPath_size (k : Int) (t : S) : (mPath k t).size ≤ 2 * t.size + 100 := by
  have hj : ∀ d n : S, (pJoin d n).size ≤ d.size + n.size + 1 := by
    intro d n
    unfold pJoin join
    rw [size_bs, bs_mk]
    split
    · rw [bs_size]; omega
    · simp [bs_size]; omega
  have hd := pDir_size t
  have hb := pBase_size t
  unfold mPath
  split
  · refine Nat.le_trans (hj _ _) ?_
    rw [ByteArray.size_append]
    have : wh.size = 4 := rfl
    omega
  · split
    · refine Nat.le_trans (hj _ _) ?_
      have : whOpq.size = 12 := rfl
      omega
    · omega

theorem isEmpty_eq {t : S} (h : t.toList.isEmpty = true) : t = ⟨#[]⟩ := by
  rw [Lib.toList_data] at h
  have : bs t = [] := by unfold bs; exact List.isEmpty_iff.1 h
  rw [← mk_bs t, this]; rfl

set_option maxHeartbeats 1000000 in
theorem mark_Path (k : Int) (hk : k = 1 ∨ k = 2) (t : S) (w : World) (hE : Env w) (hs : t.size < 1000000000) :
    Calls Tryz.prog 193 #[.int .i64 k, .string t] w fun e w' => e = .returned (.tuple #[.string (pPath k t).1, .int .i64 (pPath k t).2]) ∧ Below w.heap.size w w' := by
  have HE := Aside0.mk hE
  clear hE
  have hz := mPath_size k t
  have hp : ∀ W, Calls Tryz.prog 244 #[.int .i64 k, .string t] W fun e w' => e = .returned (.string (mPath k t)) ∧ W = w' := by
    rcases hk with rfl | rfl
    · exact fun W => mark_path1 t W hs
    · exact fun W => mark_path2 t W hs
  have HP := Aside0.mk hp
  clear hp
  obtain ⟨r, hr⟩ : ∃ r, r = pPath k t := ⟨_, rfl⟩
  rw [← hr]
  have HR := Aside0.mk hr
  have HK := Aside0.mk hk
  have hk2 : 1 ≤ k ∧ k ≤ 2 := by omega
  obtain ⟨hk3, hk4⟩ := hk2
  clear hr hk
  go_enter Tryz.func193, Tryz.ntmps193
  go_wp2_with fail
  refine (HP.out _).mono ?_
  rintro e w1' ⟨rfl, rfl⟩
  obtain ⟨q, hq⟩ : ∃ q, q = mPath k t := ⟨_, rfl⟩
  rw [← hq] at hz ⊢
  have HQ := Aside0.mk hq
  clear hq
  go_wp2_with fail
  refine (route_Check t _ HE.out (by omega)).mono ?_
  rintro e w1 ⟨rfl, hb1⟩
  have HB1 := Aside0.mk hb1
  clear hb1
  by_cases hbad' : Aside0 (pRight t = false ∧ (k ≠ 2 ∨ t ≠ ⟨#[]⟩))
  · have hbad := hbad'.out
    have e : r = (⟨#[]⟩, 5) := by rw [HR.out]; unfold pPath; rw [if_pos (.inl hbad)]
    have HE2 := Aside0.mk e
    obtain ⟨hv, ht⟩ := hbad
    rw [hv, show okE false 5 = 5 from rfl]
    clear e HR HP
    by_cases h2 : k = 2
    · have ht' : t ≠ ⟨#[]⟩ := by rcases ht with h | h; exact absurd h2 h; exact h
      have h3 : t.toList.isEmpty = false := by
        cases hh : t.toList.isEmpty with
        | false => rfl
        | true =>
          exfalso; apply ht'
          exact isEmpty_eq hh
      subst h2
      clear ht ht'
      go_wp2_with fail
      go_ret2
      exact ⟨by rw [HE2.out]; rfl, HB1.out⟩
    · have h1 : k = 1 := by rcases HK.out with h | h; exact h; exact absurd h h2
      subst h1
      clear ht h2
      go_wp2_with fail
      go_ret2
      exact ⟨by rw [HE2.out]; rfl, HB1.out⟩
  · have hbad := Aside0.mk (fun h => hbad' ⟨h⟩)
    clear hbad'
    have hgood : pRight t = true ∨ (pRight t = false ∧ k = 2 ∧ t = ⟨#[]⟩) := by
      cases hv : pRight t
      · refine .inr ⟨rfl, ?_, ?_⟩
        · exact Classical.byContradiction fun h => hbad.out ⟨hv, .inl h⟩
        · exact Classical.byContradiction fun h => hbad.out ⟨hv, .inr h⟩
      · exact .inl rfl
    rcases hgood with hv | ⟨hv, hk2, ht⟩
    · rw [hv, show okE true 5 = 0 from rfl]
      clear hv
      go_wp2_with fail
      refine (route_Check q _ (HE.out.below HB1.out) (by omega)).mono ?_
      rintro e w2 ⟨rfl, hb2⟩
      have HB2 := Aside0.mk (below_then HB1.out HB1.out.size hb2)
      clear hb2 HB1
      cases hq : pRight q
      · have HE2 := Aside0.mk (show r = (⟨#[]⟩, 5) by rw [HR.out]; unfold pPath; rw [if_pos (.inr (by rw [← HQ.out]; exact hq))])
        rw [show okE false 5 = 5 from rfl]
        clear HR HP HQ
        go_wp2_with fail
        go_ret2
        exact ⟨by rw [HE2.out]; rfl, HB2.out⟩
      rw [show okE true 5 = 0 from rfl]
      go_wp2_with fail
      refine (route_Parts t _ (HE.out.below HB2.out) (by omega)).mono ?_
      rintro e w3 ⟨v3, rfl, hr3, hg3⟩
      have HB3 := Aside0.mk (below_then HB2.out HB2.out.size hg3.below)
      have HR3 := Aside0.mk (Rd.of_R hr3)
      clear hg3 hr3 HB2
      obtain ⟨A3, c3, rfl, _, _⟩ := HR3.out
      go_wp2_with fail
      refine (any_parts (pParts t) _ _ HR3.out begins 237 #[] (enters_of Tryz.func237 (by kernel_rfl) rfl) (marked_pays _)).mono ?_
      rintro e w4 ⟨rfl, hg⟩
      have HB4 := Aside0.mk (below_then HB3.out HB3.out.size hg.below)
      clear hg HB3 HR3
      cases hm : (pParts t).any begins
      rotate_left
      · have HE2 := Aside0.mk (show r = (⟨#[]⟩, 11) by rw [HR.out]; unfold pPath; rw [if_neg (not_or.2 ⟨hbad.out, by rw [← HQ.out, hq]; simp⟩), if_pos hm])
        clear HR HP HQ
        go_wp2_with fail
        go_ret2
        exact ⟨by rw [HE2.out]; rfl, HB4.out⟩
      · have HE2 := Aside0.mk (show r = (q, 0) by rw [HR.out]; unfold pPath; rw [if_neg (not_or.2 ⟨hbad.out, by rw [← HQ.out, hq]; simp⟩), if_neg (by rw [hm]; simp), if_neg (by omega), HQ.out])
        clear HR HP HQ
        go_wp2_with fail
        go_ret2
        exact ⟨by rw [HE2.out]; rfl, HB4.out⟩
    · have h3 : t.toList.isEmpty = true := by rw [ht, Lib.toList_data]; rfl
      rw [hv, show okE false 5 = 5 from rfl]
      subst hk2
      clear hv ht
      go_wp2_with fail
      refine (route_Check q _ (HE.out.below HB1.out) (by omega)).mono ?_
      rintro e w2 ⟨rfl, hb2⟩
      have HB2 := Aside0.mk (below_then HB1.out HB1.out.size hb2)
      clear hb2 HB1
      cases hq : pRight q
      · have HE2 := Aside0.mk (show r = (⟨#[]⟩, 5) by rw [HR.out]; unfold pPath; rw [if_pos (.inr (by rw [← HQ.out]; exact hq))])
        rw [show okE false 5 = 5 from rfl]
        clear HR HP HQ
        go_wp2_with fail
        go_ret2
        exact ⟨by rw [HE2.out]; rfl, HB2.out⟩
      rw [show okE true 5 = 0 from rfl]
      go_wp2_with fail
      refine (route_Parts t _ (HE.out.below HB2.out) (by omega)).mono ?_
      rintro e w3 ⟨v3, rfl, hr3, hg3⟩
      have HB3 := Aside0.mk (below_then HB2.out HB2.out.size hg3.below)
      have HR3 := Aside0.mk (Rd.of_R hr3)
      clear hg3 hr3 HB2
      obtain ⟨A3, c3, rfl, _, _⟩ := HR3.out
      go_wp2_with fail
      refine (any_parts (pParts t) _ _ HR3.out begins 237 #[] (enters_of Tryz.func237 (by kernel_rfl) rfl) (marked_pays _)).mono ?_
      rintro e w4 ⟨rfl, hg⟩
      have HB4 := Aside0.mk (below_then HB3.out HB3.out.size hg.below)
      clear hg HB3 HR3
      cases hm : (pParts t).any begins
      rotate_left
      · have HE2 := Aside0.mk (show r = (⟨#[]⟩, 11) by rw [HR.out]; unfold pPath; rw [if_neg (not_or.2 ⟨hbad.out, by rw [← HQ.out, hq]; simp⟩), if_pos hm])
        clear HR HP HQ
        go_wp2_with fail
        go_ret2
        exact ⟨by rw [HE2.out]; rfl, HB4.out⟩
      · have HE2 := Aside0.mk (show r = (q, 0) by rw [HR.out]; unfold pPath; rw [if_neg (not_or.2 ⟨hbad.out, by rw [← HQ.out, hq]; simp⟩), if_neg (by rw [hm]; simp), if_neg (by omega), HQ.out])
        clear HR HP HQ
        go_wp2_with fail
        go_ret2
        exact ⟨by rw [HE2.out]; rfl, HB4.out⟩

end Go.Proofs.YtbkbpdpegiekhaaGreatDoor
