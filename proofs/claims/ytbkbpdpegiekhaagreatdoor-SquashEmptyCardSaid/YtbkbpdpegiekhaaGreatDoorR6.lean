/- mark: Kind, Path. -/
import Derived.Test.YtbkbpdpegiekhaaGreatDoorR3
import Derived.Test.YtbkbpdpegiekhaaGreatDoorB1
set_option linter.unusedVariables false
set_option linter.unusedSimpArgs false
namespace Mo
def pDir (p : S) : S := (pParent p).getD ⟨#[]⟩
def begins (s : S) : Bool := Go.Lib.hasPrefix s.data.toList [46, 119, 104, 46]
def wh : S := ⟨#[46, 119, 104, 46]⟩
def whOpq : S := ⟨#[46, 119, 104, 46, 46, 119, 104, 46, 46, 111, 112, 113]⟩
def cut4 (s : S) : S := ⟨(Go.Lib.trimPrefix s.data.toList [46, 119, 104, 46]).toArray⟩
def pKind (p : S) : Int × S × Int :=
  if pRight p = true then
    (if (pParts (pDir p)).any begins = true then (0, ⟨#[]⟩, 11)
    else if begins (pBase p) = true then
      (if pBase p = whOpq then (2, pDir p, 0)
      else if begins (cut4 (pBase p)) = true ∨ pRight (cut4 (pBase p)) = false then (0, ⟨#[]⟩, 11)
      else (1, pJoin (pDir p) (cut4 (pBase p)), 0))
    else (0, p, 0))
  else (0, ⟨#[]⟩, 5)
/-- A marker's path. -/
def mPath (k : Int) (t : S) : S := if k = 1 then pJoin (pDir t) (wh ++ pBase t) else if k = 2 then pJoin t whOpq else t
def pPath (k : Int) (t : S) : S × Int :=
  if (pRight t = false ∧ (k ≠ 2 ∨ t ≠ ⟨#[]⟩)) ∨ pRight (mPath k t) = false then (⟨#[]⟩, 5)
  else if (pParts t).any begins = true then (⟨#[]⟩, 11)
  else if k < 0 ∨ 2 < k then (⟨#[]⟩, 1)
  else (mPath k t, 0)
theorem pDir_size (p : S) : (pDir p).size ≤ p.size := by
  unfold pDir
  cases h : pParent p with
  | none => exact Nat.zero_le _
  | some d => have := pParent_len h; simp; omega
theorem pBase_size (p : S) : (pBase p).size ≤ p.size := by
  rcases pParent_cases p with ⟨_, _, h⟩ | ⟨k, _, hk, _, h⟩
  · rw [h]; exact Nat.le_refl _
  · rw [h, ByteArray.size_extract]; omega
theorem cut4_size (p : S) : (cut4 p).size ≤ p.size := by
  unfold cut4 Go.Lib.trimPrefix
  rw [size_bs, size_bs]
  unfold bs
  split <;> simp
end Mo
namespace Go.Proofs.YtbkbpdpegiekhaaGreatDoor
open Go.RowKit Go.Proofs.YtbkbpdpegiekhaaGreatDoorW.PrintWords Mo

theorem route_Parent (s : S) (w : World) (hs : s.size < 4611686018427387904) :
    Calls Tryz.prog 116 #[.string s] w fun e w' => e = .returned (.tuple #[.string (pDir s), .bool (pParent s).isSome]) ∧ w = w' := by
  unfold pDir
  cases h : pParent s with
  | none => exact route_Parent_none s w hs h
  | some d => exact route_Parent_some s d w hs h

theorem marked_any (s : S) (w : World) : Calls Tryz.prog 237 #[.string s] w fun e w' => e = .returned (.bool (begins s)) ∧ w = w' := by
  go_enter Tryz.func237, Tryz.ntmps237
  go_wp2_with (go_at_call 183; refine (Tryz.strings_HasPrefix _ _ _).mono ?_; rintro e w' ⟨rfl, rfl⟩)
  go_ret
  exact ⟨rfl, rfl⟩
theorem marked_pays (w : World) : PredAt Tryz.prog 237 #[] Value.string begins w := by
  intro W s _
  exact (marked_any s W).mono fun e w' ⟨he, hw⟩ => ⟨he, 0, hw.symm⟩

theorem cut_any (s : S) (w : World) : Calls Tryz.prog 236 #[.string s, .string wh] w fun e w' => e = .returned (.tuple #[.string (cut4 s), .bool (begins s)]) ∧ w = w' :=
  (Tryz.strings_CutPrefix s wh w).mono fun e w' ⟨he, hw⟩ => ⟨he, hw.symm⟩
theorem tup3 {a b c a' b' c' : Value} (h1 : a = a') (h2 : b = b') (h3 : c = c') : Ending.returned (.tuple #[a, b, c]) = .returned (.tuple #[a', b', c']) := by rw [h1, h2, h3]
theorem tup2 {a b a' b' : Value} (h1 : a = a') (h2 : b = b') : Ending.returned (.tuple #[a, b]) = .returned (.tuple #[a', b']) := by rw [h1, h2]

set_option maxHeartbeats 1000000 in
theorem mark_Kind (p : S) (w : World) (hE : Env w) (hs : p.size < 1000000000) :
    Calls Tryz.prog 186 #[.string p] w fun e w' => e = .returned (.tuple #[.int .i64 (pKind p).1, .string (pKind p).2.1, .int .i64 (pKind p).2.2]) ∧ Below w.heap.size w w' := by
  have HE := Aside0.mk hE
  clear hE
  have hd := pDir_size p
  have hb := pBase_size p
  have hc := cut4_size (pBase p)
  by_cases h1 : pRight p = true
  rotate_left
  · have e : pKind p = (0, ⟨#[]⟩, 5) := by simp [pKind, h1]
    rw [e]
    have h1' : okE (pRight p) 5 = 5 := by simp [okE, h1]
    go_enter Tryz.func186, Tryz.ntmps186
    go_wp2_with fail
    refine (route_Check p _ HE.out (by omega)).mono ?_
    rintro e w1 ⟨rfl, hb1⟩
    rw [h1']
    go_wp2_with fail
    go_ret3
    exact ⟨rfl, hb1⟩
  have h1' : okE (pRight p) 5 = 0 := by simp [okE, h1]
  obtain ⟨r, hr⟩ : ∃ r, r = pKind p := ⟨_, rfl⟩
  rw [← hr]
  have HR := Aside0.mk hr
  clear hr
  go_enter Tryz.func186, Tryz.ntmps186
  go_wp2_with fail
  refine (route_Check p _ HE.out (by omega)).mono ?_
  rintro e w1 ⟨rfl, hb1⟩
  rw [h1']
  have HB1 := Aside0.mk hb1
  clear hb1
  go_wp2_with fail
  refine (route_Parent p _ (by omega)).mono ?_
  rintro e w1' ⟨rfl, rfl⟩
  go_wp2_with fail
  refine (route_Base p _ (by omega)).mono ?_
  rintro e w1' ⟨rfl, rfl⟩
  go_wp2_with fail
  refine (cut_any _ _).mono ?_
  rintro e w1' ⟨rfl, rfl⟩
  go_wp2_with fail
  refine (route_Parts (pDir p) _ (HE.out.below HB1.out) (by omega)).mono ?_
  rintro e w2 ⟨v2, rfl, hr2, hg2⟩
  have HB2 := Aside0.mk (below_then HB1.out HB1.out.size hg2.below)
  have HR2 := Aside0.mk (Rd.of_R hr2)
  clear hg2 hr2 HB1
  obtain ⟨A2, c2, rfl, _, _⟩ := HR2.out
  go_wp2_with fail
  refine (any_parts (pParts (pDir p)) _ _ HR2.out begins 237 #[] (enters_of Tryz.func237 (by kernel_rfl) rfl) (marked_pays _)).mono ?_
  rintro e w3 ⟨rfl, hg⟩
  have HB3 := Aside0.mk (below_then HB2.out HB2.out.size hg.below)
  clear hg HB2 HR2
  cases hk : (pParts (pDir p)).any begins
  rotate_left
  · have e : r = (0, ⟨#[]⟩, 11) := by rw [HR.out]; simp only [pKind, h1, hk, if_true]
    have HE2 := Aside0.mk e
    clear e HR
    go_wp2_with fail
    go_ret3
    exact ⟨by rw [HE2.out]; rfl, HB3.out⟩
  cases hg : begins (pBase p)
  · have e : r = (0, p, 0) := by rw [HR.out]; simp only [pKind, h1, hk, hg, if_true, if_false, Bool.false_eq_true]
    have HE2 := Aside0.mk e
    clear e HR
    go_wp2_with fail
    go_ret3
    exact ⟨by rw [HE2.out]; rfl, HB3.out⟩
  by_cases hq : pBase p = whOpq
  · have e : r = (2, pDir p, 0) := by rw [HR.out]; simp only [pKind, h1, hk, hg, if_true, if_false, Bool.false_eq_true]; rw [if_pos hq]
    have hq' : ((pBase p).toList == [46, 119, 104, 46, 46, 119, 104, 46, 46, 111, 112, 113]) = true := by rw [hq, Lib.toList_data]; rfl
    have HE2 := Aside0.mk e
    clear e HR hq
    go_wp2_with fail
    go_ret3
    exact ⟨by rw [HE2.out]; rfl, HB3.out⟩
  have hq' : ((pBase p).toList == [46, 119, 104, 46, 46, 119, 104, 46, 46, 111, 112, 113]) = false := by
    rw [beq_eq_false_iff_ne]
    intro h
    apply hq
    rw [Lib.toList_data] at h
    exact bs_inj h
  cases hm : begins (cut4 (pBase p))
  rotate_left
  · have e : r = (0, ⟨#[]⟩, 11) := by rw [HR.out]; simp only [pKind, h1, hk, hg, if_true, if_false, Bool.false_eq_true]; rw [if_neg hq, if_pos (.inl hm)]
    have HE2 := Aside0.mk e
    clear e HR hq
    go_wp2_with fail
    refine (marked_any _ _).mono ?_
    rintro e w' ⟨rfl, rfl⟩
    rw [hm]
    go_wp2_with fail
    go_ret3
    exact ⟨by rw [HE2.out]; rfl, HB3.out⟩
  cases hv : pRight (cut4 (pBase p))
  · have e : r = (0, ⟨#[]⟩, 11) := by rw [HR.out]; simp only [pKind, h1, hk, hg, if_true, if_false, Bool.false_eq_true]; rw [if_neg hq, if_pos (.inr hv)]
    have HE2 := Aside0.mk e
    clear e HR hq
    go_wp2_with fail
    refine (marked_any _ _).mono ?_
    rintro e w' ⟨rfl, rfl⟩
    rw [hm]
    go_wp2_with fail
    refine (route_Check _ _ (HE.out.below HB3.out) (by omega)).mono ?_
    rintro e w4 ⟨rfl, hb4⟩
    have HB4 := Aside0.mk (below_then HB3.out HB3.out.size hb4)
    clear hb4 HB3
    rw [hv, show okE false 5 = 5 from rfl]
    go_wp2_with fail
    go_ret3
    exact ⟨by rw [HE2.out]; rfl, HB4.out⟩
  · have e : r = (1, pJoin (pDir p) (cut4 (pBase p)), 0) := by rw [HR.out]; simp only [pKind, h1, hk, hg, if_true, if_false, Bool.false_eq_true]; rw [if_neg hq, if_neg (by simp [hm, hv])]
    have HE2 := Aside0.mk e
    clear e HR hq
    go_wp2_with fail
    refine (marked_any _ _).mono ?_
    rintro e w' ⟨rfl, rfl⟩
    rw [hm]
    go_wp2_with fail
    refine (route_Check _ _ (HE.out.below HB3.out) (by omega)).mono ?_
    rintro e w4 ⟨rfl, hb4⟩
    have HB4 := Aside0.mk (below_then HB3.out HB3.out.size hb4)
    clear hb4 HB3
    rw [hv, show okE true 5 = 0 from rfl]
    go_wp2_with fail
    refine (route_Join _ _ _ (by omega)).mono ?_
    rintro e w' ⟨rfl, rfl⟩
    go_wp2_with fail
    go_ret3
    exact ⟨by rw [HE2.out]; rfl, HB4.out⟩

theorem wh_append (s : S) : ByteArray.append ⟨#[46, 119, 104, 46]⟩ s = wh ++ s := rfl

theorem mark_path1 (t : S) (w : World) (hs : t.size < 1000000000) :
    Calls Tryz.prog 244 #[.int .i64 1, .string t] w fun e w' => e = .returned (.string (mPath 1 t)) ∧ w = w' := by
  have hd := pDir_size t
  have hb := pBase_size t
  have e : mPath 1 t = pJoin (pDir t) (wh ++ pBase t) := rfl
  have hz : (wh ++ pBase t).size ≤ 4 + t.size := by
    rw [ByteArray.size_append]
    have : wh.size = 4 := rfl
    omega
  rw [e]
  go_enter Tryz.func244, Tryz.ntmps244
  go_wp2_with fail
  refine (route_Parent t _ (by omega)).mono ?_
  rintro e w1' ⟨rfl, rfl⟩
  go_wp2_with fail
  refine (route_Base t _ (by omega)).mono ?_
  rintro e w1' ⟨rfl, rfl⟩
  go_wp2_with fail
  refine (route_Join (pDir t) (wh ++ pBase t) _ (by omega)).mono ?_
  rintro e w' ⟨rfl, rfl⟩
  go_wp2_with fail
  go_ret
  exact ⟨rfl, rfl⟩

theorem mark_path2 (t : S) (w : World) (hs : t.size < 1000000000) :
    Calls Tryz.prog 244 #[.int .i64 2, .string t] w fun e w' => e = .returned (.string (mPath 2 t)) ∧ w = w' := by
  have e : mPath 2 t = pJoin t whOpq := rfl
  have hz : whOpq.size = 12 := rfl
  rw [e]
  go_enter Tryz.func244, Tryz.ntmps244
  go_wp2_with fail
  refine (route_Parent t _ (by omega)).mono ?_
  rintro e w1' ⟨rfl, rfl⟩
  go_wp2_with fail
  refine (route_Join t whOpq _ (by omega)).mono ?_
  rintro e w' ⟨rfl, rfl⟩
  go_wp2_with fail
  go_ret
  exact ⟨rfl, rfl⟩

theorem mPath_size (k : Int) (t : S) : (mPath k t).size ≤ 2 * t.size + 100 := by
  have hj : ∀ d n : S, (pJoin d n).size ≤ d.size + n.size + 1 := by
    intro d n
    unfold pJoin join
    rw [size_bs, bs_mk]
    split
    · rw [bs_size]; omega
    · simp [bs_size]; omega
  have hd := pDir_size t
  have hb := pBase_size t
  unfold mPath
  split
  · refine Nat.le_trans (hj _ _) ?_
    rw [ByteArray.size_append]
    have : wh.size = 4 := rfl
    omega
  · split
    · refine Nat.le_trans (hj _ _) ?_
      have : whOpq.size = 12 := rfl
      omega
    · omega

theorem isEmpty_eq {t : S} (h : t.toList.isEmpty = true) : t = ⟨#[]⟩ := by
  rw [Lib.toList_data] at h
  have : bs t = [] := by unfold bs; exact List.isEmpty_iff.1 h
  rw [← mk_bs t, this]; rfl

set_option maxHeartbeats 1000000 in
theorem mark_Path (k : Int) (hk : k = 1 ∨ k = 2) (t : S) (w : World) (hE : Env w) (hs : t.size < 1000000000) :
    Calls Tryz.prog 193 #[.int .i64 k, .string t] w fun e w' => e = .returned (.tuple #[.string (pPath k t).1, .int .i64 (pPath k t).2]) ∧ Below w.heap.size w w' := by
  have HE := Aside0.mk hE
  clear hE
  have hz := mPath_size k t
  have hp : ∀ W, Calls Tryz.prog 244 #[.int .i64 k, .string t] W fun e w' => e = .returned (.string (mPath k t)) ∧ W = w' := by
    rcases hk with rfl | rfl
    · exact fun W => mark_path1 t W hs
    · exact fun W => mark_path2 t W hs
  have HP := Aside0.mk hp
  clear hp
  obtain ⟨r, hr⟩ : ∃ r, r = pPath k t := ⟨_, rfl⟩
  rw [← hr]
  have HR := Aside0.mk hr
  have HK := Aside0.mk hk
  have hk2 : 1 ≤ k ∧ k ≤ 2 := by omega
  obtain ⟨hk3, hk4⟩ := hk2
  clear hr hk
  go_enter Tryz.func193, Tryz.ntmps193
  go_wp2_with fail
  refine (HP.out _).mono ?_
  rintro e w1' ⟨rfl, rfl⟩
  obtain ⟨q, hq⟩ : ∃ q, q = mPath k t := ⟨_, rfl⟩
  rw [← hq] at hz ⊢
  have HQ := Aside0.mk hq
  clear hq
  go_wp2_with fail
  refine (route_Check t _ HE.out (by omega)).mono ?_
  rintro e w1 ⟨rfl, hb1⟩
  have HB1 := Aside0.mk hb1
  clear hb1
  by_cases hbad' : Aside0 (pRight t = false ∧ (k ≠ 2 ∨ t ≠ ⟨#[]⟩))
  · have hbad := hbad'.out
    have e : r = (⟨#[]⟩, 5) := by rw [HR.out]; unfold pPath; rw [if_pos (.inl hbad)]
    have HE2 := Aside0.mk e
    obtain ⟨hv, ht⟩ := hbad
    rw [hv, show okE false 5 = 5 from rfl]
    clear e HR HP
    by_cases h2 : k = 2
    · have ht' : t ≠ ⟨#[]⟩ := by rcases ht with h | h; exact absurd h2 h; exact h
      have h3 : t.toList.isEmpty = false := by
        cases hh : t.toList.isEmpty with
        | false => rfl
        | true =>
          exfalso; apply ht'
          exact isEmpty_eq hh
      subst h2
      clear ht ht'
      go_wp2_with fail
      go_ret2
      exact ⟨by rw [HE2.out]; rfl, HB1.out⟩
    · have h1 : k = 1 := by rcases HK.out with h | h; exact h; exact absurd h h2
      subst h1
      clear ht h2
      go_wp2_with fail
      go_ret2
      exact ⟨by rw [HE2.out]; rfl, HB1.out⟩
  · have hbad := Aside0.mk (fun h => hbad' ⟨h⟩)
    clear hbad'
    have hgood : pRight t = true ∨ (pRight t = false ∧ k = 2 ∧ t = ⟨#[]⟩) := by
      cases hv : pRight t
      · refine .inr ⟨rfl, ?_, ?_⟩
        · exact Classical.byContradiction fun h => hbad.out ⟨hv, .inl h⟩
        · exact Classical.byContradiction fun h => hbad.out ⟨hv, .inr h⟩
      · exact .inl rfl
    rcases hgood with hv | ⟨hv, hk2, ht⟩
    · rw [hv, show okE true 5 = 0 from rfl]
      clear hv
      go_wp2_with fail
      refine (route_Check q _ (HE.out.below HB1.out) (by omega)).mono ?_
      rintro e w2 ⟨rfl, hb2⟩
      have HB2 := Aside0.mk (below_then HB1.out HB1.out.size hb2)
      clear hb2 HB1
      cases hq : pRight q
      · have HE2 := Aside0.mk (show r = (⟨#[]⟩, 5) by rw [HR.out]; unfold pPath; rw [if_pos (.inr (by rw [← HQ.out]; exact hq))])
        rw [show okE false 5 = 5 from rfl]
        clear HR HP HQ
        go_wp2_with fail
        go_ret2
        exact ⟨by rw [HE2.out]; rfl, HB2.out⟩
      rw [show okE true 5 = 0 from rfl]
      go_wp2_with fail
      refine (route_Parts t _ (HE.out.below HB2.out) (by omega)).mono ?_
      rintro e w3 ⟨v3, rfl, hr3, hg3⟩
      have HB3 := Aside0.mk (below_then HB2.out HB2.out.size hg3.below)
      have HR3 := Aside0.mk (Rd.of_R hr3)
      clear hg3 hr3 HB2
      obtain ⟨A3, c3, rfl, _, _⟩ := HR3.out
      go_wp2_with fail
      refine (any_parts (pParts t) _ _ HR3.out begins 237 #[] (enters_of Tryz.func237 (by kernel_rfl) rfl) (marked_pays _)).mono ?_
      rintro e w4 ⟨rfl, hg⟩
      have HB4 := Aside0.mk (below_then HB3.out HB3.out.size hg.below)
      clear hg HB3 HR3
      cases hm : (pParts t).any begins
      rotate_left
      · have HE2 := Aside0.mk (show r = (⟨#[]⟩, 11) by rw [HR.out]; unfold pPath; rw [if_neg (not_or.2 ⟨hbad.out, by rw [← HQ.out, hq]; simp⟩), if_pos hm])
        clear HR HP HQ
        go_wp2_with fail
        go_ret2
        exact ⟨by rw [HE2.out]; rfl, HB4.out⟩
      · have HE2 := Aside0.mk (show r = (q, 0) by rw [HR.out]; unfold pPath; rw [if_neg (not_or.2 ⟨hbad.out, by rw [← HQ.out, hq]; simp⟩), if_neg (by rw [hm]; simp), if_neg (by omega), HQ.out])
        clear HR HP HQ
        go_wp2_with fail
        go_ret2
        exact ⟨by rw [HE2.out]; rfl, HB4.out⟩
    · have h3 : t.toList.isEmpty = true := by rw [ht, Lib.toList_data]; rfl
      rw [hv, show okE false 5 = 5 from rfl]
      subst hk2
      clear hv ht
      go_wp2_with fail
      refine (route_Check q _ (HE.out.below HB1.out) (by omega)).mono ?_
      rintro e w2 ⟨rfl, hb2⟩
      have HB2 := Aside0.mk (below_then HB1.out HB1.out.size hb2)
      clear hb2 HB1
      cases hq : pRight q
      · have HE2 := Aside0.mk (show r = (⟨#[]⟩, 5) by rw [HR.out]; unfold pPath; rw [if_pos (.inr (by rw [← HQ.out]; exact hq))])
        rw [show okE false 5 = 5 from rfl]
        clear HR HP HQ
        go_wp2_with fail
        go_ret2
        exact ⟨by rw [HE2.out]; rfl, HB2.out⟩
      rw [show okE true 5 = 0 from rfl]
      go_wp2_with fail
      refine (route_Parts t _ (HE.out.below HB2.out) (by omega)).mono ?_
      rintro e w3 ⟨v3, rfl, hr3, hg3⟩
      have HB3 := Aside0.mk (below_then HB2.out HB2.out.size hg3.below)
      have HR3 := Aside0.mk (Rd.of_R hr3)
      clear hg3 hr3 HB2
      obtain ⟨A3, c3, rfl, _, _⟩ := HR3.out
      go_wp2_with fail
      refine (any_parts (pParts t) _ _ HR3.out begins 237 #[] (enters_of Tryz.func237 (by kernel_rfl) rfl) (marked_pays _)).mono ?_
      rintro e w4 ⟨rfl, hg⟩
      have HB4 := Aside0.mk (below_then HB3.out HB3.out.size hg.below)
      clear hg HB3 HR3
      cases hm : (pParts t).any begins
      rotate_left
      · have HE2 := Aside0.mk (show r = (⟨#[]⟩, 11) by rw [HR.out]; unfold pPath; rw [if_neg (not_or.2 ⟨hbad.out, by rw [← HQ.out, hq]; simp⟩), if_pos hm])
        clear HR HP HQ
        go_wp2_with fail
        go_ret2
        exact ⟨by rw [HE2.out]; rfl, HB4.out⟩
      · have HE2 := Aside0.mk (show r = (q, 0) by rw [HR.out]; unfold pPath; rw [if_neg (not_or.2 ⟨hbad.out, by rw [← HQ.out, hq]; simp⟩), if_neg (by rw [hm]; simp), if_neg (by omega), HQ.out])
        clear HR HP HQ
        go_wp2_with fail
        go_ret2
        exact ⟨by rw [HE2.out]; rfl, HB4.out⟩

end Go.Proofs.YtbkbpdpegiekhaaGreatDoor

/- Binary search among nodes, by path. -/
set_option linter.unusedVariables false
set_option linter.unusedSimpArgs false
namespace Go.Proofs.YtbkbpdpegiekhaaGreatDoor
open Go.RowKit Go.Proofs.YtbkbpdpegiekhaaGreatDoorW.PrintWords Mo

theorem Env.grew {w w' : World} (h : Env w) (g : Grew w w') : Env w' := h.below g.below

theorem byPath_any (n : Nd) (p : S) (w : World) (hE : Env w) (h1 : n.path.size < 4294967281) (h2 : p.size < 4294967281) :
    Calls Tryz.prog 279 #[vN n, .string p] w fun e w' => e = .returned (.int .i64 (pCmp n.path p)) ∧ Grew w w' := by
  have hE' : ∀ o, Env (w.alloc o) := fun o => hE.grew ((Grew.refl w).alloc o)
  have HE := Aside0.mk hE'
  clear hE hE'
  go_enter Tryz.func279, Tryz.ntmps279
  go_wp2_with fail
  refine (route_Compare _ _ _ (HE.out _) h1 h2).mono ?_
  rintro e w1 ⟨rfl, hg⟩
  have HG := Aside0.mk (((Grew.refl w).alloc _).trans hg)
  clear hg
  go_wp2_with fail
  go_ret
  exact ⟨rfl, HG.out⟩

/-- A place: all ahead of it is less, nothing from it on; and whether what is there is alike. -/
def Found (n : Nat) (cf : Nat → Int) (w : World) (e : Ending) (w' : World) : Prop :=
  ∃ i : Nat, i ≤ n ∧ (∀ h, h < i → cf h < 0) ∧ (∀ h, i ≤ h → h < n → 0 ≤ cf h) ∧ e = .returned (.tuple #[.int .i64 i, .bool (decide (i < n) && (cf i == 0))]) ∧ Grew w w'

set_option maxHeartbeats 1000000 in
theorem search_nodes (xs : List Nd) (p : S) (v : Value) (w : World) (hE : Env w) (hv : Rd kN w v xs) (hx : ∀ n ∈ xs, n.path.size < 4294967281) (h2 : p.size < 4294967281) (hsz : xs.length ≤ 1000000000)
    (hm : ∀ a b, a ≤ b → b < xs.length → pCmp (xs.getD b Nd.zero).path p < 0 → pCmp (xs.getD a Nd.zero).path p < 0) :
    Calls Tryz.prog 278 #[v, .string p, .func (.func 279) #[] #[]] w (Found xs.length (fun h => pCmp (xs.getD h Nd.zero).path p) w) := by
  obtain ⟨A, c, rfl, hl, hc⟩ := hv
  have HE := Aside0.mk hE
  have HX := Aside0.mk hx
  have HM := Aside0.mk hm
  have HC := Aside0.mk hc
  clear hE hx hm hc
  obtain ⟨n, hn0⟩ : ∃ n, n = xs.length := ⟨_, rfl⟩
  rw [← hn0] at hsz hl ⊢
  have HN := Aside0.mk hn0
  clear hn0
  go_enter Tryz.func278, Tryz.ntmps278
  go_wp2_with fail
  go_loopw [9, 10] (fun i j wr => ∃ a b : Nat, a ≤ b ∧ b ≤ n ∧ i = .int .i64 a ∧ j = .int .i64 b ∧ Aside0 (∀ h, h < a → pCmp (xs.getD h Nd.zero).path p < 0) ∧ Aside0 (∀ h, b ≤ h → h < n → 0 ≤ pCmp (xs.getD h Nd.zero).path p) ∧ Aside0 (Grew w wr))
    (fun i j _ => (intOf j).toNat - (intOf i).toNat)
  case atStart => exact ⟨0, n, Nat.zero_le _, Nat.le_refl _, rfl, rfl, ⟨fun h hh => absurd hh (Nat.not_lt_zero _)⟩, ⟨fun h h1 h2 => absurd h2 (by omega)⟩, ⟨Grew.refl _⟩⟩
  case round =>
    obtain ⟨a, b, hab, hbn, rfl, rfl, HA, HB, HG⟩ := hrel
    by_cases hlt : a < b
    · have hh : (a + b) / 2 < n := by omega
      obtain ⟨ad, rfl, k0, k1, k2, k3, k4⟩ := C_node (Kd.C_below HC.out HG.out.below) ((a + b) / 2) (by rw [← HN.out]; exact hh)
      have hp1 := HX.out (xs.getD ((a + b) / 2) Nd.zero) (by rw [List.getD_eq_getElem?_getD, List.getElem?_eq_getElem (by rw [← HN.out]; exact hh)]; simp)
      have hmo := HM.out
      rw [← HN.out] at hmo
      have HM2 := Aside0.mk hmo
      clear hmo
      go_wp2_with fail
      refine (byPath_any (xs.getD ((a + b) / 2) Nd.zero) p _ (HE.out.grew HG.out) hp1 h2).mono ?_
      rintro e w1 ⟨rfl, hg⟩
      have HG1 := Aside0.mk (HG.out.trans hg)
      clear hg HG
      obtain ⟨cc, hcc⟩ : ∃ cc, cc = pCmp (xs.getD ((a + b) / 2) Nd.zero).path p := ⟨_, rfl⟩
      rw [← hcc]
      have HCC := Aside0.mk hcc
      clear hcc k0 k1 k2 k3 k4 hp1
      by_cases hneg : cc < 0
      · have hnb : decide (cc < 0) = true := decide_eq_true hneg
        go_wp2_with fail
        go_roundw
        case rel =>
          exact ⟨(a + b) / 2 + 1, b, by omega, by omega, by go_num, rfl, ⟨fun h hh => HM2.out h ((a + b) / 2) (by omega) (by omega) (by rw [← HCC.out]; exact hneg)⟩, HB, HG1⟩
        case measure => simp [intOf]; omega
      · have hnb : decide (cc < 0) = false := decide_eq_false hneg
        have HNN := Aside0.mk hneg
        clear hneg
        go_wp2_with fail
        go_roundw
        case rel =>
          exact ⟨a, (a + b) / 2, by omega, by omega, rfl, by go_num, HA, ⟨fun h h1 h2 => Classical.byContradiction fun hc => by have q1 := HNN.out; have q2 := HM2.out ((a + b) / 2) h h1 h2 (by omega); rw [← HCC.out] at q2; omega⟩, HG1⟩
        case measure => simp [intOf]; omega
    · have hab2 : a = b := by omega
      subst hab2
      clear hlt
      have HCm := HC.out
      by_cases hin : a < n
      · obtain ⟨ad, rfl, k0, k1, k2, k3, k4⟩ := C_node (Kd.C_below HC.out HG.out.below) a (by rw [← HN.out]; exact hin)
        have hp1 := HX.out (xs.getD a Nd.zero) (by rw [List.getD_eq_getElem?_getD, List.getElem?_eq_getElem (by rw [← HN.out]; exact hin)]; simp)
        clear HCm
        go_wp2_with fail
        refine (byPath_any (xs.getD a Nd.zero) p _ (HE.out.grew HG.out) hp1 h2).mono ?_
        rintro e w1 ⟨rfl, hg⟩
        have HG1 := Aside0.mk (HG.out.trans hg)
        clear hg HG k0 k1 k2 k3 k4 hp1
        go_wp2_with fail
        go_ret2
        refine ⟨a, by omega, HA.out, HB.out, tup2 rfl ?_, HG1.out⟩
        rw [decide_eq_true hin]; rfl
      · clear HCm
        go_wp2_with fail
        go_ret2
        refine ⟨a, by omega, HA.out, HB.out, tup2 rfl ?_, HG.out⟩
        rw [decide_eq_false hin]; rfl

end Go.Proofs.YtbkbpdpegiekhaaGreatDoor

/- fold: Table, Small. -/
set_option linter.unusedVariables false
set_option linter.unusedSimpArgs false
namespace Go.Proofs.YtbkbpdpegiekhaaGreatDoor
open Go.RowKit Go.Proofs.YtbkbpdpegiekhaaGreatDoorW.PrintWords Mo

abbrev T3 := Int × Int × Int
def kT : Kd T3 := Kd.pair (Kd.int .i64) (Kd.pair (Kd.int .i64) (Kd.int .i64))
theorem flat_T : Flat kT := flat_pair (flat_int _) (flat_pair (flat_int _) (flat_int _))
abbrev cT (x : T3) : List Value := [.int .i64 x.1, .int .i64 x.2.1, .int .i64 x.2.2]
theorem kT_mk (w : World) (x : T3) : kT.K w x (cT x) := ⟨[.int .i64 x.1], [.int .i64 x.2.1, .int .i64 x.2.2], rfl, rfl, ⟨[.int .i64 x.2.1], [.int .i64 x.2.2], rfl, rfl, rfl⟩⟩
theorem kT_open {w : World} {x : T3} {cs : List Value} (h : kT.K w x cs) : cs = cT x := by
  obtain ⟨_, _, rfl, rfl, ⟨_, _, rfl, rfl, rfl⟩⟩ := h
  rfl
theorem info305 : (Tryz.prog.info? 305).map (fun i => (i.zero, i.size, i.bytes)) = some (some (.agg #[.int .i64 0, .int .i64 0, .int .i64 0]), 3, 24) := by kernel_rfl

def tabAt : Nat → List T3
  | 0 => []
  | 1 => [(65, 90, 32)]
  | 2 => [(65, 90, 32), (192, 214, 32), (216, 222, 32)]
  | 3 => [(65, 90, 32), (192, 214, 32), (216, 222, 32), (913, 929, 32), (931, 937, 32)]
  | 4 => [(65, 90, 32), (192, 214, 32), (216, 222, 32), (913, 929, 32), (931, 937, 32), (1024, 1039, 80)]
  | _ => [(65, 90, 32), (192, 214, 32), (216, 222, 32), (913, 929, 32), (931, 937, 32), (1024, 1039, 80), (1040, 1071, 32)]
def tab : List T3 := tabAt 5
def lit20 : Array Value := #[.int .i64 65, .int .i64 90, .int .i64 32, .int .i64 0, .int .i64 192, .int .i64 222, .int .i64 32, .int .i64 215, .int .i64 913, .int .i64 937, .int .i64 32, .int .i64 930, .int .i64 1024, .int .i64 1039, .int .i64 80, .int .i64 0, .int .i64 1040, .int .i64 1071, .int .i64 32, .int .i64 0]

theorem blk_lt' {w : World} {g : Nat} {o : Obj} (h : w.heap[g]? = some o) (o' : Obj) : (w.alloc o').heap[g]? = some o := (Below.heap_alloc w o' g (blk_lt h)).trans h

set_option maxHeartbeats 2000000 in
set_option maxRecDepth 100000 in
theorem fold_Table (w : World) : Calls Tryz.prog 285 #[] w fun e w' => ∃ v, e = .returned v ∧ Ow kT 305 w' w.heap.size v tab ∧ Below w.heap.size w w' := by
  obtain ⟨i0, hi, hz0, hz1, hz2⟩ := info_parts info305
  go_enter Tryz.func285, Tryz.ntmps285
  go_wp2_with fail
  go_loopw [1, 11] (fun v i wr => ∃ k : Nat, k ≤ 5 ∧ i = .int .i64 k ∧ Aside0 (Ow kT 305 wr w.heap.size v (tabAt k)) ∧ Aside0 (Below w.heap.size w wr) ∧ Aside0 (wr.heap[w.heap.size]? = some (.cells lit20 324 (0, 0))))
    (fun _ i _ => 5 - (intOf i).toNat)
  case atStart => exact ⟨0, by omega, rfl, ⟨Ow.nil _ _ _ _⟩, ⟨(Below.refl _ _).alloc (Nat.le_refl _) _⟩, ⟨heap_alloc_new w _⟩⟩
  case round =>
    obtain ⟨k, hk, rfl, HO, HB, HL⟩ := hrel
    have hlt : w.heap.size < wr.heap.size := blk_lt HL.out
    by_cases h5 : k = 5
    · subst h5
      go_wp2_with fail
      go_ret
      exact ⟨_, rfl, HO.out, HB.out⟩
    have hk5 : k = 0 ∨ k = 1 ∨ k = 2 ∨ k = 3 ∨ k = 4 := by omega
    clear h5 hk
    rcases hk5 with rfl | rfl | rfl | rfl | rfl
    · have c0 : wr.cell? ⟨w.heap.size, 0, none⟩ = some (.int .i64 65) := blk_cell HL.out 0
      have c1 : wr.cell? ⟨w.heap.size, 1, none⟩ = some (.int .i64 90) := blk_cell HL.out 1
      have c2 : wr.cell? ⟨w.heap.size, 2, none⟩ = some (.int .i64 32) := blk_cell HL.out 2
      have c3 : wr.cell? ⟨w.heap.size, 3, none⟩ = some (.int .i64 0) := blk_cell HL.out 3
      go_wp2_with (at_builtin; refine Ow.app kT flat_T _ w.heap.size rfl (.tmp 18) (.tmp 26) 302 305 (.agg #[.int .i64 0, .int .i64 0, .int .i64 0]) 24 rfl Tryz.underlying302 info305 rfl (by decide) u1 (tabAt 0) [(65, 90, 32)] rfl (some ⟨wr.heap.size + 1, 0, none⟩) 1 rfl ?hC ?hO ?hB ?hL ?_; (case hC => exact C_lit flat_T _ 305 (65, 90, 32) _ (kT_mk _ _) _ (by simp)); (case hO => exact HO.out.below flat_T (by repeat (first | exact Below.refl _ _ | apply below_alloc))); (case hB => simp; omega); (case hL => simp [tabAt]); intro v1' w1 ho hg hat; have HO1 := Aside0.mk ho; have HB1 := Aside0.mk (Below.grown (below_alloc (below_alloc HB.out _) _) hg (by simp; omega) HO.out.base_le); have HL1 := Aside0.mk (blk_grown (blk_lt' (blk_lt' HL.out _) _) hg (fun h => HO.out.ne_type HL.out (by decide) h.symm)); clear ho hg hat HO HB HL)
      go_roundw
      case rel => exact ⟨1, by omega, rfl, HO1, HB1, HL1⟩
      case measure => simp [intOf]
    · have c0 : wr.cell? ⟨w.heap.size, 4, none⟩ = some (.int .i64 192) := blk_cell HL.out 4
      have c1 : wr.cell? ⟨w.heap.size, 5, none⟩ = some (.int .i64 222) := blk_cell HL.out 5
      have c2 : wr.cell? ⟨w.heap.size, 6, none⟩ = some (.int .i64 32) := blk_cell HL.out 6
      have c3 : wr.cell? ⟨w.heap.size, 7, none⟩ = some (.int .i64 215) := blk_cell HL.out 7
      go_wp2_with (at_builtin; refine Ow.app kT flat_T _ w.heap.size rfl (.tmp 28) (.tmp 45) 302 305 (.agg #[.int .i64 0, .int .i64 0, .int .i64 0]) 24 rfl Tryz.underlying302 info305 rfl (by decide) u1 (tabAt 1) [(192, 214, 32), (216, 222, 32)] rfl (some ⟨wr.heap.size + 1, 0, none⟩) 2 rfl ?hC ?hO ?hB ?hL ?_; (case hC => exact C_lits flat_T _ 305 [(192, 214, 32), (216, 222, 32)] _ (Reps.app (reps_single (kT_mk _ _)) (reps_single (kT_mk _ _))) (by simp) _ (by simp)); (case hO => exact HO.out.below flat_T (by repeat (first | exact Below.refl _ _ | apply below_alloc))); (case hB => simp; omega); (case hL => simp [tabAt]); intro v1' w1 ho hg hat; have HO1 := Aside0.mk ho; have HB1 := Aside0.mk (Below.grown (below_alloc (below_alloc HB.out _) _) hg (by simp; omega) HO.out.base_le); have HL1 := Aside0.mk (blk_grown (blk_lt' (blk_lt' HL.out _) _) hg (fun h => HO.out.ne_type HL.out (by decide) h.symm)); clear ho hg hat HO HB HL)
      go_roundw
      case rel => exact ⟨2, by omega, rfl, HO1, HB1, HL1⟩
      case measure => simp [intOf]
    · have c0 : wr.cell? ⟨w.heap.size, 8, none⟩ = some (.int .i64 913) := blk_cell HL.out 8
      have c1 : wr.cell? ⟨w.heap.size, 9, none⟩ = some (.int .i64 937) := blk_cell HL.out 9
      have c2 : wr.cell? ⟨w.heap.size, 10, none⟩ = some (.int .i64 32) := blk_cell HL.out 10
      have c3 : wr.cell? ⟨w.heap.size, 11, none⟩ = some (.int .i64 930) := blk_cell HL.out 11
      go_wp2_with (at_builtin; refine Ow.app kT flat_T _ w.heap.size rfl (.tmp 28) (.tmp 45) 302 305 (.agg #[.int .i64 0, .int .i64 0, .int .i64 0]) 24 rfl Tryz.underlying302 info305 rfl (by decide) u1 (tabAt 2) [(913, 929, 32), (931, 937, 32)] rfl (some ⟨wr.heap.size + 1, 0, none⟩) 2 rfl ?hC ?hO ?hB ?hL ?_; (case hC => exact C_lits flat_T _ 305 [(913, 929, 32), (931, 937, 32)] _ (Reps.app (reps_single (kT_mk _ _)) (reps_single (kT_mk _ _))) (by simp) _ (by simp)); (case hO => exact HO.out.below flat_T (by repeat (first | exact Below.refl _ _ | apply below_alloc))); (case hB => simp; omega); (case hL => simp [tabAt]); intro v1' w1 ho hg hat; have HO1 := Aside0.mk ho; have HB1 := Aside0.mk (Below.grown (below_alloc (below_alloc HB.out _) _) hg (by simp; omega) HO.out.base_le); have HL1 := Aside0.mk (blk_grown (blk_lt' (blk_lt' HL.out _) _) hg (fun h => HO.out.ne_type HL.out (by decide) h.symm)); clear ho hg hat HO HB HL)
      go_roundw
      case rel => exact ⟨3, by omega, rfl, HO1, HB1, HL1⟩
      case measure => simp [intOf]
    · have c0 : wr.cell? ⟨w.heap.size, 12, none⟩ = some (.int .i64 1024) := blk_cell HL.out 12
      have c1 : wr.cell? ⟨w.heap.size, 13, none⟩ = some (.int .i64 1039) := blk_cell HL.out 13
      have c2 : wr.cell? ⟨w.heap.size, 14, none⟩ = some (.int .i64 80) := blk_cell HL.out 14
      have c3 : wr.cell? ⟨w.heap.size, 15, none⟩ = some (.int .i64 0) := blk_cell HL.out 15
      go_wp2_with (at_builtin; refine Ow.app kT flat_T _ w.heap.size rfl (.tmp 18) (.tmp 26) 302 305 (.agg #[.int .i64 0, .int .i64 0, .int .i64 0]) 24 rfl Tryz.underlying302 info305 rfl (by decide) u1 (tabAt 3) [(1024, 1039, 80)] rfl (some ⟨wr.heap.size + 1, 0, none⟩) 1 rfl ?hC ?hO ?hB ?hL ?_; (case hC => exact C_lit flat_T _ 305 (1024, 1039, 80) _ (kT_mk _ _) _ (by simp)); (case hO => exact HO.out.below flat_T (by repeat (first | exact Below.refl _ _ | apply below_alloc))); (case hB => simp; omega); (case hL => simp [tabAt]); intro v1' w1 ho hg hat; have HO1 := Aside0.mk ho; have HB1 := Aside0.mk (Below.grown (below_alloc (below_alloc HB.out _) _) hg (by simp; omega) HO.out.base_le); have HL1 := Aside0.mk (blk_grown (blk_lt' (blk_lt' HL.out _) _) hg (fun h => HO.out.ne_type HL.out (by decide) h.symm)); clear ho hg hat HO HB HL)
      go_roundw
      case rel => exact ⟨4, by omega, rfl, HO1, HB1, HL1⟩
      case measure => simp [intOf]
    · have c0 : wr.cell? ⟨w.heap.size, 16, none⟩ = some (.int .i64 1040) := blk_cell HL.out 16
      have c1 : wr.cell? ⟨w.heap.size, 17, none⟩ = some (.int .i64 1071) := blk_cell HL.out 17
      have c2 : wr.cell? ⟨w.heap.size, 18, none⟩ = some (.int .i64 32) := blk_cell HL.out 18
      have c3 : wr.cell? ⟨w.heap.size, 19, none⟩ = some (.int .i64 0) := blk_cell HL.out 19
      go_wp2_with (at_builtin; refine Ow.app kT flat_T _ w.heap.size rfl (.tmp 18) (.tmp 26) 302 305 (.agg #[.int .i64 0, .int .i64 0, .int .i64 0]) 24 rfl Tryz.underlying302 info305 rfl (by decide) u1 (tabAt 4) [(1040, 1071, 32)] rfl (some ⟨wr.heap.size + 1, 0, none⟩) 1 rfl ?hC ?hO ?hB ?hL ?_; (case hC => exact C_lit flat_T _ 305 (1040, 1071, 32) _ (kT_mk _ _) _ (by simp)); (case hO => exact HO.out.below flat_T (by repeat (first | exact Below.refl _ _ | apply below_alloc))); (case hB => simp; omega); (case hL => simp [tabAt]); intro v1' w1 ho hg hat; have HO1 := Aside0.mk ho; have HB1 := Aside0.mk (Below.grown (below_alloc (below_alloc HB.out _) _) hg (by simp; omega) HO.out.base_le); have HL1 := Aside0.mk (blk_grown (blk_lt' (blk_lt' HL.out _) _) hg (fun h => HO.out.ne_type HL.out (by decide) h.symm)); clear ho hg hat HO HB HL)
      go_roundw
      case rel => exact ⟨5, by omega, rfl, HO1, HB1, HL1⟩
      case measure => simp [intOf]

def smallS (c : Int) : Int :=
  if (65 ≤ c ∧ c ≤ 90) ∨ (192 ≤ c ∧ c ≤ 214) ∨ (216 ≤ c ∧ c ≤ 222) ∨ (913 ≤ c ∧ c ≤ 929) ∨ (931 ≤ c ∧ c ≤ 937) ∨ (1040 ≤ c ∧ c ≤ 1071) then c + 32
  else if 1024 ≤ c ∧ c ≤ 1039 then c + 80 else c
def cmpT (x : T3) (c : Int) : Int := if x.2.1 < c then -1 else if c < x.1 then 1 else 0
def zT : T3 := (0, 0, 0)

theorem cmpT_any (x : T3) (c : Int) (w : World) : Calls Tryz.prog 287 #[.agg #[.int .i64 x.1, .int .i64 x.2.1, .int .i64 x.2.2], .int .i64 c] w fun e w' => e = .returned (.int .i64 (cmpT x c)) ∧ Below w.heap.size w w' := by
  obtain ⟨a, b, d⟩ := x
  simp only
  unfold cmpT
  simp only
  by_cases h1 : b < c
  · rw [if_pos h1]
    go_enter Tryz.func287, Tryz.ntmps287
    go_wp2_with fail
    go_ret
    exact ⟨rfl, below_alloc (Below.refl _ _) _⟩
  · rw [if_neg h1]
    by_cases h2 : c < a
    · rw [if_pos h2]
      go_enter Tryz.func287, Tryz.ntmps287
      go_wp2_with fail
      go_ret
      exact ⟨rfl, below_alloc (Below.refl _ _) _⟩
    · rw [if_neg h2]
      go_enter Tryz.func287, Tryz.ntmps287
      go_wp2_with fail
      go_ret
      exact ⟨rfl, below_alloc (Below.refl _ _) _⟩

theorem C_tab {w : World} {A : Option Addr} {n : Nat} {xs : List T3} (h : kT.C w A n xs) (i : Nat) (hi : i < n) : ∃ ad, A = some ad ∧
    w.cell? (ad.add (i * 3)) = some (.int .i64 (xs.getD i zT).1) ∧ w.cell? ⟨(ad.add (i * 3)).block, (ad.add (i * 3)).off + 1, none⟩ = some (.int .i64 (xs.getD i zT).2.1) ∧
    w.cell? ⟨(ad.add (i * 3)).block, (ad.add (i * 3)).off + 2, none⟩ = some (.int .i64 (xs.getD i zT).2.2) := by
  obtain ⟨ad, c, e, _, hK, hc⟩ := Kd.C_get h zT i (by omega) (by omega)
  have hc : ∀ j u, c[j]? = some u → w.cell? (ad.add (i * 3 + j)) = some u := hc
  obtain rfl := kT_open hK
  exact ⟨ad, e, hc 0 _ rfl, by rw [← add_field _ _ 1 (by omega)]; exact hc 1 _ rfl, by rw [← add_field _ _ 2 (by omega)]; exact hc 2 _ rfl⟩

/-- A place, over old memory unturned. -/
def FoundB (n : Nat) (cf : Nat → Int) (w : World) (e : Ending) (w' : World) : Prop :=
  ∃ i : Nat, i ≤ n ∧ (∀ h, h < i → cf h < 0) ∧ (∀ h, i ≤ h → h < n → 0 ≤ cf h) ∧ e = .returned (.tuple #[.int .i64 i, .bool (decide (i < n) && (cf i == 0))]) ∧ Below w.heap.size w w'

set_option maxHeartbeats 1000000 in
theorem search_tab (xs : List T3) (p : Int) (v : Value) (w : World) (hv : Rd kT w v xs) (hsz : xs.length ≤ 1000000000)
    (hm : ∀ a b, a ≤ b → b < xs.length → cmpT (xs.getD b zT) p < 0 → cmpT (xs.getD a zT) p < 0) :
    Calls Tryz.prog 286 #[v, .int .i64 p, .func (.func 287) #[] #[]] w (FoundB xs.length (fun h => cmpT (xs.getD h zT) p) w) := by
  obtain ⟨A, c, rfl, hl, hc⟩ := hv
  have HM := Aside0.mk hm
  have HC := Aside0.mk hc
  clear hm hc
  obtain ⟨n, hn0⟩ : ∃ n, n = xs.length := ⟨_, rfl⟩
  rw [← hn0] at hsz hl ⊢
  have HN := Aside0.mk hn0
  clear hn0
  go_enter Tryz.func286, Tryz.ntmps286
  go_wp2_with fail
  go_loopw [9, 10] (fun i j wr => ∃ a b : Nat, a ≤ b ∧ b ≤ n ∧ i = .int .i64 a ∧ j = .int .i64 b ∧ Aside0 (∀ h, h < a → cmpT (xs.getD h zT) p < 0) ∧ Aside0 (∀ h, b ≤ h → h < n → 0 ≤ cmpT (xs.getD h zT) p) ∧ Aside0 (Below w.heap.size w wr))
    (fun i j _ => (intOf j).toNat - (intOf i).toNat)
  case atStart => exact ⟨0, n, Nat.zero_le _, Nat.le_refl _, rfl, rfl, ⟨fun h hh => absurd hh (Nat.not_lt_zero _)⟩, ⟨fun h h1 h2 => absurd h2 (by omega)⟩, ⟨Below.refl _ _⟩⟩
  case round =>
    obtain ⟨a, b, hab, hbn, rfl, rfl, HA, HB, HG⟩ := hrel
    by_cases hlt : a < b
    · have hh : (a + b) / 2 < n := by omega
      obtain ⟨ad, rfl, k0, k1, k2⟩ := C_tab (Kd.C_below HC.out HG.out) ((a + b) / 2) (by rw [← HN.out]; exact hh)
      have hmo := HM.out
      rw [← HN.out] at hmo
      have HM2 := Aside0.mk hmo
      clear hmo
      go_wp2_with fail
      refine (cmpT_any (xs.getD ((a + b) / 2) zT) p _).mono ?_
      rintro e w1 ⟨rfl, hg⟩
      have HG1 := Aside0.mk (below_then HG.out HG.out.size hg)
      clear hg HG
      obtain ⟨cc, hcc⟩ : ∃ cc, cc = cmpT (xs.getD ((a + b) / 2) zT) p := ⟨_, rfl⟩
      rw [← hcc]
      have HCC := Aside0.mk hcc
      clear hcc k0 k1 k2
      by_cases hneg : cc < 0
      · have hnb : decide (cc < 0) = true := decide_eq_true hneg
        go_wp2_with fail
        go_roundw
        case rel =>
          exact ⟨(a + b) / 2 + 1, b, by omega, by omega, by go_num, rfl, ⟨fun h hh => HM2.out h ((a + b) / 2) (by omega) (by omega) (by rw [← HCC.out]; exact hneg)⟩, HB, HG1⟩
        case measure => simp [intOf]; omega
      · have hnb : decide (cc < 0) = false := decide_eq_false hneg
        have HNN := Aside0.mk hneg
        clear hneg
        go_wp2_with fail
        go_roundw
        case rel =>
          exact ⟨a, (a + b) / 2, by omega, by omega, rfl, by go_num, HA, ⟨fun h h1 h2 => Classical.byContradiction fun hc => by have q1 := HNN.out; have q2 := HM2.out ((a + b) / 2) h h1 h2 (by omega); rw [← HCC.out] at q2; omega⟩, HG1⟩
        case measure => simp [intOf]; omega
    · have hab2 : a = b := by omega
      subst hab2
      clear hlt
      by_cases hin : a < n
      · obtain ⟨ad, rfl, k0, k1, k2⟩ := C_tab (Kd.C_below HC.out HG.out) a (by rw [← HN.out]; exact hin)
        go_wp2_with fail
        refine (cmpT_any (xs.getD a zT) p _).mono ?_
        rintro e w1 ⟨rfl, hg⟩
        have HG1 := Aside0.mk (below_then HG.out HG.out.size hg)
        clear hg HG k0 k1 k2
        go_wp2_with fail
        go_ret2
        refine ⟨a, by omega, HA.out, HB.out, tup2 rfl ?_, HG1.out⟩
        rw [decide_eq_true hin]; rfl
      · go_wp2_with fail
        go_ret2
        refine ⟨a, by omega, HA.out, HB.out, tup2 rfl ?_, HG.out⟩
        rw [decide_eq_false hin]; rfl

theorem cmpT_neg {x : T3} {c : Int} : cmpT x c < 0 ↔ x.2.1 < c := by
  unfold cmpT
  split
  · simp [*]
  · split <;> simp [*]
theorem cmpT_zero {x : T3} {c : Int} : cmpT x c = 0 ↔ x.1 ≤ c ∧ c ≤ x.2.1 := by
  unfold cmpT
  split
  · simp; omega
  · split <;> simp <;> omega

theorem tab_small (c : Int) (i : Nat) (h0 : i ≤ 7) (h1 : ∀ h, h < i → (tab.getD h zT).2.1 < c) (h2 : ∀ h, i ≤ h → h < 7 → c ≤ (tab.getD h zT).2.1) :
    smallS c = if i < 7 ∧ (tab.getD i zT).1 ≤ c then c + (tab.getD i zT).2.2 else c := by
  have hi : i = 0 ∨ i = 1 ∨ i = 2 ∨ i = 3 ∨ i = 4 ∨ i = 5 ∨ i = 6 ∨ i = 7 := by omega
  unfold smallS
  rcases hi with rfl | rfl | rfl | rfl | rfl | rfl | rfl | rfl
  · have := h2 0 (by omega) (by omega)
    simp only [tab, tabAt, List.getD_cons_zero] at this ⊢
    repeat' split
    all_goals omega
  · have a1 := h1 0 (by omega)
    have a2 := h2 1 (by omega) (by omega)
    simp only [tab, tabAt, List.getD_cons_zero, List.getD_cons_succ] at a1 a2 ⊢
    repeat' split
    all_goals omega
  · have a1 := h1 1 (by omega)
    have a2 := h2 2 (by omega) (by omega)
    simp only [tab, tabAt, List.getD_cons_zero, List.getD_cons_succ] at a1 a2 ⊢
    repeat' split
    all_goals omega
  · have a1 := h1 2 (by omega)
    have a2 := h2 3 (by omega) (by omega)
    simp only [tab, tabAt, List.getD_cons_zero, List.getD_cons_succ] at a1 a2 ⊢
    repeat' split
    all_goals omega
  · have a1 := h1 3 (by omega)
    have a2 := h2 4 (by omega) (by omega)
    simp only [tab, tabAt, List.getD_cons_zero, List.getD_cons_succ] at a1 a2 ⊢
    repeat' split
    all_goals omega
  · have a1 := h1 4 (by omega)
    have a2 := h2 5 (by omega) (by omega)
    simp only [tab, tabAt, List.getD_cons_zero, List.getD_cons_succ] at a1 a2 ⊢
    repeat' split
    all_goals omega
  · have a1 := h1 5 (by omega)
    have a2 := h2 6 (by omega) (by omega)
    simp only [tab, tabAt, List.getD_cons_zero, List.getD_cons_succ] at a1 a2 ⊢
    repeat' split
    all_goals omega
  · have a1 := h1 6 (by omega)
    simp only [tab, tabAt, List.getD_cons_zero, List.getD_cons_succ] at a1 ⊢
    repeat' split
    all_goals omega

theorem tab_up : ∀ a b, a ≤ b → b < tab.length → (tab.getD a zT).2.1 ≤ (tab.getD b zT).2.1 := by
  intro a b h hb
  have hb' : b = 0 ∨ b = 1 ∨ b = 2 ∨ b = 3 ∨ b = 4 ∨ b = 5 ∨ b = 6 := by have : tab.length = 7 := rfl; omega
  have ha' : a = 0 ∨ a = 1 ∨ a = 2 ∨ a = 3 ∨ a = 4 ∨ a = 5 ∨ a = 6 := by omega
  rcases hb' with rfl | rfl | rfl | rfl | rfl | rfl | rfl <;> rcases ha' with rfl | rfl | rfl | rfl | rfl | rfl | rfl <;> first | decide | omega

set_option maxHeartbeats 1000000 in
theorem fold_Small (c : Int) (hc1 : 0 ≤ c) (hc2 : c ≤ 1114111) (w : World) : Calls Tryz.prog 230 #[.int .i64 c] w fun e w' => e = .returned (.int .i64 (smallS c)) ∧ Below w.heap.size w w' := by
  go_enter Tryz.func230, Tryz.ntmps230
  go_wp2_with fail
  refine (fold_Table _).mono ?_
  rintro e w1 ⟨v, rfl, ho, hb⟩
  have HO := Aside0.mk ho.rd
  have HB := Aside0.mk hb
  clear ho hb
  obtain ⟨A, cp, rfl, hl, hc⟩ := HO.out
  have HC := Aside0.mk hc
  clear hc
  go_wp2_with fail
  refine (search_tab tab c _ _ HO.out (by decide) (fun a b h1 h2 h3 => cmpT_neg.2 (Int.lt_of_le_of_lt (tab_up a b h1 h2) (cmpT_neg.1 h3)))).mono ?_
  rintro e w2 ⟨i, hi, hlo, hhi, rfl, hb2⟩
  have HB2 := Aside0.mk (below_then HB.out HB.out.size hb2)
  have HC2 := Aside0.mk (Kd.C_below HC.out hb2)
  have hs := tab_small c i hi (fun h hh => cmpT_neg.1 (hlo h hh)) (fun h h1 h2 => by have : 0 ≤ cmpT (tab.getD h zT) c := hhi h h1 h2; exact Classical.byContradiction fun hn => by have := cmpT_neg.2 (Int.not_le.1 hn); omega)
  have hz : (cmpT (tab.getD i zT) c = 0) = ((tab.getD i zT).1 ≤ c ∧ c ≤ (tab.getD i zT).2.1) := propext cmpT_zero
  have hhi' : i < 7 → c ≤ (tab.getD i zT).2.1 := fun h => by have : 0 ≤ cmpT (tab.getD i zT) c := hhi i (Nat.le_refl _) h; exact Classical.byContradiction fun hn => by have := cmpT_neg.2 (Int.not_le.1 hn); omega
  clear hlo hhi hb2 HB
  by_cases hf : i < 7 ∧ (tab.getD i zT).1 ≤ c
  · rw [if_pos hf] at hs
    obtain ⟨ad, rfl, k0, k1, k2⟩ := C_tab HC2.out i hf.1
    have hb : (decide (i < tab.length) && (cmpT (tab.getD i zT) c == 0)) = true := by
      rw [Bool.and_eq_true, beq_iff_eq, hz]
      exact ⟨decide_eq_true hf.1, hf.2, hhi' hf.1⟩
    rw [hb]
    have HS := Aside0.mk hs
    obtain ⟨d, hd⟩ : ∃ d, d = (tab.getD i zT).2.2 := ⟨_, rfl⟩
    have hd2 : 0 ≤ d ∧ d ≤ 80 := by
      have hi' : i = 0 ∨ i = 1 ∨ i = 2 ∨ i = 3 ∨ i = 4 ∨ i = 5 ∨ i = 6 := by have := hf.1; omega
      rw [hd]
      rcases hi' with rfl | rfl | rfl | rfl | rfl | rfl | rfl <;> decide
    obtain ⟨hd3, hd4⟩ := hd2
    rw [← hd] at k2
    have HD := Aside0.mk hd
    have hi7 : i < 7 := hf.1
    clear hs hz hhi' hf hd hb k0 k1
    go_wp2_with fail
    go_ret
    exact ⟨ret_int (by rw [HS.out, HD.out]), HB2.out⟩
  · rw [if_neg hf] at hs
    have hb : (decide (i < tab.length) && (cmpT (tab.getD i zT) c == 0)) = false := by
      rw [Bool.and_eq_false_iff]
      by_cases h7 : i < 7
      · refine .inr ?_
        rw [beq_eq_false_iff_ne, Ne, hz]
        exact fun h => hf ⟨h7, h.1⟩
      · exact .inl (decide_eq_false h7)
    rw [hb]
    have HS := Aside0.mk hs
    clear hs hz hhi' hf hb
    go_wp2_with fail
    go_ret
    exact ⟨ret_int HS.out.symm, HB2.out⟩

end Go.Proofs.YtbkbpdpegiekhaaGreatDoor
