/- The reference's paths: Compare, Under; begins, Clear. -/
import Derived.Test.YtbkbpdpegiekhaaGreatDoorF6
import Derived.Test.YtbkbpdpegiekhaaGreatDoorR6
set_option linter.unusedVariables false
set_option linter.unusedSimpArgs false
namespace Go.Proofs.YtbkbpdpegiekhaaGreatDoor
open Go.RowKit Go.Proofs.YtbkbpdpegiekhaaGreatDoorW.PrintWords Mo

theorem less_eq (x y : S) : Op.bytesLess x.toList y.toList = decide (cmpS x y < 0) := by rw [Lib.toList_data, Lib.toList_data]; exact bytesLess_iff _ _
theorem same_eq (x y : S) : (x.toList == y.toList) = decide (cmpS x y = 0) := by
  rw [Lib.toList_data, Lib.toList_data, Bool.eq_iff_iff]
  simp only [beq_iff_eq, decide_eq_true_eq]
  exact cmpB_eq.symm
theorem more_eq (x y : S) : Op.bytesLess y.toList x.toList = decide (0 < cmpS x y) := by
  rw [Lib.toList_data, Lib.toList_data]
  refine (bytesLess_iff _ _).trans ?_
  rw [cmpB_neg]
  have : (-cmpB x.data.toList y.data.toList < 0) = (0 < cmpS x y) := propext ⟨fun h => by unfold cmpS bs; omega, fun h => by unfold cmpS bs at h; omega⟩
  simp only [this]

set_option maxHeartbeats 4000000 in
theorem ref_Compare (p q : S) (w : World) (hp : p.size ≤ 1000000000) (hq : q.size ≤ 1000000000) :
    Calls Tryz.prog 92 #[.string p, .string q] w fun e w' => e = .returned (.int .i64 (pCmp p q)) ∧ Below w.heap.size w w' := by
  go_enter Tryz.func92, Tryz.ntmps92
  go_wp2_with fail
  refine (ref_Parts p _ hp).mono ?_
  rintro e1 w1 ⟨v1, rfl, ho1, hb1⟩
  obtain ⟨A1, c1, rfl, l1, hc1⟩ := ho1.rd
  have HB1 := Aside0.mk hb1
  have H1 := Aside0.mk hc1
  have hl1 := pParts_len p
  clear ho1 hb1 hc1
  go_wp2_with fail
  refine (ref_Parts q _ hq).mono ?_
  rintro e2 w2 ⟨v2, rfl, ho2, hb2⟩
  obtain ⟨A2, c2, rfl, l2, hc2⟩ := ho2.rd
  have HB2 := Aside0.mk (below_then HB1.out HB1.out.size hb2)
  have H1' := Aside0.mk (Kd.C_below H1.out hb2)
  have H2 := Aside0.mk hc2
  have hl2 := pParts_len q
  clear ho2 hb2 hc2 H1 HB1
  have HP := Aside0.mk (cmpLS_parts p q)
  obtain ⟨xs, hxs⟩ : ∃ xs, xs = pParts p := ⟨_, rfl⟩
  obtain ⟨ys, hys⟩ : ∃ ys, ys = pParts q := ⟨_, rfl⟩
  rw [← hxs] at hl1 l1 H1' HP ⊢
  rw [← hys] at hl2 l2 H2 HP ⊢
  clear hxs hys
  obtain ⟨n, hn⟩ : ∃ n, n = xs.length := ⟨_, rfl⟩
  obtain ⟨m, hm⟩ : ∃ m, m = ys.length := ⟨_, rfl⟩
  rw [← hn] at hl1 l1 ⊢
  rw [← hm] at hl2 l2 ⊢
  have HN := Aside0.mk hn
  have HM := Aside0.mk hm
  clear hn hm
  go_wp2_with fail
  go_loopw [7] (fun i wr => ∃ k : Nat, k ≤ n ∧ k ≤ m ∧ i = .int .i64 k ∧ Aside0 (cmpLS (xs.drop k) (ys.drop k) = cmpLS xs ys) ∧ Aside0 (Below w.heap.size w wr ∧ Kd.string.C wr A1 xs.length xs ∧ Kd.string.C wr A2 ys.length ys)) (fun i _ => n - (intOf i).toNat)
  case atStart => exact ⟨0, Nat.zero_le _, Nat.zero_le _, rfl, ⟨by simp⟩, ⟨HB2.out, H1'.out, H2.out⟩⟩
  case round =>
    clear H1' H2 HB2
    obtain ⟨k, hk, hkm, rfl, HC, HW⟩ := hrel
    by_cases hlt : k < n
    rotate_left
    · obtain rfl : k = n := by omega
      have he := cmpLS_end xs ys k HN.out (by rw [← HM.out]; exact hkm)
      rw [HC.out, ← HN.out, ← HM.out] at he
      have HS := Aside0.mk (show pCmp p q = if k < m then -1 else 0 from HP.out.symm.trans he)
      clear he HC
      have b1 : ¬ (m : Int) < k := by omega
      by_cases hlm : k < m
      · have b2 : (k : Int) < m := by omega
        clear hlt
        go_wp2_with fail
        go_ret
        exact ⟨by rw [HS.out, if_pos hlm]; rfl, HW.out.1⟩
      · have b2 : ¬ (k : Int) < m := by omega
        clear hlt
        go_wp2_with fail
        go_ret
        exact ⟨by rw [HS.out, if_neg hlm]; rfl, HW.out.1⟩
    have hk1 : k < xs.length := by rw [← HN.out]; exact hlt
    by_cases hlt2 : k < m
    rotate_left
    · have he := cmpLS_end1 xs ys k hk1 (by rw [← HM.out]; exact hlt2)
      have HS := Aside0.mk (show pCmp p q = 1 from HP.out.symm.trans (HC.out.symm.trans he))
      have b1 : (m : Int) < n := by omega
      have b2 : ¬ (n : Int) < m := by omega
      have b3 : (k : Int) < n := by omega
      have b4 : ¬ (k : Int) < m := by omega
      clear he HC
      go_wp2_with fail
      go_ret
      exact ⟨by rw [HS.out]; rfl, HW.out.1⟩
    have hk2 : k < ys.length := by rw [← HM.out]; exact hlt2
    obtain ⟨a1, rfl, k1⟩ := C_str HW.out.2.1 k hk1
    obtain ⟨a2, rfl, k2⟩ := C_str HW.out.2.2 k hk2
    have hstep := cmpLS_step xs ys k hk1 hk2
    rw [HC.out, HP.out] at hstep
    obtain ⟨x, hx⟩ : ∃ x, x = xs.getD k ⟨#[]⟩ := ⟨_, rfl⟩
    obtain ⟨y, hy⟩ : ∃ y, y = ys.getD k ⟨#[]⟩ := ⟨_, rfl⟩
    rw [← hx, ← hy] at hstep
    rw [← hx] at k1
    rw [← hy] at k2
    clear hx hy hk1 hk2
    have q1 := less_eq x y
    have q2 := more_eq x y
    have q3 := same_eq x y
    have hr := cmpS_range x y
    have HS := Aside0.mk hstep
    clear hstep
    obtain ⟨c, hc⟩ : ∃ c, c = cmpS x y := ⟨_, rfl⟩
    rw [← hc] at q1 q2 q3 hr HS
    clear hc
    have b1 : (k : Int) < n := by omega
    have b2 : (k : Int) < m := by omega
    have b0 : (0 : Int) ≤ k := by omega
    rcases hr with rfl | rfl | rfl
    · have q1' : Op.bytesLess x.toList y.toList = true := by rw [q1]; rfl
      clear q1 q2 q3 hlt hlt2
      go_wp2_with fail
      go_quiet (fail)
      go_wp2_with fail
      go_ret
      exact ⟨by rw [HS.out, if_neg (by decide)]; rfl, pw_below_drewN HW.out.1 _⟩
    · have q1' : Op.bytesLess x.toList y.toList = false := by rw [q1]; rfl
      have q2' : Op.bytesLess y.toList x.toList = false := by rw [q2]; rfl
      have q3' : (x.toList == y.toList) = true := by rw [q3]; rfl
      have HC2 := Aside0.mk (show cmpLS (xs.drop (k + 1)) (ys.drop (k + 1)) = cmpLS xs ys by rw [HP.out, HS.out, if_pos rfl])
      clear q1 q2 q3 hlt hlt2
      go_wp2_with fail
      go_quiet (fail)
      go_wp2_with fail
      go_quiet (fail)
      go_wp2_with fail
      go_roundw
      case rel => exact ⟨k + 1, by omega, by omega, by go_num, HC2, ⟨by simpa using pw_below_drewN HW.out.1 _, Kd.C_below HW.out.2.1 (by simpa using pw_below_drewN (Below.refl _ _) _), Kd.C_below HW.out.2.2 (by simpa using pw_below_drewN (Below.refl _ _) _)⟩⟩
      case measure => simp [intOf] <;> omega
    · have q1' : Op.bytesLess x.toList y.toList = false := by rw [q1]; rfl
      have q2' : Op.bytesLess y.toList x.toList = true := by rw [q2]; rfl
      have q3' : (x.toList == y.toList) = false := by rw [q3]; rfl
      clear q1 q2 q3 hlt hlt2
      go_wp2_with fail
      go_quiet (fail)
      go_wp2_with fail
      go_quiet (fail)
      go_wp2_with fail
      go_ret
      exact ⟨by rw [HS.out, if_neg (by decide)]; rfl, by simpa using pw_below_drewN HW.out.1 _⟩

theorem cmpL_take {a b : List Mo.B} : (∃ c, c ≠ [] ∧ a = b ++ c) ↔ (b.length < a.length ∧ a.take b.length = b) := by
  constructor
  · rintro ⟨c, hc, rfl⟩
    have := List.length_pos_iff.2 hc
    exact ⟨by rw [List.length_append]; omega, by simp⟩
  · rintro ⟨h1, h2⟩
    refine ⟨a.drop b.length, ?_, ?_⟩
    · intro e
      have := congrArg List.length e
      simp at this
      omega
    · conv => lhs; rw [← List.take_append_drop b.length a]
      rw [h2]
theorem map_inj {xs ys : List S} (h : xs.map bs = ys.map bs) : xs = ys := by
  have := congrArg (List.map Mo.mk) h
  rw [List.map_map, List.map_map] at this
  have e : (Mo.mk ∘ bs : S → S) = id := by funext x; exact mk_bs x
  rwa [e, List.map_id, List.map_id] at this
theorem pParts_bs (s : S) : (pParts s).map bs = parts (bs s) := by
  unfold pParts
  rw [List.map_map]
  have e : (bs ∘ Mo.mk : Mo.B → Mo.B) = id := by funext x; exact bs_mk x
  rw [e, List.map_id]
theorem under_parts (p d : S) : pUnder p d = true ↔ ((pParts d).length < (pParts p).length ∧ (pParts p).take (pParts d).length = pParts d) := by
  unfold pUnder
  rw [under_iff]
  unfold underL
  rw [cmpL_take, ← pParts_bs, ← pParts_bs, List.length_map, List.length_map, ← List.map_take]
  exact and_congr_right fun _ => ⟨map_inj, fun h => by rw [h]⟩

set_option maxHeartbeats 4000000 in
theorem ref_Under (p d : S) (w : World) (hp : p.size ≤ 1000000000) (hd : d.size ≤ 1000000000) :
    Calls Tryz.prog 55 #[.string p, .string d] w fun e w' => e = .returned (.bool (pUnder p d)) ∧ Below w.heap.size w w' := by
  go_enter Tryz.func55, Tryz.ntmps55
  go_wp2_with fail
  refine (ref_Parts p _ hp).mono ?_
  rintro e1 w1 ⟨v1, rfl, ho1, hb1⟩
  obtain ⟨A1, c1, rfl, l1, hc1⟩ := ho1.rd
  have HB1 := Aside0.mk hb1
  have H1 := Aside0.mk hc1
  have hl1 := pParts_len p
  clear ho1 hb1 hc1
  go_wp2_with fail
  refine (ref_Parts d _ hd).mono ?_
  rintro e2 w2 ⟨v2, rfl, ho2, hb2⟩
  obtain ⟨A2, c2, rfl, l2, hc2⟩ := ho2.rd
  have HB2 := Aside0.mk (below_then HB1.out HB1.out.size hb2)
  have H1' := Aside0.mk (Kd.C_below H1.out hb2)
  have H2 := Aside0.mk hc2
  have hl2 := pParts_len d
  clear ho2 hb2 hc2 H1 HB1
  have HP := Aside0.mk (under_parts p d)
  obtain ⟨xs, hxs⟩ : ∃ xs, xs = pParts p := ⟨_, rfl⟩
  obtain ⟨ys, hys⟩ : ∃ ys, ys = pParts d := ⟨_, rfl⟩
  rw [← hxs] at hl1 l1 H1' HP ⊢
  rw [← hys] at hl2 l2 H2 HP ⊢
  clear hxs hys
  obtain ⟨n, hn⟩ : ∃ n, n = xs.length := ⟨_, rfl⟩
  obtain ⟨m, hm⟩ : ∃ m, m = ys.length := ⟨_, rfl⟩
  rw [← hn] at hl1 l1 ⊢
  rw [← hm] at hl2 l2 ⊢
  have HN := Aside0.mk hn
  have HM := Aside0.mk hm
  clear hn hm
  by_cases hnm : n ≤ m
  · have HR := Aside0.mk (show pUnder p d = false from Bool.eq_false_iff.2 (fun h => by have := (HP.out.1 h).1; rw [← HN.out, ← HM.out] at this; omega))
    have b1 : (n : Int) ≤ m := by omega
    clear HP hnm
    go_wp2_with fail
    go_ret
    exact ⟨by rw [HR.out]; rfl, HB2.out⟩
  have b1 : ¬ (n : Int) ≤ m := by omega
  go_wp2_with fail
  go_loopw [7] (fun i wr => ∃ k : Nat, k ≤ m ∧ i = .int .i64 k ∧ Aside0 (xs.take k = ys.take k) ∧ Aside0 (Below w.heap.size w wr ∧ Kd.string.C wr A1 xs.length xs ∧ Kd.string.C wr A2 ys.length ys)) (fun i _ => m - (intOf i).toNat)
  case atStart => exact ⟨0, Nat.zero_le _, rfl, ⟨by simp⟩, ⟨HB2.out, H1'.out, H2.out⟩⟩
  case round =>
    clear H1' H2 HB2
    obtain ⟨k, hk, rfl, HC, HW⟩ := hrel
    by_cases hlt : k < m
    rotate_left
    · obtain rfl : k = m := by omega
      have HR := Aside0.mk (show pUnder p d = true from HP.out.2 ⟨by rw [← HN.out, ← HM.out]; omega, by
        have := HC.out
        rw [HM.out] at this
        rw [this, List.take_length]⟩)
      clear HP HC hlt
      go_wp2_with fail
      go_ret
      exact ⟨by rw [HR.out]; rfl, HW.out.1⟩
    have hk1 : k < xs.length := by rw [← HN.out]; omega
    have hk2 : k < ys.length := by rw [← HM.out]; exact hlt
    obtain ⟨a1, rfl, k1⟩ := C_str HW.out.2.1 k hk1
    obtain ⟨a2, rfl, k2⟩ := C_str HW.out.2.2 k hk2
    rw [getD_get hk1] at k1
    rw [getD_get hk2] at k2
    have HT := Aside0.mk (take_eq_step hk1 hk2 HC.out)
    have HF := Aside0.mk (show xs[k] ≠ ys[k] → pUnder p d = false from fun h => Bool.eq_false_iff.2 (fun e => h (by
      have h1 := (HP.out.1 e).2
      have h2 := congrArg (fun l => l[k]?) h1
      simp only [List.getElem?_take, List.getElem?_eq_getElem hk1, List.getElem?_eq_getElem hk2, if_pos hk2] at h2
      exact Option.some.inj h2)))
    obtain ⟨x, hx⟩ : ∃ x, x = xs[k] := ⟨_, rfl⟩
    obtain ⟨y, hy⟩ : ∃ y, y = ys[k] := ⟨_, rfl⟩
    rw [← hx, ← hy] at HT HF
    rw [← hx] at k1
    rw [← hy] at k2
    clear hx hy hk1 hk2
    have b1 : (k : Int) < n := by omega
    have b2 : (k : Int) < m := by omega
    have b0 : (0 : Int) ≤ k := by omega
    by_cases he : x = y
    · have hb : (x.toList == y.toList) = true := by rw [str_eqb]; exact decide_eq_true he
      have HT2 := Aside0.mk (HT.out he)
      clear HT HF he
      go_wp2_with fail
      go_quiet (fail)
      go_wp2_with fail
      go_roundw
      case rel => exact ⟨k + 1, by omega, by go_num, HT2, ⟨pw_below_drewN HW.out.1 _, Kd.C_below HW.out.2.1 (pw_below_drewN (Below.refl _ _) _), Kd.C_below HW.out.2.2 (pw_below_drewN (Below.refl _ _) _)⟩⟩
      case measure => simp [intOf] <;> omega
    · have hb : (x.toList == y.toList) = false := by rw [str_eqb]; exact decide_eq_false he
      have HR := Aside0.mk (HF.out he)
      clear HT HF he
      go_wp2_with fail
      go_quiet (fail)
      go_wp2_with fail
      go_ret
      exact ⟨by rw [HR.out]; rfl, pw_below_drewN HW.out.1 _⟩

theorem begins_ext (s : S) (h : 4 ≤ s.size) : ((s.extract 0 4).toList == [46, 119, 104, 46]) = begins s := by
  unfold begins Lib.hasPrefix
  rw [Lib.toList_data, Bool.eq_iff_iff, beq_iff_eq, List.isPrefixOf_iff_prefix]
  have e : (s.extract 0 4).data.toList = s.data.toList.take 4 := by
    have := bs_extract s 0 4
    unfold bs at this
    rw [this, List.drop_zero]
  rw [e, List.prefix_iff_eq_take]
  exact ⟨fun h => h.symm, fun h => h.symm⟩
theorem begins_short (s : S) (h : s.size < 4) : begins s = false := by
  unfold begins Lib.hasPrefix
  rw [Bool.eq_false_iff]
  intro h'
  rw [List.isPrefixOf_iff_prefix] at h'
  have := h'.length_le
  have := bs_size s
  unfold bs at this
  simp at *
  omega
set_option maxHeartbeats 1000000 in
theorem ref_begins (s : S) (w : World) (hs : s.size ≤ 1000000000000) : Calls Tryz.prog 156 #[.string s] w fun e w' => e = .returned (.bool (begins s)) ∧ w = w' := by
  by_cases h : 4 ≤ s.size
  · have hb := begins_ext s h
    have h1 : (4 : Int) ≤ s.size := by omega
    obtain ⟨c, hc⟩ : ∃ c, c = begins s := ⟨_, rfl⟩
    rw [← hc] at hb ⊢
    clear hc
    cases c
    all_goals
      go_enter Tryz.func156, Tryz.ntmps156
      go_wp2_with fail
      go_ret
      exact ⟨rfl, rfl⟩
  · have HB := Aside0.mk (begins_short s (by omega))
    have h1 : ¬ (4 : Int) ≤ s.size := by omega
    go_enter Tryz.func156, Tryz.ntmps156
    go_wp2_with fail
    go_ret
    exact ⟨by rw [HB.out]; rfl, rfl⟩

set_option maxHeartbeats 4000000 in
theorem ref_Clear (s : S) (w : World) (hs : s.size ≤ 1000000000) :
    Calls Tryz.prog 91 #[.string s] w fun e w' => e = .returned (.bool (!(pParts s).any begins)) ∧ Below w.heap.size w w' := by
  go_enter Tryz.func91, Tryz.ntmps91
  go_wp2_with fail
  refine (ref_Parts s _ hs).mono ?_
  rintro e1 w1 ⟨v1, rfl, ho1, hb1⟩
  obtain ⟨A1, c1, rfl, l1, hc1⟩ := ho1.rd
  have HB1 := Aside0.mk hb1
  have H1 := Aside0.mk hc1
  have hl1 := pParts_len s
  have HS := Aside0.mk (pParts_size s)
  clear ho1 hb1 hc1
  obtain ⟨xs, hxs⟩ : ∃ xs, xs = pParts s := ⟨_, rfl⟩
  rw [← hxs] at hl1 l1 H1 HS ⊢
  have HXS := Aside0.mk hxs
  clear hxs
  obtain ⟨n, hn⟩ : ∃ n, n = xs.length := ⟨_, rfl⟩
  rw [← hn] at hl1 l1 ⊢
  have HN := Aside0.mk hn
  clear hn
  go_wp2_with fail
  go_loop [4] (fun i => ∃ k : Nat, k ≤ n ∧ i = .int .i64 k ∧ Aside0 ((xs.take k).any begins = false)) (fun i => n - (intOf i).toNat)
  case atStart => exact ⟨0, Nat.zero_le _, rfl, ⟨by simp⟩⟩
  case round =>
    obtain ⟨k, hk, rfl, HC⟩ := hrel
    by_cases hlt : k < n
    rotate_left
    · obtain rfl : k = n := by omega
      have HR := Aside0.mk (show (!xs.any begins) = true by
        have := HC.out
        rw [List.take_of_length_le (by rw [← HN.out]; exact Nat.le_refl _)] at this
        rw [this]; rfl)
      clear HC hlt
      go_wp2_with fail
      go_ret
      exact ⟨by rw [← HXS.out, HR.out]; rfl, HB1.out⟩
    have hk1 : k < xs.length := by rw [← HN.out]; exact hlt
    obtain ⟨a1, rfl, k1⟩ := C_str H1.out k hk1
    rw [getD_get hk1] at k1
    have hsz := HS.out _ (List.getElem_mem hk1)
    have HT := Aside0.mk (List.take_succ_eq_append_getElem hk1)
    have HF := Aside0.mk (show begins xs[k] = true → (!xs.any begins) = false from fun h => by rw [List.any_eq_true.2 ⟨_, List.getElem_mem hk1, h⟩]; rfl)
    obtain ⟨x, hx⟩ : ∃ x, x = xs[k] := ⟨_, rfl⟩
    rw [← hx] at HT HF hsz k1
    clear hx hk1
    have b2 : (k : Int) < n := by omega
    have b0 : (0 : Int) ≤ k := by omega
    go_wp2_with fail
    refine (ref_begins x _ (by omega)).mono ?_
    rintro e2 w2 ⟨rfl, rfl⟩
    cases hb : begins x
    · have HC2 := Aside0.mk (show (xs.take (k + 1)).any begins = false by
        rw [HT.out, List.any_append, HC.out]
        simp [hb])
      clear hb HC HT HF
      go_wp2_with fail
      go_round
      case rel => exact ⟨k + 1, by omega, by go_num, HC2⟩
      case measure => simp [intOf] <;> omega
    · have HR := Aside0.mk (HF.out hb)
      clear hb HC HT HF
      go_wp2_with fail
      go_ret
      exact ⟨by rw [← HXS.out, HR.out]; rfl, HB1.out⟩

end Go.Proofs.YtbkbpdpegiekhaaGreatDoor
