/- slices.Grow, slices.Concat at texts; squash: kept, ordered. -/
import Derived.Test.YtbkbpdpegiekhaaGreatDoorR20
import Derived.Test.YtbkbpdpegiekhaaGreatDoorShelfB
set_option linter.unusedVariables false
set_option linter.unusedSimpArgs false
namespace Go.Proofs.YtbkbpdpegiekhaaGreatDoor
open Go.RowKit Go.Proofs.YtbkbpdpegiekhaaGreatDoorW.PrintWords Mo

theorem grow_nil (n : Nat) (w : World) (hn : n ≤ 1000000000000) :
    Calls Tryz.prog 152 #[.slice none 0 0, .int .i64 n] w fun e w' => ∃ v, e = .returned v ∧ Ow Kd.string 9 w' w.heap.size v [] ∧ Below w.heap.size w w' := by
  by_cases h0 : n = 0
  · subst h0
    refine (Any8.slices_Grow_room Tryz.growS none 0 0 0 w (Nat.le_refl _) (by omega) (by omega) (by omega)).mono ?_
    rintro e w' ⟨rfl, rfl⟩
    exact ⟨_, rfl, Ow.nil _ _ _ _, Below.refl _ _⟩
  · obtain ⟨i0, hi, hz0, hz1, hz2⟩ := info_parts info9
    refine (Any8.slices_Grow_grow Tryz.growS i0 (.string ⟨#[]⟩) hi hz0 (by omega) none 0 0 n [] w (Nat.le_refl _) (by omega) (by rw [hz2]; omega) (by omega) (by simp) (fun _ => rfl) (fun a h => by cases h)).mono ?_
    rintro e w' ⟨rfl, rfl⟩
    refine ⟨_, rfl, ?_, (((Grew.refl w).drew).alloc _).below⟩
    have h1 := grownCap_ge w (0 + n) 0 (Tryz.growS_ren.t 25)
    have h2 := grownCap_le_maxLen w (0 + n) 0 (Tryz.growS_ren.t 25) (by unfold maxLen; omega)
    rw [ow_str]
    refine ⟨rfl, .inr ⟨w.heap.size, _, _, rfl, Nat.le_refl _, heap_alloc_new _ _, Nat.zero_le _, h2, ?_, by simp⟩⟩
    rw [Array.size_append, Array.size_append, size_zeroCells, size_zeroCells]
    simp [Value.cells]
    rw [Nat.zero_add] at h1
    omega

theorem flatten_drop (xss : List (List S)) (k : Nat) (h : k < xss.length) : (xss.drop k).flatten = xss.getD k [] ++ (xss.drop (k + 1)).flatten := by
  rw [List.drop_eq_getElem_cons h, List.flatten_cons, List.getD_eq_getElem?_getD, List.getElem?_eq_getElem h]; rfl

set_option maxHeartbeats 2000000 in
/-- slices.Concat at texts. -/
theorem concat_strs (vs : List Value) (xss : List (List S)) (h : Nat) (w : World) (hcell : ∀ i, i < xss.length → w.cell? ⟨h, i, none⟩ = some (vs.getD i (.slice none 0 0)))
    (hr : ∀ i, i < xss.length → Rd Kd.string w (vs.getD i (.slice none 0 0)) (xss.getD i [])) (hl : xss.flatten.length ≤ 1000000000000) (hn : xss.length ≤ 1000) :
    Calls Tryz.prog 86 #[.slice (some ⟨h, 0, none⟩) xss.length xss.length] w fun e w' => ∃ v, e = .returned v ∧ Ow Kd.string 9 w' w.heap.size v xss.flatten ∧ Below w.heap.size w w' := by
  have HC := Aside0.mk hcell
  have HR := Aside0.mk hr
  clear hcell hr
  obtain ⟨n, hn0⟩ : ∃ n, n = xss.length := ⟨_, rfl⟩
  obtain ⟨tot, ht0⟩ : ∃ tot, tot = xss.flatten.length := ⟨_, rfl⟩
  rw [← hn0] at hn HC HR ⊢
  rw [← ht0] at hl
  have HN := Aside0.mk hn0
  have HT := Aside0.mk ht0
  clear hn0 ht0
  go_enter Tryz.func86, Tryz.ntmps86
  go_wp2_with fail
  go_loop [3, 11] (fun sz i => ∃ (k s : Nat), k ≤ n ∧ i = .int .i64 k ∧ sz = .int .i64 s ∧ s ≤ tot ∧ Aside0 (s + (xss.drop k).flatten.length = tot)) (fun sz i => n - (intOf i).toNat)
  case atStart => exact ⟨0, 0, Nat.zero_le _, rfl, rfl, Nat.zero_le _, ⟨by rw [HT.out]; simp⟩⟩
  case round =>
    obtain ⟨k, s, hk, rfl, rfl, hs, HS⟩ := hrel
    by_cases hlt : k < n
    · have hcl := HC.out k hlt
      obtain ⟨A, c, e, _⟩ := HR.out k hlt
      rw [e] at hcl
      have hst := HS.out
      rw [flatten_drop xss k (by rw [← HN.out]; exact hlt), List.length_append] at hst
      obtain ⟨m, hm⟩ : ∃ m, m = (xss.getD k []).length := ⟨_, rfl⟩
      rw [← hm] at hst hcl
      have HS2 := Aside0.mk (show (s + m) + (xss.drop (k + 1)).flatten.length = tot by omega)
      have hsm : s + m ≤ tot := by omega
      clear hst hm e
      go_wp2_with fail
      go_round
      case rel => exact ⟨k + 1, s + m, by omega, by go_num, by go_num, hsm, HS2⟩
      case measure => simp [intOf]; omega
    obtain rfl : n = k := by omega
    have HSt := Aside0.mk (show s = tot by
      have := HS.out
      rw [List.drop_of_length_le (by rw [← HN.out]; exact Nat.le_refl _)] at this
      simpa using this)
    clear hlt hk HS
    go_wp2_with fail
    refine (grow_nil s _ (by omega)).mono ?_
    rintro e w1 ⟨v1, rfl, ho1, hb1⟩
    have HO1 := Aside0.mk ho1
    have HB1 := Aside0.mk hb1
    clear ho1 hb1
    go_wp2_with fail
    go_loopw [6, 27] (fun v i wr => ∃ (k : Nat) (done : List S), k ≤ n ∧ i = .int .i64 k ∧ Aside0 (done ++ (xss.drop k).flatten = xss.flatten) ∧ Aside0 (Ow Kd.string 9 wr w.heap.size v done) ∧ Aside0 (Below w.heap.size w wr)) (fun v i _ => n - (intOf i).toNat)
    case atStart => exact ⟨0, [], Nat.zero_le _, rfl, ⟨rfl⟩, HO1, HB1⟩
    case round =>
      clear HO1 HB1
      obtain ⟨k, done, hk, rfl, HD, HO, HB⟩ := hrel
      by_cases hlt : k < n
      · have hcl := pw_cell_below HB.out (HC.out k hlt)
        obtain ⟨A, c, e, hcc, hC⟩ := (HR.out k hlt).below HB.out
        rw [e] at hcl
        have HCk := Aside0.mk hC
        have HD2 := Aside0.mk (show (done ++ xss.getD k []) ++ (xss.drop (k + 1)).flatten = xss.flatten by
          rw [List.append_assoc, ← flatten_drop xss k (by rw [← HN.out]; exact hlt)]; exact HD.out)
        have hlen : done.length + (xss.getD k []).length ≤ 1000000000000 := by
          have h1 := congrArg List.length HD2.out
          rw [List.length_append, List.length_append, ← HT.out] at h1
          omega
        obtain ⟨ys, hys⟩ : ∃ ys, ys = xss.getD k [] := ⟨_, rfl⟩
        rw [← hys] at hcl HCk HD2 hlen
        have hsz := HB.out.size
        obtain ⟨A1, n1, c1, rfl⟩ := HO.out.sl
        clear e hC hcc hys HD
        go_wp2_with (at_builtin; refine Ow.app Kd.string flat_string _ w.heap.size rfl _ _ 23 9 _ 16 rfl Tryz.underlying23 info9 rfl (by decide) _ done ys rfl A c rfl ?hC ?hO ?hB ?hL ?_; (case hC => exact HCk.out); (case hO => exact HO.out); (case hB => exact hsz); (case hL => omega); intro v1' w2 ho hgg hat; have HB2 := Aside0.mk (Below.grown HB.out hgg hsz HO.out.base_le); have HO2 := Aside0.mk ho; clear ho hgg hat)
        go_roundw
        case rel => exact ⟨k + 1, done ++ ys, by omega, by go_num, HD2, HO2, HB2⟩
        case measure => simp [intOf]; omega
      obtain rfl : n = k := by omega
      have HDt := Aside0.mk (show done = xss.flatten by
        have := HD.out
        rw [List.drop_of_length_le (by rw [← HN.out]; exact Nat.le_refl _)] at this
        simpa using this)
      clear hlt hk HD
      go_wp2_with fail
      go_ret
      exact ⟨_, rfl, by rw [← HDt.out]; exact HO.out, HB.out⟩


set_option maxHeartbeats 2000000 in
theorem kept_white (y : Ly) (g : Nat) (xs : List S) (v : Value) (w : World) (hs : Sec w g y) (hy : Lb y) (hv : Rd Kd.string w v xs) (hsz : xs.length ≤ 1000000000) :
    Calls Tryz.prog 87 #[v, .func (.func 88) #[.pointer (some ⟨g, 0, none⟩)] #[]] w fun e w' => ∃ v', e = .returned v' ∧ Ow Kd.string 9 w' w.heap.size v' (xs.filter (whiteB y)) ∧ Below w.heap.size w w' := by
  have HSe := Aside0.mk hs
  have HY := Aside0.mk hy
  have HV := Aside0.mk hv
  obtain ⟨A, c, rfl, hl, hc⟩ := hv
  have HC := Aside0.mk hc
  clear hs hy hc
  obtain ⟨n, hn0⟩ : ∃ n, n = xs.length := ⟨_, rfl⟩
  rw [← hn0] at hl hsz HV ⊢
  have HN := Aside0.mk hn0
  clear hn0
  go_enter Tryz.func87, Tryz.ntmps87
  go_wp2_with fail
  go_loopw [5, 10] (fun v i wr => ∃ (k : Nat) (done : List S), k ≤ n ∧ i = .int .i64 k ∧ Aside0 (done ++ (xs.drop k).filter (whiteB y) = xs.filter (whiteB y)) ∧ done.length ≤ k ∧ Aside0 (Ow Kd.string 9 wr w.heap.size v done) ∧ Aside0 (Below w.heap.size w wr)) (fun v i _ => n - (intOf i).toNat)
  case atStart => exact ⟨0, [], Nat.zero_le _, rfl, ⟨rfl⟩, Nat.zero_le _, ⟨Ow.nil _ _ _ _⟩, ⟨Below.refl _ _⟩⟩
  case round =>
    obtain ⟨k, done, hk, rfl, HD, hdl, HO, HB⟩ := hrel
    by_cases hlt : k < n
    · have hk2 : k < xs.length := by rw [← HN.out]; exact hlt
      obtain ⟨ad, rfl, k0⟩ := C_str (Kd.C_below HC.out HB.out) k hk2
      have HDr := Aside0.mk (drop_str xs k hk2)
      obtain ⟨x, hx0⟩ : ∃ x, x = xs.getD k ⟨#[]⟩ := ⟨_, rfl⟩
      rw [← hx0] at HDr k0
      clear hx0 hk2
      obtain ⟨A1, n1, c1, rfl⟩ := HO.out.sl
      have hb0 := HB.out.size
      go_wp2_with fail
      refine (sec_white y g x _ (HSe.out.below HB.out) HY.out).mono ?_
      rintro e w1 ⟨rfl, hb1⟩
      have HB1 := Aside0.mk (below_then HB.out hb0 hb1)
      have HO1 := Aside0.mk (HO.out.below flat_string hb1)
      have hsz1 := HB1.out.size
      clear hb1 k0 HB HO
      have hst : (x :: xs.drop (k + 1)).filter (whiteB y) = if whiteB y x = true then x :: (xs.drop (k + 1)).filter (whiteB y) else (xs.drop (k + 1)).filter (whiteB y) := List.filter_cons
      cases hm : whiteB y x
      · rw [hm, if_neg (by decide)] at hst
        have HS := Aside0.mk (show done ++ (xs.drop (k + 1)).filter (whiteB y) = xs.filter (whiteB y) by rw [← HD.out, HDr.out, hst])
        clear hst hm
        go_wp2_with fail
        go_roundw
        case rel => exact ⟨k + 1, done, by omega, by go_num, HS, by omega, HO1, HB1⟩
        case measure => simp [intOf]; omega
      · rw [hm, if_pos rfl] at hst
        have HS := Aside0.mk (show (done ++ [x]) ++ (xs.drop (k + 1)).filter (whiteB y) = xs.filter (whiteB y) by rw [← HD.out, HDr.out, hst, List.append_assoc]; rfl)
        clear hst hm
        go_wp2_with (at_builtin; refine Ow.app Kd.string flat_string _ w.heap.size rfl _ _ 23 9 _ 16 rfl Tryz.underlying23 info9 rfl (by decide) _ done [x] rfl (some ⟨w1.heap.size, 0, none⟩) 1 rfl ?hC ?hO ?hB ?hL ?_; (case hC => exact C_lit flat_string _ 9 x _ rfl _ rfl); (case hO => exact HO1.out.below flat_string (below_alloc (Below.refl _ _) _)); (case hB => simp; omega); (case hL => simp; omega); intro v1' w2 ho hgg hat; have HB2 := Aside0.mk (Below.grown (HB1.out.alloc hsz1 _) hgg (by simp; omega) HO1.out.base_le); have HO2 := Aside0.mk ho; clear ho hgg hat)
        go_roundw
        case rel => exact ⟨k + 1, done ++ [x], by omega, by go_num, HS, by simp; omega, HO2, HB2⟩
        case measure => simp [intOf]; omega
    obtain rfl : n = k := by omega
    have HDt := Aside0.mk (show done = xs.filter (whiteB y) by
      have := HD.out
      rw [List.drop_of_length_le (by rw [← HN.out]; exact Nat.le_refl _)] at this
      simpa using this)
    clear hlt hk HD
    go_wp2_with fail
    go_ret
    exact ⟨_, rfl, by rw [← HDt.out]; exact HO.out, HB.out⟩

set_option maxHeartbeats 2000000 in
theorem kept_opaque (y : Ly) (g : Nat) (xs : List S) (v : Value) (w : World) (hs : Sec w g y) (hy : Lb y) (hv : Rd Kd.string w v xs) (hsz : xs.length ≤ 1000000000) :
    Calls Tryz.prog 87 #[v, .func (.func 89) #[.pointer (some ⟨g, 0, none⟩)] #[]] w fun e w' => ∃ v', e = .returned v' ∧ Ow Kd.string 9 w' w.heap.size v' (xs.filter (opaqueB y)) ∧ Below w.heap.size w w' := by
  have HSe := Aside0.mk hs
  have HY := Aside0.mk hy
  have HV := Aside0.mk hv
  obtain ⟨A, c, rfl, hl, hc⟩ := hv
  have HC := Aside0.mk hc
  clear hs hy hc
  obtain ⟨n, hn0⟩ : ∃ n, n = xs.length := ⟨_, rfl⟩
  rw [← hn0] at hl hsz HV ⊢
  have HN := Aside0.mk hn0
  clear hn0
  go_enter Tryz.func87, Tryz.ntmps87
  go_wp2_with fail
  go_loopw [5, 10] (fun v i wr => ∃ (k : Nat) (done : List S), k ≤ n ∧ i = .int .i64 k ∧ Aside0 (done ++ (xs.drop k).filter (opaqueB y) = xs.filter (opaqueB y)) ∧ done.length ≤ k ∧ Aside0 (Ow Kd.string 9 wr w.heap.size v done) ∧ Aside0 (Below w.heap.size w wr)) (fun v i _ => n - (intOf i).toNat)
  case atStart => exact ⟨0, [], Nat.zero_le _, rfl, ⟨rfl⟩, Nat.zero_le _, ⟨Ow.nil _ _ _ _⟩, ⟨Below.refl _ _⟩⟩
  case round =>
    obtain ⟨k, done, hk, rfl, HD, hdl, HO, HB⟩ := hrel
    by_cases hlt : k < n
    · have hk2 : k < xs.length := by rw [← HN.out]; exact hlt
      obtain ⟨ad, rfl, k0⟩ := C_str (Kd.C_below HC.out HB.out) k hk2
      have HDr := Aside0.mk (drop_str xs k hk2)
      obtain ⟨x, hx0⟩ : ∃ x, x = xs.getD k ⟨#[]⟩ := ⟨_, rfl⟩
      rw [← hx0] at HDr k0
      clear hx0 hk2
      obtain ⟨A1, n1, c1, rfl⟩ := HO.out.sl
      have hb0 := HB.out.size
      go_wp2_with fail
      refine (sec_opaque y g x _ (HSe.out.below HB.out) HY.out).mono ?_
      rintro e w1 ⟨rfl, hb1⟩
      have HB1 := Aside0.mk (below_then HB.out hb0 hb1)
      have HO1 := Aside0.mk (HO.out.below flat_string hb1)
      have hsz1 := HB1.out.size
      clear hb1 k0 HB HO
      have hst : (x :: xs.drop (k + 1)).filter (opaqueB y) = if opaqueB y x = true then x :: (xs.drop (k + 1)).filter (opaqueB y) else (xs.drop (k + 1)).filter (opaqueB y) := List.filter_cons
      cases hm : opaqueB y x
      · rw [hm, if_neg (by decide)] at hst
        have HS := Aside0.mk (show done ++ (xs.drop (k + 1)).filter (opaqueB y) = xs.filter (opaqueB y) by rw [← HD.out, HDr.out, hst])
        clear hst hm
        go_wp2_with fail
        go_roundw
        case rel => exact ⟨k + 1, done, by omega, by go_num, HS, by omega, HO1, HB1⟩
        case measure => simp [intOf]; omega
      · rw [hm, if_pos rfl] at hst
        have HS := Aside0.mk (show (done ++ [x]) ++ (xs.drop (k + 1)).filter (opaqueB y) = xs.filter (opaqueB y) by rw [← HD.out, HDr.out, hst, List.append_assoc]; rfl)
        clear hst hm
        go_wp2_with (at_builtin; refine Ow.app Kd.string flat_string _ w.heap.size rfl _ _ 23 9 _ 16 rfl Tryz.underlying23 info9 rfl (by decide) _ done [x] rfl (some ⟨w1.heap.size, 0, none⟩) 1 rfl ?hC ?hO ?hB ?hL ?_; (case hC => exact C_lit flat_string _ 9 x _ rfl _ rfl); (case hO => exact HO1.out.below flat_string (below_alloc (Below.refl _ _) _)); (case hB => simp; omega); (case hL => simp; omega); intro v1' w2 ho hgg hat; have HB2 := Aside0.mk (Below.grown (HB1.out.alloc hsz1 _) hgg (by simp; omega) HO1.out.base_le); have HO2 := Aside0.mk ho; clear ho hgg hat)
        go_roundw
        case rel => exact ⟨k + 1, done ++ [x], by omega, by go_num, HS, by simp; omega, HO2, HB2⟩
        case measure => simp [intOf]; omega
    obtain rfl : n = k := by omega
    have HDt := Aside0.mk (show done = xs.filter (opaqueB y) by
      have := HD.out
      rw [List.drop_of_length_le (by rw [← HN.out]; exact Nat.le_refl _)] at this
      simpa using this)
    clear hlt hk HD
    go_wp2_with fail
    go_ret
    exact ⟨_, rfl, by rw [← HDt.out]; exact HO.out, HB.out⟩

/-- squash.ordered at a row of the call's own. -/
theorem ordered_strs (xs : List S) (v : Value) (base : Nat) (w : World) (hE : Env w) (hb : 2 < base) (ho : Ow Kd.string 9 w base v xs) (hx : ∀ s ∈ xs, s.size < 4294967281) (hsz : xs.length ≤ 1000000000000) :
    Calls Tryz.prog 85 #[v] w fun e w' => ∃ v', e = .returned v' ∧ Ow Kd.string 9 w' base v' (compS (sortS xs)) ∧ Below base w w' ∧ w.grownBy w' v.ownBlock := by
  have HE := Aside0.mk hE
  have HO := Aside0.mk ho
  have HX := Aside0.mk hx
  clear hE ho hx
  go_enter Tryz.func85, Tryz.ntmps85
  go_wp2_with fail
  refine (sort_strs_g xs v base _ HE.out hb HO.out HX.out hsz).mono ?_
  rintro e1 w1 ⟨rfl, ho1, hb1, hg1⟩
  have HB1 := Aside0.mk hb1
  have HG1 := Aside0.mk hg1
  have HO1 := Aside0.mk ho1
  clear ho1 hb1 hg1
  go_wp2_with fail
  refine (compact_strs_g (sortS xs) _ base _ HO1.out (by rw [sortS_len]; exact hsz)).mono ?_
  rintro e2 w2 ⟨v', rfl, ho2, hb2, _, hg2⟩
  have HG2 := Aside0.mk (grown_trans HG1.out hg2)
  have HB2 := Aside0.mk (HB1.out.trans hb2)
  have HO2 := Aside0.mk ho2
  clear ho2 hb2 hg2
  go_wp2_with fail
  go_ret
  exact ⟨_, rfl, HO2.out, HB2.out, HG2.out⟩

end Go.Proofs.YtbkbpdpegiekhaaGreatDoor
