/- The laying statements: what is few; what is small. -/
import Derived.Test.YtbkbpdpegiekhaaGreatDoorA3
import Derived.Test.YtbkbpdpegiekhaaGreatDoorF16
/- apply: Apply. -/
set_option linter.unusedVariables false
set_option linter.unusedSimpArgs false
namespace Go.Proofs.YtbkbpdpegiekhaaGreatDoor
open Go.RowKit Go.Proofs.YtbkbpdpegiekhaaGreatDoorW.PrintWords Mo

theorem Tr.lower {base b : Nat} {w : World} {tb : Nat} {v : Value} {xs : List Nd} (h : Tr base w tb v xs) (hb : b ≤ base) : Tr b w tb v xs := ⟨h.box, h.row.lower hb, Nat.le_trans hb h.lo⟩
/-- Where the nodes come from. -/
theorem made_from {l : Ly} {t r : List Nd} (h : Okl l) (ht : Okt t) (hr : runF l (startF l t) (pathsL l) = some r) : ∀ n ∈ r, n ∈ l.adds ∨ n ∈ t ∨ ∃ q ∈ ensL l, n = dirN q := by
  obtain ⟨h1, h2⟩ := h.result ht hr
  have hst : ∀ q m, atT (startF l t) q = some m → m ∈ t := by
    intro q m hm
    have h3 := (atT_mem hm).1
    rw [start_filter h.whites_ne] at h3
    exact (List.mem_filter.1 h3).1
  intro n hn
  have hv := h2 n.path
  rw [atT_of h1.sorted hn] at hv
  unfold valP at hv
  split at hv
  · rename_i hq
    cases h0 : atT l.adds n.path with
    | some m =>
      rw [h0] at hv
      obtain rfl := Option.some.inj hv
      exact .inl (atT_mem h0).1
    | none =>
      rw [h0] at hv
      have hv := Option.some.inj hv
      have he : n.path ∈ ensL l := by
        rcases mem_pathsL.1 hq with he | ⟨m, hm, he⟩
        · exact he
        · exact absurd he (atT_none.1 h0 m hm)
      unfold ensV at hv
      split at hv
      · rename_i m hm
        split at hv
        · rw [hv]
          exact .inr (.inl (hst _ _ hm))
        · exact .inr (.inr ⟨_, he, hv⟩)
      · exact .inr (.inr ⟨_, he, hv⟩)
  · split at hv
    · cases hv
    · exact .inr (.inl (hst _ _ hv.symm))
/-- The end of it all. -/
def AppE (l : Ly) (t : List Nd) (w : World) (e : Ending) (w' : World) : Prop := ∃ u, e = .returned (.tuple #[u, .int .i64 (applyL l t).2]) ∧ Ow kN 46 w' w.heap.size u (applyL l t).1 ∧ Below w.heap.size w w'
theorem applyL_bad {l : Ly} {t : List Nd} (h : ¬ (checkT t = 0 ∧ checkL l = 0)) : applyL l t = ([], 1) := by unfold applyL; rw [if_neg h]
theorem applyL_none {l : Ly} {t : List Nd} (h : checkT t = 0 ∧ checkL l = 0) (hr : runF l (startF l t) (pathsL l) = none) : applyL l t = ([], 7) := by unfold applyL; rw [if_pos h, hr]; rfl
theorem applyL_big {l : Ly} {t r : List Nd} (h : checkT t = 0 ∧ checkL l = 0) (hr : runF l (startF l t) (pathsL l) = some r) (hb : 4194304 < bytesN r) : applyL l t = ([], 7) := by
  unfold applyL
  rw [if_pos h, hr]
  unfold endF
  simp only
  rw [if_pos hb]
theorem applyL_coll {l : Ly} {t r : List Nd} (h : checkT t = 0 ∧ checkL l = 0) (hr : runF l (startF l t) (pathsL l) = some r) (hb : ¬ 4194304 < bytesN r) (hc : collT r = true) : applyL l t = ([], 6) := by
  unfold applyL
  rw [if_pos h, hr]
  unfold endF
  simp only
  rw [if_neg hb, if_pos hc]
theorem applyL_good {l : Ly} {t r : List Nd} (h : checkT t = 0 ∧ checkL l = 0) (hr : runF l (startF l t) (pathsL l) = some r) (hb : ¬ 4194304 < bytesN r) (hc : collT r = false) : applyL l t = (r, 0) := by
  unfold applyL
  rw [if_pos h, hr]
  unfold endF
  simp only
  rw [if_neg hb, if_neg (by rw [hc]; decide)]

set_option maxRecDepth 100000 in
set_option maxHeartbeats 4000000 in
theorem apply_Apply (l : Ly) (va vw vo : Value) (t : List Nd) (vt : Value) (w : World) (hE : Env w) (hr : RdL w va vw vo l) (hl : Lb l) (hld : ∀ n ∈ l.adds, n.data.size < 1000000000) (hv : Rd kN w vt t) (hx : ∀ n ∈ t, n.path.size < 1000000000 ∧ n.data.size < 1000000000) (hsz : t.length ≤ 1000000) :
    Calls Tryz.prog 53 #[.agg #[va, vw, vo], vt] w (AppE l t w) := by
  have HE := Aside0.mk hE
  have HR := Aside0.mk hr
  have HL := Aside0.mk hl
  have HLd := Aside0.mk hld
  have HX := Aside0.mk hx
  have HSz := Aside0.mk hE.size
  obtain ⟨o, ho⟩ : ∃ o, o = Obj.cells #[va, vw, vo] 25 := ⟨_, rfl⟩
  have HB0 := Aside0.mk ((Grew.refl w).alloc o).below
  have hw0 := heap_alloc_new w o
  have HOf := Aside0.mk (tree_Of t vt (w.alloc o) (hE.below HB0.out) (hv.below HB0.out) hx (by omega))
  have HNil := Aside0.mk fun (W : World) => Ow.nil kN 46 W w.heap.size
  obtain ⟨Aa, na, ca, rfl⟩ : ∃ A n c, va = .slice A n c := by obtain ⟨A, c, h, _⟩ := hr.1; exact ⟨_, _, _, h⟩
  obtain ⟨Aw, nw, cw, rfl⟩ : ∃ A n c, vw = .slice A n c := by obtain ⟨A, c, h, _⟩ := hr.2.1; exact ⟨_, _, _, h⟩
  obtain ⟨Ao, no, co, rfl⟩ : ∃ A n c, vo = .slice A n c := by obtain ⟨A, c, h, _⟩ := hr.2.2; exact ⟨_, _, _, h⟩
  clear hE hr hl hld hv hx
  go_enter Tryz.func53, Tryz.ntmps53
  subst ho
  have HW0 := Aside0.mk hw0
  clear hw0
  go_wp2_with fail
  refine HOf.out.mono ?_
  rintro e1 w1 ⟨hb1, ⟨hne, rfl⟩ | ⟨hz, tb, u1, rfl, ht1⟩⟩
  · have HB1 := Aside0.mk (below_then HB0.out HB0.out.size hb1)
    have HA := Aside0.mk (applyL_bad (l := l) (t := t) (fun h => hne h.1))
    have hneb : (checkT t != 0) = true := by simpa using hne
    clear hb1 hne
    go_wp2_with fail
    go_ret2
    exact ⟨_, by rw [HA.out]; rfl, by rw [HA.out]; exact HNil.out _, HB1.out⟩
  have HB1 := Aside0.mk (below_then HB0.out HB0.out.size hb1)
  have HT1 := Aside0.mk (ht1.lower (b := w.heap.size) (by simp))
  have HY1 := Aside0.mk ((hb1.block w.heap.size (blk_lt HW0.out)).trans HW0.out)
  have HZ := Aside0.mk hz
  clear hb1 ht1 hz HOf
  have b0 := blk_cell HY1.out 0
  have b1 := blk_cell HY1.out 1
  have b2 := blk_cell HY1.out 2
  go_wp2_with fail
  refine (layer_Check l _ _ _ w1 (HE.out.below HB1.out) (HR.out.below HB1.out) HL.out).mono ?_
  rintro e2 w2 ⟨rfl, hb2⟩
  have HB2 := Aside0.mk (below_then HB1.out HB1.out.size hb2)
  have HT2 := Aside0.mk (HT1.out.below hb2)
  have HY2 := Aside0.mk ((hb2.block w.heap.size (blk_lt HY1.out)).trans HY1.out)
  clear hb2 HT1 HY1 b0 b1 b2
  by_cases hlc : checkL l = 0
  · have HC := Aside0.mk (show checkT t = 0 ∧ checkL l = 0 from ⟨HZ.out, hlc⟩)
    rw [hlc]
    clear hlc
    have b0 := blk_cell HY2.out 0
    have b1 := blk_cell HY2.out 1
    have b2 := blk_cell HY2.out 2
    have hT := checkT_zero.1 HC.out.1
    have HT := Aside0.mk hT
    have hO := Okl.of HC.out.2
    have HO := Aside0.mk hO
    clear hT hO
    go_wp2_with fail
    refine (apply_laid w w2 l _ _ _ t tb u1 HSz.out (HE.out.below HB2.out) HR.out HB2.out HO.out HL.out HT2.out HT.out.ok (fun n hn => (HX.out n hn).1) hsz).mono ?_
    rintro e3 w3 (⟨r, hrun, rfl, ⟨v3, ht3⟩, hb3⟩ | ⟨hrun, rfl, hb3⟩)
    · have HB3 := Aside0.mk (HB2.out.trans hb3)
      have HRun := Aside0.mk hrun
      have HT3 := Aside0.mk ht3
      have HE3 := Aside0.mk (HE.out.below HB3.out)
      have hrl := run_len l _ _ r (Nat.le_trans (start_len HO.out t) HT.out.len) hrun
      have HF := Aside0.mk (made_from HO.out HT.out.ok hrun)
      have HD := Aside0.mk (show ∀ n ∈ r, n.data.size < 1000000000 from fun n hn => by
        rcases HF.out n hn with h | h | ⟨q, _, rfl⟩
        · exact HLd.out n h
        · exact (HX.out n h).2
        · exact (by decide : (0 : Nat) < 1000000000))
      have HP := Aside0.mk (show ∀ n ∈ r, n.path.size < 1000000000 from fun n hn => by
        rcases HF.out n hn with h | h | ⟨q, hq, rfl⟩
        · have := HL.out.a n h; omega
        · exact (HX.out n h).1
        · have := ensL_small HL.out q hq
          show q.size < 1000000000
          omega)
      clear hrun ht3 hb3 b0 b1 b2
      go_wp2_with fail
      refine (tree_Bytes r w.heap.size tb v3 w3 HT3.out (by omega) HD.out).mono ?_
      rintro e4 w4 ⟨rfl, hb4⟩
      have HB4 := Aside0.mk (below_then HB3.out HB3.out.size hb4)
      have HT4 := Aside0.mk (HT3.out.below hb4)
      have HE4 := Aside0.mk (HE3.out.below hb4)
      clear hb4 HT3 HE3
      obtain ⟨by', hby⟩ : ∃ b, b = bytesN r := ⟨_, rfl⟩
      have HBy := Aside0.mk hby
      rw [← hby]
      clear hby
      by_cases hbig : 4194304 < by'
      · have HA := Aside0.mk (applyL_big HC.out HRun.out (by rw [← HBy.out]; exact hbig))
        go_wp2_with fail
        go_ret2
        exact ⟨_, by rw [HA.out]; rfl, by rw [HA.out]; exact HNil.out _, HB4.out⟩
      · have hnb : ¬ 4194304 < bytesN r := by rw [← HBy.out]; exact hbig
        have HNb := Aside0.mk hnb
        clear hnb
        go_wp2_with fail
        refine (tree_Collision r w.heap.size tb v3 w4 HE4.out HT4.out (by omega) HP.out).mono ?_
        rintro e5 w5 ⟨⟨s5, rfl⟩, hb5⟩
        have HB5 := Aside0.mk (below_then HB4.out HB4.out.size hb5)
        have HT5 := Aside0.mk (HT4.out.below hb5)
        clear hb5 HT4 HE4
        cases hc : collT r
        · have HA := Aside0.mk (applyL_good HC.out HRun.out HNb.out hc)
          clear hc
          go_wp2_with fail
          refine (tree_All r w.heap.size tb v3 w5 HT5.out (by omega)).mono ?_
          rintro e6 w6 ⟨v6, rfl, ho6, hb6⟩
          have HB6 := Aside0.mk (below_then HB5.out HB5.out.size hb6)
          have HO6 := Aside0.mk (ho6.lower HB5.out.size)
          obtain ⟨A6, n6, c6, rfl⟩ := ho6.sl
          clear ho6 hb6
          go_wp2_with fail
          go_ret2
          exact ⟨_, by rw [HA.out]; rfl, by rw [HA.out]; exact HO6.out, HB6.out⟩
        · have HA := Aside0.mk (applyL_coll HC.out HRun.out HNb.out hc)
          clear hc
          go_wp2_with fail
          go_ret2
          exact ⟨_, by rw [HA.out]; rfl, by rw [HA.out]; exact HNil.out _, HB5.out⟩
    · have HB3 := Aside0.mk (HB2.out.trans hb3)
      have HA := Aside0.mk (applyL_none HC.out hrun)
      clear hrun hb3
      go_wp2_with fail
      go_ret2
      exact ⟨_, by rw [HA.out]; rfl, by rw [HA.out]; exact HNil.out _, HB3.out⟩
  · have HA := Aside0.mk (applyL_bad (l := l) (t := t) (fun h => hlc h.2))
    have hneb : (checkL l != 0) = true := by simpa using hlc
    clear hlc
    go_wp2_with fail
    go_ret2
    exact ⟨_, by rw [HA.out]; rfl, by rw [HA.out]; exact HNil.out _, HB2.out⟩

end Go.Proofs.YtbkbpdpegiekhaaGreatDoor

set_option linter.unusedVariables false
set_option linter.unusedSimpArgs false
namespace Go.Proofs.YtbkbpdpegiekhaaGreatDoor
open Go.RowKit Go.Proofs.YtbkbpdpegiekhaaGreatDoorW.PrintWords Mo

def shortN (n : Nd) : Bool := decide (n.path.size ≤ 60) && decide (n.data.size ≤ 60)
def fewB (xs : List Nd) (m : Nat) : Bool := decide (xs.length ≤ m) && xs.all shortN
theorem few_len {xs : List Nd} {m : Nat} (h : fewB xs m = true) : xs.length ≤ m := by
  unfold fewB at h
  rw [Bool.and_eq_true, decide_eq_true_eq] at h
  exact h.1
theorem few_short {xs : List Nd} {m : Nat} (h : fewB xs m = true) : ∀ n ∈ xs, n.path.size ≤ 60 ∧ n.data.size ≤ 60 := by
  unfold fewB at h
  rw [Bool.and_eq_true] at h
  intro n hn
  have := List.all_eq_true.1 h.2 n hn
  unfold shortN at this
  simpa using this
structure Short (l : Ly) (m : Nat) : Prop where
  na : l.adds.length ≤ m
  nw : l.whites.length ≤ m
  no : l.opaques.length ≤ m
  a : ∀ n ∈ l.adds, n.path.size ≤ 60 ∧ n.data.size ≤ 60
  w : ∀ s ∈ l.whites, s.size ≤ 60
  o : ∀ s ∈ l.opaques, s.size ≤ 60
theorem small_short {l : Ly} {m : Nat} (h : smallB l m = true) : Short l m := by
  unfold smallB at h
  simp only [Bool.and_eq_true, decide_eq_true_eq, List.all_eq_true] at h
  obtain ⟨h1, h2, h3, h4, h5⟩ := h
  exact ⟨h1, h2, h3, h4, fun s hs => h5 s (List.mem_append_left _ hs), fun s hs => h5 s (List.mem_append_right _ hs)⟩
theorem Short.lb {l : Ly} {m : Nat} (h : Short l m) (hm : m ≤ 1000) : Lb l :=
  ⟨by have := h.na; omega, by have := h.nw; omega, by have := h.no; omega, fun n hn => by have := (h.a n hn).1; omega, fun s hs => by have := h.w s hs; omega, fun s hs => by have := h.o s hs; omega, fun n hn => by have := (h.a n hn).2; omega⟩
theorem Short.ld {l : Ly} {m : Nat} (h : Short l m) : ∀ n ∈ l.adds, n.data.size < 1000000000 := fun n hn => by have := (h.a n hn).2; omega

set_option maxRecDepth 100000 in
set_option maxHeartbeats 1000000 in
theorem law_Few (xs : List Nd) (m : Nat) (hm : m ≤ 1000) (v : Value) (w : World) (hv : Rd kN w v xs) :
    Calls Tryz.prog 28 #[v, .int .i64 (m : Int)] w fun e w' => e = .returned (.bool (fewB xs m)) ∧ Below w.heap.size w w' := by
  have hlen := hv.len
  obtain ⟨A, c, rfl, hl, hc⟩ := hv
  have HC := Aside0.mk hc
  clear hc
  obtain ⟨n, hn0⟩ : ∃ n, n = xs.length := ⟨_, rfl⟩
  rw [← hn0] at hlen hl ⊢
  have HN := Aside0.mk hn0
  clear hn0
  by_cases hbig : m < n
  · have HA := Aside0.mk (show fewB xs m = false by unfold fewB; rw [decide_eq_false (by rw [← HN.out]; omega)]; rfl)
    go_enter Tryz.func28, Tryz.ntmps28
    go_wp2_with fail
    go_ret
    exact ⟨by rw [HA.out]; rfl, Below.refl _ _⟩
  have HT := Aside0.mk (show fewB xs m = xs.all shortN by unfold fewB; rw [decide_eq_true (by rw [← HN.out]; omega)]; rfl)
  go_enter Tryz.func28, Tryz.ntmps28
  go_wp2_with fail
  go_loopw [13] (fun i wr => ∃ (k : Nat), k ≤ n ∧ i = .int .i64 k ∧ Aside0 ((xs.take k).all shortN = true) ∧ Aside0 (Below w.heap.size w wr))
    (fun i _ => n - (intOf i).toNat)
  case atStart => exact ⟨0, Nat.zero_le _, rfl, ⟨rfl⟩, ⟨Below.refl _ _⟩⟩
  case round =>
    obtain ⟨k, hk, rfl, HA, HB⟩ := hrel
    by_cases hlt : k < n
    · have hk2 : k < xs.length := by rw [← HN.out]; exact hlt
      obtain ⟨ad, rfl, k0, k1, k2, k3, k4⟩ := C_node (Kd.C_below HC.out HB.out) k (by rw [← HN.out]; exact hlt)
      have hx1 : xs[k] = xs.getD k Nd.zero := by rw [List.getD_eq_getElem?_getD, List.getElem?_eq_getElem hk2]; rfl
      have HY := Aside0.mk fun h => all_take_step (f := shortN) hk2 HA.out h
      have HNo := Aside0.mk (all_here (f := shortN) hk2)
      obtain ⟨x, hx0⟩ : ∃ x, x = xs.getD k Nd.zero := ⟨_, rfl⟩
      rw [← hx0] at hx1 k0 k1 k2 k3 k4
      rw [hx1] at HY HNo
      clear hx0 hx1 hk2
      have hs : shortN x = (decide (x.path.size ≤ 60) && decide (x.data.size ≤ 60)) := rfl
      by_cases h1 : x.path.size ≤ 60
      · by_cases h2 : x.data.size ≤ 60
        · rw [decide_eq_true h1, decide_eq_true h2] at hs
          have HY2 := Aside0.mk (HY.out hs)
          clear hs
          go_wp2_with fail
          go_roundw
          case rel => exact ⟨k + 1, by omega, by go_num, HY2, ⟨HB.out.alloc HB.out.size _⟩⟩
          case measure => simp [intOf]; omega
        · rw [decide_eq_true h1, decide_eq_false h2] at hs
          have HY2 := Aside0.mk (show fewB xs m = false by rw [HT.out]; exact HNo.out hs)
          clear hs
          go_wp2_with fail
          go_ret
          exact ⟨by rw [HY2.out]; rfl, HB.out.alloc HB.out.size _⟩
      · rw [decide_eq_false h1, Bool.false_and] at hs
        have HY2 := Aside0.mk (show fewB xs m = false by rw [HT.out]; exact HNo.out hs)
        clear hs
        go_wp2_with fail
        go_ret
        exact ⟨by rw [HY2.out]; rfl, HB.out.alloc HB.out.size _⟩
    · have hk2 : k = n := by omega
      subst hk2
      have HF := Aside0.mk (show fewB xs m = true by
        rw [HT.out]
        have := HA.out
        rw [List.take_of_length_le (by rw [← HN.out]; exact Nat.le_refl _)] at this
        exact this)
      go_wp2_with fail
      go_ret
      exact ⟨by rw [HF.out]; rfl, HB.out⟩

end Go.Proofs.YtbkbpdpegiekhaaGreatDoor
