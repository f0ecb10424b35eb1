/- The reference's layers: markers. -/
import Derived.Test.YtbkbpdpegiekhaaGreatDoorF10
import Derived.Test.YtbkbpdpegiekhaaGreatDoorR12
import Derived.Deep.RegionHeld3
import Derived.IntWalk
set_option linter.unusedVariables false
set_option linter.unusedSimpArgs false
namespace Go.Proofs.YtbkbpdpegiekhaaGreatDoor
open Go.RowKit Go.Proofs.YtbkbpdpegiekhaaGreatDoorW.PrintWords Mo

set_option maxHeartbeats 4000000 in
theorem ref_markers (kind : Int) (hkind : kind = 1 ∨ kind = 2) (xs : List S) (v : Value) (w : World) (hv : Rd Kd.string w v xs) (hx : ∀ s ∈ xs, s.size ≤ 100000000) (hsz : xs.length ≤ 1000000000) :
    Calls Tryz.prog 94 #[v, .int .i64 kind] w fun e w' => e = .returned (.int .i64 (markersE kind none xs)) ∧ Below w.heap.size w w' := by
  obtain ⟨A, c, rfl, hl, hc⟩ := hv
  rcases C_strs hc with rfl | ⟨b, off, rfl, _, hcell⟩
  · go_enter Tryz.func94, Tryz.ntmps94
    go_wp2_with fail
    go_loop [5] (fun i => i = .int .i64 0) (fun i => 0)
    case atStart => exact rfl
    case round =>
      subst hrel
      go_wp2_with fail
      go_ret
      exact ⟨rfl, Below.refl _ _⟩
  have HX := Aside0.mk hx
  have HC := Aside0.mk (fun W (hb : Below w.heap.size w W) j (hj : j < xs.length) => pw_cell_below hb (hcell j hj))
  have HKi := Aside0.mk hkind
  clear hx hc hkind hcell
  obtain ⟨n, hn0⟩ : ∃ n, n = xs.length := ⟨_, rfl⟩
  rw [← hn0] at hsz hl ⊢
  have HN := Aside0.mk hn0
  clear hn0
  go_enter Tryz.func94, Tryz.ntmps94
  go_wp2_with fail
  go_loopw [5] (fun i wr => ∃ (k : Nat) (prev : Option S), k ≤ n ∧ i = .int .i64 k ∧ Aside0 ((k = 0 ∧ prev = none) ∨ ∃ j q, k = j + 1 ∧ xs[j]? = some q ∧ prev = some q) ∧ Aside0 (markersE kind prev (xs.drop k) = markersE kind none xs) ∧ Aside0 (Below w.heap.size w wr))
    (fun i _ => n - (intOf i).toNat)
  case atStart => exact ⟨0, none, Nat.zero_le _, rfl, ⟨.inl ⟨rfl, rfl⟩⟩, ⟨rfl⟩, ⟨Below.refl _ _⟩⟩
  case round =>
    obtain ⟨k, prev, hk, rfl, HP, HA, HB⟩ := hrel
    by_cases hlt : k < n
    · have hk2 : k < xs.length := by rw [← HN.out]; exact hlt
      have k0 := HC.out _ HB.out k hk2
      have hp1 := HX.out xs[k] (List.getElem_mem hk2)
      have HD := Aside0.mk (List.drop_eq_getElem_cons hk2)
      have HG := Aside0.mk (List.getElem?_eq_getElem hk2)
      obtain ⟨x, hx0⟩ : ∃ x, x = xs[k] := ⟨_, rfl⟩
      rw [← hx0] at hp1 HD k0 HG
      clear hx0
      have hsz0 := HB.out.size
      have hkk : (k : Int) < n := by omega
      go_wp2_with fail
      refine (ref_Path kind HKi.out x _ hp1).mono ?_
      rintro e1 w1 ⟨rfl, hb1⟩
      have k0' := pw_cell_below hb1 k0
      have HB1 := Aside0.mk (below_then HB.out hsz0 hb1)
      clear hb1 HB k0 hsz0
      have hst : markersE kind prev (x :: xs.drop (k + 1)) = if markE kind prev x = 0 then markersE kind (some x) (xs.drop (k + 1)) else markE kind prev x := rfl
      by_cases he : (pPath kind x).2 = 0
      rotate_left
      · have hm : markE kind prev x = (pPath kind x).2 := by unfold markE; rw [if_neg he]
        rw [if_neg (by rw [hm]; exact he), hm] at hst
        have HS := Aside0.mk (show (pPath kind x).2 = markersE kind none xs by rw [← HA.out, HD.out, hst])
        clear hst hm hk2
        obtain ⟨y, hy⟩ : ∃ y, y = (pPath kind x).2 := ⟨_, rfl⟩
        rw [← hy] at he HS ⊢
        have hab : (y != 0) = true := by simpa using he
        clear he hy
        go_wp2_with fail
        go_ret
        exact ⟨by rw [← HS.out]; rfl, HB1.out⟩
      have hm : markE kind prev x = if nextE prev x = true then 2 else 0 := by unfold markE; rw [if_pos he]
      rw [he]
      clear he
      rcases HP.out with ⟨rfl, rfl⟩ | ⟨j, q, rfl, hj, rfl⟩
      · have hst2 := Aside0.mk (show markersE kind (some x) (xs.drop (0 + 1)) = markersE kind none xs by
          rw [← HA.out, HD.out, hst, if_pos (by rw [hm]; rfl)])
        clear hst hm hk2
        go_wp2_with fail
        go_quiet (fail)
        go_wp2_with fail
        go_roundw
        case rel => exact ⟨0 + 1, some x, by omega, by go_num, ⟨.inr ⟨0, x, rfl, HG.out, rfl⟩⟩, hst2, ⟨pw_below_drewN HB1.out _⟩⟩
        case measure => simp [intOf] <;> omega
      · have hjl : j < xs.length := by rw [← HN.out]; omega
        have k1 := HC.out _ HB1.out j hjl
        have hq : xs[j] = q := by
          rw [List.getElem?_eq_getElem hjl] at hj
          exact Option.some.inj hj
        have hq1 := HX.out xs[j] (List.getElem_mem hjl)
        rw [hq] at k1 hq1
        clear hq hjl hj hk2
        have hr := pCmp_range q x
        have hne : nextE (some q) x = decide (0 ≤ pCmp q x) := rfl
        have hrc := fun W => ref_Compare q x W (by omega) (by omega)
        obtain ⟨c1, hc1⟩ : ∃ c1, c1 = pCmp q x := ⟨_, rfl⟩
        rw [← hc1] at hr hne
        have HRC := Aside0.mk (show ∀ W, Calls Tryz.prog 92 #[.string q, .string x] W fun e w' => e = .returned (.int .i64 c1) ∧ Below W.heap.size W w' by rw [hc1]; exact hrc)
        clear hc1 hrc
        have hkj : (j : Int) < n := by omega
        have hjj : (0 : Int) ≤ j := by omega
        have hs0 := HB1.out.size
        go_wp2_with fail
        have hwr1 : IntKind.i64.wrap (↑j + 1 - 1) = (j : Int) := by rw [show ((j : Int) + 1 - 1) = j from by omega]; exact IntWalk.i64_in _ (by omega)
        have hwr2 : IntKind.i64.wrap (j : Int) = (j : Int) := IntWalk.i64_in _ (by omega)
        have htn : ((j : Int) + 1).toNat = j + 1 := by omega
        have hj1 : (0 : Int) ≤ (j : Int) + 1 := by omega
        have hkj1 : (j : Int) + 1 < n := by omega
        have hKp := Aside0.mk (show ∀ W, Below w1.heap.size w1 W → (W.cell? ⟨b, off + j, none⟩ = some (.string q) ∧ W.cell? ⟨b, off + (j + 1), none⟩ = some (.string x) ∧ Below w1.heap.size w1 W) from fun W hb => ⟨pw_cell_below hb k1, pw_cell_below hb k0', hb⟩)
        have hst0 := hKp.out w1.drew ((Grew.refl w1).drew).below
        clear hs0 hlt hk hp1 hq1
        go_region_held3 (fun W => W.cell? ⟨b, off + j, none⟩ = some (.string q) ∧ W.cell? ⟨b, off + (j + 1), none⟩ = some (.string x) ∧ Below w1.heap.size w1 W)
          (first | exact hst0 | (apply hKp.out; assumption))
          (first
            | (go_at_call 92; refine (HRC.out _).mono ?_; rintro e w' ⟨rfl, hb⟩; have hb5 := below_then hst0.2.2 hst0.2.2.size hb))
        rename_i hh
        have hb4 := hh.2.2
        have HB4 := Aside0.mk (below_then HB1.out HB1.out.size hb4)
        clear hh hb4 hst0 hwr1 hwr2 htn hj1 k1 k0'
        by_cases hcc : c1 = -1
        · subst hcc
          have hst2 := Aside0.mk (show markersE kind (some x) (xs.drop (j + 1 + 1)) = markersE kind none xs by
            rw [← HA.out, HD.out, hst, if_pos (by rw [hm, hne]; rfl)])
          clear hst hm hne
          go_wp2_with fail
          go_roundw
          case rel => exact ⟨j + 1 + 1, some x, by omega, by go_num, ⟨.inr ⟨j + 1, x, rfl, HG.out, rfl⟩⟩, hst2, HB4⟩
          case measure => simp [intOf] <;> omega
        · have hcb : 0 ≤ c1 := by omega
          have hm2 : markE kind (some q) x = 2 := by rw [hm, hne, decide_eq_true hcb]; rfl
          have hst2 := Aside0.mk (show 2 = markersE kind none xs by
            rw [← HA.out, HD.out, hst, if_neg (by rw [hm2]; decide), hm2])
          clear hst hm hne hm2 hcc
          go_wp2_with fail
          go_ret
          exact ⟨by rw [← hst2.out]; rfl, HB4.out⟩
    · have hk2 : k = n := by omega
      subst hk2
      have HF := Aside0.mk (show markersE kind none xs = 0 by
        rw [← HA.out, List.drop_of_length_le (by rw [← HN.out]; exact Nat.le_refl _)]; rfl)
      clear HA hlt
      go_wp2_with fail
      go_ret
      exact ⟨by rw [HF.out]; rfl, HB.out⟩

end Go.Proofs.YtbkbpdpegiekhaaGreatDoor
