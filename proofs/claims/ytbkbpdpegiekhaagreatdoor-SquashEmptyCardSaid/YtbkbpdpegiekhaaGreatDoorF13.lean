/- The reference's layers: below, Bytes. -/
import Derived.Test.YtbkbpdpegiekhaaGreatDoorF12
import Derived.Test.YtbkbpdpegiekhaaGreatDoorR18
set_option linter.unusedVariables false
set_option linter.unusedSimpArgs false
namespace Go.Proofs.YtbkbpdpegiekhaaGreatDoor
open Go.RowKit Go.Proofs.YtbkbpdpegiekhaaGreatDoorW.PrintWords Mo

def belowB (l : Ly) (p : S) : Bool := l.adds.any (fun n => pUnder n.path p) || (l.whites.any (fun q => pUnder q p) || l.opaques.any (fun q => decide (q = p) || pUnder q p))
theorem any_take_step {α : Type} {f : α → Bool} {xs : List α} {k : Nat} (h : k < xs.length) (h1 : (xs.take k).any f = false) (h2 : f xs[k] = false) : (xs.take (k + 1)).any f = false := by
  rw [List.take_succ_eq_append_getElem h, List.any_append, h1]
  simp [h2]
theorem any_here {α : Type} {f : α → Bool} {xs : List α} {k : Nat} (h : k < xs.length) (h2 : f xs[k] = true) : xs.any f = true := List.any_eq_true.2 ⟨_, List.getElem_mem h, h2⟩
theorem any_take_all {α : Type} {f : α → Bool} {xs : List α} {n : Nat} (hn : n = xs.length) (h1 : (xs.take n).any f = false) : xs.any f = false := by
  rw [List.take_of_length_le (by omega)] at h1; exact h1

set_option maxHeartbeats 8000000 in
set_option maxRecDepth 100000 in
theorem ref_below (l : Ly) (va vw vo : Value) (p : S) (w : World) (hr : RdL w va vw vo l) (hl : Lb l) (hp : p.size ≤ 100000000) :
    Calls Tryz.prog 95 #[.agg #[va, vw, vo], .string p] w fun e w' => e = .returned (.bool (belowB l p)) ∧ Below w.heap.size w w' := by
  obtain ⟨A, ca, rfl, hca, hCa⟩ := hr.1
  obtain ⟨Wp, cw, rfl, hcw, hCw⟩ := hr.2.1
  obtain ⟨Op, co, rfl, hco, hCo⟩ := hr.2.2
  have HL := Aside0.mk hl
  have HCa := Aside0.mk hCa
  have HCw := Aside0.mk hCw
  have HCo := Aside0.mk hCo
  have hna := hl.na
  have hnw := hl.nw
  have hno := hl.no
  clear hCa hCw hCo hl hr
  obtain ⟨na, hna0⟩ : ∃ n, n = l.adds.length := ⟨_, rfl⟩
  obtain ⟨nw, hnw0⟩ : ∃ n, n = l.whites.length := ⟨_, rfl⟩
  obtain ⟨no, hno0⟩ : ∃ n, n = l.opaques.length := ⟨_, rfl⟩
  rw [← hna0] at hna hca ⊢
  rw [← hnw0] at hnw hcw ⊢
  rw [← hno0] at hno hco ⊢
  have HNa := Aside0.mk hna0
  have HNw := Aside0.mk hnw0
  have HNo := Aside0.mk hno0
  clear hna0 hnw0 hno0
  have hst : ChkSt w (w.alloc (.cells #[.slice A na ca, .slice Wp nw cw, .slice Op no co] 25)) (.slice A na ca) (.slice Wp nw cw) (.slice Op no co) := ⟨heap_alloc_new w _, ((Grew.refl w).alloc _).below⟩
  have HS0 := Aside0.mk hst
  clear hst
  go_enter Tryz.func95, Tryz.ntmps95
  go_wp2_with fail
  go_loopw [5] (fun i wr => ∃ k : Nat, k ≤ na ∧ i = .int .i64 k ∧ Aside0 ((l.adds.take k).any (fun n : Nd => pUnder n.path p) = false) ∧ Aside0 (ChkSt w wr (.slice A na ca) (.slice Wp nw cw) (.slice Op no co))) (fun i _ => na - (intOf i).toNat)
  case atStart => exact ⟨0, Nat.zero_le _, rfl, ⟨by simp⟩, HS0⟩
  case round =>
    clear HS0
    obtain ⟨k, hk, rfl, HA, HS⟩ := hrel
    have c0 := blk_cell HS.out.lay 0
    by_cases hlt : k < na
    · have hk2 : k < l.adds.length := by rw [← HNa.out]; exact hlt
      obtain ⟨ad, rfl, k0, k1, k2, k3, k4⟩ := C_node (Kd.C_below HCa.out HS.out.below) k hk2
      rw [getD_get hk2] at k0
      clear k1 k2 k3 k4
      have hps := HL.out.a _ (List.getElem_mem hk2)
      have HT := Aside0.mk (fun h => any_take_step hk2 HA.out h)
      have HF := Aside0.mk (show (fun n : Nd => pUnder n.path p) l.adds[k] = true → belowB l p = true from fun h => by unfold belowB; rw [any_here hk2 h]; rfl)
      (try dsimp only at HT HF)
      obtain ⟨x, hx⟩ : ∃ x, x = l.adds[k].path := ⟨_, rfl⟩
      rw [← hx] at k0 hps HT HF
      clear hx hk2 HA
      have hkk : (k : Int) < na := by omega
      go_wp2_with fail
      refine (ref_Under x p _ (by omega) (by omega)).mono ?_
      rintro e1 w1 ⟨rfl, hb1⟩
      have HS1 := Aside0.mk (HS.out.step hb1)
      clear hb1 HS c0 k0
      cases hu : pUnder x p
      · have HT2 := Aside0.mk (HT.out hu)
        clear HT HF hu
        go_wp2_with fail
        go_roundw
        case rel => exact ⟨k + 1, by omega, by go_num, HT2, HS1⟩
        case measure => simp [intOf] <;> omega
      · have HR := Aside0.mk (HF.out hu)
        clear HT HF hu
        go_wp2_with fail
        go_ret
        exact ⟨by rw [HR.out]; rfl, HS1.out.below⟩
    obtain rfl : na = k := by omega
    have HZ0 := Aside0.mk (any_take_all HNa.out HA.out)
    clear hlt HA
    have c1 := blk_cell HS.out.lay 1
    go_wp2_with fail
    go_loopw [6] (fun i wr => ∃ k : Nat, k ≤ nw ∧ i = .int .i64 k ∧ Aside0 ((l.whites.take k).any (fun q : S => pUnder q p) = false) ∧ Aside0 (ChkSt w wr (.slice A na ca) (.slice Wp nw cw) (.slice Op no co))) (fun i _ => nw - (intOf i).toNat)
    case atStart => exact ⟨0, Nat.zero_le _, rfl, ⟨by simp⟩, HS⟩
    case round =>
      clear c0 c1 HS
      obtain ⟨k, hk, rfl, HA, HS⟩ := hrel
      have c0 := blk_cell HS.out.lay 1
      by_cases hlt : k < nw
      · have hk2 : k < l.whites.length := by rw [← HNw.out]; exact hlt
        obtain ⟨ad, rfl, k0⟩ := C_str (Kd.C_below HCw.out HS.out.below) k hk2
        rw [getD_get hk2] at k0
        have hps := HL.out.w _ (List.getElem_mem hk2)
        have HT := Aside0.mk (fun h => any_take_step hk2 HA.out h)
        have HF := Aside0.mk (show (fun q : S => pUnder q p) l.whites[k] = true → belowB l p = true from fun h => by unfold belowB; rw [any_here hk2 h]; simp)
        (try dsimp only at HT HF)
        obtain ⟨x, hx⟩ : ∃ x, x = l.whites[k] := ⟨_, rfl⟩
        rw [← hx] at k0 hps HT HF
        clear hx hk2 HA
        have hkk : (k : Int) < nw := by omega
        go_wp2_with fail
        refine (ref_Under x p _ (by omega) (by omega)).mono ?_
        rintro e1 w1 ⟨rfl, hb1⟩
        have HS1 := Aside0.mk (HS.out.step hb1)
        clear hb1 HS c0 k0
        cases hu : pUnder x p
        · have HT2 := Aside0.mk (HT.out hu)
          clear HT HF hu
          go_wp2_with fail
          go_roundw
          case rel => exact ⟨k + 1, by omega, by go_num, HT2, HS1⟩
          case measure => simp [intOf] <;> omega
        · have HR := Aside0.mk (HF.out hu)
          clear HT HF hu
          go_wp2_with fail
          go_ret
          exact ⟨by rw [HR.out]; rfl, HS1.out.below⟩
      obtain rfl : nw = k := by omega
      have HZ1 := Aside0.mk (any_take_all HNw.out HA.out)
      clear hlt HA
      have c1 := blk_cell HS.out.lay 2
      go_wp2_with fail
      go_loopw [7] (fun i wr => ∃ k : Nat, k ≤ no ∧ i = .int .i64 k ∧ Aside0 ((l.opaques.take k).any (fun q : S => decide (q = p) || pUnder q p) = false) ∧ Aside0 (ChkSt w wr (.slice A na ca) (.slice Wp nw cw) (.slice Op no co))) (fun i _ => no - (intOf i).toNat)
      case atStart => exact ⟨0, Nat.zero_le _, rfl, ⟨by simp⟩, HS⟩
      case round =>
        clear c0 c1 HS
        obtain ⟨k, hk, rfl, HA, HS⟩ := hrel
        have c0 := blk_cell HS.out.lay 2
        by_cases hlt : k < no
        · have hk2 : k < l.opaques.length := by rw [← HNo.out]; exact hlt
          obtain ⟨ad, rfl, k0⟩ := C_str (Kd.C_below HCo.out HS.out.below) k hk2
          rw [getD_get hk2] at k0
          have hps := HL.out.o _ (List.getElem_mem hk2)
          have HT := Aside0.mk (fun h => any_take_step hk2 HA.out h)
          have HF := Aside0.mk (show (fun q : S => decide (q = p) || pUnder q p) l.opaques[k] = true → belowB l p = true from fun h => by unfold belowB; rw [any_here hk2 h]; simp)
          (try dsimp only at HT HF)
          obtain ⟨x, hx⟩ : ∃ x, x = l.opaques[k] := ⟨_, rfl⟩
          rw [← hx] at k0 hps HT HF
          clear hx hk2 HA
          have hkk : (k : Int) < no := by omega
          by_cases hxp : x = p
          · have hb : (x.toList == p.toList) = true := by rw [str_eqb]; exact decide_eq_true hxp
            have HR := Aside0.mk (HF.out (by rw [decide_eq_true hxp]; rfl))
            clear HT HF hxp
            go_wp2_with fail
            go_ret
            exact ⟨by rw [HR.out]; rfl, HS.out.below⟩
          have hb : (x.toList == p.toList) = false := by rw [str_eqb]; exact decide_eq_false hxp
          rw [decide_eq_false hxp, Bool.false_or] at HT HF
          clear hxp
          go_wp2_with fail
          refine (ref_Under x p _ (by omega) (by omega)).mono ?_
          rintro e1 w1 ⟨rfl, hb1⟩
          have HS1 := Aside0.mk (HS.out.step hb1)
          clear hb1 HS c0 k0
          cases hu : pUnder x p
          · have HT2 := Aside0.mk (HT.out hu)
            clear HT HF hu
            go_wp2_with fail
            go_roundw
            case rel => exact ⟨k + 1, by omega, by go_num, HT2, HS1⟩
            case measure => simp [intOf] <;> omega
          · have HR := Aside0.mk (HF.out hu)
            clear HT HF hu
            go_wp2_with fail
            go_ret
            exact ⟨by rw [HR.out]; rfl, HS1.out.below⟩
        obtain rfl : no = k := by omega
        have HZ2 := Aside0.mk (any_take_all HNo.out HA.out)
        clear hlt HA
        have HR := Aside0.mk (show belowB l p = false by unfold belowB; rw [HZ0.out, HZ1.out, HZ2.out]; rfl)
        go_wp2_with fail
        go_ret
        exact ⟨by rw [HR.out]; rfl, HS.out.below⟩

set_option maxHeartbeats 4000000 in
theorem ref_Bytes (xs : List Nd) (v : Value) (w : World) (hv : Rd kN w v xs) (hx : ∀ n ∈ xs, n.data.size ≤ 1000000000) (hsz : xs.length ≤ 1000000) :
    Calls Tryz.prog 96 #[v] w fun e w' => e = .returned (.int .i64 (bytesN xs : Int)) ∧ w = w' := by
  obtain ⟨A, c, rfl, hl, hc⟩ := hv
  have HX := Aside0.mk hx
  have HC := Aside0.mk hc
  clear hx hc
  obtain ⟨n, hn0⟩ : ∃ n, n = xs.length := ⟨_, rfl⟩
  rw [← hn0] at hsz hl ⊢
  have HN := Aside0.mk hn0
  clear hn0
  go_enter Tryz.func96, Tryz.ntmps96
  go_wp2_with fail
  go_loop [3, 4] (fun v i => ∃ (k s : Nat), k ≤ n ∧ i = .int .i64 k ∧ v = .int .i64 s ∧ s ≤ k * 1000000000 ∧ Aside0 (s + bytesN (xs.drop k) = bytesN xs)) (fun _ i => n - (intOf i).toNat)
  case atStart => exact ⟨0, 0, Nat.zero_le _, rfl, rfl, Nat.zero_le _, ⟨by simp⟩⟩
  case round =>
    obtain ⟨k, s, hk, rfl, rfl, hs, HA⟩ := hrel
    by_cases hlt : k < n
    · have hk2 : k < xs.length := by rw [← HN.out]; exact hlt
      obtain ⟨ad, rfl, k0, k1, k2, k3, k4⟩ := C_node HC.out k hk2
      rw [getD_get hk2] at k2
      have hd := HX.out _ (List.getElem_mem hk2)
      have HT := Aside0.mk (show s + xs[k].data.size + bytesN (xs.drop (k + 1)) = bytesN xs by
        rw [← HA.out, List.drop_eq_getElem_cons hk2]
        unfold bytesN
        rw [List.map_cons, List.sum_cons]
        omega)
      obtain ⟨x, hx⟩ : ∃ x, x = xs[k].data := ⟨_, rfl⟩
      rw [← hx] at k2 hd HT
      clear hx hk2 HA k0 k1 k3 k4
      have hkk : (k : Int) < n := by omega
      go_wp2_with fail
      go_round
      case rel => exact ⟨k + 1, s + x.size, by omega, by go_num, by go_num, by omega, HT⟩
      case measure => simp [intOf] <;> omega
    · obtain rfl : k = n := by omega
      have HR := Aside0.mk (show bytesN xs = s by
        have := HA.out
        rw [List.drop_of_length_le (by rw [← HN.out]; exact Nat.le_refl _)] at this
        rw [← this]; rfl)
      clear HA hlt
      go_wp2_with fail
      go_ret
      exact ⟨by rw [HR.out]; rfl, rfl⟩

end Go.Proofs.YtbkbpdpegiekhaaGreatDoor
