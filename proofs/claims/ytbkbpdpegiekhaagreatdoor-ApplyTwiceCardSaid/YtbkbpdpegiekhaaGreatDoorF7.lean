/- The reference's layers: the same nodes, the same layers. -/
import Derived.Test.YtbkbpdpegiekhaaGreatDoorF6
import Derived.Test.YtbkbpdpegiekhaaGreatDoorWEqStruct
set_option linter.unusedVariables false
set_option linter.unusedSimpArgs false
namespace Go.Proofs.YtbkbpdpegiekhaaGreatDoor
open Go.RowKit Go.Proofs.YtbkbpdpegiekhaaGreatDoorW.PrintWords Mo

theorem nd_eqb (x y : Nd) : (x.path.toList == y.path.toList && (x.dir == y.dir && (x.data.toList == y.data.toList && (x.mode == y.mode && x.time == y.time)))) = decide (x = y) := by
  rw [str_eqb, str_eqb, Bool.eq_iff_iff]
  cases x; cases y
  simp
theorem eqN (d : Nat) (w : World) (x y : Nd) :
    (Op.equalIn (d + 2) 46 (.agg #[.string x.path, .bool x.dir, .string x.data, .int .i64 x.mode, .int .i64 x.time]) (.agg #[.string y.path, .bool y.dir, .string y.data, .int .i64 y.mode, .int .i64 y.time])).run Tryz.prog w = .ok (decide (x = y)) w := by
  rw [← nd_eqb]
  refine eqA_of Tryz.underlying46 (by kernel_rfl) ?_
  refine eqf_cons (by rfl) (by go_simp; rfl) (by go_simp; rfl) (by go_simp) ?_
  refine eqf_cons (by rfl) (by go_simp; rfl) (by go_simp; rfl) (by go_simp) ?_
  refine eqf_cons (by rfl) (by go_simp; rfl) (by go_simp; rfl) (by go_simp) ?_
  refine eqf_cons (by rfl) (by go_simp; rfl) (by go_simp; rfl) (by go_simp) ?_
  exact eqf_last (by rfl) (by go_simp; rfl) (by go_simp; rfl) (by go_simp)
attribute [local go_sem high] eqN

set_option maxHeartbeats 4000000 in
theorem ref_NSame (xs ys : List Nd) (v1 v2 : Value) (w : World) (h1 : Rd kN w v1 xs) (h2 : Rd kN w v2 ys) :
    Calls Tryz.prog 32 #[v1, v2] w fun e w' => e = .returned (.bool (decide (xs = ys))) ∧ Below w.heap.size w w' := by
  obtain ⟨A1, c1, rfl, l1, hc1⟩ := h1
  obtain ⟨A2, c2, rfl, l2, hc2⟩ := h2
  have m1 := hc1.2.1
  have H1 := Aside0.mk hc1
  have H2 := Aside0.mk hc2
  clear hc1 hc2
  by_cases hl : xs.length = ys.length
  rotate_left
  · have hR := Aside0.mk (show decide (xs = ys) = false from decide_eq_false (fun e => hl (by rw [e])))
    have hlb : ((xs.length : Int) != (ys.length : Int)) = true := by simp; omega
    clear hl
    go_enter Tryz.func32, Tryz.ntmps32
    go_wp2_with fail
    go_ret
    exact ⟨by rw [hR.out]; rfl, Below.refl _ _⟩
  obtain ⟨n, hn⟩ : ∃ n, n = ys.length := ⟨_, rfl⟩
  have HN2 := Aside0.mk hn
  have HN1 := Aside0.mk (hl.trans hn.symm)
  rw [hl, ← hn] at l1 m1 ⊢
  rw [← hn] at l2
  clear hn hl
  go_enter Tryz.func32, Tryz.ntmps32
  go_wp2_with fail
  go_loopw [5] (fun i wr => ∃ k : Nat, k ≤ n ∧ i = .int .i64 k ∧ Aside0 (xs.take k = ys.take k) ∧ Aside0 (Below w.heap.size w wr)) (fun i _ => n - (intOf i).toNat)
  case atStart => exact ⟨0, Nat.zero_le _, rfl, ⟨by simp⟩, ⟨Below.refl _ _⟩⟩
  case round =>
    obtain ⟨k, hk, rfl, HA, HB⟩ := hrel
    by_cases hlt : k < n
    · have hk1 : k < xs.length := by rw [HN1.out]; exact hlt
      have hk2 : k < ys.length := by rw [← HN2.out]; exact hlt
      obtain ⟨a1, rfl, k10, k11, k12, k13, k14⟩ := C_node (Kd.C_below H1.out HB.out) k hk1
      obtain ⟨a2, rfl, k20, k21, k22, k23, k24⟩ := C_node (Kd.C_below H2.out HB.out) k hk2
      rw [getD_get hk1] at k10 k11 k12 k13 k14
      rw [getD_get hk2] at k20 k21 k22 k23 k24
      have HT := Aside0.mk (take_eq_step hk1 hk2 HA.out)
      have HF := Aside0.mk (show xs[k] ≠ ys[k] → decide (xs = ys) = false from fun h => decide_eq_false (fun e => h (by simp [e])))
      obtain ⟨x, hx⟩ : ∃ x, x = xs[k] := ⟨_, rfl⟩
      obtain ⟨y, hy⟩ : ∃ y, y = ys[k] := ⟨_, rfl⟩
      rw [← hx, ← hy] at HT HF
      rw [← hx] at k10 k11 k12 k13 k14
      rw [← hy] at k20 k21 k22 k23 k24
      clear hx hy hk1 hk2
      have hlt' : (k : Int) < n := by omega
      have hk0 : (0 : Int) ≤ k := by omega
      by_cases he : x = y
      · have hb : decide (x = y) = true := decide_eq_true he
        have HT2 := Aside0.mk (HT.out he)
        clear HT HF he
        go_wp2_with fail
        go_quiet (fail)
        go_wp2_with fail
        go_roundw
        case rel => exact ⟨k + 1, by omega, by go_num, HT2, ⟨pw_below_drewN HB.out _⟩⟩
        case measure => simp [intOf] <;> omega
      · have hb : decide (x = y) = false := decide_eq_false he
        have HR := Aside0.mk (HF.out he)
        clear HT HF he
        go_wp2_with fail
        go_quiet (fail)
        go_wp2_with fail
        go_ret
        exact ⟨by rw [HR.out]; rfl, pw_below_drewN HB.out _⟩
    · obtain rfl : k = n := by omega
      have HR := Aside0.mk (show decide (xs = ys) = true from decide_eq_true (by
        have := HA.out
        rw [List.take_of_length_le (by rw [HN1.out]; exact Nat.le_refl _), List.take_of_length_le (by rw [← HN2.out]; exact Nat.le_refl _)] at this
        exact this))
      clear HA hlt
      go_wp2_with fail
      go_ret
      exact ⟨by rw [HR.out]; rfl, HB.out⟩

end Go.Proofs.YtbkbpdpegiekhaaGreatDoor
