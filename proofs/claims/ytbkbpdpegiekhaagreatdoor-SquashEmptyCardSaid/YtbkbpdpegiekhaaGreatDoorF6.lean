/- The reference's layers: Texts, Same. -/
import Derived.Test.YtbkbpdpegiekhaaGreatDoorF5
import Derived.Test.YtbkbpdpegiekhaaGreatDoorR15
set_option linter.unusedVariables false
set_option linter.unusedSimpArgs false
namespace Go.Proofs.YtbkbpdpegiekhaaGreatDoor
open Go.RowKit Go.Proofs.YtbkbpdpegiekhaaGreatDoorW.PrintWords Mo

theorem str_eqb {x y : S} : (x.toList == y.toList) = decide (x = y) := by
  rw [Lib.toList_data, Lib.toList_data, Bool.eq_iff_iff]
  simp only [beq_iff_eq, decide_eq_true_eq]
  exact ⟨fun h => bs_inj h, fun h => by rw [h]⟩
theorem take_eq_step {α : Type} {xs ys : List α} {k : Nat} (h1 : k < xs.length) (h2 : k < ys.length) (h : xs.take k = ys.take k) (he : xs[k] = ys[k]) : xs.take (k + 1) = ys.take (k + 1) := by
  rw [List.take_succ_eq_append_getElem h1, List.take_succ_eq_append_getElem h2, h, he]
theorem rd_node {w : World} {v : Value} {xs : List Nd} (h : Rd kN w v xs) : ∃ A c, v = .slice A xs.length c ∧ xs.length ≤ c ∧ xs.length ≤ 9223372036854775807 ∧ ∀ i (hi : i < xs.length), ∃ ad, A = some ad ∧
    w.cell? (ad.add (i * 5)) = some (.string xs[i].path) ∧ w.cell? ⟨(ad.add (i * 5)).block, (ad.add (i * 5)).off + 1, none⟩ = some (.bool xs[i].dir) ∧
    w.cell? ⟨(ad.add (i * 5)).block, (ad.add (i * 5)).off + 2, none⟩ = some (.string xs[i].data) ∧ w.cell? ⟨(ad.add (i * 5)).block, (ad.add (i * 5)).off + 3, none⟩ = some (.int .i64 xs[i].mode) ∧
    w.cell? ⟨(ad.add (i * 5)).block, (ad.add (i * 5)).off + 4, none⟩ = some (.int .i64 xs[i].time) := by
  obtain ⟨A, c, rfl, hl, hc⟩ := h
  refine ⟨A, c, rfl, hl, hc.2.1, fun i hi => ?_⟩
  have := C_node hc i hi
  rw [List.getD_eq_getElem?_getD, List.getElem?_eq_getElem hi, Option.getD_some] at this
  exact this

theorem getD_get {α : Type} {d : α} {xs : List α} {k : Nat} (h : k < xs.length) : xs.getD k d = xs[k] := by
  rw [List.getD_eq_getElem?_getD, List.getElem?_eq_getElem h]; rfl

set_option maxHeartbeats 4000000 in
theorem ref_Texts (xs ys : List S) (v1 v2 : Value) (w : World) (h1 : Rd Kd.string w v1 xs) (h2 : Rd Kd.string w v2 ys) :
    Calls Tryz.prog 33 #[v1, v2] w fun e w' => e = .returned (.bool (decide (xs = ys))) ∧ Below w.heap.size w w' := by
  obtain ⟨A1, c1, rfl, l1, hc1⟩ := h1
  obtain ⟨A2, c2, rfl, l2, hc2⟩ := h2
  have m1 := hc1.2.1
  have H1 := Aside0.mk hc1
  have H2 := Aside0.mk hc2
  clear hc1 hc2
  by_cases hl : xs.length = ys.length
  rotate_left
  · have hR := Aside0.mk (show decide (xs = ys) = false from decide_eq_false (fun e => hl (by rw [e])))
    have hlb : ((xs.length : Int) != (ys.length : Int)) = true := by simp; omega
    clear hl
    go_enter Tryz.func33, Tryz.ntmps33
    go_wp2_with fail
    go_ret
    exact ⟨by rw [hR.out]; rfl, Below.refl _ _⟩
  obtain ⟨n, hn⟩ : ∃ n, n = ys.length := ⟨_, rfl⟩
  have HN2 := Aside0.mk hn
  have HN1 := Aside0.mk (hl.trans hn.symm)
  rw [hl, ← hn] at l1 m1 ⊢
  rw [← hn] at l2
  clear hn hl
  go_enter Tryz.func33, Tryz.ntmps33
  go_wp2_with fail
  go_loopw [5] (fun i wr => ∃ k : Nat, k ≤ n ∧ i = .int .i64 k ∧ Aside0 (xs.take k = ys.take k) ∧ Aside0 (Below w.heap.size w wr)) (fun i _ => n - (intOf i).toNat)
  case atStart => exact ⟨0, Nat.zero_le _, rfl, ⟨by simp⟩, ⟨Below.refl _ _⟩⟩
  case round =>
    obtain ⟨k, hk, rfl, HA, HB⟩ := hrel
    by_cases hlt : k < n
    · have hk1 : k < xs.length := by rw [HN1.out]; exact hlt
      have hk2 : k < ys.length := by rw [← HN2.out]; exact hlt
      obtain ⟨a1, rfl, k1⟩ := C_str (Kd.C_below H1.out HB.out) k hk1
      obtain ⟨a2, rfl, k2⟩ := C_str (Kd.C_below H2.out HB.out) k hk2
      rw [getD_get hk1] at k1
      rw [getD_get hk2] at k2
      have HT := Aside0.mk (take_eq_step hk1 hk2 HA.out)
      have HF := Aside0.mk (show xs[k] ≠ ys[k] → decide (xs = ys) = false from fun h => decide_eq_false (fun e => h (by simp [e])))
      obtain ⟨x, hx⟩ : ∃ x, x = xs[k] := ⟨_, rfl⟩
      obtain ⟨y, hy⟩ : ∃ y, y = ys[k] := ⟨_, rfl⟩
      rw [← hx, ← hy] at HT HF
      rw [← hx] at k1
      rw [← hy] at k2
      clear hx hy hk1 hk2
      have hlt' : (k : Int) < n := by omega
      have hk0 : (0 : Int) ≤ k := by omega
      by_cases he : x = y
      · have hb : (x.toList == y.toList) = true := by rw [str_eqb]; exact decide_eq_true he
        have HT2 := Aside0.mk (HT.out he)
        clear HT HF he
        go_wp2_with fail
        go_quiet (fail)
        go_wp2_with fail
        go_roundw
        case rel => exact ⟨k + 1, by omega, by go_num, HT2, ⟨pw_below_drewN HB.out _⟩⟩
        case measure => simp [intOf] <;> omega
      · have hb : (x.toList == y.toList) = false := by rw [str_eqb]; exact decide_eq_false he
        have HR := Aside0.mk (HF.out he)
        clear HT HF he
        go_wp2_with fail
        go_quiet (fail)
        go_wp2_with fail
        go_ret
        exact ⟨by rw [HR.out]; rfl, pw_below_drewN HB.out _⟩
    · obtain rfl : k = n := by omega
      have HR := Aside0.mk (show decide (xs = ys) = true from decide_eq_true (by
        have := HA.out
        rw [List.take_of_length_le (by rw [HN1.out]; exact Nat.le_refl _), List.take_of_length_le (by rw [← HN2.out]; exact Nat.le_refl _)] at this
        exact this))
      clear HA hlt
      go_wp2_with fail
      go_ret
      exact ⟨by rw [HR.out]; rfl, HB.out⟩
end Go.Proofs.YtbkbpdpegiekhaaGreatDoor
