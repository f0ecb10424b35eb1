/- apply: Removes; squash: under; slices.Contains. -/
import Derived.Test.YtbkbpdpegiekhaaGreatDoorR18
set_option linter.unusedVariables false
set_option linter.unusedSimpArgs false
namespace Go.Proofs.YtbkbpdpegiekhaaGreatDoor
open Go.RowKit Go.Proofs.YtbkbpdpegiekhaaGreatDoorW.PrintWords Mo

def eS (a b : S) : Bool := decide (a = b)
def wHits (p w : S) : Bool := eS w p || (!eS w ⟨#[]⟩ && pUnder p w)
def oHits (p d : S) : Bool := eS d ⟨#[]⟩ || pUnder p d
/-- Does a layer take a path away? -/
def removesB (l : Ly) (p : S) : Bool := l.whites.any (wHits p) || l.opaques.any (oHits p)
/-- slices.ContainsFunc at texts that are not great. -/
theorem any_strs (xs : List S) (v : Value) (w : World) (h : Rd Kd.string w v xs) (hx : ∀ s ∈ xs, s.size < 4294967281) (p : S → Bool) (g : Nat) (lb : Array Value)
    (eg : ∀ args w, (callFunc g args).run Tryz.prog w = .ok (.enter g args) w)
    (hp : ∀ W s, s.size < 4294967281 → Below w.heap.size w W → Calls Tryz.prog g (#[Value.string s] ++ lb) W fun e w' => e = .returned (.bool (p s)) ∧ W = w') :
    Calls Tryz.prog 127 #[v, .func (.func g) #[] lb] w fun e w' => e = .returned (.bool (xs.any p)) ∧ Grew w w' := by
  obtain ⟨A, c, rfl, hl, hc⟩ := h
  rcases C_strs hc with rfl | ⟨b, off, rfl, _, hcell⟩
  · exact (Tryz.slices_ContainsFunc_empty (α := Nat) A c _ w).mono fun e w' ⟨he, hw⟩ => ⟨he, by rw [hw]; exact Grew.refl _⟩
  · obtain ⟨ts, rfl⟩ : ∃ ts : List St, ts.map Subtype.val = xs := by
      refine ⟨xs.attach.map fun s => ⟨s.1, hx s.1 s.2⟩, ?_⟩
      rw [List.map_map]
      exact List.attach_map_subtype_val xs
    have hlen : (ts.map Subtype.val).length = ts.length := List.length_map _
    have hm := Kd.C_max hc
    rw [hlen] at hm ⊢
    refine (Tryz.slices_ContainsFunc (fun t : St => Value.string t.1) (fun t => p t.1) g lb eg b off ts.length c ts w (fun W t hb => (hp W t.1 t.2 hb).mono fun e w' ⟨he, hw⟩ => ⟨he, 0, hw.symm⟩) (Nat.le_refl _) hm (fun j hj => ?_)).mono fun e w' ⟨he, q, hw⟩ => ⟨by rw [he, List.take_length, List.any_map]; rfl, by rw [hw]; exact (Grew.refl _).drewN q⟩
    rw [getElem!_pos _ j hj]
    have := hcell j (by rw [hlen]; exact hj)
    rw [List.getElem_map] at this
    exact this

theorem rem_white (p q : S) (g : Nat) (w : World) (hg : w.cell? ⟨g, 0, none⟩ = some (.string p)) (hq : q.size < 4294967281) :
    Calls Tryz.prog 128 #[.string q, .pointer (some ⟨g, 0, none⟩)] w fun e w' => e = .returned (.bool (wHits p q)) ∧ w = w' := by
  by_cases h1 : q = p
  · subst h1
    have HZ := Aside0.mk (show wHits q q = true by unfold wHits eS; simp)
    go_enter Tryz.func128, Tryz.ntmps128
    go_wp2_with fail
    go_ret
    exact ⟨by rw [HZ.out]; rfl, rfl⟩
  · by_cases h2 : q = ⟨#[]⟩
    · subst h2
      have HZ := Aside0.mk (show wHits p ⟨#[]⟩ = false by unfold wHits eS; rw [decide_eq_false h1]; simp)
      have hpb : ¬ p.toList = [] := fun h => h1 (isEmpty_eq (by rw [h]; rfl)).symm
      have hpc : p.toList.isEmpty = false := by simpa using hpb
      go_enter Tryz.func128, Tryz.ntmps128
      go_wp2_with fail
      go_ret
      exact ⟨by rw [HZ.out]; rfl, rfl⟩
    · have HZ := Aside0.mk (show wHits p q = pUnder p q by unfold wHits eS; rw [decide_eq_false h1, decide_eq_false h2]; rfl)
      have hlb : ¬ q.toList = [] := fun h => h2 (isEmpty_eq (by rw [h]; rfl))
      have hlc : q.toList.isEmpty = false := by simpa using hlb
      have hbs : ¬ q.toList = p.toList := fun h => h1 (bs_inj (by rw [Lib.toList_data, Lib.toList_data] at h; exact h))
      have hbb : (q.toList == p.toList) = false := by simpa using hbs
      go_enter Tryz.func128, Tryz.ntmps128
      go_wp2_with fail
      refine (route_Under p q _ hq).mono ?_
      rintro e w1 ⟨rfl, rfl⟩
      go_wp2_with fail
      go_ret
      exact ⟨by rw [HZ.out]; rfl, rfl⟩

theorem rem_opaque (p q : S) (g : Nat) (w : World) (hg : w.cell? ⟨g, 0, none⟩ = some (.string p)) (hq : q.size < 4294967281) :
    Calls Tryz.prog 130 #[.string q, .pointer (some ⟨g, 0, none⟩)] w fun e w' => e = .returned (.bool (oHits p q)) ∧ w = w' := by
  by_cases h2 : q = ⟨#[]⟩
  · subst h2
    have HZ := Aside0.mk (show oHits p ⟨#[]⟩ = true by unfold oHits eS; simp)
    go_enter Tryz.func130, Tryz.ntmps130
    go_wp2_with fail
    go_ret
    exact ⟨by rw [HZ.out]; rfl, rfl⟩
  · have HZ := Aside0.mk (show oHits p q = pUnder p q by unfold oHits eS; rw [decide_eq_false h2]; rfl)
    have hlb : ¬ q.toList = [] := fun h => h2 (isEmpty_eq (by rw [h]; rfl))
    have hlc : q.toList.isEmpty = false := by simpa using hlb
    go_enter Tryz.func130, Tryz.ntmps130
    go_wp2_with fail
    refine (route_Under p q _ hq).mono ?_
    rintro e w1 ⟨rfl, rfl⟩
    go_wp2_with fail
    go_ret
    exact ⟨by rw [HZ.out]; rfl, rfl⟩

set_option maxHeartbeats 1000000 in
theorem apply_Removes (l : Ly) (va vw vo : Value) (p : S) (w : World) (hr : RdL w va vw vo l) (hl : Lb l) :
    Calls Tryz.prog 57 #[.agg #[va, vw, vo], .string p] w fun e w' => e = .returned (.bool (removesB l p)) ∧ Below w.heap.size w w' := by
  have hrb := fun W (hb : Below w.heap.size w W) => hr.below hb
  have HR := Aside0.mk hrb
  have HL := Aside0.mk hl
  obtain ⟨A, ca, rfl, hca, hCa⟩ := hr.1
  obtain ⟨Wp, cw, rfl, hcw, hCw⟩ := hr.2.1
  obtain ⟨Op, co, rfl, hco, hCo⟩ := hr.2.2
  clear hrb hl hr hCa hCw hCo hca hcw hco
  obtain ⟨na, hna0⟩ : ∃ n, n = l.adds.length := ⟨_, rfl⟩
  obtain ⟨nw, hnw0⟩ : ∃ n, n = l.whites.length := ⟨_, rfl⟩
  obtain ⟨no, hno0⟩ : ∃ n, n = l.opaques.length := ⟨_, rfl⟩
  rw [← hna0] at HR ⊢
  rw [← hnw0] at HR ⊢
  rw [← hno0] at HR ⊢
  clear hna0 hnw0 hno0
  have hb2 : ∀ o o', Below w.heap.size w ((w.alloc o).alloc o') := fun o o' => (((Grew.refl w).alloc o).alloc o').below
  have HB2 := Aside0.mk hb2
  clear hb2
  go_enter Tryz.func57, Tryz.ntmps57
  go_wp2_with fail
  refine (any_strs l.whites _ _ (HR.out _ (HB2.out _ _)).2.1 (fun s hs => by have := HL.out.w s hs; omega) (wHits p) 128 #[.pointer (some ⟨w.heap.size + 1, 0, none⟩)] (enters_of Tryz.func128 (by kernel_rfl) rfl)
    (fun W s hs hb => rem_white p s (w.heap.size + 1) W (pw_cell_below hb (by rw [show w.heap.size + 1 = (w.alloc (.cells #[.slice A na ca, .slice Wp nw cw, .slice Op no co] 25)).heap.size from by simp]; exact blk_cell (heap_alloc_new _ _) 0)) hs)).mono ?_
  rintro e w1 ⟨rfl, hg⟩
  have HB1 := Aside0.mk (below_then (HB2.out _ _) (HB2.out _ _).size hg.below)
  have hw1 := (hg.below.block w.heap.size (by simp; omega)).trans (blk_lt' (heap_alloc_new w (.cells #[.slice A na ca, .slice Wp nw cw, .slice Op no co] 25)) (.cells #[.string p] 9))
  have hw2 : w1.cell? ⟨w.heap.size + 1, 0, none⟩ = some (.string p) := pw_cell_below hg.below (by rw [show w.heap.size + 1 = (w.alloc (.cells #[.slice A na ca, .slice Wp nw cw, .slice Op no co] 25)).heap.size from by simp]; exact blk_cell (heap_alloc_new _ _) 0)
  have HW2 := Aside0.mk hw2
  have c2 := blk_cell hw1 2
  clear hg hw1 hw2
  have hz : removesB l p = (l.whites.any (wHits p) || l.opaques.any (oHits p)) := rfl
  cases hm : l.whites.any (wHits p)
  · have HZ := Aside0.mk (show removesB l p = l.opaques.any (oHits p) by rw [hz, hm]; rfl)
    clear hz hm
    go_wp2_with fail
    refine (any_strs l.opaques _ _ (HR.out _ HB1.out).2.2 (fun s hs => by have := HL.out.o s hs; omega) (oHits p) 130 #[.pointer (some ⟨w.heap.size + 1, 0, none⟩)] (enters_of Tryz.func130 (by kernel_rfl) rfl)
      (fun W s hs hb => rem_opaque p s (w.heap.size + 1) W (pw_cell_below hb HW2.out) hs)).mono ?_
    rintro e w2 ⟨rfl, hg⟩
    have HB3 := Aside0.mk (below_then HB1.out HB1.out.size hg.below)
    clear hg
    go_wp2_with fail
    go_ret
    exact ⟨by rw [HZ.out]; rfl, HB3.out⟩
  · have HZ := Aside0.mk (show removesB l p = true by rw [hz, hm]; rfl)
    clear hz hm
    go_wp2_with fail
    go_ret
    exact ⟨by rw [HZ.out]; rfl, HB1.out⟩

end Go.Proofs.YtbkbpdpegiekhaaGreatDoor
