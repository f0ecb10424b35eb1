/- layer: Ensured. -/
import Derived.Test.YtbkbpdpegiekhaaGreatDoorR14
set_option linter.unusedVariables false
set_option linter.unusedSimpArgs false
namespace Go.Proofs.YtbkbpdpegiekhaaGreatDoor
open Go.RowKit Go.Proofs.YtbkbpdpegiekhaaGreatDoorW.PrintWords Mo

structure Ly where
  adds : List Nd
  whites : List S
  opaques : List S
def Ly.none : Ly := ⟨[], [], []⟩
/-- A layer that is read. -/
def RdL (w : World) (va vw vo : Value) (l : Ly) : Prop := Rd kN w va l.adds ∧ Rd Kd.string w vw l.whites ∧ Rd Kd.string w vo l.opaques
theorem RdL.below {w w' : World} {va vw vo : Value} {l : Ly} (h : RdL w va vw vo l) (hb : Below w.heap.size w w') : RdL w' va vw vo l := ⟨h.1.below hb, h.2.1.below hb, h.2.2.below hb⟩
/-- Not great. -/
structure Lb (l : Ly) : Prop where
  na : l.adds.length ≤ 100000
  nw : l.whites.length ≤ 100000
  no : l.opaques.length ≤ 100000
  a : ∀ n ∈ l.adds, n.path.size ≤ 100000
  w : ∀ s ∈ l.whites, s.size ≤ 100000
  o : ∀ s ∈ l.opaques, s.size ≤ 100000
  d : ∀ n ∈ l.adds, n.data.size ≤ 1000000000

def selfS (p : S) : List S := if p = ⟨#[]⟩ then [] else [p]
def srcA (l : List Nd) : List S := l.flatMap fun n => ups n.path
def srcW (l : List S) : List S := l.flatMap ups
def srcO (l : List S) : List S := l.flatMap fun p => ups p ++ selfS p
def srcs (l : Ly) : List S := srcA l.adds ++ srcW l.whites ++ srcO l.opaques
/-- Directories that must be there. -/
def ensL (l : Ly) : List S := compS (sortS (srcs l))

theorem flat_len {α : Type} (f : α → List S) (m : Nat) : ∀ (l : List α), (∀ x ∈ l, (f x).length ≤ m) → (l.flatMap f).length ≤ l.length * m
  | [], _ => Nat.zero_le _
  | x :: t, h => by
    have h1 := h x (List.mem_cons_self ..)
    have h2 := flat_len f m t (fun y hy => h y (List.mem_cons_of_mem _ hy))
    rw [List.flatMap_cons, List.length_append, List.length_cons, Nat.succ_mul]
    omega
theorem selfS_len (p : S) : (selfS p).length ≤ 1 := by unfold selfS; split <;> simp
theorem srcA_len {l : Ly} (h : Lb l) : (srcA l.adds).length ≤ 10000000000 := by
  have h1 := flat_len (fun n : Nd => ups n.path) 100000 l.adds (fun n hn => Nat.le_trans (ups_len _) (h.a n hn))
  have := Nat.mul_le_mul_right 100000 h.na
  unfold srcA
  omega
theorem srcW_len {l : Ly} (h : Lb l) : (srcW l.whites).length ≤ 10000000000 := by
  have h1 := flat_len ups 100000 l.whites (fun n hn => Nat.le_trans (ups_len _) (h.w n hn))
  have := Nat.mul_le_mul_right 100000 h.nw
  unfold srcW
  omega
theorem srcO_len {l : Ly} (h : Lb l) : (srcO l.opaques).length ≤ 20000000000 := by
  have h1 := flat_len (fun p => ups p ++ selfS p) 100001 l.opaques (fun n hn => by rw [List.length_append]; have := ups_len n; have := h.o n hn; have := selfS_len n; omega)
  have := Nat.mul_le_mul_right 100001 h.no
  unfold srcO
  omega
theorem srcs_small {l : Ly} (h : Lb l) : ∀ s ∈ srcs l, s.size ≤ 100000 := by
  intro s hs
  unfold srcs srcA srcW srcO at hs
  rw [List.mem_append, List.mem_append] at hs
  rcases hs with (hs | hs) | hs
  · obtain ⟨n, hn, hs⟩ := List.mem_flatMap.1 hs
    have := ups_size _ _ hs
    have := h.a n hn
    omega
  · obtain ⟨n, hn, hs⟩ := List.mem_flatMap.1 hs
    have := ups_size _ _ hs
    have := h.w n hn
    omega
  · obtain ⟨n, hn, hs⟩ := List.mem_flatMap.1 hs
    rcases List.mem_append.1 hs with hs | hs
    · have := ups_size _ _ hs
      have := h.o n hn
      omega
    · unfold selfS at hs
      split at hs
      · cases hs
      · rw [List.mem_singleton] at hs
        subst hs
        exact h.o _ hn

theorem below_lower {B B' : Nat} {a w : World} (h : Below B a w) (hB : B' ≤ B) : Below B' a w := ⟨h.os, h.tape, h.output, h.size, fun k hk => h.block k (by omega)⟩

/-- What is kept in Ensured's loops: s: the layer's block; s + 1: the variable's. -/
structure EnsSt (w wr : World) (cs : Array Value) (xs : List S) : Prop where
  box : BoxS wr (w.heap.size + 2) (w.heap.size + 1) xs
  lay : wr.heap[w.heap.size]? = some (.cells cs 25 (0, 0))
  below : Below w.heap.size w wr
theorem EnsSt.alloc {w wr : World} {cs : Array Value} {xs : List S} (h : EnsSt w wr cs xs) (o : Obj) : EnsSt w (wr.alloc o) cs xs :=
  ⟨h.box.below ((Grew.refl wr).alloc o).below, blk_lt' h.lay o, h.below.alloc h.below.size o⟩
theorem EnsSt.step {w wr w' : World} {cs : Array Value} {xs ys : List S} (h : EnsSt w wr cs xs) (hb : Below (w.heap.size + 1) wr w') (hx : BoxS w' (w.heap.size + 2) (w.heap.size + 1) ys) : EnsSt w w' cs ys :=
  ⟨hx, (hb.block _ (by omega)).trans h.lay, h.below.trans (below_lower hb (by omega))⟩

theorem drop_str (xs : List S) (k : Nat) (h : k < xs.length) : xs.drop k = xs.getD k ⟨#[]⟩ :: xs.drop (k + 1) := by
  rw [List.drop_eq_getElem_cons h, List.getD_eq_getElem?_getD, List.getElem?_eq_getElem h]; rfl
theorem getD_memStr (xs : List S) (k : Nat) (h : k < xs.length) : xs.getD k ⟨#[]⟩ ∈ xs := by
  rw [List.getD_eq_getElem?_getD, List.getElem?_eq_getElem h]; simp
theorem drop_flat {α : Type} (f : α → List S) (l : List α) (k : Nat) (x : α) (h : l.drop k = x :: l.drop (k + 1)) (d tot : List S) (e : d ++ (l.drop k).flatMap f = tot) : (d ++ f x) ++ (l.drop (k + 1)).flatMap f = tot := by
  rw [h, List.flatMap_cons] at e
  rw [List.append_assoc]; exact e

set_option maxHeartbeats 4000000 in
theorem layer_Ensured (l : Ly) (va vw vo : Value) (w : World) (hE : Env w) (hr : RdL w va vw vo l) (hl : Lb l) :
    Calls Tryz.prog 144 #[.agg #[va, vw, vo]] w fun e w' => ∃ v, e = .returned v ∧ Ow Kd.string 9 w' w.heap.size v (ensL l) ∧ Below w.heap.size w w' := by
  obtain ⟨hra, hrw, hro⟩ := hr
  obtain ⟨A, ca, rfl, hca, hCa⟩ := hra
  obtain ⟨Wp, cw, rfl, hcw, hCw⟩ := hrw
  obtain ⟨Op, co, rfl, hco, hCo⟩ := hro
  have HE := Aside0.mk hE
  have HL := Aside0.mk hl
  have HCa := Aside0.mk hCa
  have HCw := Aside0.mk hCw
  have HCo := Aside0.mk hCo
  have hna := hl.na
  have hnw := hl.nw
  have hno := hl.no
  clear hE hCa hCw hCo hl
  obtain ⟨na, hna0⟩ : ∃ n, n = l.adds.length := ⟨_, rfl⟩
  obtain ⟨nw, hnw0⟩ : ∃ n, n = l.whites.length := ⟨_, rfl⟩
  obtain ⟨no, hno0⟩ : ∃ n, n = l.opaques.length := ⟨_, rfl⟩
  rw [← hna0] at hna hca ⊢
  rw [← hnw0] at hnw hcw ⊢
  rw [← hno0] at hno hco ⊢
  have HNa := Aside0.mk hna0
  have HNw := Aside0.mk hnw0
  have HNo := Aside0.mk hno0
  clear hna0 hnw0 hno0
  go_enter Tryz.func144, Tryz.ntmps144
  go_wp2_with fail
  go_loopw [15] (fun i wr => ∃ (k : Nat) (d : List S), k ≤ na ∧ i = .int .i64 k ∧ Aside0 (d ++ (l.adds.drop k).flatMap (fun n => ups n.path) = srcA l.adds) ∧ Aside0 (EnsSt w wr #[.slice A na ca, .slice Wp nw cw, .slice Op no co] d))
    (fun i _ => na - (intOf i).toNat)
  case atStart =>
    refine ⟨0, [], Nat.zero_le _, rfl, ⟨rfl⟩, ⟨⟨⟨.slice none 0 0, ?_, Ow.nil _ _ _ _⟩, ?_, ?_⟩⟩⟩
    · rw [show w.heap.size + 1 = (w.alloc (.cells #[.slice A na ca, .slice Wp nw cw, .slice Op no co] 25)).heap.size from by simp]
      exact heap_alloc_new _ _
    · exact blk_lt' (heap_alloc_new w _) _
    · exact ((Grew.refl w).alloc _).alloc _ |>.below
  case round =>
    obtain ⟨k, d, hk, rfl, HD, HS⟩ := hrel
    by_cases hlt : k < na
    · have hk2 : k < l.adds.length := by rw [← HNa.out]; exact hlt
      obtain ⟨ad, rfl, k0, k1, k2, k3, k4⟩ := C_node (Kd.C_below HCa.out HS.out.below) k hk2
      have hp1 := HL.out.a (l.adds.getD k Nd.zero) (getD_mem _ _ hk2)
      have HDr := Aside0.mk (drop_node l.adds k hk2)
      obtain ⟨x, hx0⟩ : ∃ x, x = l.adds.getD k Nd.zero := ⟨_, rfl⟩
      rw [← hx0] at hp1 HDr k0 k1 k2 k3 k4
      clear hx0 hk2
      have hdl : d.length ≤ 100000000000 := by
        have h1 := congrArg List.length HD.out
        have h2 := srcA_len HL.out
        rw [List.length_append] at h1
        omega
      go_wp2_with fail
      refine (Ensured_up x.path (w.heap.size + 1) d _ (HS.out.alloc _).box hp1 hdl).mono ?_
      rintro e1 w1 ⟨rfl, hx1, hb1⟩
      have HS1 := Aside0.mk ((HS.out.alloc _).step hb1 hx1)
      clear hx1 hb1 HS k0 k1 k2 k3 k4
      go_wp2_with fail
      go_roundw
      case rel => exact ⟨k + 1, d ++ ups x.path, by omega, by go_num, ⟨drop_flat (fun n : Nd => ups n.path) l.adds k x HDr.out d _ HD.out⟩, HS1⟩
      case measure => simp [intOf]; omega
    obtain rfl : na = k := by omega
    have HDa := Aside0.mk (show d = srcA l.adds by
      have := HD.out
      rw [List.drop_of_length_le (by rw [← HNa.out]; exact Nat.le_refl _)] at this
      simpa using this)
    have c1 := blk_cell HS.out.lay 1
    clear hlt hk HD
    go_wp2_with fail
    go_loopw [27] (fun i wr => ∃ (k : Nat) (d : List S), k ≤ nw ∧ i = .int .i64 k ∧ Aside0 (d ++ (l.whites.drop k).flatMap ups = srcA l.adds ++ srcW l.whites) ∧ Aside0 (EnsSt w wr #[.slice A na ca, .slice Wp nw cw, .slice Op no co] d))
      (fun i _ => nw - (intOf i).toNat)
    case atStart => exact ⟨0, d, Nat.zero_le _, rfl, ⟨by rw [HDa.out]; rfl⟩, HS⟩
    case round =>
      clear c1 HS HDa
      obtain ⟨k, d, hk, rfl, HD, HS⟩ := hrel
      by_cases hlt : k < nw
      · have hk2 : k < l.whites.length := by rw [← HNw.out]; exact hlt
        obtain ⟨ad, rfl, k0⟩ := C_str (Kd.C_below HCw.out HS.out.below) k hk2
        have hp1 := HL.out.w (l.whites.getD k ⟨#[]⟩) (getD_memStr _ _ hk2)
        have HDr := Aside0.mk (drop_str l.whites k hk2)
        obtain ⟨x, hx0⟩ : ∃ x, x = l.whites.getD k ⟨#[]⟩ := ⟨_, rfl⟩
        rw [← hx0] at hp1 HDr k0
        clear hx0 hk2
        have hdl : d.length ≤ 100000000000 := by
          have h1 := congrArg List.length HD.out
          have h2 := srcA_len HL.out
          have h3 := srcW_len HL.out
          rw [List.length_append, List.length_append] at h1
          omega
        go_wp2_with fail
        refine (Ensured_up x (w.heap.size + 1) d _ HS.out.box hp1 hdl).mono ?_
        rintro e1 w1 ⟨rfl, hx1, hb1⟩
        have HS1 := Aside0.mk (HS.out.step hb1 hx1)
        clear hx1 hb1 HS k0
        go_wp2_with fail
        go_roundw
        case rel => exact ⟨k + 1, d ++ ups x, by omega, by go_num, ⟨drop_flat ups l.whites k x HDr.out d _ HD.out⟩, HS1⟩
        case measure => simp [intOf]; omega
      obtain rfl : nw = k := by omega
      have HDb := Aside0.mk (show d = srcA l.adds ++ srcW l.whites by
        have := HD.out
        rw [List.drop_of_length_le (by rw [← HNw.out]; exact Nat.le_refl _)] at this
        simpa using this)
      have c2 := blk_cell HS.out.lay 2
      clear hlt hk HD
      go_wp2_with fail
      go_loopw [38] (fun i wr => ∃ (k : Nat) (d : List S), k ≤ no ∧ i = .int .i64 k ∧ Aside0 (d ++ (l.opaques.drop k).flatMap (fun p => ups p ++ selfS p) = srcs l) ∧ Aside0 (EnsSt w wr #[.slice A na ca, .slice Wp nw cw, .slice Op no co] d))
        (fun i _ => no - (intOf i).toNat)
      case atStart => exact ⟨0, d, Nat.zero_le _, rfl, ⟨by rw [HDb.out]; rfl⟩, HS⟩
      case round =>
        clear c2 HS HDb
        obtain ⟨k, d, hk, rfl, HD, HS⟩ := hrel
        have hdl : d.length ≤ 50000000000 := by
          have h1 := congrArg List.length HD.out
          have h2 := srcA_len HL.out
          have h3 := srcW_len HL.out
          have h4 := srcO_len HL.out
          unfold srcs at h1
          rw [List.length_append, List.length_append, List.length_append] at h1
          omega
        by_cases hlt : k < no
        · have hk2 : k < l.opaques.length := by rw [← HNo.out]; exact hlt
          obtain ⟨ad, rfl, k0⟩ := C_str (Kd.C_below HCo.out HS.out.below) k hk2
          have hp1 := HL.out.o (l.opaques.getD k ⟨#[]⟩) (getD_memStr _ _ hk2)
          have HDr := Aside0.mk (drop_str l.opaques k hk2)
          obtain ⟨x, hx0⟩ : ∃ x, x = l.opaques.getD k ⟨#[]⟩ := ⟨_, rfl⟩
          rw [← hx0] at hp1 HDr k0
          clear hx0 hk2
          have HF := Aside0.mk (drop_flat (fun p => ups p ++ selfS p) l.opaques k x HDr.out d _ HD.out)
          go_wp2_with fail
          refine (Ensured_up x (w.heap.size + 1) d _ HS.out.box hp1 (by omega)).mono ?_
          rintro e1 w1 ⟨rfl, hx1, hb1⟩
          have HS1 := Aside0.mk (HS.out.step hb1 hx1)
          have hul := ups_len x
          clear hx1 hb1 HS k0
          by_cases hx : x = ⟨#[]⟩
          · subst hx
            go_wp2_with fail
            go_roundw
            case rel => exact ⟨k + 1, d ++ ups ⟨#[]⟩, by omega, by go_num, ⟨by have := HF.out; rw [show selfS ⟨#[]⟩ = [] from rfl, List.append_nil] at this; exact this⟩, HS1⟩
            case measure => simp [intOf]; omega
          · have hlb : ¬ x.toList = [] := fun h => hx (isEmpty_eq (by rw [h]; rfl))
            have hlc : x.toList.isEmpty = false := by simpa using hlb
            have hself : selfS x = [x] := by unfold selfS; rw [if_neg hx]
            rw [hself] at HF
            obtain ⟨v, hv1, hv2⟩ := HS1.out.box
            obtain ⟨A2, n2, c2, rfl⟩ := hv2.sl
            have c0 := blk_cell hv1 0
            have HV1 := Aside0.mk hv1
            have HV2 := Aside0.mk hv2
            have hls : (d ++ ups x).length ≤ 100000100000 := by rw [List.length_append]; omega
            have hsz := blk_lt hv1
            clear hv1 hv2 hx hself
            go_wp2_with (at_builtin; refine Ow.app Kd.string flat_string _ (w.heap.size + 2) rfl _ _ 23 9 _ 16 rfl Tryz.underlying23 info9 rfl (by decide) _ (d ++ ups x) [x] rfl (some ⟨w1.heap.size, 0, none⟩) 1 rfl ?hC ?hO ?hB ?hL ?_; (case hC => exact C_lit flat_string _ 9 x _ rfl _ rfl); (case hO => exact HV2.out.below flat_string (below_alloc (Below.refl _ _) _)); (case hB => simp; omega); (case hL => simp at hls ⊢; omega); intro v1' w2 ho hgg hat; obtain ⟨A1, n1, c1, rfl⟩ := ho.sl; have hv1 := blk_grown (blk_lt' HV1.out _) hgg (fun h => HV2.out.ne_type HV1.out (by decide) h.symm); have cc := blk_cell hv1 0; have ff := blk_frozen hv1 0; have HB1 := Aside0.mk (Below.grown ((Below.refl (w.heap.size + 1) w1).alloc (by omega) _) hgg (by simp; omega) (fun k hk => by have := HV2.out.base_le k hk; omega)); have HO1 := Aside0.mk ho; have HV3 := Aside0.mk hv1; clear ho hgg hat hv1 c0)
            go_roundw
            case rel => exact ⟨k + 1, (d ++ ups x) ++ [x], by omega, by go_num, ⟨by rw [List.append_assoc d]; exact HF.out⟩, ⟨HS1.out.step (HB1.out.setCell (Nat.le_refl _) _) (BoxS.put HV3.out HO1.out)⟩⟩
            case measure => simp [intOf]; omega
        obtain rfl : no = k := by omega
        have HDc := Aside0.mk (show d = srcs l by
          have := HD.out
          rw [List.drop_of_length_le (by rw [← HNo.out]; exact Nat.le_refl _)] at this
          simpa using this)
        obtain ⟨v, hv1, hv2⟩ := HS.out.box
        obtain ⟨A2, n2, c2, rfl⟩ := hv2.sl
        have c0 := blk_cell hv1 0
        have HV1 := Aside0.mk hv1
        have HV2 := Aside0.mk hv2
        have hes := HE.out.size
        clear hlt hk HD hv1 hv2
        go_wp2_with fail
        refine (sort_strs d _ (w.heap.size + 2) _ (HE.out.below HS.out.below) (by omega) HV2.out (fun s hs => by have := srcs_small HL.out s (by rw [← HDc.out]; exact hs); omega) (by omega)).mono ?_
        rintro e1 w1 ⟨rfl, ho1, hb1⟩
        have HB1 := Aside0.mk (HS.out.below.trans (below_lower hb1 (by omega)))
        have hv1 := (hb1.block _ (by omega)).trans HV1.out
        have c1 := blk_cell hv1 0
        have HO1 := Aside0.mk ho1
        clear ho1 hb1 hv1 c0
        go_wp2_with fail
        refine (compact_strs (sortS d) _ (w.heap.size + 2) _ HO1.out (by rw [sortS_len]; omega)).mono ?_
        rintro e2 w2 ⟨v', rfl, ho2, hb2, _⟩
        have HB2 := Aside0.mk (HB1.out.trans (below_lower hb2 (by omega)))
        have HO2 := Aside0.mk ho2
        clear ho2 hb2 c1
        go_wp2_with fail
        go_ret
        refine ⟨_, rfl, ?_, HB2.out⟩
        have := HO2.out.lower (b := w.heap.size) (by omega)
        rw [HDc.out] at this
        exact this

end Go.Proofs.YtbkbpdpegiekhaaGreatDoor
