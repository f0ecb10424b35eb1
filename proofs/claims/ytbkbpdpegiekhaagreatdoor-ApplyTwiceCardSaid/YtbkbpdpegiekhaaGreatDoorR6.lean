/- fold: Table, Small. -/
import Derived.Test.YtbkbpdpegiekhaaGreatDoorR4
import Derived.Test.YtbkbpdpegiekhaaGreatDoorB1
/- Binary search among nodes, by path. -/
set_option linter.unusedVariables false
set_option linter.unusedSimpArgs false
namespace Go.Proofs.YtbkbpdpegiekhaaGreatDoor
open Go.RowKit Go.Proofs.YtbkbpdpegiekhaaGreatDoorW.PrintWords Mo

theorem Env.grew {w w' : World} (h : Env w) (g : Grew w w') : Env w' := h.below g.below

theorem byPath_any (n : Nd) (p : S) (w : World) (hE : Env w) (h1 : n.path.size < 4294967281) (h2 : p.size < 4294967281) :
    Calls Tryz.prog 279 #[vN n, .string p] w fun e w' => e = .returned (.int .i64 (pCmp n.path p)) ∧ Grew w w' := by
  have hE' : ∀ o, Env (w.alloc o) := fun o => hE.grew ((Grew.refl w).alloc o)
  have HE := Aside0.mk hE'
  clear hE hE'
  go_enter Tryz.func279, Tryz.ntmps279
  go_wp2_with fail
  refine (route_Compare _ _ _ (HE.out _) h1 h2).mono ?_
  rintro e w1 ⟨rfl, hg⟩
  have HG := Aside0.mk (((Grew.refl w).alloc _).trans hg)
  clear hg
  go_wp2_with fail
  go_ret
  exact ⟨rfl, HG.out⟩

/-- A place: all ahead of it is less, nothing from it on; and whether what is there is alike. -/
def Found (n : Nat) (cf : Nat → Int) (w : World) (e : Ending) (w' : World) : Prop :=
  ∃ i : Nat, i ≤ n ∧ (∀ h, h < i → cf h < 0) ∧ (∀ h, i ≤ h → h < n → 0 ≤ cf h) ∧ e = .returned (.tuple #[.int .i64 i, .bool (decide (i < n) && (cf i == 0))]) ∧ Grew w w'

set_option maxHeartbeats 1000000 in
theorem search_nodes (xs : List Nd) (p : S) (v : Value) (w : World) (hE : Env w) (hv : Rd kN w v xs) (hx : ∀ n ∈ xs, n.path.size < 4294967281) (h2 : p.size < 4294967281) (hsz : xs.length ≤ 1000000000)
    (hm : ∀ a b, a ≤ b → b < xs.length → pCmp (xs.getD b Nd.zero).path p < 0 → pCmp (xs.getD a Nd.zero).path p < 0) :
    Calls Tryz.prog 278 #[v, .string p, .func (.func 279) #[] #[]] w (Found xs.length (fun h => pCmp (xs.getD h Nd.zero).path p) w) := by
  obtain ⟨A, c, rfl, hl, hc⟩ := hv
  have HE := Aside0.mk hE
  have HX := Aside0.mk hx
  have HM := Aside0.mk hm
  have HC := Aside0.mk hc
  clear hE hx hm hc
  obtain ⟨n, hn0⟩ : ∃ n, n = xs.length := ⟨_, rfl⟩
  rw [← hn0] at hsz hl ⊢
  have HN := Aside0.mk hn0
  clear hn0
  go_enter Tryz.func278, Tryz.ntmps278
  go_wp2_with fail
  go_loopw [9, 10] (fun i j wr => ∃ a b : Nat, a ≤ b ∧ b ≤ n ∧ i = .int .i64 a ∧ j = .int .i64 b ∧ Aside0 (∀ h, h < a → pCmp (xs.getD h Nd.zero).path p < 0) ∧ Aside0 (∀ h, b ≤ h → h < n → 0 ≤ pCmp (xs.getD h Nd.zero).path p) ∧ Aside0 (Grew w wr))
    (fun i j _ => (intOf j).toNat - (intOf i).toNat)
  case atStart => exact ⟨0, n, Nat.zero_le _, Nat.le_refl _, rfl, rfl, ⟨fun h hh => absurd hh (Nat.not_lt_zero _)⟩, ⟨fun h h1 h2 => absurd h2 (by omega)⟩, ⟨Grew.refl _⟩⟩
  case round =>
    obtain ⟨a, b, hab, hbn, rfl, rfl, HA, HB, HG⟩ := hrel
    by_cases hlt : a < b
    · have hh : (a + b) / 2 < n := by omega
      obtain ⟨ad, rfl, k0, k1, k2, k3, k4⟩ := C_node (Kd.C_below HC.out HG.out.below) ((a + b) / 2) (by rw [← HN.out]; exact hh)
      have hp1 := HX.out (xs.getD ((a + b) / 2) Nd.zero) (by rw [List.getD_eq_getElem?_getD, List.getElem?_eq_getElem (by rw [← HN.out]; exact hh)]; simp)
      have hmo := HM.out
      rw [← HN.out] at hmo
      have HM2 := Aside0.mk hmo
      clear hmo
      go_wp2_with fail
      refine (byPath_any (xs.getD ((a + b) / 2) Nd.zero) p _ (HE.out.grew HG.out) hp1 h2).mono ?_
      rintro e w1 ⟨rfl, hg⟩
      have HG1 := Aside0.mk (HG.out.trans hg)
      clear hg HG
      obtain ⟨cc, hcc⟩ : ∃ cc, cc = pCmp (xs.getD ((a + b) / 2) Nd.zero).path p := ⟨_, rfl⟩
      rw [← hcc]
      have HCC := Aside0.mk hcc
      clear hcc k0 k1 k2 k3 k4 hp1
      by_cases hneg : cc < 0
      · have hnb : decide (cc < 0) = true := decide_eq_true hneg
        go_wp2_with fail
        go_roundw
        case rel =>
          exact ⟨(a + b) / 2 + 1, b, by omega, by omega, by go_num, rfl, ⟨fun h hh => HM2.out h ((a + b) / 2) (by omega) (by omega) (by rw [← HCC.out]; exact hneg)⟩, HB, HG1⟩
        case measure => simp [intOf]; omega
      · have hnb : decide (cc < 0) = false := decide_eq_false hneg
        have HNN := Aside0.mk hneg
        clear hneg
        go_wp2_with fail
        go_roundw
        case rel =>
          exact ⟨a, (a + b) / 2, by omega, by omega, rfl, by go_num, HA, ⟨fun h h1 h2 => Classical.byContradiction fun hc => by have q1 := HNN.out; have q2 := HM2.out ((a + b) / 2) h h1 h2 (by omega); rw [← HCC.out] at q2; omega⟩, HG1⟩
        case measure => simp [intOf]; omega
    · have hab2 : a = b := by omega
      subst hab2
      clear hlt
      have HCm := HC.out
      by_cases hin : a < n
      · obtain ⟨ad, rfl, k0, k1, k2, k3, k4⟩ := C_node (Kd.C_below HC.out HG.out.below) a (by rw [← HN.out]; exact hin)
        have hp1 := HX.out (xs.getD a Nd.zero) (by rw [List.getD_eq_getElem?_getD, List.getElem?_eq_getElem (by rw [← HN.out]; exact hin)]; simp)
        clear HCm
        go_wp2_with fail
        refine (byPath_any (xs.getD a Nd.zero) p _ (HE.out.grew HG.out) hp1 h2).mono ?_
        rintro e w1 ⟨rfl, hg⟩
        have HG1 := Aside0.mk (HG.out.trans hg)
        clear hg HG k0 k1 k2 k3 k4 hp1
        go_wp2_with fail
        go_ret2
        refine ⟨a, by omega, HA.out, HB.out, tup2 rfl ?_, HG1.out⟩
        rw [decide_eq_true hin]; rfl
      · clear HCm
        go_wp2_with fail
        go_ret2
        refine ⟨a, by omega, HA.out, HB.out, tup2 rfl ?_, HG.out⟩
        rw [decide_eq_false hin]; rfl

end Go.Proofs.YtbkbpdpegiekhaaGreatDoor

set_option linter.unusedVariables false
set_option linter.unusedSimpArgs false
namespace Go.Proofs.YtbkbpdpegiekhaaGreatDoor
open Go.RowKit Go.Proofs.YtbkbpdpegiekhaaGreatDoorW.PrintWords Mo

abbrev T3 := Int × Int × Int
def kT : Kd T3 := Kd.pair (Kd.int .i64) (Kd.pair (Kd.int .i64) (Kd.int .i64))
theorem flat_T : Flat kT := flat_pair (flat_int _) (flat_pair (flat_int _) (flat_int _))
abbrev cT (x : T3) : List Value := [.int .i64 x.1, .int .i64 x.2.1, .int .i64 x.2.2]
theorem kT_mk (w : World) (x : T3) : kT.K w x (cT x) := ⟨[.int .i64 x.1], [.int .i64 x.2.1, .int .i64 x.2.2], rfl, rfl, ⟨[.int .i64 x.2.1], [.int .i64 x.2.2], rfl, rfl, rfl⟩⟩
theorem kT_open {w : World} {x : T3} {cs : List Value} (h : kT.K w x cs) : cs = cT x := by
  obtain ⟨_, _, rfl, rfl, ⟨_, _, rfl, rfl, rfl⟩⟩ := h
  rfl
theorem info305 : (Tryz.prog.info? 305).map (fun i => (i.zero, i.size, i.bytes)) = some (some (.agg #[.int .i64 0, .int .i64 0, .int .i64 0]), 3, 24) := by kernel_rfl

def tabAt : Nat → List T3
  | 0 => []
  | 1 => [(65, 90, 32)]
  | 2 => [(65, 90, 32), (192, 214, 32), (216, 222, 32)]
  | 3 => [(65, 90, 32), (192, 214, 32), (216, 222, 32), (913, 929, 32), (931, 937, 32)]
  | 4 => [(65, 90, 32), (192, 214, 32), (216, 222, 32), (913, 929, 32), (931, 937, 32), (1024, 1039, 80)]
  | _ => [(65, 90, 32), (192, 214, 32), (216, 222, 32), (913, 929, 32), (931, 937, 32), (1024, 1039, 80), (1040, 1071, 32)]
def tab : List T3 := tabAt 5
def lit20 : Array Value := #[.int .i64 65, .int .i64 90, .int .i64 32, .int .i64 0, .int .i64 192, .int .i64 222, .int .i64 32, .int .i64 215, .int .i64 913, .int .i64 937, .int .i64 32, .int .i64 930, .int .i64 1024, .int .i64 1039, .int .i64 80, .int .i64 0, .int .i64 1040, .int .i64 1071, .int .i64 32, .int .i64 0]

theorem blk_lt' {w : World} {g : Nat} {o : Obj} (h : w.heap[g]? = some o) (o' : Obj) : (w.alloc o').heap[g]? = some o := (Below.heap_alloc w o' g (blk_lt h)).trans h

set_option maxHeartbeats 2000000 in
set_option maxRecDepth 100000 in
theorem fold_Table (w : World) : Calls Tryz.prog 285 #[] w fun e w' => ∃ v, e = .returned v ∧ Ow kT 305 w' w.heap.size v tab ∧ Below w.heap.size w w' := by
  obtain ⟨i0, hi, hz0, hz1, hz2⟩ := info_parts info305
  go_enter Tryz.func285, Tryz.ntmps285
  go_wp2_with fail
  go_loopw [1, 11] (fun v i wr => ∃ k : Nat, k ≤ 5 ∧ i = .int .i64 k ∧ Aside0 (Ow kT 305 wr w.heap.size v (tabAt k)) ∧ Aside0 (Below w.heap.size w wr) ∧ Aside0 (wr.heap[w.heap.size]? = some (.cells lit20 324 (0, 0))))
    (fun _ i _ => 5 - (intOf i).toNat)
  case atStart => exact ⟨0, by omega, rfl, ⟨Ow.nil _ _ _ _⟩, ⟨(Below.refl _ _).alloc (Nat.le_refl _) _⟩, ⟨heap_alloc_new w _⟩⟩
  case round =>
    obtain ⟨k, hk, rfl, HO, HB, HL⟩ := hrel
    have hlt : w.heap.size < wr.heap.size := blk_lt HL.out
    by_cases h5 : k = 5
    · subst h5
      go_wp2_with fail
      go_ret
      exact ⟨_, rfl, HO.out, HB.out⟩
    have hk5 : k = 0 ∨ k = 1 ∨ k = 2 ∨ k = 3 ∨ k = 4 := by omega
    clear h5 hk
    rcases hk5 with rfl | rfl | rfl | rfl | rfl
    · have c0 : wr.cell? ⟨w.heap.size, 0, none⟩ = some (.int .i64 65) := blk_cell HL.out 0
      have c1 : wr.cell? ⟨w.heap.size, 1, none⟩ = some (.int .i64 90) := blk_cell HL.out 1
      have c2 : wr.cell? ⟨w.heap.size, 2, none⟩ = some (.int .i64 32) := blk_cell HL.out 2
      have c3 : wr.cell? ⟨w.heap.size, 3, none⟩ = some (.int .i64 0) := blk_cell HL.out 3
      go_wp2_with (at_builtin; refine Ow.app kT flat_T _ w.heap.size rfl (.tmp 18) (.tmp 26) 302 305 (.agg #[.int .i64 0, .int .i64 0, .int .i64 0]) 24 rfl Tryz.underlying302 info305 rfl (by decide) u1 (tabAt 0) [(65, 90, 32)] rfl (some ⟨wr.heap.size + 1, 0, none⟩) 1 rfl ?hC ?hO ?hB ?hL ?_; (case hC => exact C_lit flat_T _ 305 (65, 90, 32) _ (kT_mk _ _) _ (by simp)); (case hO => exact HO.out.below flat_T (by repeat (first | exact Below.refl _ _ | apply below_alloc))); (case hB => simp; omega); (case hL => simp [tabAt]); intro v1' w1 ho hg hat; have HO1 := Aside0.mk ho; have HB1 := Aside0.mk (Below.grown (below_alloc (below_alloc HB.out _) _) hg (by simp; omega) HO.out.base_le); have HL1 := Aside0.mk (blk_grown (blk_lt' (blk_lt' HL.out _) _) hg (fun h => HO.out.ne_type HL.out (by decide) h.symm)); clear ho hg hat HO HB HL)
      go_roundw
      case rel => exact ⟨1, by omega, rfl, HO1, HB1, HL1⟩
      case measure => simp [intOf]
    · have c0 : wr.cell? ⟨w.heap.size, 4, none⟩ = some (.int .i64 192) := blk_cell HL.out 4
      have c1 : wr.cell? ⟨w.heap.size, 5, none⟩ = some (.int .i64 222) := blk_cell HL.out 5
      have c2 : wr.cell? ⟨w.heap.size, 6, none⟩ = some (.int .i64 32) := blk_cell HL.out 6
      have c3 : wr.cell? ⟨w.heap.size, 7, none⟩ = some (.int .i64 215) := blk_cell HL.out 7
      go_wp2_with (at_builtin; refine Ow.app kT flat_T _ w.heap.size rfl (.tmp 28) (.tmp 45) 302 305 (.agg #[.int .i64 0, .int .i64 0, .int .i64 0]) 24 rfl Tryz.underlying302 info305 rfl (by decide) u1 (tabAt 1) [(192, 214, 32), (216, 222, 32)] rfl (some ⟨wr.heap.size + 1, 0, none⟩) 2 rfl ?hC ?hO ?hB ?hL ?_; (case hC => exact C_lits flat_T _ 305 [(192, 214, 32), (216, 222, 32)] _ (Reps.app (reps_single (kT_mk _ _)) (reps_single (kT_mk _ _))) (by simp) _ (by simp)); (case hO => exact HO.out.below flat_T (by repeat (first | exact Below.refl _ _ | apply below_alloc))); (case hB => simp; omega); (case hL => simp [tabAt]); intro v1' w1 ho hg hat; have HO1 := Aside0.mk ho; have HB1 := Aside0.mk (Below.grown (below_alloc (below_alloc HB.out _) _) hg (by simp; omega) HO.out.base_le); have HL1 := Aside0.mk (blk_grown (blk_lt' (blk_lt' HL.out _) _) hg (fun h => HO.out.ne_type HL.out (by decide) h.symm)); clear ho hg hat HO HB HL)
      go_roundw
      case rel => exact ⟨2, by omega, rfl, HO1, HB1, HL1⟩
      case measure => simp [intOf]
    · have c0 : wr.cell? ⟨w.heap.size, 8, none⟩ = some (.int .i64 913) := blk_cell HL.out 8
      have c1 : wr.cell? ⟨w.heap.size, 9, none⟩ = some (.int .i64 937) := blk_cell HL.out 9
      have c2 : wr.cell? ⟨w.heap.size, 10, none⟩ = some (.int .i64 32) := blk_cell HL.out 10
      have c3 : wr.cell? ⟨w.heap.size, 11, none⟩ = some (.int .i64 930) := blk_cell HL.out 11
      go_wp2_with (at_builtin; refine Ow.app kT flat_T _ w.heap.size rfl (.tmp 28) (.tmp 45) 302 305 (.agg #[.int .i64 0, .int .i64 0, .int .i64 0]) 24 rfl Tryz.underlying302 info305 rfl (by decide) u1 (tabAt 2) [(913, 929, 32), (931, 937, 32)] rfl (some ⟨wr.heap.size + 1, 0, none⟩) 2 rfl ?hC ?hO ?hB ?hL ?_; (case hC => exact C_lits flat_T _ 305 [(913, 929, 32), (931, 937, 32)] _ (Reps.app (reps_single (kT_mk _ _)) (reps_single (kT_mk _ _))) (by simp) _ (by simp)); (case hO => exact HO.out.below flat_T (by repeat (first | exact Below.refl _ _ | apply below_alloc))); (case hB => simp; omega); (case hL => simp [tabAt]); intro v1' w1 ho hg hat; have HO1 := Aside0.mk ho; have HB1 := Aside0.mk (Below.grown (below_alloc (below_alloc HB.out _) _) hg (by simp; omega) HO.out.base_le); have HL1 := Aside0.mk (blk_grown (blk_lt' (blk_lt' HL.out _) _) hg (fun h => HO.out.ne_type HL.out (by decide) h.symm)); clear ho hg hat HO HB HL)
      go_roundw
      case rel => exact ⟨3, by omega, rfl, HO1, HB1, HL1⟩
      case measure => simp [intOf]
    · have c0 : wr.cell? ⟨w.heap.size, 12, none⟩ = some (.int .i64 1024) := blk_cell HL.out 12
      have c1 : wr.cell? ⟨w.heap.size, 13, none⟩ = some (.int .i64 1039) := blk_cell HL.out 13
      have c2 : wr.cell? ⟨w.heap.size, 14, none⟩ = some (.int .i64 80) := blk_cell HL.out 14
      have c3 : wr.cell? ⟨w.heap.size, 15, none⟩ = some (.int .i64 0) := blk_cell HL.out 15
      go_wp2_with (at_builtin; refine Ow.app kT flat_T _ w.heap.size rfl (.tmp 18) (.tmp 26) 302 305 (.agg #[.int .i64 0, .int .i64 0, .int .i64 0]) 24 rfl Tryz.underlying302 info305 rfl (by decide) u1 (tabAt 3) [(1024, 1039, 80)] rfl (some ⟨wr.heap.size + 1, 0, none⟩) 1 rfl ?hC ?hO ?hB ?hL ?_; (case hC => exact C_lit flat_T _ 305 (1024, 1039, 80) _ (kT_mk _ _) _ (by simp)); (case hO => exact HO.out.below flat_T (by repeat (first | exact Below.refl _ _ | apply below_alloc))); (case hB => simp; omega); (case hL => simp [tabAt]); intro v1' w1 ho hg hat; have HO1 := Aside0.mk ho; have HB1 := Aside0.mk (Below.grown (below_alloc (below_alloc HB.out _) _) hg (by simp; omega) HO.out.base_le); have HL1 := Aside0.mk (blk_grown (blk_lt' (blk_lt' HL.out _) _) hg (fun h => HO.out.ne_type HL.out (by decide) h.symm)); clear ho hg hat HO HB HL)
      go_roundw
      case rel => exact ⟨4, by omega, rfl, HO1, HB1, HL1⟩
      case measure => simp [intOf]
    · have c0 : wr.cell? ⟨w.heap.size, 16, none⟩ = some (.int .i64 1040) := blk_cell HL.out 16
      have c1 : wr.cell? ⟨w.heap.size, 17, none⟩ = some (.int .i64 1071) := blk_cell HL.out 17
      have c2 : wr.cell? ⟨w.heap.size, 18, none⟩ = some (.int .i64 32) := blk_cell HL.out 18
      have c3 : wr.cell? ⟨w.heap.size, 19, none⟩ = some (.int .i64 0) := blk_cell HL.out 19
      go_wp2_with (at_builtin; refine Ow.app kT flat_T _ w.heap.size rfl (.tmp 18) (.tmp 26) 302 305 (.agg #[.int .i64 0, .int .i64 0, .int .i64 0]) 24 rfl Tryz.underlying302 info305 rfl (by decide) u1 (tabAt 4) [(1040, 1071, 32)] rfl (some ⟨wr.heap.size + 1, 0, none⟩) 1 rfl ?hC ?hO ?hB ?hL ?_; (case hC => exact C_lit flat_T _ 305 (1040, 1071, 32) _ (kT_mk _ _) _ (by simp)); (case hO => exact HO.out.below flat_T (by repeat (first | exact Below.refl _ _ | apply below_alloc))); (case hB => simp; omega); (case hL => simp [tabAt]); intro v1' w1 ho hg hat; have HO1 := Aside0.mk ho; have HB1 := Aside0.mk (Below.grown (below_alloc (below_alloc HB.out _) _) hg (by simp; omega) HO.out.base_le); have HL1 := Aside0.mk (blk_grown (blk_lt' (blk_lt' HL.out _) _) hg (fun h => HO.out.ne_type HL.out (by decide) h.symm)); clear ho hg hat HO HB HL)
      go_roundw
      case rel => exact ⟨5, by omega, rfl, HO1, HB1, HL1⟩
      case measure => simp [intOf]

def smallS (c : Int) : Int :=
  if (65 ≤ c ∧ c ≤ 90) ∨ (192 ≤ c ∧ c ≤ 214) ∨ (216 ≤ c ∧ c ≤ 222) ∨ (913 ≤ c ∧ c ≤ 929) ∨ (931 ≤ c ∧ c ≤ 937) ∨ (1040 ≤ c ∧ c ≤ 1071) then c + 32
  else if 1024 ≤ c ∧ c ≤ 1039 then c + 80 else c
def cmpT (x : T3) (c : Int) : Int := if x.2.1 < c then -1 else if c < x.1 then 1 else 0
def zT : T3 := (0, 0, 0)

theorem cmpT_any (x : T3) (c : Int) (w : World) : Calls Tryz.prog 287 #[.agg #[.int .i64 x.1, .int .i64 x.2.1, .int .i64 x.2.2], .int .i64 c] w fun e w' => e = .returned (.int .i64 (cmpT x c)) ∧ Below w.heap.size w w' := by
  obtain ⟨a, b, d⟩ := x
  simp only
  unfold cmpT
  simp only
  by_cases h1 : b < c
  · rw [if_pos h1]
    go_enter Tryz.func287, Tryz.ntmps287
    go_wp2_with fail
    go_ret
    exact ⟨rfl, below_alloc (Below.refl _ _) _⟩
  · rw [if_neg h1]
    by_cases h2 : c < a
    · rw [if_pos h2]
      go_enter Tryz.func287, Tryz.ntmps287
      go_wp2_with fail
      go_ret
      exact ⟨rfl, below_alloc (Below.refl _ _) _⟩
    · rw [if_neg h2]
      go_enter Tryz.func287, Tryz.ntmps287
      go_wp2_with fail
      go_ret
      exact ⟨rfl, below_alloc (Below.refl _ _) _⟩

theorem C_tab {w : World} {A : Option Addr} {n : Nat} {xs : List T3} (h : kT.C w A n xs) (i : Nat) (hi : i < n) : ∃ ad, A = some ad ∧
    w.cell? (ad.add (i * 3)) = some (.int .i64 (xs.getD i zT).1) ∧ w.cell? ⟨(ad.add (i * 3)).block, (ad.add (i * 3)).off + 1, none⟩ = some (.int .i64 (xs.getD i zT).2.1) ∧
    w.cell? ⟨(ad.add (i * 3)).block, (ad.add (i * 3)).off + 2, none⟩ = some (.int .i64 (xs.getD i zT).2.2) := by
  obtain ⟨ad, c, e, _, hK, hc⟩ := Kd.C_get h zT i (by omega) (by omega)
  have hc : ∀ j u, c[j]? = some u → w.cell? (ad.add (i * 3 + j)) = some u := hc
  obtain rfl := kT_open hK
  exact ⟨ad, e, hc 0 _ rfl, by rw [← add_field _ _ 1 (by omega)]; exact hc 1 _ rfl, by rw [← add_field _ _ 2 (by omega)]; exact hc 2 _ rfl⟩

/-- A place, over old memory unturned. -/
def FoundB (n : Nat) (cf : Nat → Int) (w : World) (e : Ending) (w' : World) : Prop :=
  ∃ i : Nat, i ≤ n ∧ (∀ h, h < i → cf h < 0) ∧ (∀ h, i ≤ h → h < n → 0 ≤ cf h) ∧ e = .returned (.tuple #[.int .i64 i, .bool (decide (i < n) && (cf i == 0))]) ∧ Below w.heap.size w w'

set_option maxHeartbeats 1000000 in
theorem search_tab (xs : List T3) (p : Int) (v : Value) (w : World) (hv : Rd kT w v xs) (hsz : xs.length ≤ 1000000000)
    (hm : ∀ a b, a ≤ b → b < xs.length → cmpT (xs.getD b zT) p < 0 → cmpT (xs.getD a zT) p < 0) :
    Calls Tryz.prog 286 #[v, .int .i64 p, .func (.func 287) #[] #[]] w (FoundB xs.length (fun h => cmpT (xs.getD h zT) p) w) := by
  obtain ⟨A, c, rfl, hl, hc⟩ := hv
  have HM := Aside0.mk hm
  have HC := Aside0.mk hc
  clear hm hc
  obtain ⟨n, hn0⟩ : ∃ n, n = xs.length := ⟨_, rfl⟩
  rw [← hn0] at hsz hl ⊢
  have HN := Aside0.mk hn0
  clear hn0
  go_enter Tryz.func286, Tryz.ntmps286
  go_wp2_with fail
  go_loopw [9, 10] (fun i j wr => ∃ a b : Nat, a ≤ b ∧ b ≤ n ∧ i = .int .i64 a ∧ j = .int .i64 b ∧ Aside0 (∀ h, h < a → cmpT (xs.getD h zT) p < 0) ∧ Aside0 (∀ h, b ≤ h → h < n → 0 ≤ cmpT (xs.getD h zT) p) ∧ Aside0 (Below w.heap.size w wr))
    (fun i j _ => (intOf j).toNat - (intOf i).toNat)
  case atStart => exact ⟨0, n, Nat.zero_le _, Nat.le_refl _, rfl, rfl, ⟨fun h hh => absurd hh (Nat.not_lt_zero _)⟩, ⟨fun h h1 h2 => absurd h2 (by omega)⟩, ⟨Below.refl _ _⟩⟩
  case round =>
    obtain ⟨a, b, hab, hbn, rfl, rfl, HA, HB, HG⟩ := hrel
    by_cases hlt : a < b
    · have hh : (a + b) / 2 < n := by omega
      obtain ⟨ad, rfl, k0, k1, k2⟩ := C_tab (Kd.C_below HC.out HG.out) ((a + b) / 2) (by rw [← HN.out]; exact hh)
      have hmo := HM.out
      rw [← HN.out] at hmo
      have HM2 := Aside0.mk hmo
      clear hmo
      go_wp2_with fail
      refine (cmpT_any (xs.getD ((a + b) / 2) zT) p _).mono ?_
      rintro e w1 ⟨rfl, hg⟩
      have HG1 := Aside0.mk (below_then HG.out HG.out.size hg)
      clear hg HG
      obtain ⟨cc, hcc⟩ : ∃ cc, cc = cmpT (xs.getD ((a + b) / 2) zT) p := ⟨_, rfl⟩
      rw [← hcc]
      have HCC := Aside0.mk hcc
      clear hcc k0 k1 k2
      by_cases hneg : cc < 0
      · have hnb : decide (cc < 0) = true := decide_eq_true hneg
        go_wp2_with fail
        go_roundw
        case rel =>
          exact ⟨(a + b) / 2 + 1, b, by omega, by omega, by go_num, rfl, ⟨fun h hh => HM2.out h ((a + b) / 2) (by omega) (by omega) (by rw [← HCC.out]; exact hneg)⟩, HB, HG1⟩
        case measure => simp [intOf]; omega
      · have hnb : decide (cc < 0) = false := decide_eq_false hneg
        have HNN := Aside0.mk hneg
        clear hneg
        go_wp2_with fail
        go_roundw
        case rel =>
          exact ⟨a, (a + b) / 2, by omega, by omega, rfl, by go_num, HA, ⟨fun h h1 h2 => Classical.byContradiction fun hc => by have q1 := HNN.out; have q2 := HM2.out ((a + b) / 2) h h1 h2 (by omega); rw [← HCC.out] at q2; omega⟩, HG1⟩
        case measure => simp [intOf]; omega
    · have hab2 : a = b := by omega
      subst hab2
      clear hlt
      by_cases hin : a < n
      · obtain ⟨ad, rfl, k0, k1, k2⟩ := C_tab (Kd.C_below HC.out HG.out) a (by rw [← HN.out]; exact hin)
        go_wp2_with fail
        refine (cmpT_any (xs.getD a zT) p _).mono ?_
        rintro e w1 ⟨rfl, hg⟩
        have HG1 := Aside0.mk (below_then HG.out HG.out.size hg)
        clear hg HG k0 k1 k2
        go_wp2_with fail
        go_ret2
        refine ⟨a, by omega, HA.out, HB.out, tup2 rfl ?_, HG1.out⟩
        rw [decide_eq_true hin]; rfl
      · go_wp2_with fail
        go_ret2
        refine ⟨a, by omega, HA.out, HB.out, tup2 rfl ?_, HG.out⟩
        rw [decide_eq_false hin]; rfl

theorem cmpT_neg {x : T3} {c : Int} : cmpT x c < 0 ↔ x.2.1 < c := by
  unfold cmpT
  split
  · simp [*]
  · split <;> simp [*]
theorem cmpT_zero {x : T3} {c : Int} : cmpT x c = 0 ↔ x.1 ≤ c ∧ c ≤ x.2.1 := by
  unfold cmpT
  split
  · simp; omega
  · split <;> simp <;> omega

theorem tab_small (c : Int) (i : Nat) (h0 : i ≤ 7) (h1 : ∀ h, h < i → (tab.getD h zT).2.1 < c) (h2 : ∀ h, i ≤ h → h < 7 → c ≤ (tab.getD h zT).2.1) :
    smallS c = if i < 7 ∧ (tab.getD i zT).1 ≤ c then c + (tab.getD i zT).2.2 else c := by
  have hi : i = 0 ∨ i = 1 ∨ i = 2 ∨ i = 3 ∨ i = 4 ∨ i = 5 ∨ i = 6 ∨ i = 7 := by omega
  unfold smallS
  rcases hi with rfl | rfl | rfl | rfl | rfl | rfl | rfl | rfl
  · have := h2 0 (by omega) (by omega)
    simp only [tab, tabAt, List.getD_cons_zero] at this ⊢
    repeat' split
    all_goals omega
  · have a1 := h1 0 (by omega)
    have a2 := h2 1 (by omega) (by omega)
    simp only [tab, tabAt, List.getD_cons_zero, List.getD_cons_succ] at a1 a2 ⊢
    repeat' split
    all_goals omega
  · have a1 := h1 1 (by omega)
    have a2 := h2 2 (by omega) (by omega)
    simp only [tab, tabAt, List.getD_cons_zero, List.getD_cons_succ] at a1 a2 ⊢
    repeat' split
    all_goals omega
  · have a1 := h1 2 (by omega)
    have a2 := h2 3 (by omega) (by omega)
    simp only [tab, tabAt, List.getD_cons_zero, List.getD_cons_succ] at a1 a2 ⊢
    repeat' split
    all_goals omega
  · have a1 := h1 3 (by omega)
    have a2 := h2 4 (by omega) (by omega)
    simp only [tab, tabAt, List.getD_cons_zero, List.getD_cons_succ] at a1 a2 ⊢
    repeat' split
    all_goals omega
  · have a1 := h1 4 (by omega)
    have a2 := h2 5 (by omega) (by omega)
    simp only [tab, tabAt, List.getD_cons_zero, List.getD_cons_succ] at a1 a2 ⊢
    repeat' split
    all_goals omega
  · have a1 := h1 5 (by omega)
    have a2 := h2 6 (by omega) (by omega)
    simp only [tab, tabAt, List.getD_cons_zero, List.getD_cons_succ] at a1 a2 ⊢
    repeat' split
    all_goals omega
  · have a1 := h1 6 (by omega)
    simp only [tab, tabAt, List.getD_cons_zero, List.getD_cons_succ] at a1 ⊢
    repeat' split
    all_goals omega

theorem tab_up : ∀ a b, a ≤ b → b < tab.length → (tab.getD a zT).2.1 ≤ (tab.getD b zT).2.1 := by
  intro a b h hb
  have hb' : b = 0 ∨ b = 1 ∨ b = 2 ∨ b = 3 ∨ b = 4 ∨ b = 5 ∨ b = 6 := by have : tab.length = 7 := rfl; omega
  have ha' : a = 0 ∨ a = 1 ∨ a = 2 ∨ a = 3 ∨ a = 4 ∨ a = 5 ∨ a = 6 := by omega
  rcases hb' with rfl | rfl | rfl | rfl | rfl | rfl | rfl <;> rcases ha' with rfl | rfl | rfl | rfl | rfl | rfl | rfl <;> first | decide | omega

set_option maxHeartbeats 1000000 in
theorem fold_Small (c : Int) (hc1 : 0 ≤ c) (hc2 : c ≤ 1114111) (w : World) : Calls Tryz.prog 230 #[.int .i64 c] w fun e w' => e = .returned (.int .i64 (smallS c)) ∧ Below w.heap.size w w' := by
  go_enter Tryz.func230, Tryz.ntmps230
  go_wp2_with fail
  refine (fold_Table _).mono ?_
  rintro e w1 ⟨v, rfl, ho, hb⟩
  have HO := Aside0.mk ho.rd
  have HB := Aside0.mk hb
  clear ho hb
  obtain ⟨A, cp, rfl, hl, hc⟩ := HO.out
  have HC := Aside0.mk hc
  clear hc
  go_wp2_with fail
  refine (search_tab tab c _ _ HO.out (by decide) (fun a b h1 h2 h3 => cmpT_neg.2 (Int.lt_of_le_of_lt (tab_up a b h1 h2) (cmpT_neg.1 h3)))).mono ?_
  rintro e w2 ⟨i, hi, hlo, hhi, rfl, hb2⟩
  have HB2 := Aside0.mk (below_then HB.out HB.out.size hb2)
  have HC2 := Aside0.mk (Kd.C_below HC.out hb2)
  have hs := tab_small c i hi (fun h hh => cmpT_neg.1 (hlo h hh)) (fun h h1 h2 => by have : 0 ≤ cmpT (tab.getD h zT) c := hhi h h1 h2; exact Classical.byContradiction fun hn => by have := cmpT_neg.2 (Int.not_le.1 hn); omega)
  have hz : (cmpT (tab.getD i zT) c = 0) = ((tab.getD i zT).1 ≤ c ∧ c ≤ (tab.getD i zT).2.1) := propext cmpT_zero
  have hhi' : i < 7 → c ≤ (tab.getD i zT).2.1 := fun h => by have : 0 ≤ cmpT (tab.getD i zT) c := hhi i (Nat.le_refl _) h; exact Classical.byContradiction fun hn => by have := cmpT_neg.2 (Int.not_le.1 hn); omega
  clear hlo hhi hb2 HB
  by_cases hf : i < 7 ∧ (tab.getD i zT).1 ≤ c
  · rw [if_pos hf] at hs
    obtain ⟨ad, rfl, k0, k1, k2⟩ := C_tab HC2.out i hf.1
    have hb : (decide (i < tab.length) && (cmpT (tab.getD i zT) c == 0)) = true := by
      rw [Bool.and_eq_true, beq_iff_eq, hz]
      exact ⟨decide_eq_true hf.1, hf.2, hhi' hf.1⟩
    rw [hb]
    have HS := Aside0.mk hs
    obtain ⟨d, hd⟩ : ∃ d, d = (tab.getD i zT).2.2 := ⟨_, rfl⟩
    have hd2 : 0 ≤ d ∧ d ≤ 80 := by
      have hi' : i = 0 ∨ i = 1 ∨ i = 2 ∨ i = 3 ∨ i = 4 ∨ i = 5 ∨ i = 6 := by have := hf.1; omega
      rw [hd]
      rcases hi' with rfl | rfl | rfl | rfl | rfl | rfl | rfl <;> decide
    obtain ⟨hd3, hd4⟩ := hd2
    rw [← hd] at k2
    have HD := Aside0.mk hd
    have hi7 : i < 7 := hf.1
    clear hs hz hhi' hf hd hb k0 k1
    go_wp2_with fail
    go_ret
    exact ⟨ret_int (by rw [HS.out, HD.out]), HB2.out⟩
  · rw [if_neg hf] at hs
    have hb : (decide (i < tab.length) && (cmpT (tab.getD i zT) c == 0)) = false := by
      rw [Bool.and_eq_false_iff]
      by_cases h7 : i < 7
      · refine .inr ?_
        rw [beq_eq_false_iff_ne, Ne, hz]
        exact fun h => hf ⟨h7, h.1⟩
      · exact .inl (decide_eq_false h7)
    rw [hb]
    have HS := Aside0.mk hs
    clear hs hz hhi' hf hb
    go_wp2_with fail
    go_ret
    exact ⟨ret_int HS.out.symm, HB2.out⟩

end Go.Proofs.YtbkbpdpegiekhaaGreatDoor
