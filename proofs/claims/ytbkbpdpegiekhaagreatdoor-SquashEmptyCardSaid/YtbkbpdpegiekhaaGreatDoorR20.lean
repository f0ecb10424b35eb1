/- squash: what the second layer does to a path. -/
import Derived.Test.YtbkbpdpegiekhaaGreatDoorR19
set_option linter.unusedVariables false
set_option linter.unusedSimpArgs false
namespace Go.Proofs.YtbkbpdpegiekhaaGreatDoor
open Go.RowKit Go.Proofs.YtbkbpdpegiekhaaGreatDoorW.PrintWords Mo

def fileS (l : List Nd) : List S := (l.filter fun n => !n.dir).map (·.path)
def overB (y : Ly) (p : S) : Bool := (removesB y p || decide (p ∈ fileS y.adds)) || underAny (fileS y.adds) p
def coverB (y : Ly) (p : S) : Bool := (underAny y.whites p || underAny y.opaques p) || underAny (fileS y.adds) p
def whiteB (y : Ly) (p : S) : Bool := !coverB y p
def opaqueB (y : Ly) (p : S) : Bool := (!coverB y p && !decide (p ∈ y.whites)) && !decide (p ∈ fileS y.adds)
def isDirB (y : Ly) (p : S) : Bool := match lastAt y.adds p with
  | some n => n.dir
  | none => decide (p ∈ ensL y)

/-- The second layer, in memory. -/
def Sec (w : World) (g : Nat) (y : Ly) : Prop := ∃ va vw vo m vf ve, w.heap[g]? = some (.cells #[va, vw, vo, .map (some m), vf, ve] 171 (0, 0)) ∧
  RdL w va vw vo y ∧ Nmap w m y.adds ∧ Rd Kd.string w vf (fileS y.adds) ∧ Rd Kd.string w ve (ensL y)
theorem Sec.below {w w' : World} {g : Nat} {y : Ly} (h : Sec w g y) (hb : Below w.heap.size w w') : Sec w' g y := by
  obtain ⟨va, vw, vo, m, vf, ve, h1, h2, h3, h4, h5⟩ := h
  exact ⟨va, vw, vo, m, vf, ve, (hb.block g (blk_lt h1)).trans h1, h2.below hb, h3.below hb, h4.below hb, h5.below hb⟩
theorem Sec.lt {w : World} {g : Nat} {y : Ly} (h : Sec w g y) : g < w.heap.size := by
  obtain ⟨va, vw, vo, m, vf, ve, h1, _⟩ := h
  exact blk_lt h1
theorem fileS_small {l : Ly} (h : Lb l) : ∀ s ∈ fileS l.adds, s.size ≤ 100000 := by
  intro s hs
  obtain ⟨n, hn, rfl⟩ := List.mem_map.1 hs
  exact h.a n (List.mem_filter.1 hn).1
theorem Rd.sl {α : Type} {d : Kd α} {w : World} {v : Value} {xs : List α} (h : Rd d w v xs) : ∃ A n c, v = .slice A n c := by
  obtain ⟨A, c, e, _⟩ := h
  exact ⟨A, _, c, e⟩

set_option maxHeartbeats 2000000 in
theorem sec_overrides (y : Ly) (g : Nat) (p : S) (w : World) (h : Sec w g y) (hl : Lb y) :
    Calls Tryz.prog 145 #[.pointer (some ⟨g, 0, none⟩), .string p] w fun e w' => e = .returned (.bool (overB y p)) ∧ Below w.heap.size w w' := by
  obtain ⟨va, vw, vo, m, vf, ve, h1, h2, h3, h4, h5⟩ := h
  obtain ⟨A1, n1, c1, rfl⟩ := h2.1.sl
  obtain ⟨A2, n2, c2, rfl⟩ := h2.2.1.sl
  obtain ⟨A3, n3, c3, rfl⟩ := h2.2.2.sl
  obtain ⟨A4, n4, c4, rfl⟩ := h4.sl
  have k0 := blk_cell h1 0
  have k1 := blk_cell h1 1
  have k2 := blk_cell h1 2
  have H1 := Aside0.mk h1
  have H2 := Aside0.mk h2
  have H4 := Aside0.mk h4
  have HL := Aside0.mk hl
  clear h1 h2 h3 h4 h5 hl
  go_enter Tryz.func145, Tryz.ntmps145
  go_wp2_with fail
  refine (apply_Removes y _ _ _ p _ H2.out HL.out).mono ?_
  rintro e w1 ⟨rfl, hb⟩
  have HB := Aside0.mk hb
  have k4 := blk_cell ((hb.block g (blk_lt H1.out)).trans H1.out) 4
  clear hb k0 k1 k2
  have hz : overB y p = ((removesB y p || decide (p ∈ fileS y.adds)) || underAny (fileS y.adds) p) := rfl
  cases hr : removesB y p
  rotate_left
  · have HZ := Aside0.mk (show overB y p = true by rw [hz, hr]; rfl)
    clear hz hr
    go_wp2_with fail
    go_ret
    exact ⟨by rw [HZ.out]; rfl, HB.out⟩
  rw [hr, Bool.false_or] at hz
  clear hr
  have HZ0 := Aside0.mk hz
  clear hz
  go_wp2_with fail
  refine (contains_strs (fileS y.adds) _ p _ (H4.out.below HB.out)).mono ?_
  rintro e w2 ⟨rfl, rfl⟩
  cases hr : decide (p ∈ fileS y.adds)
  rotate_left
  · have HZ := Aside0.mk (show overB y p = true by rw [HZ0.out, hr]; rfl)
    clear hr
    go_wp2_with fail
    go_ret
    exact ⟨by rw [HZ.out]; rfl, HB.out⟩
  have HZ := Aside0.mk (show overB y p = underAny (fileS y.adds) p by rw [HZ0.out, hr]; rfl)
  clear hr
  go_wp2_with fail
  refine (squash_under (fileS y.adds) _ p _ (H4.out.below HB.out) (fun s hs => by have := fileS_small HL.out s hs; omega)).mono ?_
  rintro e w3 ⟨rfl, hb3⟩
  have HB3 := Aside0.mk (below_then HB.out HB.out.size hb3)
  clear hb3 k4
  go_wp2_with fail
  go_ret
  exact ⟨by rw [HZ.out]; rfl, HB3.out⟩

set_option maxHeartbeats 2000000 in
theorem sec_covers (y : Ly) (g : Nat) (p : S) (w : World) (h : Sec w g y) (hl : Lb y) :
    Calls Tryz.prog 153 #[.pointer (some ⟨g, 0, none⟩), .string p] w fun e w' => e = .returned (.bool (coverB y p)) ∧ Below w.heap.size w w' := by
  obtain ⟨va, vw, vo, m, vf, ve, h1, h2, h3, h4, h5⟩ := h
  obtain ⟨A1, n1, c1, rfl⟩ := h2.1.sl
  obtain ⟨A2, n2, c2, rfl⟩ := h2.2.1.sl
  obtain ⟨A3, n3, c3, rfl⟩ := h2.2.2.sl
  obtain ⟨A4, n4, c4, rfl⟩ := h4.sl
  have k1 := blk_cell h1 1
  have H1 := Aside0.mk h1
  have H2 := Aside0.mk h2
  have H4 := Aside0.mk h4
  have HL := Aside0.mk hl
  clear h1 h2 h3 h4 h5 hl
  have hz : coverB y p = ((underAny y.whites p || underAny y.opaques p) || underAny (fileS y.adds) p) := rfl
  have HZ0 := Aside0.mk hz
  clear hz
  go_enter Tryz.func153, Tryz.ntmps153
  go_wp2_with fail
  refine (squash_under y.whites _ p _ H2.out.2.1 (fun s hs => by have := HL.out.w s hs; omega)).mono ?_
  rintro e w1 ⟨rfl, hb⟩
  have HB := Aside0.mk hb
  have HH1 := Aside0.mk ((hb.block g (blk_lt H1.out)).trans H1.out)
  have k2 := blk_cell HH1.out 2
  clear hb k1
  cases hr : underAny y.whites p
  rotate_left
  · have HZ := Aside0.mk (show coverB y p = true by rw [HZ0.out, hr]; rfl)
    clear hr
    go_wp2_with fail
    go_ret
    exact ⟨by rw [HZ.out]; rfl, HB.out⟩
  have HZ1 := Aside0.mk (show coverB y p = (underAny y.opaques p || underAny (fileS y.adds) p) by rw [HZ0.out, hr]; rfl)
  clear hr
  go_wp2_with fail
  refine (squash_under y.opaques _ p _ (H2.out.below HB.out).2.2 (fun s hs => by have := HL.out.o s hs; omega)).mono ?_
  rintro e w2 ⟨rfl, hb2⟩
  have HB2 := Aside0.mk (below_then HB.out HB.out.size hb2)
  have k4 := blk_cell ((hb2.block g (blk_lt HH1.out)).trans HH1.out) 4
  clear hb2 k2
  cases hr : underAny y.opaques p
  rotate_left
  · have HZ := Aside0.mk (show coverB y p = true by rw [HZ1.out, hr]; rfl)
    clear hr
    go_wp2_with fail
    go_ret
    exact ⟨by rw [HZ.out]; rfl, HB2.out⟩
  have HZ := Aside0.mk (show coverB y p = underAny (fileS y.adds) p by rw [HZ1.out, hr]; rfl)
  clear hr
  go_wp2_with fail
  refine (squash_under (fileS y.adds) _ p _ (H4.out.below HB2.out) (fun s hs => by have := fileS_small HL.out s hs; omega)).mono ?_
  rintro e w3 ⟨rfl, hb3⟩
  have HB3 := Aside0.mk (below_then HB2.out HB2.out.size hb3)
  clear hb3 k4
  go_wp2_with fail
  go_ret
  exact ⟨by rw [HZ.out]; rfl, HB3.out⟩

theorem sec_white (y : Ly) (g : Nat) (p : S) (w : World) (h : Sec w g y) (hl : Lb y) :
    Calls Tryz.prog 88 #[.pointer (some ⟨g, 0, none⟩), .string p] w fun e w' => e = .returned (.bool (whiteB y p)) ∧ Below w.heap.size w w' := by
  have H := Aside0.mk (And.intro h hl)
  clear h hl
  go_enter Tryz.func88, Tryz.ntmps88
  go_wp2_with fail
  refine (sec_covers y g p _ H.out.1 H.out.2).mono ?_
  rintro e w1 ⟨rfl, hb⟩
  have HB := Aside0.mk hb
  clear hb
  go_wp2_with fail
  go_ret
  exact ⟨rfl, HB.out⟩

set_option maxHeartbeats 2000000 in
theorem sec_opaque (y : Ly) (g : Nat) (p : S) (w : World) (h : Sec w g y) (hl : Lb y) :
    Calls Tryz.prog 89 #[.pointer (some ⟨g, 0, none⟩), .string p] w fun e w' => e = .returned (.bool (opaqueB y p)) ∧ Below w.heap.size w w' := by
  have H := Aside0.mk (And.intro h hl)
  obtain ⟨va, vw, vo, m, vf, ve, h1, h2, h3, h4, h5⟩ := h
  obtain ⟨A1, n1, c1, rfl⟩ := h2.1.sl
  obtain ⟨A2, n2, c2, rfl⟩ := h2.2.1.sl
  obtain ⟨A3, n3, c3, rfl⟩ := h2.2.2.sl
  obtain ⟨A4, n4, c4, rfl⟩ := h4.sl
  have H1 := Aside0.mk h1
  have H2 := Aside0.mk h2
  have H4 := Aside0.mk h4
  clear h1 h2 h3 h4 h5 hl
  have hz : opaqueB y p = ((!coverB y p && !decide (p ∈ y.whites)) && !decide (p ∈ fileS y.adds)) := rfl
  have HZ0 := Aside0.mk hz
  clear hz
  go_enter Tryz.func89, Tryz.ntmps89
  go_wp2_with fail
  refine (sec_covers y g p _ H.out.1 H.out.2).mono ?_
  rintro e w1 ⟨rfl, hb⟩
  have HB := Aside0.mk hb
  have HH1 := Aside0.mk ((hb.block g (blk_lt H1.out)).trans H1.out)
  have k1 := blk_cell HH1.out 1
  have k4 := blk_cell HH1.out 4
  clear hb
  cases hr : coverB y p
  rotate_left
  · have HZ := Aside0.mk (show opaqueB y p = false by rw [HZ0.out, hr]; rfl)
    clear hr
    go_wp2_with fail
    go_ret
    exact ⟨by rw [HZ.out]; rfl, HB.out⟩
  have HZ1 := Aside0.mk (show opaqueB y p = (!decide (p ∈ y.whites) && !decide (p ∈ fileS y.adds)) by rw [HZ0.out, hr]; rfl)
  clear hr
  go_wp2_with fail
  refine (contains_strs y.whites _ p _ (H2.out.below HB.out).2.1).mono ?_
  rintro e w2 ⟨rfl, rfl⟩
  cases hr : decide (p ∈ y.whites)
  rotate_left
  · have HZ := Aside0.mk (show opaqueB y p = false by rw [HZ1.out, hr]; rfl)
    clear hr
    go_wp2_with fail
    go_ret
    exact ⟨by rw [HZ.out]; rfl, HB.out⟩
  have HZ := Aside0.mk (show opaqueB y p = !decide (p ∈ fileS y.adds) by rw [HZ1.out, hr]; rfl)
  clear hr
  go_wp2_with fail
  refine (contains_strs (fileS y.adds) _ p _ (H4.out.below HB.out)).mono ?_
  rintro e w3 ⟨rfl, rfl⟩
  obtain ⟨bb, hbb⟩ : ∃ bb, bb = decide (p ∈ fileS y.adds) := ⟨_, rfl⟩
  rw [← hbb] at HZ ⊢
  clear hbb
  go_wp2_with fail
  go_ret
  exact ⟨by rw [HZ.out]; rfl, HB.out⟩

set_option maxHeartbeats 2000000 in
theorem sec_isDir (y : Ly) (g : Nat) (p : S) (w : World) (hE : Env w) (h : Sec w g y) (hl : Lb y) (hp : p.size ≤ 100000) :
    Calls Tryz.prog 146 #[.pointer (some ⟨g, 0, none⟩), .string p] w fun e w' => e = .returned (.bool (isDirB y p)) ∧ Below w.heap.size w w' := by
  obtain ⟨va, vw, vo, m, vf, ve, h1, h2, h3, h4, h5⟩ := h
  obtain ⟨A5, n5, c5, rfl⟩ := h5.sl
  have H1 := Aside0.mk h1
  have H3 := Aside0.mk h3
  have H5 := Aside0.mk h5
  have HL := Aside0.mk hl
  have HE := Aside0.mk hE
  have k3 := blk_cell h1 3
  have k5 : ∀ o, (w.alloc o).cell? ⟨g, 5, none⟩ = some (.slice A5 n5 c5) := fun o => blk_cell (blk_lt' h1 o) 5
  clear h1 h2 h3 h4 h5 hl hE
  have hz : isDirB y p = match lastAt y.adds p with | some n => n.dir | none => decide (p ∈ ensL y) := rfl
  have HZ0 := Aside0.mk hz
  clear hz
  go_enter Tryz.func146, Tryz.ntmps146
  cases hla : lastAt y.adds p with
  | none =>
    have HZ := Aside0.mk (show isDirB y p = decide (p ∈ ensL y) by rw [HZ0.out, hla])
    clear HZ0
    go_wp2_with (at_lookup; refine Nmap.look _ rfl _ _ _ rfl _ _ rfl H3.out _ (by omega) rfl ?_; rw [hla])
    have hb0 := fun o => ((Grew.refl w).alloc o).below
    refine (search_strs (ensL y) p _ _ (HE.out.below (hb0 _)) (H5.out.below (hb0 _)) (fun s hs => by have := ensL_small HL.out s hs; omega) (by omega) (by have := ensL_len HL.out; omega) (ensL_strict y)).mono ?_
    rintro e2 w2 ⟨i, rfl, hb2⟩
    have HB2 := Aside0.mk (box_below _ hb2)
    clear hb0 hb2 k3 k5
    obtain ⟨bb, hbb⟩ : ∃ bb, bb = decide (p ∈ ensL y) := ⟨_, rfl⟩
    rw [← hbb] at HZ ⊢
    clear hbb
    go_wp2_with fail
    go_ret
    exact ⟨by rw [HZ.out]; rfl, HB2.out⟩
  | some n =>
    have HZ := Aside0.mk (show isDirB y p = n.dir by rw [HZ0.out, hla])
    clear HZ0
    go_wp2_with (at_lookup; refine Nmap.look _ rfl _ _ _ rfl _ _ rfl H3.out _ (by omega) rfl ?_; rw [hla])
    go_ret
    exact ⟨by rw [HZ.out]; rfl, ((Grew.refl w).alloc _).below⟩

end Go.Proofs.YtbkbpdpegiekhaaGreatDoor
