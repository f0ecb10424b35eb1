/- squash: Squash. -/
import Derived.Test.YtbkbpdpegiekhaaGreatDoorR27
import Derived.Test.YtbkbpdpegiekhaaGreatDoorG1
set_option linter.unusedVariables false
set_option linter.unusedSimpArgs false
namespace Go.Proofs.YtbkbpdpegiekhaaGreatDoor
open Go.RowKit Go.Proofs.YtbkbpdpegiekhaaGreatDoorW.PrintWords Mo

theorem Ow.a1 {α : Type} {d : Kd α} {e : Nat} {w : World} {base : Nat} {v : Value} {xs : List α} (h : Ow d e w base v xs) (hF : Flat d := by first | exact flat_string | exact flat_node) {o : Obj} : Ow d e (w.alloc o) base v xs := h.below hF ((Grew.refl w).alloc o).below
theorem Ow.sets {α : Type} {d : Kd α} {e : Nat} {w : World} {base h i : Nat} {v u : Value} {xs : List α} (ho : Ow d e w base v xs) (hF : Flat d) {cs : Array Value} {t : Nat} (hz : w.heap[h]? = some (.cells cs t (0, 0))) (ht : e ≠ t) : Ow d e (w.setCell ⟨h, i, none⟩ u) base v xs :=
  ho.move hF fun k hk => Below.heap_setCell _ _ _ _ (fun e' => ho.ne_type hz ht (by rw [hk, e']))

/-- What is kept ahead of Squash's answer. -/
structure SQ (w W : World) (cx cy cr : Array Value) : Prop where
  lx : W.heap[w.heap.size]? = some (.cells cx 25 (0, 0))
  ly : W.heap[w.heap.size + 1]? = some (.cells cy 25 (0, 0))
  lr : W.heap[w.heap.size + 1 + 1]? = some (.cells cr 25 (0, 0))
  below : Below w.heap.size w W
theorem SQ.step {w W W' : World} {cx cy cr : Array Value} (h : SQ w W cx cy cr) (hb : Below W.heap.size W W') : SQ w W' cx cy cr :=
  ⟨(hb.block _ (blk_lt h.lx)).trans h.lx, (hb.block _ (blk_lt h.ly)).trans h.ly, (hb.block _ (blk_lt h.lr)).trans h.lr, below_then h.below h.below.size hb⟩

theorem put3 {W : World} {r : Nat} {p0 p1 p2 : Value} (h : W.heap[r]? = some (.cells #[p0, p1, p2] 25 (0, 0))) (a b c : Value) : (((W.setCell ⟨r, 0, none⟩ a).setCell ⟨r, 1, none⟩ b).setCell ⟨r, 2, none⟩ c).heap[r]? = some (.cells #[a, b, c] 25 (0, 0)) := by
  have := blk_set (blk_set (blk_set h 0 a) 1 b) 2 c
  simpa using this
theorem ret23 {R : Ending → World → Prop} {tmps : Array Value} {W : World} {r : Nat} {a b c : Value} {e : Int} (h4 : tmps.getD 4 undef = .pointer (some ⟨r, 0, none⟩)) (h5 : tmps.getD 5 undef = .int .i64 e) (hh : W.heap[r]? = some (.cells #[a, b, c] 25 (0, 0)))
    (hR : R (.returned (.tuple #[.agg #[a, b, c], .int .i64 e])) W) : bodyPost Tryz.prog Tryz.f23 R .ret { tmps := tmps, defers := [] } W := by
  have q0 : W.cell? ⟨r, 0, none⟩ = some a := blk_cell hh 0
  have q1 : W.cell? ⟨r, 1, none⟩ = some b := blk_cell hh 1
  have q2 : W.cell? ⟨r, 2, none⟩ = some c := blk_cell hh 2
  refine bodyPost_ret (v := .tuple #[.agg #[a, b, c], .int .i64 e]) ?_ rfl hR
  rw [results_cell_tmp rfl, h4, h5]
  go_simp

theorem Ow.sets3 {α : Type} {d : Kd α} {e : Nat} {w : World} {base h : Nat} {v p0 p1 p2 u0 u1 u2 : Value} {xs : List α} (ho : Ow d e w base v xs) (hF : Flat d) (hz : w.heap[h]? = some (.cells #[p0, p1, p2] 25 (0, 0))) (ht : e ≠ 25) :
    Ow d e (((w.setCell ⟨h, 0, none⟩ u0).setCell ⟨h, 1, none⟩ u1).setCell ⟨h, 2, none⟩ u2) base v xs :=
  ((ho.sets hF hz ht).sets hF (blk_set hz 0 u0) ht).sets hF (blk_set (blk_set hz 0 u0) 1 u1) ht
theorem ow_older {α β : Type} {d : Kd α} {d' : Kd β} {e e' : Nat} {W W' : World} {b : Nat} {v v' : Value} {xs : List α} {ys : List β} (h : Ow d e W b v xs) (h' : Ow d' e' W' W.heap.size v' ys) : v.ownBlock = none ∨ v.ownBlock ≠ v'.ownBlock := by
  by_cases hv : v.ownBlock = none
  · exact .inl hv
  · right
    intro heq
    obtain ⟨k, hk⟩ := Option.ne_none_iff_exists'.1 hv
    have h1 := h.lt k hk
    have h2 := h'.base_le k (by rw [← heq]; exact hk)
    omega
/-- What the drawn region reads, and what is as it was. -/
def SqS (s : Nat) (w4 : World) (xw xo yw yo : Value) (W : World) : Prop := W.cell? ⟨s, 1, none⟩ = some xw ∧ W.cell? ⟨s, 2, none⟩ = some xo ∧ W.cell? ⟨s + 1, 1, none⟩ = some yw ∧ W.cell? ⟨s + 1, 2, none⟩ = some yo ∧ Below w4.heap.size w4 W
section
variable {s : Nat} {w4 W W' : World} {xw xo yw yo : Value}
theorem SqS.b (h : SqS s w4 xw xo yw yo W) : Below w4.heap.size w4 W := h.2.2.2.2
theorem SqS.keepA {o : Obj} (hK : ∀ W, Below w4.heap.size w4 W → SqS s w4 xw xo yw yo W) (h : SqS s w4 xw xo yw yo W) : SqS s w4 xw xo yw yo (W.alloc o) := hK _ (h.b.alloc h.b.size o)
theorem SqS.keepAD {o : Obj} (hK : ∀ W, Below w4.heap.size w4 W → SqS s w4 xw xo yw yo W) (h : SqS s w4 xw xo yw yo W.drew) : SqS s w4 xw xo yw yo (W.alloc o).drew := hK _ (h.b.alloc h.b.size o)
theorem SqS.keep3 {b : Nat} {u0 u1 u2 : Value} (hK : ∀ W, Below w4.heap.size w4 W → SqS s w4 xw xo yw yo W) (h : SqS s w4 xw xo yw yo W) (hb : w4.heap.size ≤ b) : SqS s w4 xw xo yw yo (((W.setCell ⟨b, 0, none⟩ u0).setCell ⟨b, 1, none⟩ u1).setCell ⟨b, 2, none⟩ u2) :=
  hK _ (((h.b.setCell hb u0).setCell hb u1).setCell hb u2)
end

def nil3 : Array Value := #[.slice none 0 0, .slice none 0 0, .slice none 0 0]
theorem rdl_none (w : World) : RdL w (.slice none 0 0) (.slice none 0 0) (.slice none 0 0) Ly.none := ⟨(Ow.nil kN 46 w 0).rd, (Ow.nil Kd.string 9 w 0).rd, (Ow.nil Kd.string 9 w 0).rd⟩

set_option maxHeartbeats 16000000 in
set_option maxRecDepth 100000 in
theorem squash_Squash (x y : Ly) (xa xw xo ya yw yo : Value) (w : World) (hE : Env w) (hrx : RdL w xa xw xo x) (hry : RdL w ya yw yo y) (hx : Lsm x) (hy : Lsm y) :
    Calls Tryz.prog 23 #[.agg #[xa, xw, xo], .agg #[ya, yw, yo]] w fun e w' => ∃ va vw vo, e = .returned (.tuple #[.agg #[va, vw, vo], .int .i64 (squashL x y).2]) ∧ RdL w' va vw vo (squashL x y).1 ∧ Below w.heap.size w w' := by
  have HE := Aside0.mk (fun W (hb : Below w.heap.size w W) => hE.below hb)
  have hes := hE.size
  have HRx := Aside0.mk (fun W (hb : Below w.heap.size w W) => hrx.below hb)
  have HRy := Aside0.mk (fun W (hb : Below w.heap.size w W) => hry.below hb)
  have HX := Aside0.mk hx
  have HY := Aside0.mk hy
  obtain ⟨A1, n1, c1, rfl⟩ := hrx.1.sl
  obtain ⟨A2, n2, c2, rfl⟩ := hrx.2.1.sl
  obtain ⟨A3, n3, c3, rfl⟩ := hrx.2.2.sl
  obtain ⟨A4, n4, c4, rfl⟩ := hry.1.sl
  obtain ⟨A5, n5, c5, rfl⟩ := hry.2.1.sl
  obtain ⟨A6, n6, c6, rfl⟩ := hry.2.2.sl
  clear hE hrx hry hx hy
  go_enter Tryz.func23, Tryz.ntmps23
  go_wp2_with fail
  have hq0 : SQ w (((w.alloc (.cells #[.slice A1 n1 c1, .slice A2 n2 c2, .slice A3 n3 c3] 25)).alloc (.cells #[.slice A4 n4 c4, .slice A5 n5 c5, .slice A6 n6 c6] 25)).alloc (.cells nil3 25)) #[.slice A1 n1 c1, .slice A2 n2 c2, .slice A3 n3 c3] #[.slice A4 n4 c4, .slice A5 n5 c5, .slice A6 n6 c6] nil3 := by
    refine ⟨blk_lt' (blk_lt' (heap_alloc_new _ _) _) _, blk_lt' ?_ _, ?_, (((Grew.refl w).alloc _).alloc _).alloc _ |>.below⟩
    · rw [show w.heap.size + 1 = (w.alloc (.cells #[.slice A1 n1 c1, .slice A2 n2 c2, .slice A3 n3 c3] 25)).heap.size from by simp]; exact heap_alloc_new _ _
    · rw [show w.heap.size + 1 + 1 = ((w.alloc (.cells #[.slice A1 n1 c1, .slice A2 n2 c2, .slice A3 n3 c3] 25)).alloc (.cells #[.slice A4 n4 c4, .slice A5 n5 c5, .slice A6 n6 c6] 25)).heap.size from by simp]; exact heap_alloc_new _ _
  refine (layer_Check x _ _ _ _ (HE.out _ hq0.below) (HRx.out _ hq0.below) HX.out.lb).mono ?_
  rintro e1 w1 ⟨rfl, hb1⟩
  have HQ1 := Aside0.mk (hq0.step hb1)
  clear hq0 hb1
  have hsq : squashL x y = if checkL x = 0 ∧ checkL y = 0 then (if checkL (joinL x y) = 0 then (joinL x y, 0) else (Ly.none, checkL (joinL x y))) else (Ly.none, 1) := rfl
  by_cases hcx : checkL x = 0
  rotate_left
  · have HZ := Aside0.mk (show squashL x y = (Ly.none, 1) by rw [hsq, if_neg (fun h => hcx h.1)])
    have hcb : (checkL x != 0) = true := by simpa using hcx
    have r0 : w1.cell? ⟨w.heap.size + 1 + 1, 0, none⟩ = some (.slice none 0 0) := blk_cell HQ1.out.lr 0
    have r1 : w1.cell? ⟨w.heap.size + 1 + 1, 1, none⟩ = some (.slice none 0 0) := blk_cell HQ1.out.lr 1
    have r2 : w1.cell? ⟨w.heap.size + 1 + 1, 2, none⟩ = some (.slice none 0 0) := blk_cell HQ1.out.lr 2
    have f0 := blk_frozen HQ1.out.lr 0
    have f1 := blk_frozen HQ1.out.lr 1
    have f2 := blk_frozen HQ1.out.lr 2
    clear hsq hcx
    go_wp2_with fail
    refine ret23 rfl rfl (put3 HQ1.out.lr _ _ _) ⟨_, _, _, by rw [HZ.out], by rw [HZ.out]; exact rdl_none _, ?_⟩
    exact ((HQ1.out.below.setCell (by simp; omega) _).setCell (by simp; omega) _).setCell (by simp; omega) _
  have m0 := blk_cell HQ1.out.ly 0
  have m1 := blk_cell HQ1.out.ly 1
  have m2 := blk_cell HQ1.out.ly 2
  rw [hcx]
  go_wp2_with fail
  refine (layer_Check y _ _ _ _ (HE.out _ HQ1.out.below) (HRy.out _ HQ1.out.below) HY.out.lb).mono ?_
  rintro e2 w2 ⟨rfl, hb2⟩
  have HQ2 := Aside0.mk (HQ1.out.step hb2)
  clear hb2 m0 m1 m2 HQ1
  by_cases hcy : checkL y = 0
  rotate_left
  · have HZ := Aside0.mk (show squashL x y = (Ly.none, 1) by rw [hsq, if_neg (fun h => hcy h.2)])
    have hcb : (checkL y != 0) = true := by simpa using hcy
    have r0 : w2.cell? ⟨w.heap.size + 1 + 1, 0, none⟩ = some (.slice none 0 0) := blk_cell HQ2.out.lr 0
    have r1 : w2.cell? ⟨w.heap.size + 1 + 1, 1, none⟩ = some (.slice none 0 0) := blk_cell HQ2.out.lr 1
    have r2 : w2.cell? ⟨w.heap.size + 1 + 1, 2, none⟩ = some (.slice none 0 0) := blk_cell HQ2.out.lr 2
    have f0 := blk_frozen HQ2.out.lr 0
    have f1 := blk_frozen HQ2.out.lr 1
    have f2 := blk_frozen HQ2.out.lr 2
    clear hsq hcy
    go_wp2_with fail
    refine ret23 rfl rfl (put3 HQ2.out.lr _ _ _) ⟨_, _, _, by rw [HZ.out], by rw [HZ.out]; exact rdl_none _, ?_⟩
    exact ((HQ2.out.below.setCell (by simp; omega) _).setCell (by simp; omega) _).setCell (by simp; omega) _
  have HZ0 := Aside0.mk (show squashL x y = if checkL (joinL x y) = 0 then (joinL x y, 0) else (Ly.none, checkL (joinL x y)) by rw [hsq, if_pos ⟨hcx, hcy⟩])
  have HSx := Aside0.mk (check_sorted hcx)
  have HSy := Aside0.mk (check_sorted hcy)
  rw [hcy]
  clear hsq hcx hcy
  have m0 := blk_cell HQ2.out.ly 0
  have m1 := blk_cell HQ2.out.ly 1
  have m2 := blk_cell HQ2.out.ly 2
  go_wp2_with fail
  refine (squash_newSecond y _ _ _ _ (HE.out _ HQ2.out.below) (HRy.out _ HQ2.out.below) HY.out.lb).mono ?_
  rintro e3 w3 ⟨g, rfl, hsec, hb3⟩
  have HQ3 := Aside0.mk (HQ2.out.step hb3)
  have HSec := Aside0.mk hsec
  clear hb3 hsec m0 m1 m2 HQ2
  have m0 := blk_cell HQ3.out.lx 0
  have m1 := blk_cell HQ3.out.lx 1
  have m2 := blk_cell HQ3.out.lx 2
  go_wp2_with fail
  refine (sec_adds y x g _ _ _ _ (HE.out _ HQ3.out.below) HSec.out HY.out.lb (HRx.out _ HQ3.out.below) HX.out.lb HSy.out HSx.out).mono ?_
  rintro e4 w4 ⟨v1, v2, rfl, ho1, ho2, hb4⟩
  have HQ4 := Aside0.mk (HQ3.out.step hb4)
  have HSec4 := Aside0.mk (HSec.out.below hb4)
  have hsz3 := HQ3.out.below.size
  have HO1 := Aside0.mk (ho1.lower (b := w.heap.size) hsz3)
  have HO2 := Aside0.mk (ho2.lower (b := w.heap.size) hsz3)
  obtain ⟨B1, l1, k1, rfl⟩ := ho1.sl
  obtain ⟨B2, l2, k2, rfl⟩ := ho2.sl
  clear ho1 ho2 hb4 HSec m0 m1 m2 HQ3 hsz3
  go_wp2_with fail
  have HK := Aside0.mk (show ∀ W, Below w4.heap.size w4 W → SqS w.heap.size w4 (.slice A2 n2 c2) (.slice A3 n3 c3) (.slice A5 n5 c5) (.slice A6 n6 c6) W from fun W hb =>
    ⟨pw_cell_below hb (blk_cell HQ4.out.lx 1), pw_cell_below hb (blk_cell HQ4.out.lx 2), pw_cell_below hb (blk_cell HQ4.out.ly 1), pw_cell_below hb (blk_cell HQ4.out.ly 2), hb⟩)
  have hW : ∀ W, Below w4.heap.size w4 W → Below w.heap.size w W := fun W hb => below_then HQ4.out.below HQ4.out.below.size hb
  have HK1 := Aside0.mk (show ∀ W, Below w4.heap.size w4 W → Calls Tryz.prog 87 #[.slice A2 n2 c2, .func (.func 88) #[.pointer (some ⟨g, 0, none⟩)] #[]] W fun e w' => ∃ v', e = .returned v' ∧ Ow Kd.string 9 w' W.heap.size v' (x.whites.filter (whiteB y)) ∧ Below W.heap.size W w' ∧ Below w4.heap.size w4 w' from
    fun W hb => (kept_white y g x.whites _ W (HSec4.out.below hb) HY.out.lb (HRx.out W (hW W hb)).2.1 (by have := HX.out.nw; omega)).mono fun e w' ⟨v', h1, h2, h3⟩ => ⟨v', h1, h2, h3, below_then hb hb.size h3⟩)
  have HK2 := Aside0.mk (show ∀ W, Below w4.heap.size w4 W → Calls Tryz.prog 87 #[.slice A3 n3 c3, .func (.func 89) #[.pointer (some ⟨g, 0, none⟩)] #[]] W fun e w' => ∃ v', e = .returned v' ∧ Ow Kd.string 9 w' W.heap.size v' (x.opaques.filter (opaqueB y)) ∧ Below W.heap.size W w' ∧ Below w4.heap.size w4 w' from
    fun W hb => (kept_opaque y g x.opaques _ W (HSec4.out.below hb) HY.out.lb (HRx.out W (hW W hb)).2.2 (by have := HX.out.no; omega)).mono fun e w' ⟨v', h1, h2, h3⟩ => ⟨v', h1, h2, h3, below_then hb hb.size h3⟩)
  have HC1 := Aside0.mk (show ∀ W h v, Below w4.heap.size w4 W → W.heap[h]? = some (.cells #[v, .slice B2 l2 k2, .slice A5 n5 c5] 23 (0, 0)) → Rd Kd.string W v (x.whites.filter (whiteB y)) → Calls Tryz.prog 86 #[.slice (some ⟨h, 0, none⟩) 3 3] W fun e w' => ∃ v', e = .returned v' ∧ Ow Kd.string 9 w' W.heap.size v' ((x.whites.filter (whiteB y) ++ goneS y x.adds) ++ y.whites) ∧ Below W.heap.size W w' ∧ Below w4.heap.size w4 w' ∧ w4.heap.size ≤ W.heap.size from
    fun W h v hb hh hv => by
      have key := concat_strs [v, .slice B2 l2 k2, .slice A5 n5 c5] [x.whites.filter (whiteB y), goneS y x.adds, y.whites] h W
        (fun i hi => by
          have hi : i < 3 := hi
          rcases (show i = 0 ∨ i = 1 ∨ i = 2 by omega) with rfl | rfl | rfl
          · exact blk_cell hh 0
          · exact blk_cell hh 1
          · exact blk_cell hh 2)
        (fun i hi => by
          have hi : i < 3 := hi
          rcases (show i = 0 ∨ i = 1 ∨ i = 2 by omega) with rfl | rfl | rfl
          · exact hv
          · exact (HO2.out.below flat_string hb).rd
          · exact (HRy.out W (hW W hb)).2.1)
        (by have := ww_len HX.out HY.out; simp only [List.flatten_cons, List.flatten_nil, List.append_nil, List.length_append] at this ⊢; omega) (by simp)
      refine key.mono fun e w' ⟨v', h1, h2, h3⟩ => ⟨v', h1, ?_, h3, below_then hb hb.size h3, hb.size⟩
      have e2 : [x.whites.filter (whiteB y), goneS y x.adds, y.whites].flatten = (x.whites.filter (whiteB y) ++ goneS y x.adds) ++ y.whites := by simp
      rw [← e2]; exact h2)
  have HC2 := Aside0.mk (show ∀ W h v, Below w4.heap.size w4 W → W.heap[h]? = some (.cells #[v, .slice A6 n6 c6] 23 (0, 0)) → Rd Kd.string W v (x.opaques.filter (opaqueB y)) → Calls Tryz.prog 86 #[.slice (some ⟨h, 0, none⟩) 2 2] W fun e w' => ∃ v', e = .returned v' ∧ Ow Kd.string 9 w' W.heap.size v' (x.opaques.filter (opaqueB y) ++ y.opaques) ∧ Below W.heap.size W w' ∧ Below w4.heap.size w4 w' ∧ w4.heap.size ≤ W.heap.size from
    fun W h v hb hh hv => by
      have key := concat_strs [v, .slice A6 n6 c6] [x.opaques.filter (opaqueB y), y.opaques] h W
        (fun i hi => by
          have hi : i < 2 := hi
          rcases (show i = 0 ∨ i = 1 by omega) with rfl | rfl
          · exact blk_cell hh 0
          · exact blk_cell hh 1)
        (fun i hi => by
          have hi : i < 2 := hi
          rcases (show i = 0 ∨ i = 1 by omega) with rfl | rfl
          · exact hv
          · exact (HRy.out W (hW W hb)).2.2)
        (by have := oo_len HX.out HY.out; simp only [List.flatten_cons, List.flatten_nil, List.append_nil, List.length_append] at this ⊢; omega) (by simp)
      refine key.mono fun e w' ⟨v', h1, h2, h3⟩ => ⟨v', h1, ?_, h3, below_then hb hb.size h3, hb.size⟩
      have e2 : [x.opaques.filter (opaqueB y), y.opaques].flatten = x.opaques.filter (opaqueB y) ++ y.opaques := by simp
      rw [← e2]; exact h2)
  have HD := Aside0.mk (show ∀ W v B xs, Below w4.heap.size w4 W → w4.heap.size ≤ B → (∀ s ∈ xs, s.size ≤ 100000) → xs.length ≤ 10000 → Ow Kd.string 9 W B v xs → Calls Tryz.prog 85 #[v] W fun e w' => ∃ v', e = .returned v' ∧ Ow Kd.string 9 w' B v' (compS (sortS xs)) ∧ W.grownBy w' v.ownBlock ∧ Below w4.heap.size w4 w' from
    fun W v B xs hb hB hs hl ho => (ordered_strs xs v B W (HE.out W (hW W hb)) (by have := HQ4.out.below.size; omega) ho (fun s h => by have := hs s h; omega) (by omega)).mono fun e w' ⟨v', h1, h2, h3, h4⟩ => ⟨v', h1, h2, h4, hb.trans (below_lower h3 hB)⟩)
  have hst : SqS w.heap.size w4 (.slice A2 n2 c2) (.slice A3 n3 c3) (.slice A5 n5 c5) (.slice A6 n6 c6) w4.drew := HK.out _ ((Grew.refl w4).drew).below
  have hwl := ww_len HX.out HY.out
  have hol := oo_len HX.out HY.out
  have hws := ww_small HX.out HY.out
  have hos := oo_small HX.out HY.out
  have HWL := Aside0.mk (And.intro hwl hws)
  have HOL := Aside0.mk (And.intro hol hos)
  have HD1 := Aside0.mk (show ∀ W v B, Below w4.heap.size w4 W → w4.heap.size ≤ B → Ow Kd.string 9 W B v ((x.whites.filter (whiteB y) ++ goneS y x.adds) ++ y.whites) → Calls Tryz.prog 85 #[v] W fun e w' => ∃ v', e = .returned v' ∧ Ow Kd.string 9 w' B v' (joinL x y).whites ∧ W.grownBy w' v.ownBlock ∧ Below w4.heap.size w4 w' from
    fun W v B hb hB ho => HD.out W v B _ hb hB HWL.out.2 (by have := HWL.out.1; omega) ho)
  have HD2 := Aside0.mk (show ∀ W v B, Below w4.heap.size w4 W → w4.heap.size ≤ B → Ow Kd.string 9 W B v (x.opaques.filter (opaqueB y) ++ y.opaques) → Calls Tryz.prog 85 #[v] W fun e w' => ∃ v', e = .returned v' ∧ Ow Kd.string 9 w' B v' (joinL x y).opaques ∧ W.grownBy w' v.ownBlock ∧ Below w4.heap.size w4 w' from
    fun W v B hb hB ho => HD.out W v B _ hb hB HOL.out.2 (by have := HOL.out.1; omega) ho)
  have hz4 : w4.heap.size ≤ w4.drew.heap.size := Nat.le_refl _
  clear hwl hol hws hos hW
  refine Reg.start (fun W => W.cell? ⟨w.heap.size, 1, none⟩ = some (.slice A2 n2 c2) ∧ W.cell? ⟨w.heap.size, 2, none⟩ = some (.slice A3 n3 c3) ∧ W.cell? ⟨w.heap.size + 1, 1, none⟩ = some (.slice A5 n5 c5) ∧ W.cell? ⟨w.heap.size + 1, 2, none⟩ = some (.slice A6 n6 c6) ∧ Below w4.heap.size w4 W) (by kernel_rfl) hst (fun _ _ _ _ _ _ h => h) (fun R Q' HQ HR => ?_)
  simp only [List.size_toArray, List.length_cons, List.length_nil, Nat.zero_add, Nat.reduceAdd, Array.replicate, List.replicate]
  refine HR.take 0 28 (v := ?v0) rfl (by kernel_rfl) (by kernel_rfl) (by kernel_rfl) (Or.inl ⟨by rfl, ?hy0⟩) hst rfl ?rest0
  case hy0 =>
    intro w hSw
    (try dsimp only at hSw)
    go_simp
    (try with_reducible rfl)
  simp only [List.setIfInBounds_toArray, List.set_cons_zero, List.set_cons_succ]
  refine HR.take 1 29 (v := ?v1) rfl (by kernel_rfl) (by kernel_rfl) (by kernel_rfl) (Or.inl ⟨by rfl, ?hy1⟩) hst rfl ?rest1
  case hy1 =>
    intro w hSw
    (try dsimp only at hSw)
    go_simp
    (try with_reducible rfl)
  simp only [List.setIfInBounds_toArray, List.set_cons_zero, List.set_cons_succ]
  refine HR.take 2 30 (v := ?v2) rfl (by kernel_rfl) (by kernel_rfl) (by kernel_rfl) (Or.inl ⟨by rfl, ?hy2⟩) hst rfl ?rest2
  case hy2 =>
    intro w hSw
    (try dsimp only at hSw)
    go_simp
    (try with_reducible rfl)
  simp only [List.setIfInBounds_toArray, List.set_cons_zero, List.set_cons_succ]
  refine HR.take 3 31 (v := ?v3) rfl (by kernel_rfl) (by kernel_rfl) (by kernel_rfl) (Or.inl ⟨by rfl, ?hy3⟩) hst rfl ?rest3
  case hy3 =>
    intro w hSw
    (try dsimp only at hSw)
    go_simp
    (try with_reducible rfl)
  simp only [List.setIfInBounds_toArray, List.set_cons_zero, List.set_cons_succ]
  refine HR.take 4 32 (v := ?v4) rfl (by kernel_rfl) (by kernel_rfl) (by kernel_rfl) (Or.inl ⟨by rfl, ?hy4⟩) hst rfl ?rest4
  case hy4 =>
    intro w hSw
    (try dsimp only at hSw)
    go_simp
    (try with_reducible rfl)
  simp only [List.setIfInBounds_toArray, List.set_cons_zero, List.set_cons_succ]
  refine HR.take 6 34 (v := ?v6) rfl (by kernel_rfl) (by kernel_rfl) (by kernel_rfl) (Or.inl ⟨by rfl, ?hy6⟩) hst rfl ?rest6
  case hy6 =>
    intro w hSw
    (try dsimp only at hSw)
    go_simp
    (try with_reducible rfl)
  simp only [List.setIfInBounds_toArray, List.set_cons_zero, List.set_cons_succ]
  refine HR.take 7 35 (v := ?v7) rfl (by kernel_rfl) (by kernel_rfl) (by kernel_rfl) (Or.inl ⟨by rfl, ?hy7⟩) hst rfl ?rest7
  case hy7 =>
    intro w hSw
    (try dsimp only at hSw)
    go_simp
    (try with_reducible rfl)
  simp only [List.setIfInBounds_toArray, List.set_cons_zero, List.set_cons_succ]
  refine HR.take 8 36 (v := ?v8) rfl (by kernel_rfl) (by kernel_rfl) (by kernel_rfl) (Or.inl ⟨by rfl, ?hy8⟩) hst rfl ?rest8
  case hy8 =>
    intro w hSw
    (try dsimp only at hSw)
    go_simp
    (try with_reducible rfl)
  simp only [List.setIfInBounds_toArray, List.set_cons_zero, List.set_cons_succ]
  refine HR.take 12 40 (v := ?v12) rfl (by kernel_rfl) (by kernel_rfl) (by kernel_rfl) (Or.inl ⟨by rfl, ?hy12⟩) hst rfl ?rest12
  case hy12 =>
    intro w hSw
    (try dsimp only at hSw)
    go_simp
    (try with_reducible rfl)
  simp only [List.setIfInBounds_toArray, List.set_cons_zero, List.set_cons_succ]
  refine HR.take 13 41 (v := ?v13) rfl (by kernel_rfl) (by kernel_rfl) (by kernel_rfl) (Or.inl ⟨by rfl, ?hy13⟩) hst rfl ?rest13
  case hy13 =>
    intro w hSw
    (try dsimp only at hSw)
    go_simp
    (try with_reducible rfl)
  simp only [List.setIfInBounds_toArray, List.set_cons_zero, List.set_cons_succ]
  refine HR.take 14 42 (v := ?v14) rfl (by kernel_rfl) (by kernel_rfl) (by kernel_rfl) (Or.inl ⟨by rfl, ?hy14⟩) hst rfl ?rest14
  case hy14 =>
    intro w hSw
    (try dsimp only at hSw)
    go_simp
    (try with_reducible rfl)
  simp only [List.setIfInBounds_toArray, List.set_cons_zero, List.set_cons_succ]
  refine HR.take 15 43 (v := ?v15) rfl (by kernel_rfl) (by kernel_rfl) (by kernel_rfl) (Or.inl ⟨by rfl, ?hy15⟩) hst rfl ?rest15
  case hy15 =>
    intro w hSw
    (try dsimp only at hSw)
    go_simp
    (try with_reducible rfl)
  simp only [List.setIfInBounds_toArray, List.set_cons_zero, List.set_cons_succ]
  refine HR.take 17 45 (v := ?v17) rfl (by kernel_rfl) (by kernel_rfl) (by kernel_rfl) (Or.inl ⟨by rfl, ?hy17⟩) hst rfl ?rest17
  case hy17 =>
    intro w hSw
    (try dsimp only at hSw)
    go_simp
    (try with_reducible rfl)
  simp only [List.setIfInBounds_toArray, List.set_cons_zero, List.set_cons_succ]
  refine HR.take 18 46 (v := ?v18) rfl (by kernel_rfl) (by kernel_rfl) (by kernel_rfl) (Or.inl ⟨by rfl, ?hy18⟩) hst rfl ?rest18
  case hy18 =>
    intro w hSw
    (try dsimp only at hSw)
    go_simp
    (try with_reducible rfl)
  simp only [List.setIfInBounds_toArray, List.set_cons_zero, List.set_cons_succ]
  obtain ⟨fr, hfr⟩ : ∃ fr : Value → Value → Value → Value → Value → Value → Value → Value → Value → Value → Array Value, ∀ s9 s33 s37 s38 s39 s44 s47 s48 s49 s50, fr s9 s33 s37 s38 s39 s44 s47 s48 s49 s50 = #[Value.agg #[.slice A1 n1 c1, .slice A2 n2 c2, .slice A3 n3 c3], Value.agg #[.slice A4 n4 c4, .slice A5 n5 c5, .slice A6 n6 c6], Value.pointer (some ⟨w.heap.size, 0, none⟩), Value.pointer (some ⟨(w.heap.size + 1), 0, none⟩), Value.pointer (some ⟨(w.heap.size + 1 + 1), 0, none⟩), Value.int .i64 0, Value.pointer (some ⟨g, 0, none⟩), Value.slice B1 l1 k1, Value.slice B2 l2 k2, s9, undef, Value.agg #[.slice A1 n1 c1, .slice A2 n2 c2, .slice A3 n3 c3], Value.int .i64 0, Value.bool false, Value.bool false, Value.agg #[.slice A4 n4 c4, .slice A5 n5 c5, .slice A6 n6 c6], Value.int .i64 0, Value.bool false, Value.bool false, undef, Value.agg #[.slice A4 n4 c4, .slice A5 n5 c5, .slice A6 n6 c6], Value.pointer (some ⟨g, 0, none⟩), Value.tuple #[.slice B1 l1 k1, .slice B2 l2 k2], Value.pointer (some ⟨g, 0, none⟩), Value.agg #[.slice A1 n1 c1, .slice A2 n2 c2, .slice A3 n3 c3], Value.tuple #[.slice B1 l1 k1, .slice B2 l2 k2], Value.slice B1 l1 k1, Value.slice B2 l2 k2, Value.slice B1 l1 k1, Value.pointer (some ⟨w.heap.size, 1, none⟩), Value.slice A2 n2 c2, Value.pointer (some ⟨g, 0, none⟩), Value.func (.func 88) #[.pointer (some ⟨g, 0, none⟩)] #[], s33, Value.slice B2 l2 k2, Value.pointer (some ⟨(w.heap.size + 1), 1, none⟩), Value.slice A5 n5 c5, s37, s38, s39, Value.pointer (some ⟨w.heap.size, 2, none⟩), Value.slice A3 n3 c3, Value.pointer (some ⟨g, 0, none⟩), Value.func (.func 89) #[.pointer (some ⟨g, 0, none⟩)] #[], s44, Value.pointer (some ⟨(w.heap.size + 1), 2, none⟩), Value.slice A6 n6 c6, s47, s48, s49, s50, undef, undef, undef, undef, undef, undef, undef] := ⟨fun s9 s33 s37 s38 s39 s44 s47 s48 s49 s50 => #[Value.agg #[.slice A1 n1 c1, .slice A2 n2 c2, .slice A3 n3 c3], Value.agg #[.slice A4 n4 c4, .slice A5 n5 c5, .slice A6 n6 c6], Value.pointer (some ⟨w.heap.size, 0, none⟩), Value.pointer (some ⟨(w.heap.size + 1), 0, none⟩), Value.pointer (some ⟨(w.heap.size + 1 + 1), 0, none⟩), Value.int .i64 0, Value.pointer (some ⟨g, 0, none⟩), Value.slice B1 l1 k1, Value.slice B2 l2 k2, s9, undef, Value.agg #[.slice A1 n1 c1, .slice A2 n2 c2, .slice A3 n3 c3], Value.int .i64 0, Value.bool false, Value.bool false, Value.agg #[.slice A4 n4 c4, .slice A5 n5 c5, .slice A6 n6 c6], Value.int .i64 0, Value.bool false, Value.bool false, undef, Value.agg #[.slice A4 n4 c4, .slice A5 n5 c5, .slice A6 n6 c6], Value.pointer (some ⟨g, 0, none⟩), Value.tuple #[.slice B1 l1 k1, .slice B2 l2 k2], Value.pointer (some ⟨g, 0, none⟩), Value.agg #[.slice A1 n1 c1, .slice A2 n2 c2, .slice A3 n3 c3], Value.tuple #[.slice B1 l1 k1, .slice B2 l2 k2], Value.slice B1 l1 k1, Value.slice B2 l2 k2, Value.slice B1 l1 k1, Value.pointer (some ⟨w.heap.size, 1, none⟩), Value.slice A2 n2 c2, Value.pointer (some ⟨g, 0, none⟩), Value.func (.func 88) #[.pointer (some ⟨g, 0, none⟩)] #[], s33, Value.slice B2 l2 k2, Value.pointer (some ⟨(w.heap.size + 1), 1, none⟩), Value.slice A5 n5 c5, s37, s38, s39, Value.pointer (some ⟨w.heap.size, 2, none⟩), Value.slice A3 n3 c3, Value.pointer (some ⟨g, 0, none⟩), Value.func (.func 89) #[.pointer (some ⟨g, 0, none⟩)] #[], s44, Value.pointer (some ⟨(w.heap.size + 1), 2, none⟩), Value.slice A6 n6 c6, s47, s48, s49, s50, undef, undef, undef, undef, undef, undef, undef], fun _ _ _ _ _ _ _ _ _ _ => rfl⟩
  have st9 : ∀ (W : World) (Ak1 : Option Addr) (nk1 ck1 : Nat) (h : Nat) (Ac1 : Option Addr) (nc1 cc1 : Nat) (Ao1 : Option Addr) (no1 co1 : Nat) (B : Nat) (Ak2 : Option Addr) (nk2 ck2 : Nat) (h2 : Nat) (Ac2 : Option Addr) (nc2 cc2 : Nat) (Ao2 : Option Addr) (no2 co2 : Nat) (D : Nat) (z : Nat), Aside0 (Ow Kd.string 9 W B (.slice Ao1 no1 co1) (joinL x y).whites) → Aside0 (w4.heap.size ≤ B) → Aside0 (Ow Kd.string 9 W D (.slice Ao2 no2 co2) (joinL x y).opaques) → Aside0 (w4.heap.size ≤ D) → Aside0 (W.heap[z]? = some (.cells #[.slice none 0 0, .slice none 0 0, .slice none 0 0] 25 (0, 0))) → Aside0 (w4.heap.size ≤ z) → Aside0 (Below w4.heap.size w4 W) → R 1 #[true, true, true, true, true, true, true, true, true, true, true, true, true, true, true, true, true, true, true, true, true, true, true, true, false] ⟨fr (.pointer (some ⟨z, 0, none⟩)) (.slice Ak1 nk1 ck1) (.slice (some ⟨h, 0, none⟩) 3 3) (.slice Ac1 nc1 cc1) (.slice Ao1 no1 co1) (.slice Ak2 nk2 ck2) (.slice (some ⟨h2, 0, none⟩) 2 2) (.slice Ac2 nc2 cc2) (.slice Ao2 no2 co2) (.agg #[.slice B1 l1 k1, .slice Ao1 no1 co1, .slice Ao2 no2 co2]), []⟩ W := by
    intro W Ak1 nk1 ck1 h Ac1 nc1 cc1 Ao1 no1 co1 B Ak2 nk2 ck2 h2 Ac2 nc2 cc2 Ao2 no2 co2 D z
    intro hp1 hB hp2 hD hz hzb HB
    rw [hfr]
    have z0 := blk_cell hz.out 0
    have z1 := blk_cell hz.out 1
    have z2 := blk_cell hz.out 2
    have y0 := blk_frozen hz.out 0
    have y1 := blk_frozen hz.out 1
    have y2 := blk_frozen hz.out 2
    have HB3 := Aside0.mk (((HB.out.setCell (p := ⟨z, 0, none⟩) hzb.out (.slice B1 l1 k1)).setCell (p := ⟨z, 1, none⟩) hzb.out (.slice Ao1 no1 co1)).setCell (p := ⟨z, 2, none⟩) hzb.out (.slice Ao2 no2 co2))
    have HZ3 := Aside0.mk (put3 hz.out (.slice B1 l1 k1) (.slice Ao1 no1 co1) (.slice Ao2 no2 co2))
    have HOa := Aside0.mk (HO1.out.below flat_node HB3.out)
    have HOw := Aside0.mk (hp1.out.sets3 (u0 := .slice B1 l1 k1) (u1 := .slice Ao1 no1 co1) (u2 := .slice Ao2 no2 co2) flat_string hz.out (by decide))
    have HOo := Aside0.mk (hp2.out.sets3 (u0 := .slice B1 l1 k1) (u1 := .slice Ao1 no1 co1) (u2 := .slice Ao2 no2 co2) flat_string hz.out (by decide))
    refine HR.one 24 (by kernel_rfl) rfl (fun K hK => ?_)
    simp only [List.getElem_toArray, List.getElem_cons_succ, List.getElem_cons_zero]
    go_simp
    refine hK.out _ _ (HK.out _ HB3.out) (fun _ => ?_)
    clear hK K z0 z1 z2 y0 y1 y2
    refine HR.done (by kernel_rfl) ?_
    rw [HQ.out]
    have hW3 := Aside0.mk (below_then HQ4.out.below HQ4.out.below.size HB3.out)
    have HQ5 := Aside0.mk (HQ4.out.step HB3.out)
    clear HB hzb hp1 hp2 hB hD HK1 HK2 HC1 HC2 HD HD1 HD2 HK HR HQ hst hfr HWL HOL hz4
    obtain ⟨W3, hW3e⟩ : ∃ W3, W3 = (((W.setCell ⟨z, 0, none⟩ (.slice B1 l1 k1)).setCell ⟨z, 1, none⟩ (.slice Ao1 no1 co1)).setCell ⟨z, 2, none⟩ (.slice Ao2 no2 co2)) := ⟨_, rfl⟩
    rw [← hW3e] at HB3 HZ3 HOa HOw HOo hW3 HQ5 ⊢
    clear hW3e hz
    have z0 := blk_cell HZ3.out 0
    have z1 := blk_cell HZ3.out 1
    have z2 := blk_cell HZ3.out 2
    go_wp2_with fail
    refine (layer_Check (joinL x y) _ _ _ _ (HE.out _ hW3.out) (show RdL W3 (.slice B1 l1 k1) (.slice Ao1 no1 co1) (.slice Ao2 no2 co2) (joinL x y) from ⟨HOa.out.rd, HOw.out.rd, HOo.out.rd⟩) (joinL_lb HX.out HY.out)).mono ?_
    rintro e6 w6 ⟨rfl, hb6⟩
    have HQ6 := Aside0.mk (HQ5.out.step hb6)
    have HOa6 := Aside0.mk (HOa.out.below flat_node hb6)
    have HOw6 := Aside0.mk (HOw.out.below flat_string hb6)
    have HOo6 := Aside0.mk (HOo.out.below flat_string hb6)
    have HZ6 := Aside0.mk ((hb6.block _ (blk_lt HZ3.out)).trans HZ3.out)
    have HW6 := Aside0.mk (below_then hW3.out hW3.out.size hb6)
    clear hb6 z0 z1 z2 HOa HOw HOo HZ3 HQ5 HB3 hW3
    have r0 : w6.cell? ⟨w.heap.size + 1 + 1, 0, none⟩ = some (.slice none 0 0) := blk_cell HQ6.out.lr 0
    have r1 : w6.cell? ⟨w.heap.size + 1 + 1, 1, none⟩ = some (.slice none 0 0) := blk_cell HQ6.out.lr 1
    have r2 : w6.cell? ⟨w.heap.size + 1 + 1, 2, none⟩ = some (.slice none 0 0) := blk_cell HQ6.out.lr 2
    have f0 := blk_frozen HQ6.out.lr 0
    have f1 := blk_frozen HQ6.out.lr 1
    have f2 := blk_frozen HQ6.out.lr 2
    by_cases hcj : checkL (joinL x y) = 0
    · have HZ := Aside0.mk (show squashL x y = (joinL x y, 0) by rw [HZ0.out, if_pos hcj])
      rw [hcj]
      have z0 := blk_cell HZ6.out 0
      have z1 := blk_cell HZ6.out 1
      have z2 := blk_cell HZ6.out 2
      clear hcj
      go_wp2_with fail
      refine ret23 rfl rfl (put3 HQ6.out.lr _ _ _) ⟨_, _, _, by rw [HZ.out], ?_, ?_⟩
      · rw [HZ.out]
        exact ⟨(HOa6.out.sets3 flat_node HQ6.out.lr (by decide)).rd, (HOw6.out.sets3 flat_string HQ6.out.lr (by decide)).rd, (HOo6.out.sets3 flat_string HQ6.out.lr (by decide)).rd⟩
      · exact ((HW6.out.setCell (by simp; omega) _).setCell (by simp; omega) _).setCell (by simp; omega) _
    · have HZ := Aside0.mk (show squashL x y = (Ly.none, checkL (joinL x y)) by rw [HZ0.out, if_neg hcj])
      have hcb : (checkL (joinL x y) != 0) = true := by simpa using hcj
      clear hcj
      go_wp2_with fail
      refine ret23 rfl rfl (put3 HQ6.out.lr _ _ _) ⟨_, _, _, by rw [HZ.out], by rw [HZ.out]; exact rdl_none _, ?_⟩
      exact ((HW6.out.setCell (by simp; omega) _).setCell (by simp; omega) _).setCell (by simp; omega) _
  have st8a : ∀ (W : World) (Ak1 : Option Addr) (nk1 ck1 : Nat) (h : Nat) (Ac1 : Option Addr) (nc1 cc1 : Nat) (Ao1 : Option Addr) (no1 co1 : Nat) (B : Nat) (Ak2 : Option Addr) (nk2 ck2 : Nat) (h2 : Nat) (Ac2 : Option Addr) (nc2 cc2 : Nat) (Ao2 : Option Addr) (no2 co2 : Nat) (D : Nat) (z : Nat), Aside0 (Ow Kd.string 9 W B (.slice Ao1 no1 co1) (joinL x y).whites) → Aside0 (w4.heap.size ≤ B) → Aside0 (Ow Kd.string 9 W D (.slice Ao2 no2 co2) (joinL x y).opaques) → Aside0 (w4.heap.size ≤ D) → Aside0 (W.heap[z]? = some (.cells #[.slice none 0 0, .slice none 0 0, .slice none 0 0] 25 (0, 0))) → Aside0 (w4.heap.size ≤ z) → Aside0 (Below w4.heap.size w4 W) → R 2 #[true, true, true, true, true, true, true, true, true, true, true, true, true, true, true, true, true, true, true, true, true, true, false, true, false] ⟨fr (.pointer (some ⟨z, 0, none⟩)) (.slice Ak1 nk1 ck1) (.slice (some ⟨h, 0, none⟩) 3 3) (.slice Ac1 nc1 cc1) (.slice Ao1 no1 co1) (.slice Ak2 nk2 ck2) (.slice (some ⟨h2, 0, none⟩) 2 2) (.slice Ac2 nc2 cc2) (.slice Ao2 no2 co2) undef, []⟩ W := by
    intro W Ak1 nk1 ck1 h Ac1 nc1 cc1 Ao1 no1 co1 B Ak2 nk2 ck2 h2 Ac2 nc2 cc2 Ao2 no2 co2 D z
    intro hp1 hB hp2 hD hz hzb HB
    rw [hfr]
    refine HR.take 22 50 (v := ?v22a) rfl (by kernel_rfl) (by kernel_rfl) (by kernel_rfl) (Or.inl ⟨by rfl, ?hy22a⟩) (HK.out _ HB.out) rfl ?rest22a
    case hy22a =>
      intro w hSw
      (try dsimp only at hSw)
      go_simp
      (try with_reducible rfl)
    simp only [List.setIfInBounds_toArray, List.set_cons_zero, List.set_cons_succ]
    have nx := st9 W Ak1 nk1 ck1 h Ac1 nc1 cc1 Ao1 no1 co1 B Ak2 nk2 ck2 h2 Ac2 nc2 cc2 Ao2 no2 co2 D z hp1 hB hp2 hD hz hzb HB
    rw [hfr] at nx
    exact nx
  have st8n : ∀ (W : World) (Ak1 : Option Addr) (nk1 ck1 : Nat) (h : Nat) (Ac1 : Option Addr) (nc1 cc1 : Nat) (Ao1 : Option Addr) (no1 co1 : Nat) (B : Nat) (Ak2 : Option Addr) (nk2 ck2 : Nat) (h2 : Nat) (Ac2 : Option Addr) (nc2 cc2 : Nat) (Ao2 : Option Addr) (no2 co2 : Nat) (D : Nat), Aside0 (Ow Kd.string 9 W B (.slice Ao1 no1 co1) (joinL x y).whites) → Aside0 (w4.heap.size ≤ B) → Aside0 (Ow Kd.string 9 W D (.slice Ao2 no2 co2) (joinL x y).opaques) → Aside0 (w4.heap.size ≤ D) → Aside0 (Below w4.heap.size w4 W) → R 3 #[true, true, true, true, true, true, true, true, true, true, true, true, true, true, true, true, true, true, true, true, true, true, false, false, false] ⟨fr undef (.slice Ak1 nk1 ck1) (.slice (some ⟨h, 0, none⟩) 3 3) (.slice Ac1 nc1 cc1) (.slice Ao1 no1 co1) (.slice Ak2 nk2 ck2) (.slice (some ⟨h2, 0, none⟩) 2 2) (.slice Ac2 nc2 cc2) (.slice Ao2 no2 co2) undef, []⟩ W := by
    intro W Ak1 nk1 ck1 h Ac1 nc1 cc1 Ao1 no1 co1 B Ak2 nk2 ck2 h2 Ac2 nc2 cc2 Ao2 no2 co2 D
    intro hp1 hB hp2 hD HB
    rw [hfr]
    refine HR.take 22 50 (v := ?v22n) rfl (by kernel_rfl) (by kernel_rfl) (by kernel_rfl) (Or.inl ⟨by rfl, ?hy22n⟩) (HK.out _ HB.out) rfl ?rest22n
    case hy22n =>
      intro w hSw
      (try dsimp only at hSw)
      go_simp
      (try with_reducible rfl)
    simp only [List.setIfInBounds_toArray, List.set_cons_zero, List.set_cons_succ]
    refine HR.one 23 (by kernel_rfl) rfl (fun K hK => ?_)
    simp only [List.getElem_toArray, List.getElem_cons_succ, List.getElem_cons_zero]
    go_simp
    have hb := ((Grew.refl W).alloc (.cells #[.slice none 0 0, .slice none 0 0, .slice none 0 0] 25)).below
    have HB' := HB.out.alloc HB.out.size (.cells #[.slice none 0 0, .slice none 0 0, .slice none 0 0] 25)
    refine hK.out _ _ (HK.out _ HB') (fun _ => ?_)
    simp only [Act.put, List.setIfInBounds_toArray, List.set_cons_zero, List.set_cons_succ]
    have nx := st9 (W.alloc (.cells #[.slice none 0 0, .slice none 0 0, .slice none 0 0] 25)) Ak1 nk1 ck1 h Ac1 nc1 cc1 Ao1 no1 co1 B Ak2 nk2 ck2 h2 Ac2 nc2 cc2 Ao2 no2 co2 D _ ⟨hp1.out.below flat_string hb⟩ hB ⟨hp2.out.below flat_string hb⟩ hD ⟨heap_alloc_new W _⟩ ⟨HB.out.size⟩ ⟨HB'⟩
    rw [hfr] at nx
    exact nx
  have st7a : ∀ (W : World) (Ak1 : Option Addr) (nk1 ck1 : Nat) (h : Nat) (Ac1 : Option Addr) (nc1 cc1 : Nat) (Ao1 : Option Addr) (no1 co1 : Nat) (B : Nat) (Ak2 : Option Addr) (nk2 ck2 : Nat) (h2 : Nat) (Ac2 : Option Addr) (nc2 cc2 : Nat) (D : Nat) (z : Nat), Aside0 (Ow Kd.string 9 W B (.slice Ao1 no1 co1) (joinL x y).whites) → Aside0 (w4.heap.size ≤ B) → Aside0 (Ow Kd.string 9 W D (.slice Ac2 nc2 cc2) (x.opaques.filter (opaqueB y) ++ y.opaques)) → Aside0 (w4.heap.size ≤ D) → Aside0 ((Value.slice Ao1 no1 co1).ownBlock = none ∨ (Value.slice Ao1 no1 co1).ownBlock ≠ (Value.slice Ac2 nc2 cc2).ownBlock) → Aside0 (W.heap[z]? = some (.cells #[.slice none 0 0, .slice none 0 0, .slice none 0 0] 25 (0, 0))) → Aside0 (w4.heap.size ≤ z) → Aside0 (Below w4.heap.size w4 W) → R 3 #[true, true, true, true, true, true, true, true, true, true, true, true, true, true, true, true, true, true, true, true, true, false, false, true, false] ⟨fr (.pointer (some ⟨z, 0, none⟩)) (.slice Ak1 nk1 ck1) (.slice (some ⟨h, 0, none⟩) 3 3) (.slice Ac1 nc1 cc1) (.slice Ao1 no1 co1) (.slice Ak2 nk2 ck2) (.slice (some ⟨h2, 0, none⟩) 2 2) (.slice Ac2 nc2 cc2) undef undef, []⟩ W := by
    intro W Ak1 nk1 ck1 h Ac1 nc1 cc1 Ao1 no1 co1 B Ak2 nk2 ck2 h2 Ac2 nc2 cc2 D z
    intro hp1 hB hc2 hD hn hz hzb HB
    rw [hfr]
    refine HR.one 21 (by kernel_rfl) rfl (fun K hK => ?_)
    simp only [List.getElem_toArray, List.getElem_cons_succ, List.getElem_cons_zero]
    go_simp
    refine (HD2.out W _ D HB.out hD.out hc2.out).mono ?_
    rintro e w' ⟨vo2, rfl, hp2, hg, HB'⟩
    obtain ⟨Ao2, no2, co2, rfl⟩ := hp2.sl
    (try dsimp only)
    refine hK.out _ _ (HK.out _ HB') (fun _ => ?_)
    simp only [Act.put, List.setIfInBounds_toArray, List.set_cons_zero, List.set_cons_succ]
    have nx := st8a w' Ak1 nk1 ck1 h Ac1 nc1 cc1 Ao1 no1 co1 B Ak2 nk2 ck2 h2 Ac2 nc2 cc2 Ao2 no2 co2 D z ⟨hp1.out.grown flat_string hg hn.out⟩ hB ⟨hp2⟩ hD ⟨(hg.block _ (blk_lt hz.out) (fun e => hc2.out.ne_type hz.out (by decide) e.symm)).trans hz.out⟩ hzb ⟨HB'⟩
    rw [hfr] at nx
    exact nx
  have st7n : ∀ (W : World) (Ak1 : Option Addr) (nk1 ck1 : Nat) (h : Nat) (Ac1 : Option Addr) (nc1 cc1 : Nat) (Ao1 : Option Addr) (no1 co1 : Nat) (B : Nat) (Ak2 : Option Addr) (nk2 ck2 : Nat) (h2 : Nat) (Ac2 : Option Addr) (nc2 cc2 : Nat) (D : Nat), Aside0 (Ow Kd.string 9 W B (.slice Ao1 no1 co1) (joinL x y).whites) → Aside0 (w4.heap.size ≤ B) → Aside0 (Ow Kd.string 9 W D (.slice Ac2 nc2 cc2) (x.opaques.filter (opaqueB y) ++ y.opaques)) → Aside0 (w4.heap.size ≤ D) → Aside0 ((Value.slice Ao1 no1 co1).ownBlock = none ∨ (Value.slice Ao1 no1 co1).ownBlock ≠ (Value.slice Ac2 nc2 cc2).ownBlock) → Aside0 (Below w4.heap.size w4 W) → R 4 #[true, true, true, true, true, true, true, true, true, true, true, true, true, true, true, true, true, true, true, true, true, false, false, false, false] ⟨fr undef (.slice Ak1 nk1 ck1) (.slice (some ⟨h, 0, none⟩) 3 3) (.slice Ac1 nc1 cc1) (.slice Ao1 no1 co1) (.slice Ak2 nk2 ck2) (.slice (some ⟨h2, 0, none⟩) 2 2) (.slice Ac2 nc2 cc2) undef undef, []⟩ W := by
    intro W Ak1 nk1 ck1 h Ac1 nc1 cc1 Ao1 no1 co1 B Ak2 nk2 ck2 h2 Ac2 nc2 cc2 D
    intro hp1 hB hc2 hD hn HB
    rw [hfr]
    refine HR.two 21 23 (by kernel_rfl) rfl rfl (fun K hK => ?_) (fun K hK => ?_)
    · simp only [List.getElem_toArray, List.getElem_cons_succ, List.getElem_cons_zero]
      go_simp
      refine (HD2.out W _ D HB.out hD.out hc2.out).mono ?_
      rintro e w' ⟨vo2, rfl, hp2, hg, HB'⟩
      obtain ⟨Ao2, no2, co2, rfl⟩ := hp2.sl
      (try dsimp only)
      refine hK.out _ _ (HK.out _ HB') (fun _ => ?_)
      simp only [Act.put, List.setIfInBounds_toArray, List.set_cons_zero, List.set_cons_succ]
      have nx := st8n w' Ak1 nk1 ck1 h Ac1 nc1 cc1 Ao1 no1 co1 B Ak2 nk2 ck2 h2 Ac2 nc2 cc2 Ao2 no2 co2 D ⟨hp1.out.grown flat_string hg hn.out⟩ hB ⟨hp2⟩ hD ⟨HB'⟩
      rw [hfr] at nx
      exact nx
    · simp only [List.getElem_toArray, List.getElem_cons_succ, List.getElem_cons_zero]
      go_simp
      have hb := ((Grew.refl W).alloc (.cells #[.slice none 0 0, .slice none 0 0, .slice none 0 0] 25)).below
      have HB' := HB.out.alloc HB.out.size (.cells #[.slice none 0 0, .slice none 0 0, .slice none 0 0] 25)
      refine hK.out _ _ (HK.out _ HB') (fun _ => ?_)
      simp only [Act.put, List.setIfInBounds_toArray, List.set_cons_zero, List.set_cons_succ]
      have nx := st7a (W.alloc (.cells #[.slice none 0 0, .slice none 0 0, .slice none 0 0] 25)) Ak1 nk1 ck1 h Ac1 nc1 cc1 Ao1 no1 co1 B Ak2 nk2 ck2 h2 Ac2 nc2 cc2 D _ ⟨hp1.out.below flat_string hb⟩ hB ⟨hc2.out.below flat_string hb⟩ hD hn ⟨heap_alloc_new W _⟩ ⟨HB.out.size⟩ ⟨HB'⟩
      rw [hfr] at nx
      exact nx
  have st6a : ∀ (W : World) (Ak1 : Option Addr) (nk1 ck1 : Nat) (h : Nat) (Ac1 : Option Addr) (nc1 cc1 : Nat) (Ao1 : Option Addr) (no1 co1 : Nat) (B : Nat) (Ak2 : Option Addr) (nk2 ck2 : Nat) (h2 : Nat) (z : Nat), Aside0 (Ow Kd.string 9 W B (.slice Ao1 no1 co1) (joinL x y).whites) → Aside0 (w4.heap.size ≤ B) → Aside0 (Rd Kd.string W (.slice Ak2 nk2 ck2) (x.opaques.filter (opaqueB y))) → Aside0 (W.heap[h2]? = some (.cells #[.slice Ak2 nk2 ck2, .slice A6 n6 c6] 23 (0, 0))) → Aside0 (W.heap[z]? = some (.cells #[.slice none 0 0, .slice none 0 0, .slice none 0 0] 25 (0, 0))) → Aside0 (w4.heap.size ≤ z) → Aside0 (Below w4.heap.size w4 W) → R 4 #[true, true, true, true, true, true, true, true, true, true, true, true, true, true, true, true, true, true, true, true, false, false, false, true, false] ⟨fr (.pointer (some ⟨z, 0, none⟩)) (.slice Ak1 nk1 ck1) (.slice (some ⟨h, 0, none⟩) 3 3) (.slice Ac1 nc1 cc1) (.slice Ao1 no1 co1) (.slice Ak2 nk2 ck2) (.slice (some ⟨h2, 0, none⟩) 2 2) undef undef undef, []⟩ W := by
    intro W Ak1 nk1 ck1 h Ac1 nc1 cc1 Ao1 no1 co1 B Ak2 nk2 ck2 h2 z
    intro hp1 hB hk2 hh2 hz hzb HB
    rw [hfr]
    refine HR.one 20 (by kernel_rfl) rfl (fun K hK => ?_)
    simp only [List.getElem_toArray, List.getElem_cons_succ, List.getElem_cons_zero]
    go_simp
    refine (HC2.out W h2 _ HB.out hh2.out hk2.out).mono ?_
    rintro e w' ⟨vc2, rfl, hc2, hb, HB', _⟩
    obtain ⟨Ac2, nc2, cc2, rfl⟩ := hc2.sl
    (try dsimp only)
    refine hK.out _ _ (HK.out _ HB') (fun _ => ?_)
    simp only [Act.put, List.setIfInBounds_toArray, List.set_cons_zero, List.set_cons_succ]
    have nx := st7a w' Ak1 nk1 ck1 h Ac1 nc1 cc1 Ao1 no1 co1 B Ak2 nk2 ck2 h2 Ac2 nc2 cc2 _ z ⟨hp1.out.below flat_string hb⟩ hB ⟨hc2⟩ ⟨HB.out.size⟩ ⟨ow_older hp1.out hc2⟩ ⟨(hb.block _ (blk_lt hz.out)).trans hz.out⟩ hzb ⟨HB'⟩
    rw [hfr] at nx
    exact nx
  have st6n : ∀ (W : World) (Ak1 : Option Addr) (nk1 ck1 : Nat) (h : Nat) (Ac1 : Option Addr) (nc1 cc1 : Nat) (Ao1 : Option Addr) (no1 co1 : Nat) (B : Nat) (Ak2 : Option Addr) (nk2 ck2 : Nat) (h2 : Nat), Aside0 (Ow Kd.string 9 W B (.slice Ao1 no1 co1) (joinL x y).whites) → Aside0 (w4.heap.size ≤ B) → Aside0 (Rd Kd.string W (.slice Ak2 nk2 ck2) (x.opaques.filter (opaqueB y))) → Aside0 (W.heap[h2]? = some (.cells #[.slice Ak2 nk2 ck2, .slice A6 n6 c6] 23 (0, 0))) → Aside0 (Below w4.heap.size w4 W) → R 5 #[true, true, true, true, true, true, true, true, true, true, true, true, true, true, true, true, true, true, true, true, false, false, false, false, false] ⟨fr undef (.slice Ak1 nk1 ck1) (.slice (some ⟨h, 0, none⟩) 3 3) (.slice Ac1 nc1 cc1) (.slice Ao1 no1 co1) (.slice Ak2 nk2 ck2) (.slice (some ⟨h2, 0, none⟩) 2 2) undef undef undef, []⟩ W := by
    intro W Ak1 nk1 ck1 h Ac1 nc1 cc1 Ao1 no1 co1 B Ak2 nk2 ck2 h2
    intro hp1 hB hk2 hh2 HB
    rw [hfr]
    refine HR.two 20 23 (by kernel_rfl) rfl rfl (fun K hK => ?_) (fun K hK => ?_)
    · simp only [List.getElem_toArray, List.getElem_cons_succ, List.getElem_cons_zero]
      go_simp
      refine (HC2.out W h2 _ HB.out hh2.out hk2.out).mono ?_
      rintro e w' ⟨vc2, rfl, hc2, hb, HB', _⟩
      obtain ⟨Ac2, nc2, cc2, rfl⟩ := hc2.sl
      (try dsimp only)
      refine hK.out _ _ (HK.out _ HB') (fun _ => ?_)
      simp only [Act.put, List.setIfInBounds_toArray, List.set_cons_zero, List.set_cons_succ]
      have nx := st7n w' Ak1 nk1 ck1 h Ac1 nc1 cc1 Ao1 no1 co1 B Ak2 nk2 ck2 h2 Ac2 nc2 cc2 _ ⟨hp1.out.below flat_string hb⟩ hB ⟨hc2⟩ ⟨HB.out.size⟩ ⟨ow_older hp1.out hc2⟩ ⟨HB'⟩
      rw [hfr] at nx
      exact nx
    · simp only [List.getElem_toArray, List.getElem_cons_succ, List.getElem_cons_zero]
      go_simp
      have hb := ((Grew.refl W).alloc (.cells #[.slice none 0 0, .slice none 0 0, .slice none 0 0] 25)).below
      have HB' := HB.out.alloc HB.out.size (.cells #[.slice none 0 0, .slice none 0 0, .slice none 0 0] 25)
      refine hK.out _ _ (HK.out _ HB') (fun _ => ?_)
      simp only [Act.put, List.setIfInBounds_toArray, List.set_cons_zero, List.set_cons_succ]
      have nx := st6a (W.alloc (.cells #[.slice none 0 0, .slice none 0 0, .slice none 0 0] 25)) Ak1 nk1 ck1 h Ac1 nc1 cc1 Ao1 no1 co1 B Ak2 nk2 ck2 h2 _ ⟨hp1.out.below flat_string hb⟩ hB ⟨hk2.out.below hb⟩ ⟨blk_lt' hh2.out _⟩ ⟨heap_alloc_new W _⟩ ⟨HB.out.size⟩ ⟨HB'⟩
      rw [hfr] at nx
      exact nx
  have st5a : ∀ (W : World) (Ak1 : Option Addr) (nk1 ck1 : Nat) (h : Nat) (Ac1 : Option Addr) (nc1 cc1 : Nat) (Ao1 : Option Addr) (no1 co1 : Nat) (B : Nat) (Ak2 : Option Addr) (nk2 ck2 : Nat) (z : Nat), Aside0 (Ow Kd.string 9 W B (.slice Ao1 no1 co1) (joinL x y).whites) → Aside0 (w4.heap.size ≤ B) → Aside0 (Rd Kd.string W (.slice Ak2 nk2 ck2) (x.opaques.filter (opaqueB y))) → Aside0 (W.heap[z]? = some (.cells #[.slice none 0 0, .slice none 0 0, .slice none 0 0] 25 (0, 0))) → Aside0 (w4.heap.size ≤ z) → Aside0 (Below w4.heap.size w4 W) → R 5 #[true, true, true, true, true, true, true, true, true, true, true, true, true, true, true, true, true, true, true, false, false, false, false, true, false] ⟨fr (.pointer (some ⟨z, 0, none⟩)) (.slice Ak1 nk1 ck1) (.slice (some ⟨h, 0, none⟩) 3 3) (.slice Ac1 nc1 cc1) (.slice Ao1 no1 co1) (.slice Ak2 nk2 ck2) undef undef undef undef, []⟩ W := by
    intro W Ak1 nk1 ck1 h Ac1 nc1 cc1 Ao1 no1 co1 B Ak2 nk2 ck2 z
    intro hp1 hB hk2 hz hzb HB
    rw [hfr]
    refine HR.one 19 (by kernel_rfl) rfl (fun K hK => ?_)
    simp only [List.getElem_toArray, List.getElem_cons_succ, List.getElem_cons_zero]
    go_simp
    have hb := ((Grew.refl W).alloc (.cells #[.slice Ak2 nk2 ck2, .slice A6 n6 c6] 23)).below
    have HB' := HB.out.alloc HB.out.size (.cells #[.slice Ak2 nk2 ck2, .slice A6 n6 c6] 23)
    refine hK.out _ _ (HK.out _ HB') (fun _ => ?_)
    simp only [Act.put, List.setIfInBounds_toArray, List.set_cons_zero, List.set_cons_succ]
    have nx := st6a (W.alloc (.cells #[.slice Ak2 nk2 ck2, .slice A6 n6 c6] 23)) Ak1 nk1 ck1 h Ac1 nc1 cc1 Ao1 no1 co1 B Ak2 nk2 ck2 _ z ⟨hp1.out.below flat_string hb⟩ hB ⟨hk2.out.below hb⟩ ⟨heap_alloc_new W _⟩ ⟨(hb.block _ (blk_lt hz.out)).trans hz.out⟩ hzb ⟨HB'⟩
    rw [hfr] at nx
    exact nx
  have st5n : ∀ (W : World) (Ak1 : Option Addr) (nk1 ck1 : Nat) (h : Nat) (Ac1 : Option Addr) (nc1 cc1 : Nat) (Ao1 : Option Addr) (no1 co1 : Nat) (B : Nat) (Ak2 : Option Addr) (nk2 ck2 : Nat), Aside0 (Ow Kd.string 9 W B (.slice Ao1 no1 co1) (joinL x y).whites) → Aside0 (w4.heap.size ≤ B) → Aside0 (Rd Kd.string W (.slice Ak2 nk2 ck2) (x.opaques.filter (opaqueB y))) → Aside0 (Below w4.heap.size w4 W) → R 6 #[true, true, true, true, true, true, true, true, true, true, true, true, true, true, true, true, true, true, true, false, false, false, false, false, false] ⟨fr undef (.slice Ak1 nk1 ck1) (.slice (some ⟨h, 0, none⟩) 3 3) (.slice Ac1 nc1 cc1) (.slice Ao1 no1 co1) (.slice Ak2 nk2 ck2) undef undef undef undef, []⟩ W := by
    intro W Ak1 nk1 ck1 h Ac1 nc1 cc1 Ao1 no1 co1 B Ak2 nk2 ck2
    intro hp1 hB hk2 HB
    rw [hfr]
    refine HR.two 19 23 (by kernel_rfl) rfl rfl (fun K hK => ?_) (fun K hK => ?_)
    · simp only [List.getElem_toArray, List.getElem_cons_succ, List.getElem_cons_zero]
      go_simp
      have hb := ((Grew.refl W).alloc (.cells #[.slice Ak2 nk2 ck2, .slice A6 n6 c6] 23)).below
      have HB' := HB.out.alloc HB.out.size (.cells #[.slice Ak2 nk2 ck2, .slice A6 n6 c6] 23)
      refine hK.out _ _ (HK.out _ HB') (fun _ => ?_)
      simp only [Act.put, List.setIfInBounds_toArray, List.set_cons_zero, List.set_cons_succ]
      have nx := st6n (W.alloc (.cells #[.slice Ak2 nk2 ck2, .slice A6 n6 c6] 23)) Ak1 nk1 ck1 h Ac1 nc1 cc1 Ao1 no1 co1 B Ak2 nk2 ck2 _ ⟨hp1.out.below flat_string hb⟩ hB ⟨hk2.out.below hb⟩ ⟨heap_alloc_new W _⟩ ⟨HB'⟩
      rw [hfr] at nx
      exact nx
    · simp only [List.getElem_toArray, List.getElem_cons_succ, List.getElem_cons_zero]
      go_simp
      have hb := ((Grew.refl W).alloc (.cells #[.slice none 0 0, .slice none 0 0, .slice none 0 0] 25)).below
      have HB' := HB.out.alloc HB.out.size (.cells #[.slice none 0 0, .slice none 0 0, .slice none 0 0] 25)
      refine hK.out _ _ (HK.out _ HB') (fun _ => ?_)
      simp only [Act.put, List.setIfInBounds_toArray, List.set_cons_zero, List.set_cons_succ]
      have nx := st5a (W.alloc (.cells #[.slice none 0 0, .slice none 0 0, .slice none 0 0] 25)) Ak1 nk1 ck1 h Ac1 nc1 cc1 Ao1 no1 co1 B Ak2 nk2 ck2 _ ⟨hp1.out.below flat_string hb⟩ hB ⟨hk2.out.below hb⟩ ⟨heap_alloc_new W _⟩ ⟨HB.out.size⟩ ⟨HB'⟩
      rw [hfr] at nx
      exact nx
  have st4a : ∀ (W : World) (Ak1 : Option Addr) (nk1 ck1 : Nat) (h : Nat) (Ac1 : Option Addr) (nc1 cc1 : Nat) (Ao1 : Option Addr) (no1 co1 : Nat) (B : Nat) (z : Nat), Aside0 (Ow Kd.string 9 W B (.slice Ao1 no1 co1) (joinL x y).whites) → Aside0 (w4.heap.size ≤ B) → Aside0 (W.heap[z]? = some (.cells #[.slice none 0 0, .slice none 0 0, .slice none 0 0] 25 (0, 0))) → Aside0 (w4.heap.size ≤ z) → Aside0 (Below w4.heap.size w4 W) → R 6 #[true, true, true, true, true, true, true, true, true, true, true, true, true, true, true, true, false, true, true, false, false, false, false, true, false] ⟨fr (.pointer (some ⟨z, 0, none⟩)) (.slice Ak1 nk1 ck1) (.slice (some ⟨h, 0, none⟩) 3 3) (.slice Ac1 nc1 cc1) (.slice Ao1 no1 co1) undef undef undef undef undef, []⟩ W := by
    intro W Ak1 nk1 ck1 h Ac1 nc1 cc1 Ao1 no1 co1 B z
    intro hp1 hB hz hzb HB
    rw [hfr]
    refine HR.one 16 (by kernel_rfl) rfl (fun K hK => ?_)
    simp only [List.getElem_toArray, List.getElem_cons_succ, List.getElem_cons_zero]
    go_simp
    refine (HK2.out _ HB.out).mono ?_
    rintro e w' ⟨vk2, rfl, hk2, hb, HB'⟩
    obtain ⟨Ak2, nk2, ck2, rfl⟩ := hk2.sl
    (try dsimp only)
    refine hK.out _ _ (HK.out _ HB') (fun _ => ?_)
    simp only [Act.put, List.setIfInBounds_toArray, List.set_cons_zero, List.set_cons_succ]
    have nx := st5a w' Ak1 nk1 ck1 h Ac1 nc1 cc1 Ao1 no1 co1 B Ak2 nk2 ck2 z ⟨hp1.out.below flat_string hb⟩ hB ⟨hk2.rd⟩ ⟨(hb.block _ (blk_lt hz.out)).trans hz.out⟩ hzb ⟨HB'⟩
    rw [hfr] at nx
    exact nx
  have st4n : ∀ (W : World) (Ak1 : Option Addr) (nk1 ck1 : Nat) (h : Nat) (Ac1 : Option Addr) (nc1 cc1 : Nat) (Ao1 : Option Addr) (no1 co1 : Nat) (B : Nat), Aside0 (Ow Kd.string 9 W B (.slice Ao1 no1 co1) (joinL x y).whites) → Aside0 (w4.heap.size ≤ B) → Aside0 (Below w4.heap.size w4 W) → R 7 #[true, true, true, true, true, true, true, true, true, true, true, true, true, true, true, true, false, true, true, false, false, false, false, false, false] ⟨fr undef (.slice Ak1 nk1 ck1) (.slice (some ⟨h, 0, none⟩) 3 3) (.slice Ac1 nc1 cc1) (.slice Ao1 no1 co1) undef undef undef undef undef, []⟩ W := by
    intro W Ak1 nk1 ck1 h Ac1 nc1 cc1 Ao1 no1 co1 B
    intro hp1 hB HB
    rw [hfr]
    refine HR.two 16 23 (by kernel_rfl) rfl rfl (fun K hK => ?_) (fun K hK => ?_)
    · simp only [List.getElem_toArray, List.getElem_cons_succ, List.getElem_cons_zero]
      go_simp
      refine (HK2.out _ HB.out).mono ?_
      rintro e w' ⟨vk2, rfl, hk2, hb, HB'⟩
      obtain ⟨Ak2, nk2, ck2, rfl⟩ := hk2.sl
      (try dsimp only)
      refine hK.out _ _ (HK.out _ HB') (fun _ => ?_)
      simp only [Act.put, List.setIfInBounds_toArray, List.set_cons_zero, List.set_cons_succ]
      have nx := st5n w' Ak1 nk1 ck1 h Ac1 nc1 cc1 Ao1 no1 co1 B Ak2 nk2 ck2 ⟨hp1.out.below flat_string hb⟩ hB ⟨hk2.rd⟩ ⟨HB'⟩
      rw [hfr] at nx
      exact nx
    · simp only [List.getElem_toArray, List.getElem_cons_succ, List.getElem_cons_zero]
      go_simp
      have hb := ((Grew.refl W).alloc (.cells #[.slice none 0 0, .slice none 0 0, .slice none 0 0] 25)).below
      have HB' := HB.out.alloc HB.out.size (.cells #[.slice none 0 0, .slice none 0 0, .slice none 0 0] 25)
      refine hK.out _ _ (HK.out _ HB') (fun _ => ?_)
      simp only [Act.put, List.setIfInBounds_toArray, List.set_cons_zero, List.set_cons_succ]
      have nx := st4a (W.alloc (.cells #[.slice none 0 0, .slice none 0 0, .slice none 0 0] 25)) Ak1 nk1 ck1 h Ac1 nc1 cc1 Ao1 no1 co1 B _ ⟨hp1.out.below flat_string hb⟩ hB ⟨heap_alloc_new W _⟩ ⟨HB.out.size⟩ ⟨HB'⟩
      rw [hfr] at nx
      exact nx
  have st3a : ∀ (W : World) (Ak1 : Option Addr) (nk1 ck1 : Nat) (h : Nat) (Ac1 : Option Addr) (nc1 cc1 : Nat) (B : Nat) (z : Nat), Aside0 (Ow Kd.string 9 W B (.slice Ac1 nc1 cc1) ((x.whites.filter (whiteB y) ++ goneS y x.adds) ++ y.whites)) → Aside0 (w4.heap.size ≤ B) → Aside0 (W.heap[z]? = some (.cells #[.slice none 0 0, .slice none 0 0, .slice none 0 0] 25 (0, 0))) → Aside0 (w4.heap.size ≤ z) → Aside0 (Below w4.heap.size w4 W) → R 7 #[true, true, true, true, true, true, true, true, true, true, true, false, true, true, true, true, false, true, true, false, false, false, false, true, false] ⟨fr (.pointer (some ⟨z, 0, none⟩)) (.slice Ak1 nk1 ck1) (.slice (some ⟨h, 0, none⟩) 3 3) (.slice Ac1 nc1 cc1) undef undef undef undef undef undef, []⟩ W := by
    intro W Ak1 nk1 ck1 h Ac1 nc1 cc1 B z
    intro hc1 hB hz hzb HB
    rw [hfr]
    refine HR.one 11 (by kernel_rfl) rfl (fun K hK => ?_)
    simp only [List.getElem_toArray, List.getElem_cons_succ, List.getElem_cons_zero]
    go_simp
    refine (HD1.out W _ B HB.out hB.out hc1.out).mono ?_
    rintro e w' ⟨vo1, rfl, hp1, hg, HB'⟩
    obtain ⟨Ao1, no1, co1, rfl⟩ := hp1.sl
    (try dsimp only)
    refine hK.out _ _ (HK.out _ HB') (fun _ => ?_)
    simp only [Act.put, List.setIfInBounds_toArray, List.set_cons_zero, List.set_cons_succ]
    have nx := st4a w' Ak1 nk1 ck1 h Ac1 nc1 cc1 Ao1 no1 co1 B z ⟨hp1⟩ hB ⟨(hg.block _ (blk_lt hz.out) (fun e => hc1.out.ne_type hz.out (by decide) e.symm)).trans hz.out⟩ hzb ⟨HB'⟩
    rw [hfr] at nx
    exact nx
  have st3n : ∀ (W : World) (Ak1 : Option Addr) (nk1 ck1 : Nat) (h : Nat) (Ac1 : Option Addr) (nc1 cc1 : Nat) (B : Nat), Aside0 (Ow Kd.string 9 W B (.slice Ac1 nc1 cc1) ((x.whites.filter (whiteB y) ++ goneS y x.adds) ++ y.whites)) → Aside0 (w4.heap.size ≤ B) → Aside0 (Below w4.heap.size w4 W) → R 8 #[true, true, true, true, true, true, true, true, true, true, true, false, true, true, true, true, false, true, true, false, false, false, false, false, false] ⟨fr undef (.slice Ak1 nk1 ck1) (.slice (some ⟨h, 0, none⟩) 3 3) (.slice Ac1 nc1 cc1) undef undef undef undef undef undef, []⟩ W := by
    intro W Ak1 nk1 ck1 h Ac1 nc1 cc1 B
    intro hc1 hB HB
    rw [hfr]
    refine HR.two 11 23 (by kernel_rfl) rfl rfl (fun K hK => ?_) (fun K hK => ?_)
    · simp only [List.getElem_toArray, List.getElem_cons_succ, List.getElem_cons_zero]
      go_simp
      refine (HD1.out W _ B HB.out hB.out hc1.out).mono ?_
      rintro e w' ⟨vo1, rfl, hp1, hg, HB'⟩
      obtain ⟨Ao1, no1, co1, rfl⟩ := hp1.sl
      (try dsimp only)
      refine hK.out _ _ (HK.out _ HB') (fun _ => ?_)
      simp only [Act.put, List.setIfInBounds_toArray, List.set_cons_zero, List.set_cons_succ]
      have nx := st4n w' Ak1 nk1 ck1 h Ac1 nc1 cc1 Ao1 no1 co1 B ⟨hp1⟩ hB ⟨HB'⟩
      rw [hfr] at nx
      exact nx
    · simp only [List.getElem_toArray, List.getElem_cons_succ, List.getElem_cons_zero]
      go_simp
      have hb := ((Grew.refl W).alloc (.cells #[.slice none 0 0, .slice none 0 0, .slice none 0 0] 25)).below
      have HB' := HB.out.alloc HB.out.size (.cells #[.slice none 0 0, .slice none 0 0, .slice none 0 0] 25)
      refine hK.out _ _ (HK.out _ HB') (fun _ => ?_)
      simp only [Act.put, List.setIfInBounds_toArray, List.set_cons_zero, List.set_cons_succ]
      have nx := st3a (W.alloc (.cells #[.slice none 0 0, .slice none 0 0, .slice none 0 0] 25)) Ak1 nk1 ck1 h Ac1 nc1 cc1 B _ ⟨hc1.out.below flat_string hb⟩ hB ⟨heap_alloc_new W _⟩ ⟨HB.out.size⟩ ⟨HB'⟩
      rw [hfr] at nx
      exact nx
  have st2a : ∀ (W : World) (Ak1 : Option Addr) (nk1 ck1 : Nat) (h : Nat) (z : Nat), Aside0 (Rd Kd.string W (.slice Ak1 nk1 ck1) (x.whites.filter (whiteB y))) → Aside0 (W.heap[h]? = some (.cells #[.slice Ak1 nk1 ck1, .slice B2 l2 k2, .slice A5 n5 c5] 23 (0, 0))) → Aside0 (W.heap[z]? = some (.cells #[.slice none 0 0, .slice none 0 0, .slice none 0 0] 25 (0, 0))) → Aside0 (w4.heap.size ≤ z) → Aside0 (Below w4.heap.size w4 W) → R 8 #[true, true, true, true, true, true, true, true, true, true, false, false, true, true, true, true, false, true, true, false, false, false, false, true, false] ⟨fr (.pointer (some ⟨z, 0, none⟩)) (.slice Ak1 nk1 ck1) (.slice (some ⟨h, 0, none⟩) 3 3) undef undef undef undef undef undef undef, []⟩ W := by
    intro W Ak1 nk1 ck1 h z
    intro hk1 hh hz hzb HB
    rw [hfr]
    refine HR.one 10 (by kernel_rfl) rfl (fun K hK => ?_)
    simp only [List.getElem_toArray, List.getElem_cons_succ, List.getElem_cons_zero]
    go_simp
    refine (HC1.out W h _ HB.out hh.out hk1.out).mono ?_
    rintro e w' ⟨vc1, rfl, hc1, hb, HB', _⟩
    obtain ⟨Ac1, nc1, cc1, rfl⟩ := hc1.sl
    (try dsimp only)
    refine hK.out _ _ (HK.out _ HB') (fun _ => ?_)
    simp only [Act.put, List.setIfInBounds_toArray, List.set_cons_zero, List.set_cons_succ]
    have nx := st3a w' Ak1 nk1 ck1 h Ac1 nc1 cc1 _ z ⟨hc1⟩ ⟨HB.out.size⟩ ⟨(hb.block _ (blk_lt hz.out)).trans hz.out⟩ hzb ⟨HB'⟩
    rw [hfr] at nx
    exact nx
  have st2n : ∀ (W : World) (Ak1 : Option Addr) (nk1 ck1 : Nat) (h : Nat), Aside0 (Rd Kd.string W (.slice Ak1 nk1 ck1) (x.whites.filter (whiteB y))) → Aside0 (W.heap[h]? = some (.cells #[.slice Ak1 nk1 ck1, .slice B2 l2 k2, .slice A5 n5 c5] 23 (0, 0))) → Aside0 (Below w4.heap.size w4 W) → R 9 #[true, true, true, true, true, true, true, true, true, true, false, false, true, true, true, true, false, true, true, false, false, false, false, false, false] ⟨fr undef (.slice Ak1 nk1 ck1) (.slice (some ⟨h, 0, none⟩) 3 3) undef undef undef undef undef undef undef, []⟩ W := by
    intro W Ak1 nk1 ck1 h
    intro hk1 hh HB
    rw [hfr]
    refine HR.two 10 23 (by kernel_rfl) rfl rfl (fun K hK => ?_) (fun K hK => ?_)
    · simp only [List.getElem_toArray, List.getElem_cons_succ, List.getElem_cons_zero]
      go_simp
      refine (HC1.out W h _ HB.out hh.out hk1.out).mono ?_
      rintro e w' ⟨vc1, rfl, hc1, hb, HB', _⟩
      obtain ⟨Ac1, nc1, cc1, rfl⟩ := hc1.sl
      (try dsimp only)
      refine hK.out _ _ (HK.out _ HB') (fun _ => ?_)
      simp only [Act.put, List.setIfInBounds_toArray, List.set_cons_zero, List.set_cons_succ]
      have nx := st3n w' Ak1 nk1 ck1 h Ac1 nc1 cc1 _ ⟨hc1⟩ ⟨HB.out.size⟩ ⟨HB'⟩
      rw [hfr] at nx
      exact nx
    · simp only [List.getElem_toArray, List.getElem_cons_succ, List.getElem_cons_zero]
      go_simp
      have hb := ((Grew.refl W).alloc (.cells #[.slice none 0 0, .slice none 0 0, .slice none 0 0] 25)).below
      have HB' := HB.out.alloc HB.out.size (.cells #[.slice none 0 0, .slice none 0 0, .slice none 0 0] 25)
      refine hK.out _ _ (HK.out _ HB') (fun _ => ?_)
      simp only [Act.put, List.setIfInBounds_toArray, List.set_cons_zero, List.set_cons_succ]
      have nx := st2a (W.alloc (.cells #[.slice none 0 0, .slice none 0 0, .slice none 0 0] 25)) Ak1 nk1 ck1 h _ ⟨hk1.out.below hb⟩ ⟨blk_lt' hh.out _⟩ ⟨heap_alloc_new W _⟩ ⟨HB.out.size⟩ ⟨HB'⟩
      rw [hfr] at nx
      exact nx
  have st1a : ∀ (W : World) (Ak1 : Option Addr) (nk1 ck1 : Nat) (z : Nat), Aside0 (Rd Kd.string W (.slice Ak1 nk1 ck1) (x.whites.filter (whiteB y))) → Aside0 (W.heap[z]? = some (.cells #[.slice none 0 0, .slice none 0 0, .slice none 0 0] 25 (0, 0))) → Aside0 (w4.heap.size ≤ z) → Aside0 (Below w4.heap.size w4 W) → R 9 #[true, true, true, true, true, true, true, true, true, false, false, false, true, true, true, true, false, true, true, false, false, false, false, true, false] ⟨fr (.pointer (some ⟨z, 0, none⟩)) (.slice Ak1 nk1 ck1) undef undef undef undef undef undef undef undef, []⟩ W := by
    intro W Ak1 nk1 ck1 z
    intro hk1 hz hzb HB
    rw [hfr]
    refine HR.one 9 (by kernel_rfl) rfl (fun K hK => ?_)
    simp only [List.getElem_toArray, List.getElem_cons_succ, List.getElem_cons_zero]
    go_simp
    have hb := ((Grew.refl W).alloc (.cells #[.slice Ak1 nk1 ck1, .slice B2 l2 k2, .slice A5 n5 c5] 23)).below
    have HB' := HB.out.alloc HB.out.size (.cells #[.slice Ak1 nk1 ck1, .slice B2 l2 k2, .slice A5 n5 c5] 23)
    refine hK.out _ _ (HK.out _ HB') (fun _ => ?_)
    simp only [Act.put, List.setIfInBounds_toArray, List.set_cons_zero, List.set_cons_succ]
    have nx := st2a (W.alloc (.cells #[.slice Ak1 nk1 ck1, .slice B2 l2 k2, .slice A5 n5 c5] 23)) Ak1 nk1 ck1 _ z ⟨hk1.out.below hb⟩ ⟨heap_alloc_new W _⟩ ⟨(hb.block _ (blk_lt hz.out)).trans hz.out⟩ hzb ⟨HB'⟩
    rw [hfr] at nx
    exact nx
  have st1n : ∀ (W : World) (Ak1 : Option Addr) (nk1 ck1 : Nat), Aside0 (Rd Kd.string W (.slice Ak1 nk1 ck1) (x.whites.filter (whiteB y))) → Aside0 (Below w4.heap.size w4 W) → R 10 #[true, true, true, true, true, true, true, true, true, false, false, false, true, true, true, true, false, true, true, false, false, false, false, false, false] ⟨fr undef (.slice Ak1 nk1 ck1) undef undef undef undef undef undef undef undef, []⟩ W := by
    intro W Ak1 nk1 ck1
    intro hk1 HB
    rw [hfr]
    refine HR.two 9 23 (by kernel_rfl) rfl rfl (fun K hK => ?_) (fun K hK => ?_)
    · simp only [List.getElem_toArray, List.getElem_cons_succ, List.getElem_cons_zero]
      go_simp
      have hb := ((Grew.refl W).alloc (.cells #[.slice Ak1 nk1 ck1, .slice B2 l2 k2, .slice A5 n5 c5] 23)).below
      have HB' := HB.out.alloc HB.out.size (.cells #[.slice Ak1 nk1 ck1, .slice B2 l2 k2, .slice A5 n5 c5] 23)
      refine hK.out _ _ (HK.out _ HB') (fun _ => ?_)
      simp only [Act.put, List.setIfInBounds_toArray, List.set_cons_zero, List.set_cons_succ]
      have nx := st2n (W.alloc (.cells #[.slice Ak1 nk1 ck1, .slice B2 l2 k2, .slice A5 n5 c5] 23)) Ak1 nk1 ck1 _ ⟨hk1.out.below hb⟩ ⟨heap_alloc_new W _⟩ ⟨HB'⟩
      rw [hfr] at nx
      exact nx
    · simp only [List.getElem_toArray, List.getElem_cons_succ, List.getElem_cons_zero]
      go_simp
      have hb := ((Grew.refl W).alloc (.cells #[.slice none 0 0, .slice none 0 0, .slice none 0 0] 25)).below
      have HB' := HB.out.alloc HB.out.size (.cells #[.slice none 0 0, .slice none 0 0, .slice none 0 0] 25)
      refine hK.out _ _ (HK.out _ HB') (fun _ => ?_)
      simp only [Act.put, List.setIfInBounds_toArray, List.set_cons_zero, List.set_cons_succ]
      have nx := st1a (W.alloc (.cells #[.slice none 0 0, .slice none 0 0, .slice none 0 0] 25)) Ak1 nk1 ck1 _ ⟨hk1.out.below hb⟩ ⟨heap_alloc_new W _⟩ ⟨HB.out.size⟩ ⟨HB'⟩
      rw [hfr] at nx
      exact nx
  have st0a : ∀ (W : World) (z : Nat), Aside0 (W.heap[z]? = some (.cells #[.slice none 0 0, .slice none 0 0, .slice none 0 0] 25 (0, 0))) → Aside0 (w4.heap.size ≤ z) → Aside0 (Below w4.heap.size w4 W) → R 10 #[true, true, true, true, true, false, true, true, true, false, false, false, true, true, true, true, false, true, true, false, false, false, false, true, false] ⟨fr (.pointer (some ⟨z, 0, none⟩)) undef undef undef undef undef undef undef undef undef, []⟩ W := by
    intro W z
    intro hz hzb HB
    rw [hfr]
    refine HR.one 5 (by kernel_rfl) rfl (fun K hK => ?_)
    simp only [List.getElem_toArray, List.getElem_cons_succ, List.getElem_cons_zero]
    go_simp
    refine (HK1.out _ HB.out).mono ?_
    rintro e w' ⟨vk1, rfl, hk1, hb, HB'⟩
    obtain ⟨Ak1, nk1, ck1, rfl⟩ := hk1.sl
    (try dsimp only)
    refine hK.out _ _ (HK.out _ HB') (fun _ => ?_)
    simp only [Act.put, List.setIfInBounds_toArray, List.set_cons_zero, List.set_cons_succ]
    have nx := st1a w' Ak1 nk1 ck1 z ⟨hk1.rd⟩ ⟨(hb.block _ (blk_lt hz.out)).trans hz.out⟩ hzb ⟨HB'⟩
    rw [hfr] at nx
    exact nx
  have st0n : ∀ (W : World), Aside0 (Below w4.heap.size w4 W) → R 11 #[true, true, true, true, true, false, true, true, true, false, false, false, true, true, true, true, false, true, true, false, false, false, false, false, false] ⟨fr undef undef undef undef undef undef undef undef undef undef, []⟩ W := by
    intro W
    intro HB
    rw [hfr]
    refine HR.two 5 23 (by kernel_rfl) rfl rfl (fun K hK => ?_) (fun K hK => ?_)
    · simp only [List.getElem_toArray, List.getElem_cons_succ, List.getElem_cons_zero]
      go_simp
      refine (HK1.out _ HB.out).mono ?_
      rintro e w' ⟨vk1, rfl, hk1, hb, HB'⟩
      obtain ⟨Ak1, nk1, ck1, rfl⟩ := hk1.sl
      (try dsimp only)
      refine hK.out _ _ (HK.out _ HB') (fun _ => ?_)
      simp only [Act.put, List.setIfInBounds_toArray, List.set_cons_zero, List.set_cons_succ]
      have nx := st1n w' Ak1 nk1 ck1 ⟨hk1.rd⟩ ⟨HB'⟩
      rw [hfr] at nx
      exact nx
    · simp only [List.getElem_toArray, List.getElem_cons_succ, List.getElem_cons_zero]
      go_simp
      have hb := ((Grew.refl W).alloc (.cells #[.slice none 0 0, .slice none 0 0, .slice none 0 0] 25)).below
      have HB' := HB.out.alloc HB.out.size (.cells #[.slice none 0 0, .slice none 0 0, .slice none 0 0] 25)
      refine hK.out _ _ (HK.out _ HB') (fun _ => ?_)
      simp only [Act.put, List.setIfInBounds_toArray, List.set_cons_zero, List.set_cons_succ]
      have nx := st0a (W.alloc (.cells #[.slice none 0 0, .slice none 0 0, .slice none 0 0] 25)) _ ⟨heap_alloc_new W _⟩ ⟨HB.out.size⟩ ⟨HB'⟩
      rw [hfr] at nx
      exact nx
  have nx := st0n w4.drew ⟨((Grew.refl w4).drew).below⟩
  rw [hfr] at nx
  exact nx

end Go.Proofs.YtbkbpdpegiekhaaGreatDoor
