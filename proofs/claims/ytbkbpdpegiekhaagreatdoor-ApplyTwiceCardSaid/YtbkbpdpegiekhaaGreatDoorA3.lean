/- apply: laid. -/
import Derived.Test.YtbkbpdpegiekhaaGreatDoorA2
set_option linter.unusedVariables false
set_option linter.unusedSimpArgs false
namespace Go.Proofs.YtbkbpdpegiekhaaGreatDoor
open Go.RowKit Go.Proofs.YtbkbpdpegiekhaaGreatDoorW.PrintWords Mo

/-- What comes of a layer that is laid. -/
def LaidE (base : Nat) (w : World) (tb : Nat) (o : Option (List Nd)) (e : Ending) (w' : World) : Prop :=
  (∃ r, o = some r ∧ e = .returned (.int .i64 0) ∧ (∃ v', Tr base w' tb v' r) ∧ Below base w w') ∨ (o = none ∧ e = .returned (.int .i64 7) ∧ Below base w w')

set_option maxRecDepth 100000 in
set_option maxHeartbeats 4000000 in
theorem apply_laid (W0 w : World) (l : Ly) (va vw vo : Value) (xs : List Nd) (tb : Nat) (v : Value) (hB : 2 < W0.heap.size) (hE : Env w) (hr : RdL W0 va vw vo l) (hb0 : Below W0.heap.size W0 w) (hl : Okl l) (hlb : Lb l)
    (ht : Tr W0.heap.size w tb v xs) (ho : Okt xs) (hx : ∀ n ∈ xs, n.path.size < 1000000000) (hlen : xs.length ≤ 1000000) :
    Calls Tryz.prog 120 #[.agg #[va, vw, vo], .pointer (some ⟨tb, 0, none⟩)] w (LaidE W0.heap.size w tb (runF l (startF l xs) (pathsL l))) := by
  obtain ⟨hra, hrw, hro⟩ := hr
  obtain ⟨Aa, ca, rfl, hca, hCa⟩ := hra
  obtain ⟨Aw, cw, rfl, hcw, hCw⟩ := hrw
  obtain ⟨Ao, co, rfl, hco, hCo⟩ := hro
  have HCa := Aside0.mk hCa
  have HCw := Aside0.mk hCw
  have HCo := Aside0.mk hCo
  have HRL := Aside0.mk (show RdL W0 (.slice Aa l.adds.length ca) (.slice Aw l.whites.length cw) (.slice Ao l.opaques.length co) l from ⟨⟨Aa, ca, rfl, hca, hCa⟩, ⟨Aw, cw, rfl, hcw, hCw⟩, ⟨Ao, co, rfl, hco, hCo⟩⟩)
  have HB0 := Aside0.mk hb0
  have HE := Aside0.mk hE
  have HL := Aside0.mk hl
  have HLb := Aside0.mk hlb
  have HT := Aside0.mk ht
  have HOk := Aside0.mk ho
  have HX := Aside0.mk hx
  have HSz := Aside0.mk hb0.size
  have hel := ensL_len hlb
  have hna0 := hlb.na
  have hnw0 := hlb.nw
  have hno0 := hlb.no
  obtain ⟨na, hna⟩ : ∃ n, n = l.adds.length := ⟨_, rfl⟩
  obtain ⟨nw, hnw⟩ : ∃ n, n = l.whites.length := ⟨_, rfl⟩
  obtain ⟨no, hno⟩ : ∃ n, n = l.opaques.length := ⟨_, rfl⟩
  rw [← hna] at hna0
  rw [← hnw] at hnw0
  rw [← hno] at hno0
  rw [← hna] at hca HRL ⊢
  rw [← hnw] at hcw HRL ⊢
  rw [← hno] at hco HRL ⊢
  have HNa := Aside0.mk hna
  have HNw := Aside0.mk hnw
  have HNo := Aside0.mk hno
  clear hCa hCw hCo hb0 hE hl hlb ht ho hx hna hnw hno
  have hmm := @run_makeMap Tryz.prog
  -- the world behind the first rows
  obtain ⟨Wb, hWb⟩ : ∃ Wb, Wb = ((w.alloc (.cells #[.slice Aa na ca, .slice Aw nw cw, .slice Ao no co] 25)).alloc (.map #[] 0)).alloc (.cells #[.pointer (some ⟨tb, 0, none⟩), .map (some (w.heap.size + 1))] 211) := ⟨_, rfl⟩
  have hbb : Below w.heap.size w Wb := by rw [hWb]; exact (((Below.refl w.heap.size w).alloc (Nat.le_refl _) _).alloc (by simp) _).alloc (by simp; omega) _
  have hlay : Wb.heap[w.heap.size]? = some (.cells #[.slice Aa na ca, .slice Aw nw cw, .slice Ao no co] 25 (0, 0)) := by
    rw [hWb]
    exact blk_lt' (alloc_box (w := w) _ _) _
  have hmap : Nmap Wb (w.heap.size + 1) [] := by
    have h := Nmap.made (w.alloc (.cells #[.slice Aa na ca, .slice Aw nw cw, .slice Ao no co] 25))
    rw [hWb]
    have := h.below (((Below.refl _ _).alloc (Nat.le_refl _) (.cells #[.pointer (some ⟨tb, 0, none⟩), .map (some (w.heap.size + 1))] 211)))
    simpa using this
  have hab : Wb.heap[w.heap.size + 2]? = some (.cells #[.pointer (some ⟨tb, 0, none⟩), .map (some (w.heap.size + 1))] 211 (0, 0)) := by
    have h := heap_alloc_new ((w.alloc (.cells #[.slice Aa na ca, .slice Aw nw cw, .slice Ao no co] 25)).alloc (.map #[] 0)) (.cells #[.pointer (some ⟨tb, 0, none⟩), .map (some (w.heap.size + 1))] 211)
    rw [hWb]
    simpa using h
  have HWb := Aside0.mk hWb
  have HBb := Aside0.mk hbb
  have HLay := Aside0.mk hlay
  have HMap := Aside0.mk hmap
  have HAb := Aside0.mk hab
  clear hWb hbb hlay hmap hab
  go_enter Tryz.func120, Tryz.ntmps120
  have hbx := heap_alloc_new w (.cells #[.slice Aa na ca, .slice Aw nw cw, .slice Ao no co] 25)
  have b0 := blk_cell HLay.out 0
  have b1 := blk_cell HLay.out 1
  have b2 := blk_cell HLay.out 2
  rw [HWb.out] at b0 b1 b2
  clear hbx
  go_wp2_with fail
  rw [← HWb.out]
  clear b0 b1 b2
  refine (layer_Ensured l _ _ _ Wb (HE.out.below HBb.out) (HRL.out.below (below_then HB0.out HB0.out.size HBb.out)) HLb.out).mono ?_
  rintro e1 w1 ⟨v1, rfl, ho1, hb1⟩
  have HB1 := Aside0.mk (below_then HBb.out HBb.out.size hb1)
  have HAP := Aside0.mk (show AP w w1 (.slice Aa na ca) (.slice Aw nw cw) (.slice Ao no co) tb v1 (ensL l ++ (l.adds.take 0).map (·.path)) (l.adds.take 0) by
    simp only [List.take_zero, List.map_nil, List.append_nil]
    exact ⟨(hb1.block _ (blk_lt HLay.out)).trans HLay.out, (hb1.block _ (blk_lt HAb.out)).trans HAb.out, HMap.out.below hb1, ho1.lower HBb.out.size, blk_lt HT.out.box⟩)
  obtain ⟨A1, n1, c1, rfl⟩ := ho1.sl
  have b0 := blk_cell HAP.out.lay 0
  clear ho1 hb1 HLay HMap HAb HWb HBb
  go_wp2_with fail
  go_loopw [6, 25] (fun vp i wr => ∃ (k : Nat) (A : Option Addr) (m c : Nat), k ≤ na ∧ i = .int .i64 k ∧ vp = .slice A m c ∧ Aside0 (AP w wr (.slice Aa na ca) (.slice Aw nw cw) (.slice Ao no co) tb (.slice A m c) (ensL l ++ (l.adds.take k).map (·.path)) (l.adds.take k)) ∧ Aside0 (Below w.heap.size w wr))
    (fun vp i _ => na - (intOf i).toNat)
  case atStart => exact ⟨0, A1, n1, c1, Nat.zero_le _, rfl, rfl, HAP, HB1⟩
  case round =>
    obtain ⟨k, A, m, c, hk, rfl, rfl, HA, HB⟩ := hrel
    by_cases hlt : k < na
    · have hk2 : k < l.adds.length := by rw [← HNa.out]; exact hlt
      obtain ⟨ad, rfl, k0, k1, k2, k3, k4⟩ := C_node (Kd.C_below HCa.out (below_then HB0.out HB0.out.size HB.out)) k hk2
      have hp1 := HLb.out.a (l.adds.getD k Nd.zero) (getD_mem _ _ hk2)
      have HDk := Aside0.mk (take_node l.adds k hk2)
      obtain ⟨x, hx0⟩ : ∃ x, x = l.adds.getD k Nd.zero := ⟨_, rfl⟩
      rw [← hx0] at hp1 HDk k0 k1 k2 k3 k4
      clear hx0 hk2
      obtain ⟨W, hW⟩ : ∃ W, W = wr.alloc (.cells #[.string x.path, .bool x.dir, .string x.data, .int .i64 x.mode, .int .i64 x.time] 46) := ⟨_, rfl⟩
      have hbw : Below wr.heap.size wr W := by rw [hW]; exact ((Grew.refl wr).alloc _).below
      have hnb : W.heap[wr.heap.size]? = some (.cells #[.string x.path, .bool x.dir, .string x.data, .int .i64 x.mode, .int .i64 x.time] 46 (0, 0)) := by rw [hW]; exact heap_alloc_new wr _
      have HW := Aside0.mk hW
      have HBw := Aside0.mk hbw
      have HNb := Aside0.mk hnb
      have HAw := Aside0.mk (HA.out.step hbw)
      have hml : (l.adds.take k).length ≤ 1000000000000 := by rw [List.length_take]; omega
      have HMl := Aside0.mk hml
      clear hW hbw hnb hml
      go_wp2_with fail
      rw [← HW.out]
      have j1 := blk_cell HAw.out.ab 1
      have m0 := blk_cell HNb.out 0
      have m1 := blk_cell HNb.out 1
      have m2 := blk_cell HNb.out 2
      have m3 := blk_cell HNb.out 3
      have m4 := blk_cell HNb.out 4
      clear HW k0 k1 k2 k3 k4
      go_still_tail 7, (by kernel_rfl)
      have hll : (ensL l ++ (l.adds.take k).map (·.path)).length ≤ 50000000000 := by rw [List.length_append, List.length_map, List.length_take]; omega
      go_wp2_with (first
        | (at_mapUpdate; refine Nmap.set _ rfl _ _ _ rfl _ _ rfl HAw.out.map HMl.out x (by omega) rfl rfl ?_; intro w3 hm3 hg3; have HA3 := Aside0.mk (AP.mapped (HAw.out.step (Grew.refl W).drew.below) hm3 hg3); have HB3 := Aside0.mk ((below_then HB.out HB.out.size HBw.out.drew).grown hg3 (below_then HB.out HB.out.size HBw.out.drew).size (fun k hk => by injection hk with hk; omega)); have HN3 := Aside0.mk (blk_grown (show W.drew.heap[wr.heap.size]? = _ from HNb.out) hg3 (fun e => by have := HA.out.map.lt; injection e with e; omega)); rw [← HDk.out] at HA3; clear hm3 hg3 j1 m0 m1 m2 m3 m4; have m0 := blk_cell HN3.out 0)
        | (at_builtin; refine Ow.app Kd.string flat_string _ w.heap.size rfl _ _ 23 9 _ 16 rfl Tryz.underlying23 info9 rfl (by decide) _ (ensL l ++ (l.adds.take k).map (·.path)) [x.path] rfl (some ⟨w3.heap.size, 0, none⟩) 1 rfl ?hC ?hO ?hB ?hL ?_; (case hC => exact C_lit flat_string _ 9 x.path _ rfl _ rfl); (case hO => exact HA3.out.row.below flat_string (below_alloc (Below.refl _ _) _)); (case hB => have := HB3.out.size; simp; omega); (case hL => simp at hll ⊢; omega); intro v4 w4 ho4 hg4 hat4; have HA4 := Aside0.mk (AP.listed (HA3.out.step (below_alloc (Below.refl _ _) _)) ho4 hg4); have HB4 := Aside0.mk (Below.grown (HB3.out.alloc HB3.out.size _) hg4 (by have := HB3.out.size; simp; omega) (fun k hk => HA3.out.row.base_le k hk)); obtain ⟨A4, n4, c4, rfl⟩ := ho4.sl; clear ho4 hg4 hat4))
      go_roundw
      case rel => exact ⟨k + 1, A4, n4, c4, by omega, by go_num, rfl, ⟨by have h := HA4.out; rw [List.append_assoc, HDk.out] at h; rw [HDk.out, List.map_append]; exact h⟩, HB4⟩
      case measure => simp [intOf]; omega
    · obtain rfl : na = k := by omega
      have HAe := Aside0.mk (show l.adds.take na = l.adds from List.take_of_length_le (by rw [HNa.out]; exact Nat.le_refl _))
      rw [HAe.out] at HA
      have HBz := Aside0.mk (below_lower HB.out HSz.out)
      have HT1 := Aside0.mk (HT.out.below HB.out)
      have b1 := blk_cell HA.out.lay 1
      clear hlt HAe
      go_wp2_with fail
      go_loopw [45] (fun i wq => ∃ (k : Nat) (v1 : Value), k ≤ nw ∧ i = .int .i64 k ∧ Aside0 (AP w wq (.slice Aa na ca) (.slice Aw nw cw) (.slice Ao no co) tb (.slice A m c) (ensL l ++ l.adds.map (·.path)) l.adds) ∧ Aside0 (Tr W0.heap.size wq tb v1 ((l.whites.take k).foldl dropF xs)) ∧ Aside0 (Below W0.heap.size w wq))
        (fun i _ => nw - (intOf i).toNat)
      case atStart => exact ⟨0, v, Nat.zero_le _, rfl, HA, HT1, HBz⟩
      case round =>
        clear HT1 HBz HA HB
        obtain ⟨k, v1, hk, rfl, HA, HT1, HBz⟩ := hrel
        have HB1z := Aside0.mk (HB0.out.trans HBz.out)
        have HE1 := Aside0.mk (HE.out.belowB HBz.out hB)
        by_cases hlt : k < nw
        · have hk2 : k < l.whites.length := by rw [← HNw.out]; exact hlt
          obtain ⟨ad, rfl, k0⟩ := C_str (Kd.C_below HCw.out HB1z.out) k hk2
          have hpm := getD_memStr l.whites k hk2
          have hp1 := HLb.out.w _ hpm
          have hpn := HL.out.whites_ne _ hpm
          have HDk := Aside0.mk (show (l.whites.take (k + 1)).foldl dropF xs = dropF ((l.whites.take k).foldl dropF xs) (l.whites.getD k ⟨#[]⟩) by
            rw [foldl_take dropF xs l.whites k hk2, List.getD_eq_getElem?_getD, List.getElem?_eq_getElem hk2]; rfl)
          obtain ⟨x, hx0⟩ : ∃ x, x = l.whites.getD k ⟨#[]⟩ := ⟨_, rfl⟩
          rw [← hx0] at hp1 hpn HDk k0
          have HPn := Aside0.mk hpn
          have HOk1 := Aside0.mk (drops_ok (l.whites.take k) xs (fun q hq => HL.out.whites_ne q (List.mem_of_mem_take hq)) HOk.out)
          have HX1 := Aside0.mk (drops_small (l.whites.take k) xs HX.out)
          have hln := drops_len (l.whites.take k) xs
          clear hx0 hk2 hpm hpn
          go_wp2_with fail
          refine (tree_Remove _ x W0.heap.size tb v1 wr HE1.out HT1.out HOk1.out HPn.out (fun n hn => by have := HX1.out n hn; omega) (by omega) (by omega)).mono ?_
          rintro e2 w2 ⟨⟨j2, rfl⟩, v2, ht2, hs2, hh2⟩
          have HA2 := Aside0.mk (HA.out.tree HT1.out hs2)
          have HT2 := Aside0.mk ht2
          have HB2 := Aside0.mk (HBz.out.trans (hs2.below HT1.out))
          rw [← HDk.out] at HT2
          clear ht2 hs2 hh2 k0
          go_wp2_with fail
          go_roundw
          case rel => exact ⟨k + 1, v2, by omega, by go_num, HA2, HT2, HB2⟩
          case measure => simp [intOf]; omega
        · obtain rfl : nw = k := by omega
          have HWe := Aside0.mk (show l.whites.take nw = l.whites from List.take_of_length_le (by rw [HNw.out]; exact Nat.le_refl _))
          rw [HWe.out] at HT1
          have b2 := blk_cell HA.out.lay 2
          obtain ⟨ys, hys⟩ : ∃ ys, ys = l.whites.foldl dropF xs := ⟨_, rfl⟩
          have HOy := Aside0.mk (show Okt ys by rw [hys]; exact drops_ok l.whites xs HL.out.whites_ne HOk.out)
          have HXy := Aside0.mk (show ∀ n ∈ ys, n.path.size < 1000000000 by rw [hys]; exact drops_small l.whites xs HX.out)
          have hly : ys.length ≤ 1000000 := by have := drops_len l.whites xs; rw [hys]; omega
          rw [← hys] at HT1
          have HYs := Aside0.mk hys
          clear hlt HWe b1 hys HB1z HE1
          go_wp2_with fail
          go_loopw [56] (fun i wq => ∃ (k : Nat) (v1 : Value), k ≤ no ∧ i = .int .i64 k ∧ Aside0 (AP w wq (.slice Aa na ca) (.slice Aw nw cw) (.slice Ao no co) tb (.slice A m c) (ensL l ++ l.adds.map (·.path)) l.adds) ∧ Aside0 (Tr W0.heap.size wq tb v1 ((l.opaques.take k).foldl clearF ys)) ∧ Aside0 (Below W0.heap.size w wq))
            (fun i _ => no - (intOf i).toNat)
          case atStart => exact ⟨0, v1, Nat.zero_le _, rfl, HA, HT1, HBz⟩
          case round =>
            clear HT1 HBz HA
            obtain ⟨k, v1, hk, rfl, HA, HT1, HBz⟩ := hrel
            have HB1z := Aside0.mk (HB0.out.trans HBz.out)
            have HE1 := Aside0.mk (HE.out.belowB HBz.out hB)
            by_cases hlt : k < no
            · have hk2 : k < l.opaques.length := by rw [← HNo.out]; exact hlt
              obtain ⟨ad, rfl, k0⟩ := C_str (Kd.C_below HCo.out HB1z.out) k hk2
              have hpm := getD_memStr l.opaques k hk2
              have hp1 := HLb.out.o _ hpm
              have HDk := Aside0.mk (show (l.opaques.take (k + 1)).foldl clearF ys = clearF ((l.opaques.take k).foldl clearF ys) (l.opaques.getD k ⟨#[]⟩) by
                rw [foldl_take clearF ys l.opaques k hk2, List.getD_eq_getElem?_getD, List.getElem?_eq_getElem hk2]; rfl)
              obtain ⟨x, hx0⟩ : ∃ x, x = l.opaques.getD k ⟨#[]⟩ := ⟨_, rfl⟩
              rw [← hx0] at hp1 HDk k0
              have HOk1 := Aside0.mk (clears_ok (l.opaques.take k) ys HOy.out)
              have HX1 := Aside0.mk (clears_small (l.opaques.take k) ys HXy.out)
              have hln := clears_len (l.opaques.take k) ys
              clear hx0 hk2 hpm
              go_wp2_with fail
              refine (tree_Clear _ x W0.heap.size tb v1 wr HE1.out HT1.out HOk1.out (fun n hn => by have := HX1.out n hn; omega) (by omega) (by omega)).mono ?_
              rintro e2 w2 ⟨⟨j2, rfl⟩, v2, ht2, hs2, hh2⟩
              have HA2 := Aside0.mk (HA.out.tree HT1.out hs2)
              have HT2 := Aside0.mk ht2
              have HB2 := Aside0.mk (HBz.out.trans (hs2.below HT1.out))
              rw [← HDk.out] at HT2
              clear ht2 hs2 hh2 k0
              go_wp2_with fail
              go_roundw
              case rel => exact ⟨k + 1, v2, by omega, by go_num, HA2, HT2, HB2⟩
              case measure => simp [intOf]; omega
            · obtain rfl : no = k := by omega
              have HOe := Aside0.mk (show l.opaques.take no = l.opaques from List.take_of_length_le (by rw [HNo.out]; exact Nat.le_refl _))
              rw [HOe.out] at HT1
              obtain ⟨zs, hzs⟩ : ∃ zs, zs = l.opaques.foldl clearF ys := ⟨_, rfl⟩
              have HOz := Aside0.mk (show Okt zs by rw [hzs]; exact clears_ok l.opaques ys HOy.out)
              have HXz := Aside0.mk (show ∀ n ∈ zs, n.path.size < 1000000000 by rw [hzs]; exact clears_small l.opaques ys HXy.out)
              have hlz : zs.length ≤ 1000000 := by have := clears_len l.opaques ys; rw [hzs]; omega
              rw [← hzs] at HT1
              have HZs := Aside0.mk (show zs = startF l xs by rw [hzs, HYs.out]; rfl)
              have HPs := Aside0.mk (paths_small HLb.out)
              have hpl : (ensL l ++ l.adds.map (·.path)).length ≤ 50000000000 := by rw [List.length_append, List.length_map, ← HNa.out]; omega
              clear hlt HOe b2 hzs HB1z
              go_wp2_with fail
              refine (sort_strs_g _ _ w.heap.size wr HE1.out (by have := HSz.out; omega) HA.out.row (fun s hs => by have := HPs.out s hs; omega) (by omega)).mono ?_
              rintro e2 w2 ⟨rfl, ho2, hb2, hg2⟩
              have HA2 := Aside0.mk (HA.out.listed ho2 hg2)
              have HT2 := Aside0.mk (HA.out.grown HT1.out hg2)
              have HB2 := Aside0.mk (HBz.out.trans (below_lower hb2 HSz.out))
              clear ho2 hb2 hg2 HA HT1 HBz HE1
              go_wp2_with fail
              refine (compact_strs_g _ _ w.heap.size w2 HA2.out.row (by rw [sortS_len]; omega)).mono ?_
              rintro e3 w3 ⟨v3, rfl, ho3, hb3, hv3, hg3⟩
              have HA3 := Aside0.mk (HA2.out.listed ho3 hg3)
              have HT3 := Aside0.mk (HA2.out.grown HT2.out hg3)
              have HB3 := Aside0.mk (HB2.out.trans (below_lower hb3 HSz.out))
              obtain ⟨A3, c3, rfl, hc3⟩ := ho3.slice
              have HPl := Aside0.mk (show compS (sortS (ensL l ++ l.adds.map (·.path))) = pathsL l from rfl)
              rw [HPl.out] at HA3 hc3 ⊢
              have hpn : (pathsL l).length ≤ 50000000000 := by
                have h1 := compS_len (sortS (ensL l ++ l.adds.map (·.path)))
                rw [sortS_len] at h1
                rw [← HPl.out]
                omega
              obtain ⟨np, hnp⟩ : ∃ np, np = (pathsL l).length := ⟨_, rfl⟩
              rw [← hnp] at HA3 hc3 hpn ⊢
              have HNp := Aside0.mk hnp
              clear ho3 hb3 hv3 hg3 HA2 HT2 HB2 HPl hnp
              go_wp2_with fail
              go_loopw [69] (fun i wq => ∃ (k : Nat) (v1 : Value) (c : List Nd), k ≤ np ∧ i = .int .i64 k ∧ c.length ≤ 1000000 ∧ Aside0 (AP w wq (.slice Aa na ca) (.slice Aw nw cw) (.slice Ao no co) tb (.slice A3 np c3) (pathsL l) l.adds) ∧ Aside0 (Tr W0.heap.size wq tb v1 c) ∧ Aside0 (Below W0.heap.size w wq) ∧ Aside0 (Okt c) ∧ Aside0 (∀ n ∈ c, n.path.size < 1000000000) ∧ Aside0 (runF l c ((pathsL l).drop k) = runF l (startF l xs) (pathsL l)))
                (fun i _ => np - (intOf i).toNat)
              case atStart => exact ⟨0, v1, zs, Nat.zero_le _, rfl, hlz, HA3, HT3, HB3, HOz, HXz, ⟨by rw [HZs.out]; rfl⟩⟩
              case round =>
                clear HT3 HA3 HB3
                obtain ⟨k, v1, c, hk, rfl, hcl, HA, HT1, HBz, HOk1, HX1, HR⟩ := hrel
                have HE1 := Aside0.mk (HE.out.belowB HBz.out hB)
                by_cases hlt : k < np
                · have hk2 : k < (pathsL l).length := by rw [← HNp.out]; exact hlt
                  obtain ⟨A', c', e', hl', hc'⟩ := HA.out.row.rd
                  injection e' with e1' e2' e3'
                  subst e1'
                  obtain ⟨ad, rfl, k0⟩ := C_str hc' k hk2
                  have hpm := getD_memStr (pathsL l) k hk2
                  have HDk := Aside0.mk (drop_str (pathsL l) k hk2)
                  obtain ⟨x, hx0⟩ : ∃ x, x = (pathsL l).getD k ⟨#[]⟩ := ⟨_, rfl⟩
                  rw [← hx0] at hpm HDk k0
                  have hp1 : x.size ≤ 100000 := by
                    refine HPs.out x ?_
                    have : x ∈ compS (sortS (ensL l ++ l.adds.map (·.path))) := hpm
                    rwa [tidy_mem] at this
                  have HPm := Aside0.mk hpm
                  have HSo := Aside0.mk (stepF_ok HL.out hpm HOk1.out)
                  have HSx := Aside0.mk (stepF_small HL.out HX1.out (show x.size < 1000000000 by omega))
                  have hrun : runF l c (x :: (pathsL l).drop (k + 1)) = if 4096 < (stepF l c x).length then none else runF l (stepF l c x) ((pathsL l).drop (k + 1)) := rfl
                  have HRn := Aside0.mk hrun
                  clear hx0 hk2 hpm hc' hl' e2' e3' hrun
                  go_wp2_with fail
                  refine (adder_path l x c (w.heap.size + 2) (w.heap.size + 1) tb W0.heap.size v1 wr hB HE1.out HL.out HPm.out HA.out.ab HA.out.map HT1.out HOk1.out HX1.out hp1 (by omega)).mono ?_
                  rintro e4 w4 (⟨hle, rfl, v4, ht4, hs4, hh4⟩ | ⟨hgt, rfl, hb4⟩)
                  · have HA4 := Aside0.mk (HA.out.tree HT1.out hs4)
                    have HT4 := Aside0.mk ht4
                    have HB4 := Aside0.mk (HBz.out.trans (hs4.below HT1.out))
                    have hR4 : runF l (stepF l c x) ((pathsL l).drop (k + 1)) = runF l (startF l xs) (pathsL l) := by
                      rw [← HR.out, HDk.out, HRn.out, if_neg (by omega)]
                    have HR4 := Aside0.mk hR4
                    clear ht4 hs4 hh4 hR4 k0
                    go_wp2_with fail
                    go_roundw
                    case rel => exact ⟨k + 1, v4, stepF l c x, by omega, by go_num, by omega, HA4, HT4, HB4, HSo, HSx, HR4⟩
                    case measure => simp [intOf]; omega
                  · have HB4 := Aside0.mk (HBz.out.trans hb4)
                    have HR4 := Aside0.mk (show runF l (startF l xs) (pathsL l) = none by rw [← HR.out, HDk.out, HRn.out, if_pos hgt])
                    clear hb4 k0
                    go_wp2_with fail
                    go_ret
                    exact .inr ⟨HR4.out, rfl, HB4.out⟩
                · have hk2 : k = np := by omega
                  subst hk2
                  have HR4 := Aside0.mk (show runF l (startF l xs) (pathsL l) = some c by
                    rw [← HR.out, List.drop_of_length_le (by rw [← HNp.out]; exact Nat.le_refl _)]; rfl)
                  clear HR hlt
                  go_wp2_with fail
                  go_ret
                  exact .inl ⟨c, HR4.out, rfl, ⟨v1, HT1.out⟩, HBz.out⟩

end Go.Proofs.YtbkbpdpegiekhaaGreatDoor
