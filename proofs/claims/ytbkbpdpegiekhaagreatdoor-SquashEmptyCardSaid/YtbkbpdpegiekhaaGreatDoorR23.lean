/- squash: newSecond. -/
import Derived.Test.YtbkbpdpegiekhaaGreatDoorR22
set_option linter.unusedVariables false
set_option linter.unusedSimpArgs false
namespace Go.Proofs.YtbkbpdpegiekhaaGreatDoor
open Go.RowKit Go.Proofs.YtbkbpdpegiekhaaGreatDoorW.PrintWords Mo

set_option maxHeartbeats 8000000 in
set_option maxRecDepth 100000 in
theorem squash_newSecond (y : Ly) (va vw vo : Value) (w : World) (hE : Env w) (hr : RdL w va vw vo y) (hl : Lb y) :
    Calls Tryz.prog 83 #[.agg #[va, vw, vo]] w fun e w' => ∃ g, e = .returned (.pointer (some ⟨g, 0, none⟩)) ∧ Sec w' g y ∧ Below w.heap.size w w' := by
  have hrb := fun W (hb : Below w.heap.size w W) => hr.below hb
  have HR := Aside0.mk hrb
  have hEb : ∀ W, Below w.heap.size w W → Env W := fun W hb => hE.below hb
  obtain ⟨A, ca, rfl, hca, hCa⟩ := hr.1
  obtain ⟨Wp, cw, rfl, hcw, hCw⟩ := hr.2.1
  obtain ⟨Op, co, rfl, hco, hCo⟩ := hr.2.2
  have HE := Aside0.mk hEb
  have HL := Aside0.mk hl
  have HCa := Aside0.mk hCa
  have hna := hl.na
  clear hE hEb hCa hCw hCo hr hrb
  have hens : ∀ W, Below w.heap.size w W → Calls Tryz.prog 144 #[.agg #[.slice A y.adds.length ca, .slice Wp y.whites.length cw, .slice Op y.opaques.length co]] W fun e w' => ∃ v, e = .returned v ∧ Ow Kd.string 9 w' W.heap.size v (ensL y) ∧ Below W.heap.size W w' :=
    fun W hb => layer_Ensured y _ _ _ W (HE.out W hb) (HR.out W hb) hl
  have HEn := Aside0.mk hens
  clear hens hl
  obtain ⟨na, hna0⟩ : ∃ n, n = y.adds.length := ⟨_, rfl⟩
  obtain ⟨nw, hnw0⟩ : ∃ n, n = y.whites.length := ⟨_, rfl⟩
  obtain ⟨no, hno0⟩ : ∃ n, n = y.opaques.length := ⟨_, rfl⟩
  rw [← hna0] at hna HR HEn ⊢
  rw [← hnw0] at HR HEn ⊢
  rw [← hno0] at HR HEn ⊢
  have HNa := Aside0.mk hna0
  clear hna0 hnw0 hno0 hca hcw hco
  have hmm := @run_makeMap Tryz.prog
  go_enter Tryz.func83, Tryz.ntmps83
  go_wp2_with fail
  have hst : ChkS w (.slice A na ca) (.slice Wp nw cw) (.slice Op no co) (w.alloc (.cells #[.slice A na ca, .slice Wp nw cw, .slice Op no co] 25)).drew := ChkSt.all ⟨heap_alloc_new w _, ((Grew.refl w).alloc _).drew.below⟩
  go_region_held3 (fun W => W.cell? ⟨w.heap.size, 0, none⟩ = some (.slice A na ca) ∧ W.cell? ⟨w.heap.size, 1, none⟩ = some (.slice Wp nw cw) ∧ W.cell? ⟨w.heap.size, 2, none⟩ = some (.slice Op no co) ∧ ChkSt w W (.slice A na ca) (.slice Wp nw cw) (.slice Op no co))
    (first | assumption | exact hst | (apply ChkS.keep; assumption; assumption) | (apply ChkS.keepAD; assumption) | (apply ChkS.keepA; assumption))
    (first
      | (go_at_call 144; refine (HEn.out _ ?_).mono ?_; (refine (ChkS.st (va := .slice A na ca) (vw := .slice Wp nw cw) (vo := .slice Op no co) ?_).below; assumption); rintro e w' ⟨ve, rfl, hve, hb⟩; obtain ⟨Ae, ne, ce, rfl⟩ := hve.sl))
  · rename_i hh
    have hch : ChkS w (.slice A na ca) (.slice Wp nw cw) (.slice Op no co) _ := hh
    have hN : NS w (w'.alloc (Obj.cells #[Value.slice A na ca, Value.slice Wp nw cw, Value.slice Op no co, Value.map (some (w.heap.size + 1)), Value.slice none 0 0, Value.slice Ae ne ce] 171)) #[.slice A na ca, .slice Wp nw cw, .slice Op no co] w'.heap.size (w.heap.size + 1) (.slice A na ca) (.slice Wp nw cw) (.slice Op no co) (.slice none 0 0) (.slice Ae ne ce) (ensL y) [] [] := by
      have hs := hch.st
      have hsz := hb.size
      refine ⟨hs.lay, heap_alloc_new _ _, ?_, ?_, Ow.nil _ _ _ _, ?_, hs.below, by omega, by simp at hsz; omega⟩
      · refine Nmap.below (Nmap.below (Nmap.below (w := (w.alloc (.cells #[.slice A na ca, .slice Wp nw cw, .slice Op no co] 25)).alloc (.map #[] 0)) ?_ ((Grew.refl _).drew).below) hb) ((Grew.refl _).alloc _).below
        have := Nmap.made (w.alloc (.cells #[.slice A na ca, .slice Wp nw cw, .slice Op no co] 25))
        simpa using this
      · exact (hve.lower (by simp; omega)).below flat_string ((Grew.refl _).alloc _).below
      · by_cases e : (Value.slice Ae ne ce).ownBlock = none
        · exact .inl e
        · exact .inr e
    have HN := Aside0.mk hN
    have c0 := hch.1
    clear hN hch hh hb hve hst
    generalize (w'.alloc (Obj.cells #[Value.slice A na ca, Value.slice Wp nw cw, Value.slice Op no co, Value.map (some (w.heap.size + 1)), Value.slice none 0 0, Value.slice Ae ne ce] 171)) = w2 at HN c0 ⊢
    generalize w'.heap.size = g at HN ⊢
    generalize (w.heap.size + 1) = m at HN ⊢
    go_wp2_with fail
    go_loopw [15] (fun i wr => ∃ (k : Nat) (vf : Value), k ≤ na ∧ i = .int .i64 k ∧ Aside0 (NS w wr #[.slice A na ca, .slice Wp nw cw, .slice Op no co] g m (.slice A na ca) (.slice Wp nw cw) (.slice Op no co) vf (.slice Ae ne ce) (ensL y) (y.adds.take k) (fileS (y.adds.take k))))
      (fun i _ => na - (intOf i).toNat)
    case atStart => exact ⟨0, _, Nat.zero_le _, rfl, ⟨by simpa [fileS] using HN.out⟩⟩
    case round =>
      clear c0 HN
      obtain ⟨k, vf, hk, rfl, HN⟩ := hrel
      by_cases hlt : k < na
      · have hk2 : k < y.adds.length := by rw [← HNa.out]; exact hlt
        obtain ⟨ad, rfl, k0, k1, k2, k3, k4⟩ := C_node (Kd.C_below HCa.out HN.out.below) k hk2
        have hp1 := HL.out.a (y.adds.getD k Nd.zero) (getD_mem _ _ hk2)
        have HTk := Aside0.mk (take_node y.adds k hk2)
        obtain ⟨x, hx0⟩ : ∃ x, x = y.adds.getD k Nd.zero := ⟨_, rfl⟩
        rw [← hx0] at hp1 HTk k0 k1 k2 k3 k4
        have hbk : ∀ o, wr.alloc o = wr.alloc o := fun o => rfl
        obtain ⟨md, hmd⟩ : ∃ md, md = y.adds.take k := ⟨_, rfl⟩
        have hml : md.length ≤ 1000000000000 := by rw [hmd, List.length_take]; omega
        rw [← hmd] at HN HTk
        clear hx0 hk2 hbk hmd
        obtain ⟨nb, hnb⟩ : ∃ o, o = Obj.cells #[.string x.path, .bool x.dir, .string x.data, .int .i64 x.mode, .int .i64 x.time] 46 := ⟨_, rfl⟩
        have HN1 := Aside0.mk (show NS w (wr.alloc nb).drew #[.slice (some ad) na ca, .slice Wp nw cw, .slice Op no co] g m (.slice (some ad) na ca) (.slice Wp nw cw) (.slice Op no co) vf (.slice Ae ne ce) (ensL y) md (fileS md) from HN.out.step ((Grew.refl wr).alloc nb).drew.below)
        have hnb0 : (wr.alloc nb).drew.heap[wr.heap.size]? = some nb := heap_alloc_new wr nb
        subst hnb
        obtain ⟨w3, hrun, hm3, hg3⟩ := HN1.out.map.put_run hml x (by omega)
        have HN2 := Aside0.mk (HN1.out.mapped hm3 hg3)
        have hnb3 := blk_grown hnb0 hg3 (fun e => HN1.out.map.cell_ne hnb0 (by injection e))
        have hS0 := NB.mk HN1.out.sec hnb0
        have hS3 := NB.mk HN2.out.sec hnb3
        clear hm3 hg3
        go_wp2_with fail
        go_region_held3 (fun W => W.cell? ⟨g, 3, none⟩ = some (.map (some m)) ∧ W.cell? ⟨wr.heap.size, 0, none⟩ = some (.string x.path) ∧ W.cell? ⟨wr.heap.size, 1, none⟩ = some (.bool x.dir) ∧ W.cell? ⟨wr.heap.size, 2, none⟩ = some (.string x.data) ∧ W.cell? ⟨wr.heap.size, 3, none⟩ = some (.int .i64 x.mode) ∧ W.cell? ⟨wr.heap.size, 4, none⟩ = some (.int .i64 x.time))
          (first | assumption | exact hS0 | exact hS3) (fail)
        rename_i hheld
        clear hheld
        have hS3p := hS3.2.1
        have d1 := hS3.2.2.1
        have htk : y.adds.take (k + 1) = md ++ [x] := HTk.out
        have HTk2 := Aside0.mk htk
        clear hS0 hS3 htk hrun hnb0
        cases hd : x.dir
        rotate_left
        · have hfs := fileS_snoc_dir md x hd
          rw [hd] at d1
          have HN3 := Aside0.mk (show NS w w3 #[.slice (some ad) na ca, .slice Wp nw cw, .slice Op no co] g m (.slice (some ad) na ca) (.slice Wp nw cw) (.slice Op no co) vf (.slice Ae ne ce) (ensL y) (y.adds.take (k + 1)) (fileS (y.adds.take (k + 1))) by rw [HTk2.out, hfs]; exact HN2.out)
          clear hfs hd
          go_wp2_with fail
          go_roundw
          case rel => exact ⟨k + 1, vf, by omega, by go_num, HN3⟩
          case measure => simp [intOf]; omega
        · have hfs := fileS_snoc_file md x hd
          rw [hd] at d1
          have hfl := fileS_len md
          obtain ⟨Af, nf, cf, rfl⟩ := HN2.out.fil.sl
          obtain ⟨nob, hnob⟩ : ∃ o, o = Obj.cells #[.string x.path] 9 := ⟨_, rfl⟩
          have HNW := Aside0.mk (show NS w (w3.alloc nob).drew _ g m _ _ _ _ _ _ _ _ from HN2.out.step ((Grew.refl w3).alloc nob).drew.below)
          have hnbW : (w3.alloc nob).drew.heap[wr.heap.size]? = some _ := blk_lt' hnb3 nob
          have hCW := Kd.C_below (C_lit flat_string w3 9 x.path [Value.string x.path] rfl w3.heap.size rfl) ((Grew.refl (w3.alloc (.cells #[.string x.path] 9))).drew).below
          have HCW := Aside0.mk hCW
          have hP0 : w3.drew.cell? ⟨wr.heap.size, 0, none⟩ = some (.string x.path) := hS3p
          have hP1 : (w3.alloc nob).drew.cell? ⟨wr.heap.size, 0, none⟩ = some (.string x.path) := blk_cell hnbW 0
          have p4 : w3.cell? ⟨g, 4, none⟩ = some (.slice Af nf cf) := blk_cell HN2.out.sec 4
          have p5 : (w3.alloc nob).cell? ⟨g, 4, none⟩ = some (.slice Af nf cf) := blk_cell HNW.out.sec 4
          have hwb : w.heap.size ≤ (w3.alloc nob).drew.heap.size := HNW.out.below.size
          have hll : ((fileS md).length + 1) * 16 ≤ 140737488355328 := by omega
          subst hnob
          clear hd hCW
          go_wp2_with fail
          go_region_law ((refine Ow.app_step Kd.string flat_string _ w.heap.size (by rfl) _ _ 23 9 _ 16 (by rfl) Tryz.underlying23 info9 rfl (by decide) _ (fileS md) [x.path] (by rfl) (by simp) (some ⟨w3.heap.size, 0, none⟩) 1 (by rfl) HCW.out HNW.out.fil hwb hll ?_; intro v1 w4 ho hgg hat; obtain ⟨A1, n1, c1, rfl⟩ := ho.sl; have HN3 := Aside0.mk (NS.put HNW.out ho hgg hat); have hsec := blk_grown HNW.out.sec hgg (fun e => HNW.out.fil.ne_type HNW.out.sec (by decide) e.symm); have cc := blk_cell hsec 4; have ff := blk_frozen hsec 4; have hnb4 := blk_grown hnbW hgg (fun e => HNW.out.fil.ne_type hnbW (by decide) e.symm); have hP4 := blk_cell hnb4 0; have hP5 := blk_cell (blk_far hnb4 (p := ⟨g, 4, none⟩) (blk_ne hnb4 hsec (by decide)) (.slice A1 n1 c1)) 0))
          all_goals (
            have HN4 := Aside0.mk (show NS w (w4.setCell ⟨g, 4, none⟩ (.slice A1 n1 c1)) #[.slice (some ad) na ca, .slice Wp nw cw, .slice Op no co] g m (.slice (some ad) na ca) (.slice Wp nw cw) (.slice Op no co) (.slice A1 n1 c1) (.slice Ae ne ce) (ensL y) (y.adds.take (k + 1)) (fileS (y.adds.take (k + 1))) by rw [HTk2.out, hfs]; exact HN3.out)
            clear HN3 hsec cc ff hnb4 hP4 hP5 hfs
            go_wp2_with fail
            go_roundw
            case rel => exact ⟨k + 1, _, by omega, by go_num, HN4⟩
            case measure => simp [intOf]; omega)
      obtain rfl : na = k := by omega
      have HTk := Aside0.mk (show y.adds.take na = y.adds from List.take_of_length_le (by rw [← HNa.out]; exact Nat.le_refl _))
      rw [HTk.out] at HN
      clear hlt hk
      go_wp2_with fail
      go_ret
      exact ⟨g, rfl, ⟨_, _, _, m, _, _, HN.out.sec, HR.out _ HN.out.below, HN.out.map, HN.out.fil.rd, HN.out.ens.rd⟩, HN.out.below⟩
  · rename_i hh
    have hch : ChkS w (.slice A na ca) (.slice Wp nw cw) (.slice Op no co) _ := hh
    have hN : NS w ((w'.alloc (Obj.map #[] 0)).alloc (Obj.cells #[Value.slice A na ca, Value.slice Wp nw cw, Value.slice Op no co, Value.map (some w'.heap.size), Value.slice none 0 0, Value.slice Ae ne ce] 171)) #[.slice A na ca, .slice Wp nw cw, .slice Op no co] (w'.heap.size + 1) w'.heap.size (.slice A na ca) (.slice Wp nw cw) (.slice Op no co) (.slice none 0 0) (.slice Ae ne ce) (ensL y) [] [] := by
      have hs := hch.st
      have hsz := hb.size
      have hz : w'.heap.size + 1 = (w'.alloc (.map #[] 0)).heap.size := by simp
      refine ⟨hs.lay, ?_, ?_, ?_, Ow.nil _ _ _ _, ?_, hs.below, by simp at hsz; omega, by simp at hsz; omega⟩
      · rw [hz]; exact heap_alloc_new _ _
      · exact Nmap.below (Nmap.made w') ((Grew.refl _).alloc _).below
      · exact ((hve.lower (by simp)).below flat_string ((Grew.refl _).alloc _).below).below flat_string ((Grew.refl _).alloc _).below
      · by_cases e : (Value.slice Ae ne ce).ownBlock = none
        · exact .inl e
        · exact .inr e
    have HN := Aside0.mk hN
    have c0 := hch.1
    clear hN hch hh hb hve hst
    generalize ((w'.alloc (Obj.map #[] 0)).alloc (Obj.cells #[Value.slice A na ca, Value.slice Wp nw cw, Value.slice Op no co, Value.map (some w'.heap.size), Value.slice none 0 0, Value.slice Ae ne ce] 171)) = w2 at HN c0 ⊢
    generalize hG : w'.heap.size + 1 = g at HN ⊢
    generalize w'.heap.size = m at HN ⊢
    go_wp2_with fail
    go_loopw [15] (fun i wr => ∃ (k : Nat) (vf : Value), k ≤ na ∧ i = .int .i64 k ∧ Aside0 (NS w wr #[.slice A na ca, .slice Wp nw cw, .slice Op no co] g m (.slice A na ca) (.slice Wp nw cw) (.slice Op no co) vf (.slice Ae ne ce) (ensL y) (y.adds.take k) (fileS (y.adds.take k))))
      (fun i _ => na - (intOf i).toNat)
    case atStart => exact ⟨0, _, Nat.zero_le _, rfl, ⟨by simpa [fileS] using HN.out⟩⟩
    case round =>
      clear c0 HN
      obtain ⟨k, vf, hk, rfl, HN⟩ := hrel
      by_cases hlt : k < na
      · have hk2 : k < y.adds.length := by rw [← HNa.out]; exact hlt
        obtain ⟨ad, rfl, k0, k1, k2, k3, k4⟩ := C_node (Kd.C_below HCa.out HN.out.below) k hk2
        have hp1 := HL.out.a (y.adds.getD k Nd.zero) (getD_mem _ _ hk2)
        have HTk := Aside0.mk (take_node y.adds k hk2)
        obtain ⟨x, hx0⟩ : ∃ x, x = y.adds.getD k Nd.zero := ⟨_, rfl⟩
        rw [← hx0] at hp1 HTk k0 k1 k2 k3 k4
        have hbk : ∀ o, wr.alloc o = wr.alloc o := fun o => rfl
        obtain ⟨md, hmd⟩ : ∃ md, md = y.adds.take k := ⟨_, rfl⟩
        have hml : md.length ≤ 1000000000000 := by rw [hmd, List.length_take]; omega
        rw [← hmd] at HN HTk
        clear hx0 hk2 hbk hmd
        obtain ⟨nb, hnb⟩ : ∃ o, o = Obj.cells #[.string x.path, .bool x.dir, .string x.data, .int .i64 x.mode, .int .i64 x.time] 46 := ⟨_, rfl⟩
        have HN1 := Aside0.mk (show NS w (wr.alloc nb).drew #[.slice (some ad) na ca, .slice Wp nw cw, .slice Op no co] g m (.slice (some ad) na ca) (.slice Wp nw cw) (.slice Op no co) vf (.slice Ae ne ce) (ensL y) md (fileS md) from HN.out.step ((Grew.refl wr).alloc nb).drew.below)
        have hnb0 : (wr.alloc nb).drew.heap[wr.heap.size]? = some nb := heap_alloc_new wr nb
        subst hnb
        obtain ⟨w3, hrun, hm3, hg3⟩ := HN1.out.map.put_run hml x (by omega)
        have HN2 := Aside0.mk (HN1.out.mapped hm3 hg3)
        have hnb3 := blk_grown hnb0 hg3 (fun e => HN1.out.map.cell_ne hnb0 (by injection e))
        have hS0 := NB.mk HN1.out.sec hnb0
        have hS3 := NB.mk HN2.out.sec hnb3
        clear hm3 hg3
        go_wp2_with fail
        go_region_held3 (fun W => W.cell? ⟨g, 3, none⟩ = some (.map (some m)) ∧ W.cell? ⟨wr.heap.size, 0, none⟩ = some (.string x.path) ∧ W.cell? ⟨wr.heap.size, 1, none⟩ = some (.bool x.dir) ∧ W.cell? ⟨wr.heap.size, 2, none⟩ = some (.string x.data) ∧ W.cell? ⟨wr.heap.size, 3, none⟩ = some (.int .i64 x.mode) ∧ W.cell? ⟨wr.heap.size, 4, none⟩ = some (.int .i64 x.time))
          (first | assumption | exact hS0 | exact hS3) (fail)
        rename_i hheld
        clear hheld
        have hS3p := hS3.2.1
        have d1 := hS3.2.2.1
        have htk : y.adds.take (k + 1) = md ++ [x] := HTk.out
        have HTk2 := Aside0.mk htk
        clear hS0 hS3 htk hrun hnb0
        cases hd : x.dir
        rotate_left
        · have hfs := fileS_snoc_dir md x hd
          rw [hd] at d1
          have HN3 := Aside0.mk (show NS w w3 #[.slice (some ad) na ca, .slice Wp nw cw, .slice Op no co] g m (.slice (some ad) na ca) (.slice Wp nw cw) (.slice Op no co) vf (.slice Ae ne ce) (ensL y) (y.adds.take (k + 1)) (fileS (y.adds.take (k + 1))) by rw [HTk2.out, hfs]; exact HN2.out)
          clear hfs hd
          go_wp2_with fail
          go_roundw
          case rel => exact ⟨k + 1, vf, by omega, by go_num, HN3⟩
          case measure => simp [intOf]; omega
        · have hfs := fileS_snoc_file md x hd
          rw [hd] at d1
          have hfl := fileS_len md
          obtain ⟨Af, nf, cf, rfl⟩ := HN2.out.fil.sl
          obtain ⟨nob, hnob⟩ : ∃ o, o = Obj.cells #[.string x.path] 9 := ⟨_, rfl⟩
          have HNW := Aside0.mk (show NS w (w3.alloc nob).drew _ g m _ _ _ _ _ _ _ _ from HN2.out.step ((Grew.refl w3).alloc nob).drew.below)
          have hnbW : (w3.alloc nob).drew.heap[wr.heap.size]? = some _ := blk_lt' hnb3 nob
          have hCW := Kd.C_below (C_lit flat_string w3 9 x.path [Value.string x.path] rfl w3.heap.size rfl) ((Grew.refl (w3.alloc (.cells #[.string x.path] 9))).drew).below
          have HCW := Aside0.mk hCW
          have hP0 : w3.drew.cell? ⟨wr.heap.size, 0, none⟩ = some (.string x.path) := hS3p
          have hP1 : (w3.alloc nob).drew.cell? ⟨wr.heap.size, 0, none⟩ = some (.string x.path) := blk_cell hnbW 0
          have p4 : w3.cell? ⟨g, 4, none⟩ = some (.slice Af nf cf) := blk_cell HN2.out.sec 4
          have p5 : (w3.alloc nob).cell? ⟨g, 4, none⟩ = some (.slice Af nf cf) := blk_cell HNW.out.sec 4
          have hwb : w.heap.size ≤ (w3.alloc nob).drew.heap.size := HNW.out.below.size
          have hll : ((fileS md).length + 1) * 16 ≤ 140737488355328 := by omega
          subst hnob
          clear hd hCW
          go_wp2_with fail
          go_region_law ((refine Ow.app_step Kd.string flat_string _ w.heap.size (by rfl) _ _ 23 9 _ 16 (by rfl) Tryz.underlying23 info9 rfl (by decide) _ (fileS md) [x.path] (by rfl) (by simp) (some ⟨w3.heap.size, 0, none⟩) 1 (by rfl) HCW.out HNW.out.fil hwb hll ?_; intro v1 w4 ho hgg hat; obtain ⟨A1, n1, c1, rfl⟩ := ho.sl; have HN3 := Aside0.mk (NS.put HNW.out ho hgg hat); have hsec := blk_grown HNW.out.sec hgg (fun e => HNW.out.fil.ne_type HNW.out.sec (by decide) e.symm); have cc := blk_cell hsec 4; have ff := blk_frozen hsec 4; have hnb4 := blk_grown hnbW hgg (fun e => HNW.out.fil.ne_type hnbW (by decide) e.symm); have hP4 := blk_cell hnb4 0; have hP5 := blk_cell (blk_far hnb4 (p := ⟨g, 4, none⟩) (blk_ne hnb4 hsec (by decide)) (.slice A1 n1 c1)) 0))
          all_goals (
            have HN4 := Aside0.mk (show NS w (w4.setCell ⟨g, 4, none⟩ (.slice A1 n1 c1)) #[.slice (some ad) na ca, .slice Wp nw cw, .slice Op no co] g m (.slice (some ad) na ca) (.slice Wp nw cw) (.slice Op no co) (.slice A1 n1 c1) (.slice Ae ne ce) (ensL y) (y.adds.take (k + 1)) (fileS (y.adds.take (k + 1))) by rw [HTk2.out, hfs]; exact HN3.out)
            clear HN3 hsec cc ff hnb4 hP4 hP5 hfs
            go_wp2_with fail
            go_roundw
            case rel => exact ⟨k + 1, _, by omega, by go_num, HN4⟩
            case measure => simp [intOf]; omega)
      obtain rfl : na = k := by omega
      have HTk := Aside0.mk (show y.adds.take na = y.adds from List.take_of_length_le (by rw [← HNa.out]; exact Nat.le_refl _))
      rw [HTk.out] at HN
      clear hlt hk
      go_wp2_with fail
      go_ret
      exact ⟨g, rfl, ⟨_, _, _, m, _, _, HN.out.sec, HR.out _ HN.out.below, HN.out.map, HN.out.fil.rd, HN.out.ens.rd⟩, HN.out.below⟩

end Go.Proofs.YtbkbpdpegiekhaaGreatDoor
