/- layer: Check. -/
import Derived.Test.YtbkbpdpegiekhaaGreatDoorR16
import Derived.Deep.RegionHeld3
/- layer: files. -/
set_option linter.unusedVariables false
set_option linter.unusedSimpArgs false
namespace Go.Proofs.YtbkbpdpegiekhaaGreatDoor
open Go.RowKit Go.Proofs.YtbkbpdpegiekhaaGreatDoorW.PrintWords Mo

def blockB (l : Ly) (n : Nd) : Bool := decide (n.path ∈ ensL l) && !n.dir
/-- Is nothing below a file? -/
def filesB (l : Ly) : Bool := !l.adds.any (blockB l)

theorem ensL_len {l : Ly} (h : Lb l) : (ensL l).length ≤ 40000000000 := by
  have h1 := srcA_len h
  have h2 := srcW_len h
  have h3 := srcO_len h
  have h4 : (ensL l).length ≤ (sortS (srcs l)).length := by
    unfold ensL compS
    rw [List.length_map]
    have := Lib.compact_length_le ((sortS (srcs l)).map bs)
    rw [List.length_map] at this
    exact this
  rw [sortS_len] at h4
  unfold srcs at h4
  rw [List.length_append, List.length_append] at h4
  omega
theorem ensL_small {l : Ly} (h : Lb l) : ∀ s ∈ ensL l, s.size ≤ 100000 := fun s hs => srcs_small h s (ensL_mem.1 hs)

set_option maxHeartbeats 2000000 in
theorem layer_files (l : Ly) (va vw vo : Value) (w : World) (hE : Env w) (hr : RdL w va vw vo l) (hl : Lb l) :
    Calls Tryz.prog 143 #[.agg #[va, vw, vo]] w fun e w' => e = .returned (.bool (filesB l)) ∧ Below w.heap.size w w' := by
  have hrb := fun o => hr.below ((Grew.refl w).alloc o).below
  have HR := Aside0.mk hrb
  have hEb : ∀ o, Env (w.alloc o) := fun o => hE.below ((Grew.refl w).alloc o).below
  obtain ⟨A, ca, rfl, hca, hCa⟩ := hr.1
  obtain ⟨Wp, cw, rfl, hcw, hCw⟩ := hr.2.1
  obtain ⟨Op, co, rfl, hco, hCo⟩ := hr.2.2
  have HE := Aside0.mk hE
  have HEb := Aside0.mk hEb
  have HL := Aside0.mk hl
  have HCa := Aside0.mk hCa
  have hna := hl.na
  have hu23 := Tryz.underlying23
  clear hE hEb hCa hCw hCo hl hr hrb
  obtain ⟨na, hna0⟩ : ∃ n, n = l.adds.length := ⟨_, rfl⟩
  obtain ⟨nw, hnw0⟩ : ∃ n, n = l.whites.length := ⟨_, rfl⟩
  obtain ⟨no, hno0⟩ : ∃ n, n = l.opaques.length := ⟨_, rfl⟩
  rw [← hna0] at hna hca HR ⊢
  rw [← hnw0] at hcw HR ⊢
  rw [← hno0] at hco HR ⊢
  have HNa := Aside0.mk hna0
  clear hna0 hnw0 hno0
  go_enter Tryz.func143, Tryz.ntmps143
  go_wp2_with fail
  refine (layer_Ensured l _ _ _ _ (HEb.out _) (HR.out _) HL.out).mono ?_
  rintro e1 w1 ⟨v, rfl, ho, hb1⟩
  have HV := Aside0.mk ho.rd
  have HB1 := Aside0.mk (box_below _ hb1)
  have hw1 := (hb1.block w.heap.size (by simp)).trans (heap_alloc_new w _)
  have c0 := blk_cell hw1 0
  clear ho hb1 hw1
  go_wp2_with fail
  go_loopw [13] (fun i wr => ∃ (k : Nat), k ≤ na ∧ i = .int .i64 k ∧ Aside0 ((l.adds.drop k).any (blockB l) = l.adds.any (blockB l)) ∧ Aside0 (Below w1.heap.size w1 wr))
    (fun i _ => na - (intOf i).toNat)
  case atStart => exact ⟨0, Nat.zero_le _, rfl, ⟨rfl⟩, ⟨Below.refl _ _⟩⟩
  case round =>
    clear c0
    obtain ⟨k, hk, rfl, HD, HB⟩ := hrel
    have HBw := Aside0.mk (below_then HB1.out HB1.out.size HB.out)
    by_cases hlt : k < na
    · have hk2 : k < l.adds.length := by rw [← HNa.out]; exact hlt
      obtain ⟨ad, rfl, k0, k1, k2, k3, k4⟩ := C_node (Kd.C_below HCa.out HBw.out) k hk2
      have hp1 := HL.out.a (l.adds.getD k Nd.zero) (getD_mem _ _ hk2)
      have HDr := Aside0.mk (drop_node l.adds k hk2)
      obtain ⟨x, hx0⟩ : ∃ x, x = l.adds.getD k Nd.zero := ⟨_, rfl⟩
      rw [← hx0] at hp1 HDr k0 k1 k2 k3 k4
      clear hx0 hk2
      go_wp2_with fail
      have hb0 := ((Grew.refl wr).alloc (.cells #[.string x.path, .bool x.dir, .string x.data, .int .i64 x.mode, .int .i64 x.time] 46)).below
      have hw0 := heap_alloc_new wr (.cells #[.string x.path, .bool x.dir, .string x.data, .int .i64 x.mode, .int .i64 x.time] 46)
      refine (search_strs (ensL l) x.path v _ ((HE.out.below HBw.out).below hb0) ((HV.out.below HB.out).below hb0) (fun s hs => by have := ensL_small HL.out s hs; omega) (by omega) (by have := ensL_len HL.out; omega) (ensL_strict l)).mono ?_
      rintro e2 w2 ⟨i, rfl, hb2⟩
      have HB2 := Aside0.mk (HB.out.trans (below_lower (box_below _ hb2) HB.out.size))
      have hw2 := (hb2.block wr.heap.size (by simp)).trans hw0
      have c1 := blk_cell hw2 1
      have hst : (x :: l.adds.drop (k + 1)).any (blockB l) = (blockB l x || (l.adds.drop (k + 1)).any (blockB l)) := rfl
      have hbl : blockB l x = (decide (x.path ∈ ensL l) && !x.dir) := rfl
      clear hb0 hw0 hb2 hw2 k0 k1 k2 k3 k4
      cases hm : decide (x.path ∈ ensL l)
      · rw [hm, Bool.false_and] at hbl
        have HS := Aside0.mk (show (l.adds.drop (k + 1)).any (blockB l) = l.adds.any (blockB l) by rw [← HD.out, HDr.out, hst, hbl, Bool.false_or])
        clear hst hbl hm
        go_wp2_with fail
        go_roundw
        case rel => exact ⟨k + 1, by omega, by go_num, HS, HB2⟩
        case measure => simp [intOf]; omega
      · rw [hm, Bool.true_and] at hbl
        cases hd : x.dir
        · rw [hd] at hbl c1
          have HS := Aside0.mk (show filesB l = false by unfold filesB; rw [← HD.out, HDr.out, hst, hbl]; rfl)
          clear hst hbl hm
          go_wp2_with fail
          go_ret
          exact ⟨by rw [HS.out]; rfl, below_then HB1.out HB1.out.size HB2.out⟩
        · rw [hd] at hbl c1
          have HS := Aside0.mk (show (l.adds.drop (k + 1)).any (blockB l) = l.adds.any (blockB l) by rw [← HD.out, HDr.out, hst, hbl]; rfl)
          clear hst hbl hm
          go_wp2_with fail
          go_roundw
          case rel => exact ⟨k + 1, by omega, by go_num, HS, HB2⟩
          case measure => simp [intOf]; omega
    · obtain rfl : na = k := by omega
      have HF := Aside0.mk (show filesB l = true by
        have := HD.out
        rw [List.drop_of_length_le (by rw [← HNa.out]; exact Nat.le_refl _)] at this
        unfold filesB
        rw [← this]; rfl)
      clear HD hlt
      go_wp2_with fail
      go_ret
      exact ⟨by rw [HF.out]; rfl, HBw.out⟩

end Go.Proofs.YtbkbpdpegiekhaaGreatDoor

set_option linter.unusedVariables false
set_option linter.unusedSimpArgs false
namespace Go.Proofs.YtbkbpdpegiekhaaGreatDoor
open Go.RowKit Go.Proofs.YtbkbpdpegiekhaaGreatDoorW.PrintWords Mo

def bytesN (l : List Nd) : Nat := (l.map fun n => n.data.size).sum
def entsE (l : Ly) : Int := orE (addsE ⟨#[]⟩ [] l.adds) (markersE 1 none l.whites) (markersE 2 none l.opaques)
/-- Why a layer may not be; 0: it may. -/
def checkL (l : Ly) : Int :=
  if 4096 < l.adds.length + l.whites.length + l.opaques.length then 7
  else if entsE l = 0 then (if filesB l = true then (if 4194304 < bytesN l.adds then 7 else 0) else 6)
  else entsE l

/-- What is kept while the entries are checked. -/
structure ChkSt (w W : World) (va vw vo : Value) : Prop where
  lay : W.heap[w.heap.size]? = some (.cells #[va, vw, vo] 25 (0, 0))
  below : Below w.heap.size w W
theorem ChkSt.step {w W W' : World} {va vw vo : Value} (h : ChkSt w W va vw vo) (hb : Below W.heap.size W W') : ChkSt w W' va vw vo :=
  ⟨(hb.block _ (blk_lt h.lay)).trans h.lay, below_then h.below h.below.size hb⟩
theorem ChkSt.alloc {w W : World} {va vw vo : Value} (h : ChkSt w W va vw vo) (o : Obj) : ChkSt w (W.alloc o) va vw vo := h.step ((Grew.refl W).alloc o).below
def ChkS (w : World) (va vw vo : Value) (W : World) : Prop :=
  W.cell? ⟨w.heap.size, 0, none⟩ = some va ∧ W.cell? ⟨w.heap.size, 1, none⟩ = some vw ∧ W.cell? ⟨w.heap.size, 2, none⟩ = some vo ∧ ChkSt w W va vw vo
theorem ChkSt.all {w W : World} {va vw vo : Value} (h : ChkSt w W va vw vo) : ChkS w va vw vo W := ⟨blk_cell h.lay 0, blk_cell h.lay 1, blk_cell h.lay 2, h⟩

theorem ChkS.st {w W : World} {va vw vo : Value} (h : ChkS w va vw vo W) : ChkSt w W va vw vo := h.2.2.2
theorem ChkS.keep {w W W' : World} {va vw vo : Value} (hb : Below W.heap.size W W') (h : ChkS w va vw vo W) : ChkS w va vw vo W' := (h.st.step hb).all
theorem ChkS.keepA {w W : World} {va vw vo : Value} {o : Obj} (h : ChkS w va vw vo W) : ChkS w va vw vo (W.alloc o) := (h.st.alloc o).all

set_option maxHeartbeats 4000000 in
theorem layer_Check (l : Ly) (va vw vo : Value) (w : World) (hE : Env w) (hr : RdL w va vw vo l) (hl : Lb l) :
    Calls Tryz.prog 82 #[.agg #[va, vw, vo]] w fun e w' => e = .returned (.int .i64 (checkL l)) ∧ Below w.heap.size w w' := by
  have hrb := fun W (hb : Below w.heap.size w W) => hr.below hb
  have HR := Aside0.mk hrb
  have hEb : ∀ W, Below w.heap.size w W → Env W := fun W hb => hE.below hb
  obtain ⟨A, ca, rfl, hca, hCa⟩ := hr.1
  obtain ⟨Wp, cw, rfl, hcw, hCw⟩ := hr.2.1
  obtain ⟨Op, co, rfl, hco, hCo⟩ := hr.2.2
  have HE := Aside0.mk hEb
  have HL := Aside0.mk hl
  have HCa := Aside0.mk hCa
  have hna := hl.na
  have hnw := hl.nw
  have hno := hl.no
  clear hE hEb hCa hCw hCo hl hr hrb
  have hadds : ∀ W, Below w.heap.size w W → Calls Tryz.prog 141 #[.slice A l.adds.length ca] W fun e w' => e = .returned (.int .i64 (addsE ⟨#[]⟩ [] l.adds)) ∧ Below W.heap.size W w' :=
    fun W hb => layer_adds l.adds _ W (HE.out W hb) (HR.out W hb).1 (fun n hn => by have := HL.out.a n hn; omega) (by omega)
  have hmw : ∀ W, Below w.heap.size w W → Calls Tryz.prog 142 #[.slice Wp l.whites.length cw, .int .i64 1] W fun e w' => e = .returned (.int .i64 (markersE 1 none l.whites)) ∧ Below W.heap.size W w' :=
    fun W hb => layer_markers 1 (.inl rfl) l.whites _ W (HE.out W hb) (HR.out W hb).2.1 (fun n hn => by have := HL.out.w n hn; omega) (by omega)
  have hmo : ∀ W, Below w.heap.size w W → Calls Tryz.prog 142 #[.slice Op l.opaques.length co, .int .i64 2] W fun e w' => e = .returned (.int .i64 (markersE 2 none l.opaques)) ∧ Below W.heap.size W w' :=
    fun W hb => layer_markers 2 (.inr rfl) l.opaques _ W (HE.out W hb) (HR.out W hb).2.2 (fun n hn => by have := HL.out.o n hn; omega) (by omega)
  have HAd := Aside0.mk hadds
  have HMw := Aside0.mk hmw
  have HMo := Aside0.mk hmo
  clear hadds hmw hmo
  obtain ⟨xe, hxe⟩ : ∃ xe, xe = addsE ⟨#[]⟩ [] l.adds := ⟨_, rfl⟩
  obtain ⟨ye, hye⟩ : ∃ ye, ye = markersE 1 none l.whites := ⟨_, rfl⟩
  obtain ⟨ze, hze⟩ : ∃ ze, ze = markersE 2 none l.opaques := ⟨_, rfl⟩
  have HEn := Aside0.mk (show entsE l = orE xe ye ze by unfold entsE; rw [hxe, hye, hze])
  rw [← hxe] at HAd
  rw [← hye] at HMw
  rw [← hze] at HMo
  clear hxe hye hze
  obtain ⟨na, hna0⟩ : ∃ n, n = l.adds.length := ⟨_, rfl⟩
  obtain ⟨nw, hnw0⟩ : ∃ n, n = l.whites.length := ⟨_, rfl⟩
  obtain ⟨no, hno0⟩ : ∃ n, n = l.opaques.length := ⟨_, rfl⟩
  rw [← hna0] at hna hca HR HAd ⊢
  rw [← hnw0] at hnw hcw HR HMw ⊢
  rw [← hno0] at hno hco HR HMo ⊢
  have HNa := Aside0.mk hna0
  have HTot := Aside0.mk (show l.adds.length + l.whites.length + l.opaques.length = na + nw + no by rw [hna0, hnw0, hno0])
  clear hna0 hnw0 hno0
  by_cases htot : 4096 < na + nw + no
  · have HF := Aside0.mk (show checkL l = 7 by unfold checkL; rw [if_pos (by rw [HTot.out]; exact htot)])
    go_enter Tryz.func82, Tryz.ntmps82
    go_wp2_with fail
    go_ret
    exact ⟨by rw [HF.out]; rfl, ((Grew.refl w).alloc _).below⟩
  have HF := Aside0.mk (show checkL l = if entsE l = 0 then (if filesB l = true then (if 4194304 < bytesN l.adds then 7 else 0) else 6) else entsE l by unfold checkL; rw [if_neg (by rw [HTot.out]; exact htot)])
  go_enter Tryz.func82, Tryz.ntmps82
  go_wp2_with fail
  have hst : ChkS w (.slice A na ca) (.slice Wp nw cw) (.slice Op no co) (w.alloc (.cells #[.slice A na ca, .slice Wp nw cw, .slice Op no co] 25)).drew := ChkSt.all ⟨heap_alloc_new w _, ((Grew.refl w).alloc _).drew.below⟩
  go_region_held3 (fun W => W.cell? ⟨w.heap.size, 0, none⟩ = some (.slice A na ca) ∧ W.cell? ⟨w.heap.size, 1, none⟩ = some (.slice Wp nw cw) ∧ W.cell? ⟨w.heap.size, 2, none⟩ = some (.slice Op no co) ∧ ChkSt w W (.slice A na ca) (.slice Wp nw cw) (.slice Op no co))
    (first | assumption | exact hst | (apply ChkS.keep; assumption; assumption) | (apply ChkS.keepA; assumption))
    (first
      | (go_at_call 141; refine (HAd.out _ ?_).mono ?_; (refine (ChkS.st (va := .slice A na ca) (vw := .slice Wp nw cw) (vo := .slice Op no co) ?_).below; assumption); rintro e w' ⟨rfl, hb⟩)
      | (go_at_call_of 142 (Value.slice Wp nw cw); refine (HMw.out _ ?_).mono ?_; (refine (ChkS.st (va := .slice A na ca) (vw := .slice Wp nw cw) (vo := .slice Op no co) ?_).below; assumption); rintro e w' ⟨rfl, hb⟩)
      | (go_at_call_of 142 (Value.slice Op no co); refine (HMo.out _ ?_).mono ?_; (refine (ChkS.st (va := .slice A na ca) (vw := .slice Wp nw cw) (vo := .slice Op no co) ?_).below; assumption); rintro e w' ⟨rfl, hb⟩)
      | (go_at_call 140; refine (cmp_Or xe ye ze _ _ (blk_cell (heap_alloc_new _ _) 0) (blk_cell (heap_alloc_new _ _) 1) (blk_cell (heap_alloc_new _ _) 2)).mono ?_; rintro e w' ⟨rfl, rfl⟩))
  rename_i _ _ _ _ hh
  have hch : ChkS w (.slice A na ca) (.slice Wp nw cw) (.slice Op no co) _ := hh
  have HS := Aside0.mk hch.st
  have c0 := hch.1
  clear hst hh
  clear hch
  obtain ⟨en, hen⟩ : ∃ en, en = orE xe ye ze := ⟨_, rfl⟩
  rw [← hen] at HEn ⊢
  clear hen
  generalize World.alloc _ (Obj.cells #[Value.int IntKind.i64 xe, Value.int IntKind.i64 ye, Value.int IntKind.i64 ze] 28) = w2 at HS c0 ⊢
  by_cases he : en = 0
  rotate_left
  · have HZ := Aside0.mk (show checkL l = en by rw [HF.out, if_neg (by rw [HEn.out]; exact he), HEn.out])
    have heb : (en != 0) = true := by simpa using he
    clear he
    go_wp2_with fail
    go_ret
    exact ⟨by rw [HZ.out]; rfl, HS.out.below⟩
  subst he
  have HF2 := Aside0.mk (show checkL l = if filesB l = true then (if 4194304 < bytesN l.adds then 7 else 0) else 6 by rw [HF.out, if_pos HEn.out])
  clear HF HEn
  go_wp2_with fail
  go_loopw [4, 36] (fun b i wr => ∃ (k s : Nat), k ≤ na ∧ i = .int .i64 k ∧ b = .int .i64 s ∧ s ≤ k * 1000000000 ∧ Aside0 (s + bytesN (l.adds.drop k) = bytesN l.adds) ∧ Aside0 (ChkSt w wr (.slice A na ca) (.slice Wp nw cw) (.slice Op no co)))
    (fun b i _ => na - (intOf i).toNat)
  case atStart => exact ⟨0, 0, Nat.zero_le _, rfl, rfl, by omega, ⟨by simp⟩, HS⟩
  case round =>
    clear c0 HS
    obtain ⟨k, s, hk, rfl, rfl, hs, HD, HS⟩ := hrel
    by_cases hlt : k < na
    · have hk2 : k < l.adds.length := by rw [← HNa.out]; exact hlt
      obtain ⟨ad, rfl, k0, k1, k2, k3, k4⟩ := C_node (Kd.C_below HCa.out HS.out.below) k hk2
      have hp1 := HL.out.d (l.adds.getD k Nd.zero) (getD_mem _ _ hk2)
      have HDr := Aside0.mk (drop_node l.adds k hk2)
      obtain ⟨x, hx0⟩ : ∃ x, x = l.adds.getD k Nd.zero := ⟨_, rfl⟩
      rw [← hx0] at hp1 HDr k0 k1 k2 k3 k4
      clear hx0 hk2
      have hkm : k * 1000000000 ≤ 100000 * 1000000000 := Nat.mul_le_mul_right _ (by omega)
      have hkk : s + x.data.size ≤ (k + 1) * 1000000000 := by omega
      go_wp2_with fail
      go_roundw
      case rel => exact ⟨k + 1, s + x.data.size, by omega, by go_num, by go_num, hkk, ⟨by
        have := HD.out
        rw [HDr.out] at this
        unfold bytesN at this ⊢
        rw [List.map_cons, List.sum_cons] at this
        omega⟩, ⟨HS.out.alloc _⟩⟩
      case measure => simp [intOf]; omega
    obtain rfl : na = k := by omega
    have HB := Aside0.mk (show bytesN l.adds = s by
      have := HD.out
      rw [List.drop_of_length_le (by rw [← HNa.out]; exact Nat.le_refl _)] at this
      unfold bytesN at this ⊢
      simpa using this.symm)
    obtain ⟨c0, c1, c2, _⟩ := HS.out.all
    clear hlt hk HD
    go_wp2_with fail
    refine (layer_files l _ _ _ _ (HE.out _ HS.out.below) (HR.out _ HS.out.below) HL.out).mono ?_
    rintro e2 w3 ⟨rfl, hb3⟩
    have HB3 := Aside0.mk (below_then HS.out.below HS.out.below.size hb3)
    clear hb3 c0 c1 c2
    cases hf : filesB l
    · have HZ := Aside0.mk (show checkL l = 6 by rw [HF2.out, hf]; rfl)
      clear hf
      go_wp2_with fail
      go_ret
      exact ⟨by rw [HZ.out]; rfl, HB3.out⟩
    · by_cases hby : 4194304 < s
      · have HZ := Aside0.mk (show checkL l = 7 by rw [HF2.out, if_pos hf, if_pos (by rw [HB.out]; exact hby)])
        clear hf
        go_wp2_with fail
        go_ret
        exact ⟨by rw [HZ.out]; rfl, HB3.out⟩
      · have HZ := Aside0.mk (show checkL l = 0 by rw [HF2.out, if_pos hf, if_neg (by rw [HB.out]; exact hby)])
        clear hf
        go_wp2_with fail
        go_ret
        exact ⟨by rw [HZ.out]; rfl, HB3.out⟩

end Go.Proofs.YtbkbpdpegiekhaaGreatDoor
