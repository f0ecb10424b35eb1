/- The reference's layers: Check. -/
import Derived.Test.YtbkbpdpegiekhaaGreatDoorF14
import Derived.Test.YtbkbpdpegiekhaaGreatDoorF9
import Derived.Test.YtbkbpdpegiekhaaGreatDoorF7
set_option linter.unusedVariables false
set_option linter.unusedSimpArgs false
namespace Go.Proofs.YtbkbpdpegiekhaaGreatDoor
open Go.RowKit Go.Proofs.YtbkbpdpegiekhaaGreatDoorW.PrintWords Mo

theorem C_nodes {w : World} {A : Option Addr} {xs : List Nd} (h : kN.C w A xs.length xs) : xs = [] ∨ ∃ b off, A = some ⟨b, off, none⟩ ∧ b < w.heap.size ∧
    ∀ j (hj : j < xs.length), w.cell? ⟨b, off + j * 5, none⟩ = some (.string xs[j].path) ∧ w.cell? ⟨b, off + j * 5 + 1, none⟩ = some (.bool xs[j].dir) ∧ w.cell? ⟨b, off + j * 5 + 2, none⟩ = some (.string xs[j].data) ∧
      w.cell? ⟨b, off + j * 5 + 3, none⟩ = some (.int .i64 xs[j].mode) ∧ w.cell? ⟨b, off + j * 5 + 4, none⟩ = some (.int .i64 xs[j].time) := by
  rcases C_flat h (by decide) with h | ⟨b, off, e, hb, hc⟩
  · exact .inl h
  · refine .inr ⟨b, off, e, hb, fun j hj => ?_⟩
    obtain ⟨c, hlc, hk, hh⟩ := hc j hj
    have hs : kN.sz = 5 := rfl
    rw [hs] at hh
    have hk : kN.K w xs[j] c := hk
    obtain rfl := kN_open hk
    have e : ∀ i, off + (j * 5 + i) = off + j * 5 + i := fun i => by omega
    exact ⟨by have := hh 0 _ rfl; rw [e] at this; exact this, by have := hh 1 _ rfl; rw [e] at this; exact this, by have := hh 2 _ rfl; rw [e] at this; exact this, by have := hh 3 _ rfl; rw [e] at this; exact this, by have := hh 4 _ rfl; rw [e] at this; exact this⟩

/-- What is kept while the Adds are gone over: s: the layer's block; the folded ones. -/
structure RcSt (w W : World) (va vw vo v : Value) (seen : List S) : Prop where
  st : ChkSt w W va vw vo
  own : Ow Kd.string 9 W w.heap.size v seen
theorem RcSt.step {w W W' : World} {va vw vo v : Value} {seen : List S} (h : RcSt w W va vw vo v seen) (hb : Below W.heap.size W W') : RcSt w W' va vw vo v seen := ⟨h.st.step hb, h.own.below flat_string hb⟩
def lastOf (l : List Nd) (k : Nat) : S := match k with
  | 0 => ⟨#[]⟩
  | j + 1 => (l.getD j Nd.zero).path

set_option maxHeartbeats 32000000 in
set_option maxRecDepth 100000 in
theorem ref_Check (l : Ly) (va vw vo : Value) (w : World) (hr : RdL w va vw vo l) (hl : Lb l) :
    Calls Tryz.prog 26 #[.agg #[va, vw, vo]] w fun e w' => e = .returned (.int .i64 (checkL l)) ∧ Below w.heap.size w w' := by
  have hrb := fun W (hb : Below w.heap.size w W) => hr.below hb
  have HR := Aside0.mk hrb
  obtain ⟨A, ca, rfl, hca, hCa⟩ := hr.1
  obtain ⟨Wp, cw, rfl, hcw, hCw⟩ := hr.2.1
  obtain ⟨Op, co, rfl, hco, hCo⟩ := hr.2.2
  have HL := Aside0.mk hl
  have HCa := Aside0.mk hCa
  have hna := hl.na
  have hnw := hl.nw
  have hno := hl.no
  clear hCw hCo hCa hl hr hrb
  obtain ⟨na, hna0⟩ : ∃ n, n = l.adds.length := ⟨_, rfl⟩
  obtain ⟨nw, hnw0⟩ : ∃ n, n = l.whites.length := ⟨_, rfl⟩
  obtain ⟨no, hno0⟩ : ∃ n, n = l.opaques.length := ⟨_, rfl⟩
  have HF := Aside0.mk (show checkL l = if 4096 < na + nw + no then 7 else if entsE l = 0 then (if filesB l = true then (if 4194304 < bytesN l.adds then 7 else 0) else 6) else entsE l by unfold checkL; rw [hna0, hnw0, hno0])
  rw [← hna0] at hna hca HR ⊢
  rw [← hnw0] at hnw hcw HR ⊢
  rw [← hno0] at hno hco HR ⊢
  have HNa := Aside0.mk hna0
  clear hna0 hnw0 hno0
  have hst : ChkSt w (w.alloc (.cells #[.slice A na ca, .slice Wp nw cw, .slice Op no co] 25)) (.slice A na ca) (.slice Wp nw cw) (.slice Op no co) := ⟨heap_alloc_new w _, ((Grew.refl w).alloc _).below⟩
  have HS0 := Aside0.mk hst
  clear hst
  by_cases htot : 4096 < na + nw + no
  · have HRs := Aside0.mk (show checkL l = 7 by rw [HF.out, if_pos htot])
    have htb : (4096 : Int) < na + nw + no := by omega
    go_enter Tryz.func26, Tryz.ntmps26
    go_wp2_with fail
    go_ret
    exact ⟨by rw [HRs.out]; rfl, HS0.out.below⟩
  have htb : ¬ (4096 : Int) < na + nw + no := by omega
  have HF2 := Aside0.mk (show checkL l = if entsE l = 0 then (if filesB l = true then (if 4194304 < bytesN l.adds then 7 else 0) else 6) else entsE l by rw [HF.out, if_neg htot])
  clear HF
  go_enter Tryz.func26, Tryz.ntmps26
  go_wp2_with fail
  go_loopw [3, 4] (fun v i wr => ∃ (k : Nat) (seen : List S), k ≤ na ∧ i = .int .i64 k ∧ seen.length ≤ k ∧ Aside0 (addsE (lastOf l.adds k) seen (l.adds.drop k) = addsE ⟨#[]⟩ [] l.adds ∧ (k = 0 ∨ lastOf l.adds k ≠ ⟨#[]⟩)) ∧ Aside0 (RcSt w wr (.slice A na ca) (.slice Wp nw cw) (.slice Op no co) v seen))
    (fun _ i _ => na - (intOf i).toNat)
  case atStart => exact ⟨0, [], Nat.zero_le _, rfl, Nat.le_refl _, ⟨rfl, .inl rfl⟩, ⟨HS0.out, Ow.nil _ _ _ _⟩⟩
  case round =>
    clear HS0
    obtain ⟨k, seen, hk, rfl, hsl, HA, HS⟩ := hrel
    have c0 := blk_cell HS.out.st.lay 0
    by_cases hlt : k < na
    · have hk2 : k < l.adds.length := by rw [← HNa.out]; exact hlt
      have hCw := Kd.C_below HCa.out HS.out.st.below
      rcases C_nodes hCw with h0 | ⟨b, off, rfl, hbl, hcell⟩
      · rw [h0] at hk2; cases hk2
      obtain ⟨q0, q1, q2, q3, q4⟩ := hcell k hk2
      have HCell := Aside0.mk (fun W (hb : Below wr.heap.size wr W) j (hj : j < l.adds.length) => pw_cell_below hb (hcell j hj).1)
      have hps := HL.out.a _ (List.getElem_mem hk2)
      have HD := Aside0.mk (List.drop_eq_getElem_cons hk2)
      have HLast := Aside0.mk (show lastOf l.adds (k + 1) = l.adds[k].path by show (l.adds.getD k Nd.zero).path = _; rw [getD_get hk2])
      obtain ⟨x, hx⟩ : ∃ x, x = l.adds[k] := ⟨_, rfl⟩
      rw [← hx] at q0 q1 q2 q3 q4 hps HD HLast
      have hq0 := And.intro q0 (And.intro q1 (And.intro q2 (And.intro q3 q4)))
      have HPs := Aside0.mk hps
      clear hx hcell hCw hbl
      have hkk : (k : Int) < na := by omega
      have HSt := Aside0.mk (HS.out.step ((Grew.refl wr).alloc (.cells #[.string x.path, .bool x.dir, .string x.data, .int .i64 x.mode, .int .i64 x.time] 46)).below)
      obtain ⟨sv, ns, cs, rfl⟩ := HS.out.own.sl0
      --ROUND
      have HErr := Aside0.mk (show ∀ c : Int, c ≠ 0 → addE x (lastOf l.adds k) seen = c → checkL l = c from fun c h0 h => by
        have h1 : addsE ⟨#[]⟩ [] l.adds = c := by
          rw [← HA.out.1, HD.out]
          show (if _ then _ else _) = _
          rw [if_neg (by rw [h]; exact h0), h]
        have h2 : entsE l = c := by unfold entsE orE; rw [h1, if_neg h0]
        rw [HF2.out, h2, if_neg h0])
      have HGo := Aside0.mk (show addE x (lastOf l.adds k) seen = 0 → addsE x.path (seen ++ [pFold x.path]) (l.adds.drop (k + 1)) = addsE ⟨#[]⟩ [] l.adds from fun h => by
        rw [← HA.out.1, HD.out]
        show _ = (if _ then _ else _)
        rw [if_pos h])
      have HAd := Aside0.mk (addE_ref x (lastOf l.adds k) seen)
      clear c0 q0 q1 q2 q3 q4
      have c0 := blk_cell HS.out.st.lay 0
      have hq := hq0
      obtain ⟨q0, q1, q2, q3, q4⟩ := hq
      clear hq0
      go_wp2_with fail
      refine (ref_May x _ (by omega)).mono ?_
      rintro e1 w1 ⟨rfl, hb1⟩
      have HS1 := Aside0.mk (HSt.out.step hb1)
      have HN1 := Aside0.mk ((hb1.block _ (by simp)).trans (heap_alloc_new wr (.cells #[.string x.path, .bool x.dir, .string x.data, .int .i64 x.mode, .int .i64 x.time] 46)))
      have HB1 := Aside0.mk (below_then ((Grew.refl wr).alloc (.cells #[.string x.path, .bool x.dir, .string x.data, .int .i64 x.mode, .int .i64 x.time] 46)).below ((Grew.refl wr).alloc (.cells #[.string x.path, .bool x.dir, .string x.data, .int .i64 x.mode, .int .i64 x.time] 46)).below.size hb1)
      clear hb1 c0 q0 q1 q2 q3 q4 HSt HS
      cases h1 : pRight x.path
      · have HRs := Aside0.mk (HErr.out 5 (by decide) (by rw [HAd.out, if_pos h1]))
        clear h1 HErr HGo HAd
        go_wp2_with fail
        go_ret
        exact ⟨by rw [HRs.out]; rfl, HS1.out.st.below⟩
      cases h2 : okRest x
      · have HRs := Aside0.mk (HErr.out 1 (by decide) (by rw [HAd.out, if_neg (by rw [h1]; decide), if_pos h2]))
        clear h1 h2 HErr HGo HAd
        go_wp2_with fail
        go_ret
        exact ⟨by rw [HRs.out]; rfl, HS1.out.st.below⟩
      have HR1 := Aside0.mk h1
      have HAd2 := Aside0.mk (show addE x (lastOf l.adds k) seen = if (pParts x.path).any begins = true then 11 else if pastE (lastOf l.adds k) x.path = true then 2 else if pFold x.path ∈ seen then 6 else 0 by rw [HAd.out, if_neg (by rw [h1]; decide), if_neg (by rw [h2]; decide)])
      clear h1 h2 HAd
      have n0 := blk_cell HN1.out 0
      go_wp2_with fail
      refine (ref_Clear x.path _ (by omega)).mono ?_
      rintro e2 w2 ⟨rfl, hb2⟩
      have HS2 := Aside0.mk (HS1.out.step hb2)
      have HN2 := Aside0.mk ((hb2.block _ (blk_lt HN1.out)).trans HN1.out)
      have HB2 := Aside0.mk (below_then HB1.out HB1.out.size hb2)
      clear hb2 n0 HS1 HN1 HB1
      cases h3 : (pParts x.path).any begins
      rotate_left
      · have HRs := Aside0.mk (HErr.out 11 (by decide) (by rw [HAd2.out, if_pos h3]))
        clear h3 HErr HGo HAd2
        go_wp2_with fail
        go_ret
        exact ⟨by rw [HRs.out]; rfl, HS2.out.st.below⟩
      have HAd3 := Aside0.mk (show addE x (lastOf l.adds k) seen = if pastE (lastOf l.adds k) x.path = true then 2 else if pFold x.path ∈ seen then 6 else 0 by rw [HAd2.out, if_neg (by rw [h3]; decide)])
      clear h3 HAd2
      cases k with
      | zero =>
        have hpe : pastE (lastOf l.adds 0) x.path = false := rfl
        have HAd4 := Aside0.mk (show addE x (lastOf l.adds 0) seen = if pFold x.path ∈ seen then 6 else 0 by rw [HAd3.out, if_neg (by rw [hpe]; decide)])
        clear hpe HAd3
        go_wp2_with fail
        go_quiet (fail)
        rename_i nq
        obtain ⟨w3, hw3⟩ : ∃ w3, w3 = w2.drewN nq := ⟨_, rfl⟩
        rw [← hw3]
        have hbq : Below w2.heap.size w2 w3 := by rw [hw3]; exact pw_below_drewN (Below.refl _ _) _
        have HS3 := Aside0.mk (HS2.out.step hbq)
        have HN3 := Aside0.mk ((hbq.block _ (blk_lt HN2.out)).trans HN2.out)
        clear hw3 hbq HS2 HN2 HB2
        have n0 := blk_cell HN3.out 0
        go_wp2_with fail
        refine (ref_Fold x.path _ (by omega)).mono ?_
        rintro e4 w4 ⟨rfl, hb4⟩
        have HS4 := Aside0.mk (HS3.out.step hb4)
        clear hb4 n0 HS3 HN3
        obtain ⟨f, hf⟩ : ∃ f, f = pFold x.path := ⟨_, rfl⟩
        rw [← hf] at HAd4 HGo ⊢
        clear hf
        have HCs := Aside0.mk HS4.out.own.rd
        obtain ⟨A5, c5, e5, l5, hC5⟩ := HCs.out
        injection e5 with e5a e5b e5c
        subst e5a e5b e5c
        have HC5 := Aside0.mk hC5
        clear hC5 HCs
        obtain ⟨ns, hns⟩ : ∃ ns, ns = seen.length := ⟨_, rfl⟩
        rw [← hns] at l5 hsl HS4 ⊢
        have HNs := Aside0.mk hns
        clear hns
        go_wp2_with fail
        go_loop [9] (fun i => ∃ m : Nat, m ≤ ns ∧ i = .int .i64 m ∧ Aside0 (f ∉ seen.take m)) (fun i => ns - (intOf i).toNat)
        case atStart => exact ⟨0, Nat.zero_le _, rfl, ⟨by simp⟩⟩
        case round =>
          obtain ⟨m, hm, rfl, HM⟩ := hrel
          by_cases hlm : m < ns
          · have hm2 : m < seen.length := by rw [← HNs.out]; exact hlm
            obtain ⟨ad, rfl, k0⟩ := C_str HC5.out m hm2
            rw [getD_get hm2] at k0
            have HT := Aside0.mk (show seen[m] ≠ f → f ∉ seen.take (m + 1) from fun h => by
              rw [List.take_succ_eq_append_getElem hm2]
              intro h2
              rcases List.mem_append.1 h2 with h2 | h2
              · exact HM.out h2
              · rw [List.mem_singleton] at h2; exact h h2.symm)
            have HF6 := Aside0.mk (show seen[m] = f → f ∈ seen from fun h => by rw [← h]; exact List.getElem_mem hm2)
            obtain ⟨y, hy⟩ : ∃ y, y = seen[m] := ⟨_, rfl⟩
            rw [← hy] at k0 HT HF6
            clear hy hm2 HM
            have hmm : (m : Int) < ns := by omega
            by_cases he : y = f
            · have hb : (y.toList == f.toList) = true := by rw [str_eqb]; exact decide_eq_true he
              have HRs := Aside0.mk (HErr.out 6 (by decide) (by rw [HAd4.out, if_pos (HF6.out he)]))
              clear HErr HGo HAd4 HT HF6 he
              go_wp2_with fail
              go_ret
              exact ⟨by rw [HRs.out]; rfl, HS4.out.st.below⟩
            · have hb : (y.toList == f.toList) = false := by rw [str_eqb]; exact decide_eq_false he
              have HT2 := Aside0.mk (HT.out he)
              clear HT HF6 he
              go_wp2_with fail
              go_round
              case rel => exact ⟨m + 1, by omega, by go_num, HT2⟩
              case measure => simp [intOf] <;> omega
          · obtain rfl : ns = m := by omega
            have HNo2 := Aside0.mk (show f ∉ seen by
              have := HM.out
              rw [List.take_of_length_le (by rw [← HNs.out]; exact Nat.le_refl _)] at this
              exact this)
            have HGo2 := Aside0.mk (HGo.out (by rw [HAd4.out, if_neg HNo2.out]))
            have hsz := HS4.out.st.below.size
            have hlen : seen.length ≤ 100000 := by rw [← HNs.out]; omega
            clear hlm HM HErr HGo HAd4
            go_wp2_with (at_builtin; refine Ow.app Kd.string flat_string _ w.heap.size rfl _ _ 23 9 _ 16 rfl Tryz.underlying23 info9 rfl (by decide) _ seen [f] rfl (some ⟨w4.heap.size, 0, none⟩) 1 rfl ?hC ?hO ?hB ?hL ?_; (case hC => exact C_lit flat_string _ 9 f _ rfl _ rfl); (case hO => exact HS4.out.own.below flat_string ((Grew.refl w4).alloc _).below); (case hB => simp; omega); (case hL => simp; omega); intro v1 w5 ho hgg hat; have HO5 := Aside0.mk ho; have HS5 := Aside0.mk (show ChkSt w w5 (.slice (some ⟨b, off, none⟩) na ca) (.slice Wp nw cw) (.slice Op no co) from ⟨(hgg.block _ (Nat.lt_of_lt_of_le (blk_lt HS4.out.st.lay) (by simp)) (fun e => HS4.out.own.ne_type HS4.out.st.lay (by decide) e.symm)).trans (blk_lt' HS4.out.st.lay _), Below.grown (HS4.out.st.below.alloc hsz _) hgg (by simp; omega) (fun j hj => HS4.out.own.base_le j hj)⟩); clear ho hgg hat)
            go_roundw
            case rel => exact ⟨0 + 1, seen ++ [f], by omega, by go_num, by rw [List.length_append, List.length_singleton, ← HNs.out]; omega, ⟨by rw [HLast.out]; exact HGo2.out, .inr (by rw [HLast.out]; exact bytes_nil HR1.out)⟩, ⟨HS5.out, HO5.out⟩⟩
            case measure => simp [intOf] <;> omega
      | succ j =>
        have hjl : j < l.adds.length := by omega
        have k1 := HCell.out _ HB2.out j hjl
        have HLj := Aside0.mk (show lastOf l.adds (j + 1) = l.adds[j].path by show (l.adds.getD j Nd.zero).path = _; rw [getD_get hjl])
        have hpq := HL.out.a _ (List.getElem_mem hjl)
        obtain ⟨q, hq⟩ : ∃ q, q = l.adds[j].path := ⟨_, rfl⟩
        rw [← hq] at k1 HLj hpq
        clear hq hjl
        have hlq : q ≠ ⟨#[]⟩ := by
          rcases HA.out.2 with h | h
          · omega
          · rw [HLj.out] at h; exact h
        rw [HLj.out] at HAd3
        have hpe : pastE q x.path = decide (0 ≤ pCmp q x.path) := by unfold pastE; rw [show (q != ⟨#[]⟩) = true from by simpa using hlq]; rfl
        rw [hpe] at HAd3
        have hrc := fun W => ref_Compare q x.path W (by omega) (by omega)
        have hrr := pCmp_range q x.path
        obtain ⟨c1, hc1⟩ : ∃ c1, c1 = pCmp q x.path := ⟨_, rfl⟩
        rw [← hc1] at HAd3 hrr
        have HRC := Aside0.mk (show ∀ W, Calls Tryz.prog 92 #[.string q, .string x.path] W fun e w' => e = .returned (.int .i64 c1) ∧ Below W.heap.size W w' by rw [hc1]; exact hrc)
        clear hc1 hrc hpe hlq
        have n0 := blk_cell HN2.out 0
        have c0 := blk_cell HS2.out.st.lay 0
        go_wp2_with fail
        have hwr1 : IntKind.i64.wrap (↑j + 1 - 1) = (j : Int) := by rw [show ((j : Int) + 1 - 1) = j from by omega]; exact IntWalk.i64_in _ (by omega)
        have hwr2 : IntKind.i64.wrap (j : Int) = (j : Int) := IntWalk.i64_in _ (by omega)
        have hj0 : (0 : Int) ≤ j := by omega
        have hj1 : (j : Int) < na := by omega
        have hKp := Aside0.mk (show ∀ W, Below w2.heap.size w2 W → (W.cell? ⟨w.heap.size, 0, none⟩ = some (.slice (some ⟨b, off, none⟩) na ca) ∧ W.cell? ⟨b, off + j * 5, none⟩ = some (.string q) ∧ W.cell? ⟨wr.heap.size, 0, none⟩ = some (.string x.path) ∧ Below w2.heap.size w2 W) from fun W hb => ⟨pw_cell_below hb c0, pw_cell_below hb k1, pw_cell_below hb n0, hb⟩)
        have hst0 := hKp.out w2.drew ((Grew.refl w2).drew).below
        clear hps hpq hrr c0 n0 k1
        go_region_held3 (fun W => W.cell? ⟨w.heap.size, 0, none⟩ = some (.slice (some ⟨b, off, none⟩) na ca) ∧ W.cell? ⟨b, off + j * 5, none⟩ = some (.string q) ∧ W.cell? ⟨wr.heap.size, 0, none⟩ = some (.string x.path) ∧ Below w2.heap.size w2 W)
          (first | exact hst0 | (apply hKp.out; assumption))
          (first
            | (go_at_call 92; refine (HRC.out _).mono ?_; rintro e w' ⟨rfl, hb⟩; have hb5 := below_then hst0.2.2.2 hst0.2.2.2.size hb))
        rename_i w3 _ _ hh
        have hbq := hh.2.2.2
        have HS3 := Aside0.mk (HS2.out.step hbq)
        have HN3 := Aside0.mk ((hbq.block _ (blk_lt HN2.out)).trans HN2.out)
        have hps := HPs.out
        clear hh hbq hst0 hwr1 hwr2 hKp HRC HS2 HN2 HB2
        by_cases hcc : 0 ≤ c1
        · have HRs := Aside0.mk (HErr.out 2 (by decide) (by rw [HLj.out, HAd3.out, if_pos (decide_eq_true hcc)]))
          clear HErr HGo HAd3
          go_wp2_with fail
          go_ret
          exact ⟨by rw [HRs.out]; rfl, HS3.out.st.below⟩
        have HAd4 := Aside0.mk (show addE x (lastOf l.adds (j + 1)) seen = if pFold x.path ∈ seen then 6 else 0 by rw [HLj.out, HAd3.out, if_neg (by rw [decide_eq_false hcc]; decide)])
        clear HAd3
        have n0 := blk_cell HN3.out 0
        go_wp2_with fail
        refine (ref_Fold x.path _ (by omega)).mono ?_
        rintro e4 w4 ⟨rfl, hb4⟩
        have HS4 := Aside0.mk (HS3.out.step hb4)
        clear hb4 n0 HS3 HN3
        obtain ⟨f, hf⟩ : ∃ f, f = pFold x.path := ⟨_, rfl⟩
        rw [← hf] at HAd4 HGo ⊢
        clear hf
        have HCs := Aside0.mk HS4.out.own.rd
        obtain ⟨A5, c5, e5, l5, hC5⟩ := HCs.out
        injection e5 with e5a e5b e5c
        subst e5a e5b e5c
        have HC5 := Aside0.mk hC5
        clear hC5 HCs
        obtain ⟨ns, hns⟩ : ∃ ns, ns = seen.length := ⟨_, rfl⟩
        rw [← hns] at l5 hsl HS4 ⊢
        have HNs := Aside0.mk hns
        clear hns
        go_wp2_with fail
        go_loop [9] (fun i => ∃ m : Nat, m ≤ ns ∧ i = .int .i64 m ∧ Aside0 (f ∉ seen.take m)) (fun i => ns - (intOf i).toNat)
        case atStart => exact ⟨0, Nat.zero_le _, rfl, ⟨by simp⟩⟩
        case round =>
          obtain ⟨m, hm, rfl, HM⟩ := hrel
          by_cases hlm : m < ns
          · have hm2 : m < seen.length := by rw [← HNs.out]; exact hlm
            obtain ⟨ad, rfl, k0⟩ := C_str HC5.out m hm2
            rw [getD_get hm2] at k0
            have HT := Aside0.mk (show seen[m] ≠ f → f ∉ seen.take (m + 1) from fun h => by
              rw [List.take_succ_eq_append_getElem hm2]
              intro h2
              rcases List.mem_append.1 h2 with h2 | h2
              · exact HM.out h2
              · rw [List.mem_singleton] at h2; exact h h2.symm)
            have HF6 := Aside0.mk (show seen[m] = f → f ∈ seen from fun h => by rw [← h]; exact List.getElem_mem hm2)
            obtain ⟨y, hy⟩ : ∃ y, y = seen[m] := ⟨_, rfl⟩
            rw [← hy] at k0 HT HF6
            clear hy hm2 HM
            have hmm : (m : Int) < ns := by omega
            by_cases he : y = f
            · have hb : (y.toList == f.toList) = true := by rw [str_eqb]; exact decide_eq_true he
              have HRs := Aside0.mk (HErr.out 6 (by decide) (by rw [HAd4.out, if_pos (HF6.out he)]))
              clear HErr HGo HAd4 HT HF6 he
              go_wp2_with fail
              go_ret
              exact ⟨by rw [HRs.out]; rfl, HS4.out.st.below⟩
            · have hb : (y.toList == f.toList) = false := by rw [str_eqb]; exact decide_eq_false he
              have HT2 := Aside0.mk (HT.out he)
              clear HT HF6 he
              go_wp2_with fail
              go_round
              case rel => exact ⟨m + 1, by omega, by go_num, HT2⟩
              case measure => simp [intOf] <;> omega
          · obtain rfl : ns = m := by omega
            have HNo2 := Aside0.mk (show f ∉ seen by
              have := HM.out
              rw [List.take_of_length_le (by rw [← HNs.out]; exact Nat.le_refl _)] at this
              exact this)
            have HGo2 := Aside0.mk (HGo.out (by rw [HAd4.out, if_neg HNo2.out]))
            have hsz := HS4.out.st.below.size
            have hlen : seen.length ≤ 100000 := by rw [← HNs.out]; omega
            clear hlm HM HErr HGo HAd4
            go_wp2_with (at_builtin; refine Ow.app Kd.string flat_string _ w.heap.size rfl _ _ 23 9 _ 16 rfl Tryz.underlying23 info9 rfl (by decide) _ seen [f] rfl (some ⟨w4.heap.size, 0, none⟩) 1 rfl ?hC ?hO ?hB ?hL ?_; (case hC => exact C_lit flat_string _ 9 f _ rfl _ rfl); (case hO => exact HS4.out.own.below flat_string ((Grew.refl w4).alloc _).below); (case hB => simp; omega); (case hL => simp; omega); intro v1 w5 ho hgg hat; have HO5 := Aside0.mk ho; have HS5 := Aside0.mk (show ChkSt w w5 (.slice (some ⟨b, off, none⟩) na ca) (.slice Wp nw cw) (.slice Op no co) from ⟨(hgg.block _ (Nat.lt_of_lt_of_le (blk_lt HS4.out.st.lay) (by simp)) (fun e => HS4.out.own.ne_type HS4.out.st.lay (by decide) e.symm)).trans (blk_lt' HS4.out.st.lay _), Below.grown (HS4.out.st.below.alloc hsz _) hgg (by simp; omega) (fun j hj => HS4.out.own.base_le j hj)⟩); clear ho hgg hat)
            go_roundw
            case rel => exact ⟨j + 1 + 1, seen ++ [f], by omega, by go_num, by rw [List.length_append, List.length_singleton, ← HNs.out]; omega, ⟨by rw [HLast.out]; exact HGo2.out, .inr (by rw [HLast.out]; exact bytes_nil HR1.out)⟩, ⟨HS5.out, HO5.out⟩⟩
            case measure => simp [intOf] <;> omega
    · obtain rfl : na = k := by omega
      have hz0 : addsE ⟨#[]⟩ [] l.adds = 0 := by
        rw [← HA.out.1, List.drop_of_length_le (by rw [← HNa.out]; exact Nat.le_refl _)]; rfl
      have HPr := Aside0.mk (addsE_zero _ _ _ hz0).2.2
      have HE0 := Aside0.mk (show entsE l = orE 0 (markersE 1 none l.whites) (markersE 2 none l.opaques) by unfold entsE; rw [hz0])
      have HC0 := Aside0.mk HS.out.st
      have c1 := blk_cell HS.out.st.lay 1
      obtain ⟨sv, ns, cs, rfl⟩ := HS.out.own.sl0
      clear hz0 HA HS hlt hsl
      go_wp2_with fail
      refine (ref_markers 1 (.inl rfl) l.whites _ _ (HR.out _ HC0.out.below).2.1 (fun s hs => by have := HL.out.w s hs; omega) (by have := HL.out.nw; omega)).mono ?_
      rintro e1 w1 ⟨rfl, hb1⟩
      have HC1 := Aside0.mk (HC0.out.step hb1)
      clear hb1 HC0 c1 c0
      by_cases hm1 : markersE 1 none l.whites = 0
      rotate_left
      · have HRs := Aside0.mk (show checkL l = markersE 1 none l.whites by
          have h2 : entsE l = markersE 1 none l.whites := by rw [HE0.out]; unfold orE; rw [if_pos rfl, if_neg hm1]
          rw [HF2.out, h2, if_neg hm1])
        have hb : (markersE 1 none l.whites != 0) = true := by simpa using hm1
        obtain ⟨y, hy⟩ : ∃ y, y = markersE 1 none l.whites := ⟨_, rfl⟩
        rw [← hy] at hb HRs ⊢
        clear hm1 hy
        go_wp2_with fail
        go_ret
        exact ⟨by rw [HRs.out]; rfl, HC1.out.below⟩
      have HE1 := Aside0.mk (show entsE l = markersE 2 none l.opaques by rw [HE0.out]; unfold orE; rw [if_pos rfl, if_pos hm1])
      rw [hm1]
      clear hm1 HE0
      have c2 := blk_cell HC1.out.lay 2
      go_wp2_with fail
      refine (ref_markers 2 (.inr rfl) l.opaques _ _ (HR.out _ HC1.out.below).2.2 (fun s hs => by have := HL.out.o s hs; omega) (by have := HL.out.no; omega)).mono ?_
      rintro e2 w2 ⟨rfl, hb2⟩
      have HC2 := Aside0.mk (HC1.out.step hb2)
      clear hb2 HC1 c2
      by_cases hm2 : markersE 2 none l.opaques = 0
      rotate_left
      · have HRs := Aside0.mk (show checkL l = markersE 2 none l.opaques by rw [HF2.out, HE1.out, if_neg hm2])
        have hb : (markersE 2 none l.opaques != 0) = true := by simpa using hm2
        obtain ⟨y, hy⟩ : ∃ y, y = markersE 2 none l.opaques := ⟨_, rfl⟩
        rw [← hy] at hb HRs ⊢
        clear hm2 hy
        go_wp2_with fail
        go_ret
        exact ⟨by rw [HRs.out]; rfl, HC2.out.below⟩
      have HF3 := Aside0.mk (show checkL l = if filesB l = true then (if 4194304 < bytesN l.adds then 7 else 0) else 6 by rw [HF2.out, HE1.out, hm2, if_pos rfl])
      rw [hm2]
      clear hm2 HE1 HF2
      go_wp2_with fail
      go_loopw [12] (fun i wr => ∃ k : Nat, k ≤ na ∧ i = .int .i64 k ∧ Aside0 ((l.adds.take k).any (blockB l) = false) ∧ Aside0 (ChkSt w wr (.slice A na ca) (.slice Wp nw cw) (.slice Op no co))) (fun i _ => na - (intOf i).toNat)
      case atStart => exact ⟨0, Nat.zero_le _, rfl, ⟨by simp⟩, HC2⟩
      case round =>
        clear HC2
        obtain ⟨k, hk, rfl, HA, HC⟩ := hrel
        have c0 := blk_cell HC.out.lay 0
        by_cases hlt : k < na
        rotate_left
        · obtain rfl : na = k := by omega
          have hfb : filesB l = true := by unfold filesB; rw [any_take_all HNa.out HA.out]; rfl
          have HF4 := Aside0.mk (show checkL l = if 4194304 < bytesN l.adds then 7 else 0 by rw [HF3.out, if_pos hfb])
          clear hfb hlt HA HF3
          go_wp2_with fail
          refine (ref_Bytes l.adds _ _ (HR.out _ HC.out.below).1 HL.out.d (by have := HL.out.na; omega)).mono ?_
          rintro e3 w3 ⟨rfl, rfl⟩
          by_cases hby : 4194304 < bytesN l.adds
          · have HRs := Aside0.mk (show checkL l = 7 by rw [HF4.out, if_pos hby])
            have hb : (4194304 : Int) < (bytesN l.adds : Int) := by omega
            clear hby
            go_wp2_with fail
            go_ret
            exact ⟨by rw [HRs.out]; rfl, HC.out.below⟩
          · have HRs := Aside0.mk (show checkL l = 0 by rw [HF4.out, if_neg hby])
            have hb : ¬ (4194304 : Int) < (bytesN l.adds : Int) := by omega
            clear hby
            go_wp2_with fail
            go_ret
            exact ⟨by rw [HRs.out]; rfl, HC.out.below⟩
        have hk2 : k < l.adds.length := by rw [← HNa.out]; exact hlt
        rcases C_nodes (Kd.C_below HCa.out HC.out.below) with h0 | ⟨b, off, rfl, hbl, hcell⟩
        · rw [h0] at hk2; cases hk2
        obtain ⟨q0, q1, q2, q3, q4⟩ := hcell k hk2
        have hps := HL.out.a _ (List.getElem_mem hk2)
        have HT := Aside0.mk (fun h => any_take_step hk2 HA.out h)
        have HX := Aside0.mk (show blockB l l.adds[k] = true → checkL l = 6 from fun h => by
          have : filesB l = false := by unfold filesB; rw [any_here hk2 h]; rfl
          rw [HF3.out, this]; rfl)
        have HBl := Aside0.mk (show blockB l l.adds[k] = (belowB l l.adds[k].path && !l.adds[k].dir) by
          unfold blockB
          rw [ens_below (bytes_nil (HPr.out _ (List.getElem_mem hk2)))])
        obtain ⟨x, hx⟩ : ∃ x, x = l.adds[k] := ⟨_, rfl⟩
        rw [← hx] at q0 q1 hps HT HX HBl
        clear hx hk2 hcell q2 q3 q4 HA hbl
        have hkk : (k : Int) < na := by omega
        have hk0 : (0 : Int) ≤ k := by omega
        have hrx := HR.out
        by_cases hd : x.dir = true
        · have HT2 := Aside0.mk (HT.out (by rw [HBl.out, hd]; simp))
          rw [hd] at q1
          clear hd HT HX HBl hrx
          go_wp2_with fail
          go_quiet (fail)
          rename_i nq
          go_wp2_with fail
          go_roundw
          case rel => exact ⟨k + 1, by omega, by go_num, HT2, ⟨HC.out.step (pw_below_drewN (Below.refl _ _) _)⟩⟩
          case measure => simp [intOf] <;> omega
        have hd : x.dir = false := Bool.eq_false_iff.2 hd
        have HBl2 := Aside0.mk (show blockB l x = belowB l x.path by rw [HBl.out, hd]; simp)
        rw [hd] at q1
        have c1 := blk_cell HC.out.lay 1
        have c2 := blk_cell HC.out.lay 2
        have HRB := Aside0.mk (fun W (hb : Below w.heap.size w W) => ref_below l _ _ _ x.path W (hrx W hb) HL.out (by omega))
        clear hd hrx HBl
        go_wp2_with fail
        have hKp := Aside0.mk (show ∀ W, Below wr.heap.size wr W → (W.cell? ⟨w.heap.size, 0, none⟩ = some (.slice (some ⟨b, off, none⟩) na ca) ∧ W.cell? ⟨w.heap.size, 1, none⟩ = some (.slice Wp nw cw) ∧ W.cell? ⟨w.heap.size, 2, none⟩ = some (.slice Op no co) ∧ W.cell? ⟨b, off + k * 5, none⟩ = some (.string x.path) ∧ W.cell? ⟨b, off + k * 5 + 1, none⟩ = some (.bool false) ∧ Below wr.heap.size wr W) from fun W hb => ⟨pw_cell_below hb c0, pw_cell_below hb c1, pw_cell_below hb c2, pw_cell_below hb q0, pw_cell_below hb q1, hb⟩)
        have hst0 := hKp.out wr.drew ((Grew.refl wr).drew).below
        have HWb := Aside0.mk (fun W (hb : Below wr.heap.size wr W) => below_then HC.out.below HC.out.below.size hb)
        clear c0 c1 c2 q0 q1 hps
        go_region_held3 (fun W => W.cell? ⟨w.heap.size, 0, none⟩ = some (.slice (some ⟨b, off, none⟩) na ca) ∧ W.cell? ⟨w.heap.size, 1, none⟩ = some (.slice Wp nw cw) ∧ W.cell? ⟨w.heap.size, 2, none⟩ = some (.slice Op no co) ∧ W.cell? ⟨b, off + k * 5, none⟩ = some (.string x.path) ∧ W.cell? ⟨b, off + k * 5 + 1, none⟩ = some (.bool false) ∧ Below wr.heap.size wr W)
          (first | exact hst0 | (apply hKp.out; assumption))
          (first
            | (go_at_call 95; refine (HRB.out _ (HWb.out _ hst0.2.2.2.2.2)).mono ?_; rintro e w' ⟨rfl, hb⟩; have hb5 := below_then hst0.2.2.2.2.2 hst0.2.2.2.2.2.size hb))
        rename_i w3 _ _ hh
        have HC3 := Aside0.mk (HC.out.step hh.2.2.2.2.2)
        clear hh hst0 hKp HRB HWb HC
        cases hbe : belowB l x.path
        · have HT2 := Aside0.mk (HT.out (by rw [HBl2.out, hbe]))
          clear hbe HT HX HBl2
          go_wp2_with fail
          go_roundw
          case rel => exact ⟨k + 1, by omega, by go_num, HT2, HC3⟩
          case measure => simp [intOf] <;> omega
        · have HRs := Aside0.mk (HX.out (by rw [HBl2.out, hbe]))
          clear hbe HT HX HBl2
          go_wp2_with fail
          go_ret
          exact ⟨by rw [HRs.out]; rfl, HC3.out.below⟩

end Go.Proofs.YtbkbpdpegiekhaaGreatDoor
