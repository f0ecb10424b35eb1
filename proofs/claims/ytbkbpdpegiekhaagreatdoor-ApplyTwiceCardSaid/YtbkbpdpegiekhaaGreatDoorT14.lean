/- tree: All, Bytes, Collision. -/
import Derived.Test.YtbkbpdpegiekhaaGreatDoorT12
/- tree: Remove, Clear. -/
set_option linter.unusedVariables false
set_option linter.unusedSimpArgs false
namespace Go.Proofs.YtbkbpdpegiekhaaGreatDoor
open Go.RowKit Go.Proofs.YtbkbpdpegiekhaaGreatDoorW.PrintWords Mo

theorem clear_cut {xs : List Nd} {p : S} (hs : xs.Pairwise ltN) (hp : p ≠ ⟨#[]⟩) (hh : hasT xs p = true) :
    xs.take ((loT xs p).length + 1) ++ xs.drop ((loT xs p).length + 1 + belowT p (xs.drop ((loT xs p).length + 1))) = clearF xs p := by
  obtain ⟨x, r, hx, he, hlo, hr, hrs⟩ := split_at hs hh
  have h2 : xs.drop ((loT xs p).length + 1) = r := by
    rw [← List.drop_drop, (app_cut he).2]
    rfl
  have h1 : xs.take ((loT xs p).length + 1) = loT xs p ++ [x] := by
    have he2 : xs = (loT xs p ++ [x]) ++ r := by rw [List.append_assoc]; exact he
    have := (app_cut he2).1
    rw [List.length_append] at this
    exact this
  have h3 : clearF xs p = clearF (loT xs p ++ x :: r) p := congrArg (fun l => clearF l p) he
  rw [h1, ← List.drop_drop, h2, ← under_run hrs hr, h3]
  unfold clearF
  rw [if_neg hp, List.filter_append]
  have hxu : pUnder x.path p = false := by
    cases hu : pUnder x.path p
    · rfl
    · exact absurd hx (pUnder_ne hu)
  rw [List.filter_cons_of_pos (by simp [hxu]), List.append_assoc]
  congr 1
  · refine (List.filter_eq_self.2 fun n hn => ?_).symm
    have h4 := hlo n hn
    cases hu : pUnder n.path p
    · rfl
    · have h5 := pUnder_lt hu
      have h6 := pCmp_neg n.path p
      omega
  · show x :: _ = x :: _
    congr 1
    refine List.filter_congr fun n hn => ?_
    have h4 := hr n hn
    have hne : n.path ≠ p := fun e => by rw [e, pCmp_self] at h4; omega
    simp [hne]
theorem clear_absent {xs : List Nd} {p : S} (h : Okt xs) (hp : p ≠ ⟨#[]⟩) (hh : hasT xs p = false) : clearF xs p = xs := by
  unfold clearF
  rw [if_neg hp]
  refine List.filter_eq_self.2 fun n hn => ?_
  rw [h.none_under hp (dirT_hasnt hh) n hn]
  rfl

set_option maxRecDepth 100000 in
set_option maxHeartbeats 1000000 in
theorem tree_Remove (xs : List Nd) (p : S) (base tb : Nat) (v : Value) (w : World) (hE : Env w) (ht : Tr base w tb v xs) (hk : Okt xs) (hpn : p ≠ ⟨#[]⟩) (hx : ∀ n ∈ xs, n.path.size < 4294967281) (hp : p.size < 4294967281) (hsz : xs.length ≤ 1000000000) :
    Calls Tryz.prog 178 #[.pointer (some ⟨tb, 0, none⟩), .string p] w fun e w' => (∃ n : Int, e = .returned (.int .i64 n)) ∧ Tdone base w w' tb v (dropF xs p) := by
  have HD := Aside0.mk (tree_drop xs p base tb v w hE ht hk hpn hx hp hsz)
  clear hE ht hk hx
  go_enter Tryz.func178, Tryz.ntmps178
  go_wp2_with fail
  refine HD.out.mono ?_
  rintro e1 w1 ⟨⟨k, rfl⟩, hd⟩
  have HD1 := Aside0.mk hd
  clear hd
  go_wp2_with fail
  go_ret
  exact ⟨⟨_, rfl⟩, HD1.out⟩

set_option maxRecDepth 100000 in
set_option maxHeartbeats 2000000 in
theorem tree_Clear (xs : List Nd) (p : S) (base tb : Nat) (v : Value) (w : World) (hE : Env w) (ht : Tr base w tb v xs) (hk : Okt xs) (hx : ∀ n ∈ xs, n.path.size < 4294967281) (hp : p.size < 4294967281) (hsz : xs.length ≤ 1000000000) :
    Calls Tryz.prog 179 #[.pointer (some ⟨tb, 0, none⟩), .string p] w fun e w' => (∃ n : Int, e = .returned (.int .i64 n)) ∧ Tdone base w w' tb v (clearF xs p) := by
  by_cases hpe : p = ⟨#[]⟩
  · subst hpe
    have c0 := blk_cell ht.box 0
    have f0 := blk_frozen ht.box 0
    obtain ⟨A, cc, rfl, _⟩ := ht.len
    have HR := Aside0.mk (show Tdone base w (w.setCell ⟨tb, 0, none⟩ (.slice none 0 0)) tb (.slice A xs.length cc) (clearF xs ⟨#[]⟩) by
      unfold clearF
      rw [if_pos rfl]
      exact Tdone.store ht (Ow.nil kN 46 w base) (grown_refl _ _) (.inr fun k hk => by cases hk))
    clear hE ht hk hx
    go_enter Tryz.func179, Tryz.ntmps179
    go_wp2_with fail
    go_ret
    exact ⟨⟨_, rfl⟩, HR.out⟩
  have HF := Aside0.mk (tree_find xs p base tb v w hE ht hk.sorted hx hp hsz)
  have HT := Aside0.mk ht
  have HB := Aside0.mk fun (W : World) (hb : Below w.heap.size w W) (start : Nat) (hst : start ≤ xs.length) => tree_behind xs p start base tb v W (ht.below hb) hx hp hsz hst
  have HC := Aside0.mk (clear_cut (p := p) hk.sorted hpe)
  have HL := Aside0.mk fun h => (drop_cut (p := p) hk.sorted h).1
  have HA := Aside0.mk (clear_absent (p := p) hk hpe)
  have c0 := blk_cell ht.box 0
  obtain ⟨A, cc, rfl, hcc⟩ := ht.len
  have hpl : ¬ p.toList = [] := fun e => hpe (bs_nil.1 (by rw [Lib.toList_data] at e; exact e))
  have hpl2 : p.toList.isEmpty = false := by
    cases h : p.toList.isEmpty
    · rfl
    · exact absurd (isEmpty_eq h) hpe
  clear hE hx ht hk hpe
  go_enter Tryz.func179, Tryz.ntmps179
  go_wp2_with fail
  refine HF.out.mono ?_
  rintro e1 w1 ⟨rfl, hb1⟩
  have HB1 := Aside0.mk hb1
  clear hb1 c0 HF
  cases hh : hasT xs p
  · have HD := Aside0.mk (HA.out hh)
    have c1 := blk_cell (HT.out.below HB1.out).box 0
    clear hh
    go_wp2_with fail
    go_ret
    exact ⟨⟨_, rfl⟩, by rw [HD.out]; exact Tdone.of_below HT.out HB1.out⟩
  · have hlt := HL.out hh
    have HD := Aside0.mk (HC.out hh)
    clear hh
    obtain ⟨i, hi⟩ : ∃ i, i = (loT xs p).length := ⟨_, rfl⟩
    rw [← hi] at hlt HD ⊢
    obtain ⟨n, hn⟩ : ∃ n, n = xs.length := ⟨_, rfl⟩
    have HN := Aside0.mk hn
    clear hi
    have hwr : IntKind.i64.wrap ((i : Int) + 1) = ((i + 1 : Nat) : Int) := by rw [IntKind.wrap_i64]; omega
    have hble := belowT_le p (xs.drop (i + 1))
    rw [List.length_drop] at hble
    obtain ⟨k, hk0⟩ : ∃ k, k = belowT p (xs.drop (i + 1)) := ⟨_, rfl⟩
    have HK := Aside0.mk hk0
    rw [← hk0] at hble HD
    have HT1 := Aside0.mk (HT.out.below HB1.out)
    have c1 := blk_cell HT1.out.box 0
    have HTd := Aside0.mk (HT1.out.below ((Grew.refl w1).drew.below))
    have HBd := Aside0.mk (below_then HB1.out HB1.out.size ((Grew.refl w1).drew.below))
    clear hk0 hn
    go_wp2_with fail
    go_region_with
      (first
        | (go_at_call 227; refine (HB.out _ HBd.out (i + 1) (by omega)).mono ?_; rintro e2 w2 ⟨rfl, hb2⟩; have HB2 := Aside0.mk (below_then HBd.out HBd.out.size hb2); have HT2 := Aside0.mk (HT.out.below HB2.out); have c2 := blk_cell HT2.out.box 0; rw [← HK.out])
        | (go_at_call 226; refine (delete_nodes xs (.slice A xs.length cc) base _ (i + 1) (i + 1 + k) HT2.out.row (by omega) (by omega) hsz).mono ?_; rintro e3 w3 ⟨v3, rfl, ho3, hg3, hv3⟩; have hb3 := blk_grown HT2.out.box hg3 (fun e => HT2.out.row.ne_type HT2.out.box (by decide) e.symm); have c3 := blk_cell hb3 0; have f3 := blk_frozen hb3 0; have HD3 := Aside0.mk (Tdone.after (TSt.of_below HB2.out) (Heir.refl _ _) (Tdone.store HT2.out ho3 hg3 (.inl hv3))); obtain ⟨A3, n3, c3', rfl⟩ := ho3.sl))
    all_goals
      go_wp2_with fail
      go_ret
      exact ⟨⟨_, rfl⟩, by rw [← HD.out]; exact HD3.out⟩

end Go.Proofs.YtbkbpdpegiekhaaGreatDoor

set_option linter.unusedVariables false
set_option linter.unusedSimpArgs false
namespace Go.Proofs.YtbkbpdpegiekhaaGreatDoor
open Go.RowKit Go.Proofs.YtbkbpdpegiekhaaGreatDoorW.PrintWords Mo

set_option maxRecDepth 100000 in
set_option maxHeartbeats 1000000 in
theorem tree_All (xs : List Nd) (base tb : Nat) (v : Value) (w : World) (ht : Tr base w tb v xs) (hsz : xs.length ≤ 1000000000) :
    Calls Tryz.prog 123 #[.pointer (some ⟨tb, 0, none⟩)] w fun e w' => ∃ v', e = .returned v' ∧ Ow kN 46 w' w.heap.size v' xs ∧ Below w.heap.size w w' := by
  have HC := Aside0.mk (clone_nodes xs v w ht.row.rd hsz)
  have c0 := blk_cell ht.box 0
  obtain ⟨A, nn, cc, rfl⟩ := ht.row.sl
  clear ht
  go_enter Tryz.func123, Tryz.ntmps123
  go_wp2_with fail
  refine HC.out.mono ?_
  rintro e1 w1 ⟨v1, rfl, ho1, hb1⟩
  have HO := Aside0.mk ho1
  have HB := Aside0.mk hb1
  obtain ⟨A1, n1, c1, rfl⟩ := ho1.sl
  clear ho1 hb1 c0
  go_wp2_with fail
  go_ret
  exact ⟨_, rfl, HO.out, HB.out⟩

theorem bytes_take (xs : List Nd) (k : Nat) (h : k < xs.length) : bytesN (xs.take (k + 1)) = bytesN (xs.take k) + (xs.getD k Nd.zero).data.size := by
  rw [take_node xs k h]
  unfold bytesN
  rw [List.map_append, List.sum_append]
  simp
theorem bytes_small (xs : List Nd) (k : Nat) (hx : ∀ n ∈ xs, n.data.size < 1000000000) (hk : k ≤ xs.length) : bytesN (xs.take k) ≤ k * 1000000000 := by
  induction k with
  | zero => exact Nat.zero_le _
  | succ k ih =>
    rw [bytes_take xs k (by omega)]
    have := hx _ (getD_mem xs k (by omega))
    have := ih (by omega)
    omega

set_option maxRecDepth 100000 in
set_option maxHeartbeats 1000000 in
theorem tree_Bytes (xs : List Nd) (base tb : Nat) (v : Value) (w : World) (ht : Tr base w tb v xs) (hsz : xs.length ≤ 1000000) (hx : ∀ n ∈ xs, n.data.size < 1000000000) :
    Calls Tryz.prog 121 #[.pointer (some ⟨tb, 0, none⟩)] w fun e w' => e = .returned (.int .i64 (bytesN xs : Nat)) ∧ Below w.heap.size w w' := by
  have HA := Aside0.mk (tree_All xs base tb v w ht (by omega))
  have HX := Aside0.mk hx
  clear ht hx
  obtain ⟨n, hn0⟩ : ∃ n, n = xs.length := ⟨_, rfl⟩
  rw [← hn0] at hsz
  have HN := Aside0.mk hn0
  clear hn0
  go_enter Tryz.func121, Tryz.ntmps121
  go_wp2_with fail
  refine HA.out.mono ?_
  rintro e1 w1 ⟨v1, rfl, ho1, hb1⟩
  obtain ⟨A, c, rfl, hl, hc⟩ := ho1.rd
  have HC := Aside0.mk hc
  have HB := Aside0.mk hb1
  rw [← HN.out] at hl ⊢
  clear ho1 hc hb1 HA
  go_wp2_with fail
  go_loopw [3, 9] (fun b i wr => ∃ (k : Nat), k ≤ n ∧ b = .int .i64 (bytesN (xs.take k) : Nat) ∧ i = .int .i64 k ∧ Aside0 (Below w1.heap.size w1 wr))
    (fun b i _ => n - (intOf i).toNat)
  case atStart => exact ⟨0, Nat.zero_le _, rfl, rfl, ⟨Below.refl _ _⟩⟩
  case round =>
    obtain ⟨k, hk, rfl, rfl, HW⟩ := hrel
    by_cases hlt : k < n
    · have hk2 : k < xs.length := by rw [← HN.out]; exact hlt
      obtain ⟨ad, rfl, k0, k1, k2, k3, k4⟩ := C_node (Kd.C_below HC.out HW.out) k (by rw [← HN.out]; exact hlt)
      have hbs := bytes_small xs k HX.out (Nat.le_of_lt hk2)
      have hp1 := HX.out (xs.getD k Nd.zero) (getD_mem _ _ hk2)
      have HT := Aside0.mk (bytes_take xs k hk2)
      obtain ⟨x, hx0⟩ : ∃ x, x = xs.getD k Nd.zero := ⟨_, rfl⟩
      rw [← hx0] at hp1 HT k0 k1 k2 k3 k4
      obtain ⟨B, hB0⟩ : ∃ B, B = bytesN (xs.take k) := ⟨_, rfl⟩
      rw [← hB0] at hbs HT ⊢
      clear hx0 hk2 hB0
      go_wp2_with fail
      go_roundw
      case rel => exact ⟨k + 1, by omega, by rw [HT.out]; go_num, by go_num, ⟨HW.out.alloc HW.out.size _⟩⟩
      case measure => simp [intOf]; omega
    · have hk2 : k = n := by omega
      subst hk2
      have HF := Aside0.mk (show bytesN (xs.take k) = bytesN xs by rw [List.take_of_length_le (by rw [HN.out]; exact Nat.le_refl _)])
      go_wp2_with fail
      go_ret
      exact ⟨by rw [← HF.out]; rfl, below_then HB.out HB.out.size HW.out⟩

set_option maxRecDepth 100000 in
set_option maxHeartbeats 2000000 in
theorem tree_Collision (xs : List Nd) (base tb : Nat) (v : Value) (w : World) (hE : Env w) (ht : Tr base w tb v xs) (hsz : xs.length ≤ 1000000) (hx : ∀ n ∈ xs, n.path.size < 1000000000) :
    Calls Tryz.prog 122 #[.pointer (some ⟨tb, 0, none⟩)] w fun e w' => (∃ s, e = .returned (.tuple #[.string s, .bool (collT xs)])) ∧ Below w.heap.size w w' := by
  have hmm := @run_makeMap Tryz.prog
  have HE := Aside0.mk hE
  have HX := Aside0.mk hx
  have HA := Aside0.mk (tree_All xs base tb v (w.alloc (.map #[] 0)) (ht.below ((Grew.refl w).alloc _).below) (by omega))
  clear ht hx hE
  obtain ⟨n, hn0⟩ : ∃ n, n = xs.length := ⟨_, rfl⟩
  rw [← hn0] at hsz
  have HN := Aside0.mk hn0
  clear hn0
  go_enter Tryz.func122, Tryz.ntmps122
  go_wp2_with fail
  refine HA.out.mono ?_
  rintro e1 w1 ⟨v1, rfl, ho1, hb1⟩
  obtain ⟨A, c, rfl, hl, hc⟩ := ho1.rd
  have HC := Aside0.mk hc
  have HM := Aside0.mk ((Cnt.made w).below hb1)
  have HB := Aside0.mk (below_then ((Grew.refl w).alloc (.map #[] 0)).below ((Grew.refl w).alloc (.map #[] 0)).below.size hb1)
  have HO := Aside0.mk ho1
  have hws : w.heap.size < w1.heap.size := by have := hb1.size; simp at this; omega
  have HR := Aside0.mk (show (Value.slice A xs.length c).ownBlock ≠ some w.heap.size from fun e => by have := ho1.base_le _ e; simp at this; omega)
  rw [← HN.out] at hl ⊢
  clear ho1 hc hb1 HA
  go_wp2_with fail
  go_loopw [12] (fun i wr => ∃ (k : Nat) (seen : List S), k ≤ n ∧ i = .int .i64 k ∧ seen.length = k ∧ Aside0 (collN seen (xs.drop k) = collT xs) ∧ Aside0 (Cnt wr w.heap.size seen) ∧ Aside0 (Below w.heap.size w wr) ∧ Aside0 (Ow kN 46 wr (w.heap.size + 1) (.slice A xs.length c) xs) ∧ w.heap.size < wr.heap.size)
    (fun i _ => n - (intOf i).toNat)
  case atStart => exact ⟨0, [], Nat.zero_le _, rfl, rfl, ⟨rfl⟩, HM, HB, ⟨by simpa using HO.out⟩, hws⟩
  case round =>
    obtain ⟨k, seen, hk, rfl, hsl, HA, HM1, HB1, HO1, hws1⟩ := hrel
    by_cases hlt : k < n
    · have hk2 : k < xs.length := by rw [← HN.out]; exact hlt
      obtain ⟨A', c', e', hl', hc'⟩ := HO1.out.rd
      injection e' with e1' e2' e3'
      subst e1'
      obtain ⟨ad, rfl, k0, k1, k2, k3, k4⟩ := C_node hc' k hk2
      have hp1 := HX.out (xs.getD k Nd.zero) (getD_mem _ _ hk2)
      have HD := Aside0.mk (drop_node xs k hk2)
      obtain ⟨x, hx0⟩ : ∃ x, x = xs.getD k Nd.zero := ⟨_, rfl⟩
      rw [← hx0] at hp1 HD k0 k1 k2 k3 k4
      clear hx0 hk2 hc' hl' e2' e3'
      have hb0 := ((Grew.refl wr).alloc (.cells #[.string x.path, .bool x.dir, .string x.data, .int .i64 x.mode, .int .i64 x.time] 46)).below
      have HB0 := Aside0.mk hb0
      have hw0 := heap_alloc_new wr (.cells #[.string x.path, .bool x.dir, .string x.data, .int .i64 x.mode, .int .i64 x.time] 46)
      have HW0 := Aside0.mk hw0
      have hz := pFold_size x.path
      have hsl2 : seen.length ≤ 1000000000000 := by omega
      clear hb0 hw0
      go_wp2_with fail
      refine (fold_Fold _ _ ((HE.out.below HB1.out).below HB0.out) (by omega)).mono ?_
      rintro e2 w2 ⟨rfl, hb2⟩
      have HB2a := Aside0.mk (below_then HB0.out HB0.out.size hb2)
      have HB2 := Aside0.mk (below_then HB1.out HB1.out.size HB2a.out)
      have HM2 := Aside0.mk (HM1.out.below HB2a.out)
      have HO2 := Aside0.mk (HO1.out.below flat_node HB2a.out)
      have hw2 := (hb2.block wr.heap.size (blk_lt HW0.out)).trans HW0.out
      have HW2 := Aside0.mk hw2
      have hws2 : w.heap.size < w2.heap.size := by have := HB2a.out.size; omega
      have hst : collN seen (x :: xs.drop (k + 1)) = if pFold x.path ∈ seen then true else collN (seen ++ [pFold x.path]) (xs.drop (k + 1)) := rfl
      have hcl : seen.count (pFold x.path) ≤ seen.length := List.count_le_length
      have c0 := blk_cell hw2 0
      clear hb2 hw2 k0 k1 k2 k3 k4 HM1 HB1 HB2a HB0 HW0 HO1
      by_cases hm : pFold x.path ∈ seen
      · have hpos : 0 < seen.count (pFold x.path) := List.count_pos_iff.2 hm
        rw [if_pos hm] at hst
        have HS := Aside0.mk (show collT xs = true by rw [← HA.out, HD.out, hst])
        clear hst hm
        go_wp2_with (at_lookup; refine Cnt.look _ rfl _ _ rfl _ _ rfl HM2.out _ (by omega) rfl ?_)
        go_ret2
        exact ⟨⟨x.path, by rw [HS.out]; rfl⟩, HB2.out⟩
      · have hz0 : seen.count (pFold x.path) = 0 := List.count_eq_zero.2 hm
        rw [if_neg hm] at hst
        have HS := Aside0.mk hst
        have HZ := Aside0.mk hz0
        clear hst hm hz0
        go_wp2_with (first
          | (at_lookup; refine Cnt.look _ rfl _ _ rfl _ _ rfl HM2.out _ (by omega) rfl ?_; rw [HZ.out])
          | (at_mapUpdate; refine Cnt.inc _ rfl _ _ _ rfl _ _ rfl HM2.out hsl2 _ (by omega) rfl (by rw [HZ.out]; rfl) ?_; intro w3 hm3 hg3; have HB3 := Aside0.mk (HB2.out.grown hg3 HB2.out.size (fun k hk => by injection hk with hk; omega)); have HM3 := Aside0.mk hm3; have HO3 := Aside0.mk (HO2.out.grown flat_node hg3 (.inr HR.out)); have hws3 := hg3.size; clear hm3 hg3))
        go_roundw
        case rel => exact ⟨k + 1, seen ++ [pFold x.path], by omega, by go_num, by simp [hsl], ⟨by rw [← HS.out, ← HD.out]; exact HA.out⟩, HM3, HB3, HO3, by omega⟩
        case measure => simp [intOf]; omega
    · have hk2 : k = n := by omega
      subst hk2
      have HF := Aside0.mk (show collT xs = false by
        rw [← HA.out, List.drop_of_length_le (by rw [← HN.out]; exact Nat.le_refl _)]; rfl)
      clear HA hlt
      go_wp2_with fail
      go_ret2
      exact ⟨⟨⟨#[]⟩, by rw [HF.out]; rfl⟩, HB1.out⟩

end Go.Proofs.YtbkbpdpegiekhaaGreatDoor
