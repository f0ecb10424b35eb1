/- layer: markers; cmp.Or. -/
import Derived.Test.YtbkbpdpegiekhaaGreatDoorR10
/- layer: adds, markers; cmp.Or. -/
set_option linter.unusedVariables false
set_option linter.unusedSimpArgs false
namespace Go.Proofs.YtbkbpdpegiekhaaGreatDoor
open Go.RowKit Go.Proofs.YtbkbpdpegiekhaaGreatDoorW.PrintWords Mo

/-- The first that is wrong of Adds. -/
def addsE : S → List S → List Nd → Int
  | _, _, [] => 0
  | last, seen, n :: t => if addE n last seen = 0 then addsE n.path (seen ++ [pFold n.path]) t else addE n last seen
theorem drop_node (xs : List Nd) (k : Nat) (h : k < xs.length) : xs.drop k = xs.getD k Nd.zero :: xs.drop (k + 1) := by
  rw [List.drop_eq_getElem_cons h, List.getD_eq_getElem?_getD, List.getElem?_eq_getElem h]; rfl
theorem getD_mem (xs : List Nd) (k : Nat) (h : k < xs.length) : xs.getD k Nd.zero ∈ xs := by
  rw [List.getD_eq_getElem?_getD, List.getElem?_eq_getElem h]; simp

set_option maxHeartbeats 2000000 in
theorem layer_adds (xs : List Nd) (v : Value) (w : World) (hE : Env w) (hv : Rd kN w v xs) (hx : ∀ n ∈ xs, n.path.size < 1000000000) (hsz : xs.length ≤ 1000000000) :
    Calls Tryz.prog 141 #[v] w fun e w' => e = .returned (.int .i64 (addsE ⟨#[]⟩ [] xs)) ∧ Below w.heap.size w w' := by
  obtain ⟨A, c, rfl, hl, hc⟩ := hv
  have HE := Aside0.mk hE
  have HX := Aside0.mk hx
  have HC := Aside0.mk hc
  clear hE hx hc
  obtain ⟨n, hn0⟩ : ∃ n, n = xs.length := ⟨_, rfl⟩
  rw [← hn0] at hsz hl ⊢
  have HN := Aside0.mk hn0
  clear hn0
  have hmm := @run_makeMap Tryz.prog
  go_enter Tryz.func141, Tryz.ntmps141
  go_wp2_with fail
  go_loopw [3, 11] (fun l i wr => ∃ (k : Nat) (last : S) (seen : List S), k ≤ n ∧ l = .string last ∧ i = .int .i64 k ∧ seen.length = k ∧ last.size < 1000000000 ∧ Aside0 (addsE last seen (xs.drop k) = addsE ⟨#[]⟩ [] xs) ∧ Aside0 (Cnt wr w.heap.size seen) ∧ Aside0 (Below w.heap.size w wr))
    (fun l i _ => n - (intOf i).toNat)
  case atStart => exact ⟨0, ⟨#[]⟩, [], Nat.zero_le _, rfl, rfl, rfl, by decide, ⟨rfl⟩, ⟨Cnt.made w⟩, ⟨below_alloc (Below.refl _ _) _⟩⟩
  case round =>
    obtain ⟨k, last, seen, hk, rfl, rfl, hsl, hlast, HA, HM, HB⟩ := hrel
    by_cases hlt : k < n
    · have hk2 : k < xs.length := by rw [← HN.out]; exact hlt
      obtain ⟨ad, rfl, k0, k1, k2, k3, k4⟩ := C_node (Kd.C_below HC.out HB.out) k (by rw [← HN.out]; exact hlt)
      have hp1 := HX.out (xs.getD k Nd.zero) (getD_mem _ _ hk2)
      have HD := Aside0.mk (drop_node xs k hk2)
      obtain ⟨x, hx0⟩ : ∃ x, x = xs.getD k Nd.zero := ⟨_, rfl⟩
      rw [← hx0] at hp1 HD k0 k1 k2 k3 k4
      clear hx0 hk2
      go_wp2_with fail
      have hw0 := heap_alloc_new wr (.cells #[.string x.path, .bool x.dir, .string x.data, .int .i64 x.mode, .int .i64 x.time] 46)
      have hb0 := ((Grew.refl wr).alloc (.cells #[.string x.path, .bool x.dir, .string x.data, .int .i64 x.mode, .int .i64 x.time] 46)).below
      refine (layer_add x last w.heap.size seen _ ((HE.out.below HB.out).below hb0) (HM.out.below hb0) hp1 hlast).mono ?_
      rintro e1 w1 ⟨rfl, hb1⟩
      have hsz0 := HB.out.size
      have HB1 := Aside0.mk (below_then HB.out hsz0 (box_below _ hb1))
      have HM1 := Aside0.mk (HM.out.below (box_below _ hb1))
      have hw1 := (hb1.block wr.heap.size (by simp)).trans hw0
      have c0 := blk_cell hw1 0
      clear hb0 hb1 hw0 hw1 k0 k1 k2 k3 k4 HM HB
      have hst : addsE last seen (x :: xs.drop (k + 1)) = if addE x last seen = 0 then addsE x.path (seen ++ [pFold x.path]) (xs.drop (k + 1)) else addE x last seen := rfl
      by_cases ha : addE x last seen = 0
      · rw [if_pos ha] at hst
        have HS := Aside0.mk hst
        rw [ha]
        clear hst ha
        have hz := pFold_size x.path
        have hsl2 : seen.length ≤ 1000000000000 := by omega
        go_wp2_with fail
        refine (fold_Fold _ _ (HE.out.below HB1.out) (by omega)).mono ?_
        rintro e2 w2 ⟨rfl, hb2⟩
        have hsz1 := HB1.out.size
        have HB2 := Aside0.mk (below_then HB1.out hsz1 hb2)
        have HM2 := Aside0.mk (HM1.out.below hb2)
        clear hb2 HB1 HM1 hsz1
        have hcl : seen.count (pFold x.path) ≤ seen.length := List.count_le_length
        go_wp2_with (first
          | (at_lookup; refine Cnt.look _ rfl _ _ rfl _ _ rfl HM2.out _ (by omega) rfl ?_)
          | (at_mapUpdate; refine Cnt.inc _ rfl _ _ _ rfl _ _ rfl HM2.out hsl2 _ (by omega) rfl rfl ?_; intro w3 hm3 hg3; have HB3 := Aside0.mk (HB2.out.grown hg3 HB2.out.size (fun k hk => by injection hk with hk; omega)); have HM3 := Aside0.mk hm3; clear hm3 hg3))
        go_roundw
        case rel => exact ⟨k + 1, x.path, seen ++ [pFold x.path], by omega, rfl, by go_num, by simp [hsl], hp1, ⟨by rw [← HS.out, ← HD.out]; exact HA.out⟩, HM3, HB3⟩
        case measure => simp [intOf]; omega
      · rw [if_neg ha] at hst
        have HS := Aside0.mk (show addE x last seen = addsE ⟨#[]⟩ [] xs by rw [← HA.out, HD.out, hst])
        have hab : (addE x last seen != 0) = true := by simpa using ha
        clear hst ha
        go_wp2_with fail
        go_ret
        exact ⟨by rw [← HS.out]; rfl, HB1.out⟩
    · have hk2 : k = n := by omega
      subst hk2
      have HF := Aside0.mk (show addsE ⟨#[]⟩ [] xs = 0 by
        rw [← HA.out, List.drop_of_length_le (by rw [← HN.out]; exact Nat.le_refl _)]; rfl)
      clear HA hlt
      go_wp2_with fail
      go_ret
      exact ⟨by rw [HF.out]; rfl, HB.out⟩

end Go.Proofs.YtbkbpdpegiekhaaGreatDoor

set_option linter.unusedVariables false
set_option linter.unusedSimpArgs false
namespace Go.Proofs.YtbkbpdpegiekhaaGreatDoor
open Go.RowKit Go.Proofs.YtbkbpdpegiekhaaGreatDoorW.PrintWords Mo

def nextE : Option S → S → Bool
  | none, _ => false
  | some q, p => decide (0 ≤ pCmp q p)
def markE (k : Int) (prev : Option S) (p : S) : Int := if (pPath k p).2 = 0 then (if nextE prev p = true then 2 else 0) else (pPath k p).2
/-- The first that is wrong of markers. -/
def markersE (k : Int) : Option S → List S → Int
  | _, [] => 0
  | prev, p :: t => if markE k prev p = 0 then markersE k (some p) t else markE k prev p

set_option maxHeartbeats 2000000 in
theorem layer_markers (kind : Int) (hkind : kind = 1 ∨ kind = 2) (xs : List S) (v : Value) (w : World) (hE : Env w) (hv : Rd Kd.string w v xs) (hx : ∀ s ∈ xs, s.size < 1000000000) (hsz : xs.length ≤ 1000000000) :
    Calls Tryz.prog 142 #[v, .int .i64 kind] w fun e w' => e = .returned (.int .i64 (markersE kind none xs)) ∧ Below w.heap.size w w' := by
  obtain ⟨A, c, rfl, hl, hc⟩ := hv
  rcases C_strs hc with rfl | ⟨b, off, rfl, hb, hcell⟩
  · go_enter Tryz.func142, Tryz.ntmps142
    go_wp2_with fail
    go_loop [11] (fun i => i = .int .i64 0) (fun i => 0)
    case atStart => exact rfl
    case round =>
      subst hrel
      go_wp2_with fail
      go_ret
      exact ⟨rfl, Below.refl _ _⟩
  have HE := Aside0.mk hE
  have HX := Aside0.mk hx
  have HC := Aside0.mk hcell
  have HKi := Aside0.mk hkind
  clear hE hx hc hcell hkind
  obtain ⟨n, hn0⟩ : ∃ n, n = xs.length := ⟨_, rfl⟩
  rw [← hn0] at hsz hl ⊢
  have HN := Aside0.mk hn0
  clear hn0
  go_enter Tryz.func142, Tryz.ntmps142
  go_wp2_with fail
  go_loopw [11] (fun i wr => ∃ (k : Nat) (prev : Option S), k ≤ n ∧ i = .int .i64 k ∧ Aside0 ((k = 0 ∧ prev = none) ∨ ∃ j q, k = j + 1 ∧ xs[j]? = some q ∧ prev = some q) ∧ Aside0 (markersE kind prev (xs.drop k) = markersE kind none xs) ∧ Aside0 (Below w.heap.size w wr))
    (fun i _ => n - (intOf i).toNat)
  case atStart => exact ⟨0, none, Nat.zero_le _, rfl, ⟨.inl ⟨rfl, rfl⟩⟩, ⟨rfl⟩, ⟨Below.refl _ _⟩⟩
  case round =>
    obtain ⟨k, prev, hk, rfl, HP, HA, HB⟩ := hrel
    by_cases hlt : k < n
    · have hk2 : k < xs.length := by rw [← HN.out]; exact hlt
      have k0 := pw_cell_below HB.out (HC.out k hk2)
      have hp1 := HX.out xs[k] (List.getElem_mem hk2)
      have HD := Aside0.mk (List.drop_eq_getElem_cons hk2)
      have HG := Aside0.mk (List.getElem?_eq_getElem hk2)
      obtain ⟨x, hx0⟩ : ∃ x, x = xs[k] := ⟨_, rfl⟩
      rw [← hx0] at hp1 HD k0 HG
      clear hx0 hk2
      have hsz0 := HB.out.size
      go_wp2_with fail
      refine (mark_Path kind HKi.out x _ (HE.out.below HB.out) hp1).mono ?_
      rintro e1 w1 ⟨rfl, hb1⟩
      have HB1 := Aside0.mk (below_then HB.out hsz0 hb1)
      clear hb1 HB k0
      have hst : markersE kind prev (x :: xs.drop (k + 1)) = if markE kind prev x = 0 then markersE kind (some x) (xs.drop (k + 1)) else markE kind prev x := rfl
      by_cases he : (pPath kind x).2 = 0
      rotate_left
      · have hm : markE kind prev x = (pPath kind x).2 := by unfold markE; rw [if_neg he]
        rw [if_neg (by rw [hm]; exact he), hm] at hst
        have HS := Aside0.mk (show (pPath kind x).2 = markersE kind none xs by rw [← HA.out, HD.out, hst])
        clear hst hm
        obtain ⟨y, hy⟩ : ∃ y, y = (pPath kind x).2 := ⟨_, rfl⟩
        rw [← hy] at he HS ⊢
        have hab : (y != 0) = true := by simpa using he
        clear he hy
        go_wp2_with fail
        go_ret
        exact ⟨by rw [← HS.out]; rfl, HB1.out⟩
      have hm : markE kind prev x = if nextE prev x = true then 2 else 0 := by unfold markE; rw [if_pos he]
      rw [he]
      clear he
      rcases HP.out with ⟨rfl, rfl⟩ | ⟨j, q, rfl, hj, rfl⟩
      · have hst2 := Aside0.mk (show markersE kind (some x) (xs.drop (0 + 1)) = markersE kind none xs by
          rw [← HA.out, HD.out, hst, if_pos (by rw [hm]; rfl)])
        clear hst hm
        go_wp2_with fail
        go_roundw
        case rel => exact ⟨0 + 1, some x, by omega, by go_num, ⟨.inr ⟨0, x, rfl, HG.out, rfl⟩⟩, hst2, HB1⟩
        case measure => simp [intOf]; omega
      · have hjl : j < xs.length := by rw [← HN.out]; omega
        have k1 := pw_cell_below HB1.out (HC.out j hjl)
        have hq : xs[j] = q := by
          rw [List.getElem?_eq_getElem hjl] at hj
          exact Option.some.inj hj
        have hq1 := HX.out xs[j] (List.getElem_mem hjl)
        rw [hq] at k1 hq1
        clear hq hjl hj
        go_wp2_with fail
        refine (route_Compare q x _ (HE.out.below HB1.out) (by omega) (by omega)).mono ?_
        rintro e4 w4 ⟨rfl, hg4⟩
        have hsz1 := HB1.out.size
        have HB4 := Aside0.mk (below_then HB1.out hsz1 hg4.below)
        clear hg4 k1 hsz1
        have hr := pCmp_range q x
        have hne : nextE (some q) x = decide (0 ≤ pCmp q x) := rfl
        obtain ⟨c1, hc1⟩ : ∃ c1, c1 = pCmp q x := ⟨_, rfl⟩
        rw [← hc1] at hr hne ⊢
        clear hc1
        by_cases hcc : c1 = -1
        · subst hcc
          have hst2 := Aside0.mk (show markersE kind (some x) (xs.drop (j + 1 + 1)) = markersE kind none xs by
            rw [← HA.out, HD.out, hst, if_pos (by rw [hm, hne]; rfl)])
          clear hst hm hne
          go_wp2_with fail
          go_roundw
          case rel => exact ⟨j + 1 + 1, some x, by omega, by go_num, ⟨.inr ⟨j + 1, x, rfl, HG.out, rfl⟩⟩, hst2, HB4⟩
          case measure => simp [intOf]; omega
        · have hcb : 0 ≤ c1 := by omega
          have hm2 : markE kind (some q) x = 2 := by rw [hm, hne, decide_eq_true hcb]; rfl
          have hst2 := Aside0.mk (show 2 = markersE kind none xs by
            rw [← HA.out, HD.out, hst, if_neg (by rw [hm2]; decide), hm2])
          clear hst hm hne hm2 hcc
          go_wp2_with fail
          go_ret
          exact ⟨by rw [← hst2.out]; rfl, HB4.out⟩
    · have hk2 : k = n := by omega
      subst hk2
      have HF := Aside0.mk (show markersE kind none xs = 0 by
        rw [← HA.out, List.drop_of_length_le (by rw [← HN.out]; exact Nat.le_refl _)]; rfl)
      clear HA hlt
      go_wp2_with fail
      go_ret
      exact ⟨by rw [HF.out]; rfl, HB.out⟩

def orE (a b c : Int) : Int := if a = 0 then (if b = 0 then c else b) else a
theorem cmp_Or (a b c : Int) (g : Nat) (w : World) (h0 : w.cell? ⟨g, 0, none⟩ = some (.int .i64 a)) (h1 : w.cell? ⟨g, 1, none⟩ = some (.int .i64 b)) (h2 : w.cell? ⟨g, 2, none⟩ = some (.int .i64 c)) :
    Calls Tryz.prog 140 #[.slice (some ⟨g, 0, none⟩) 3 3] w fun e w' => e = .returned (.int .i64 (orE a b c)) ∧ w = w' := by
  by_cases ha : a = 0
  rotate_left
  · have HO := Aside0.mk (show orE a b c = a by unfold orE; rw [if_neg ha])
    have hab : (a != 0) = true := by simpa using ha
    clear ha
    go_enter Tryz.func140, Tryz.ntmps140
    go_wp2_with fail
    go_loop [8] (fun i => i = .int .i64 0) (fun i => 3 - (intOf i).toNat)
    case atStart => exact rfl
    case round =>
      subst hrel
      go_wp2_with fail
      go_ret
      exact ⟨by rw [HO.out]; rfl, rfl⟩
  subst ha
  by_cases hb : b = 0
  rotate_left
  · have HO := Aside0.mk (show orE 0 b c = b by unfold orE; rw [if_pos rfl, if_neg hb])
    have hab : (b != 0) = true := by simpa using hb
    clear hb
    go_enter Tryz.func140, Tryz.ntmps140
    go_wp2_with fail
    go_loop [8] (fun i => i = .int .i64 0 ∨ i = .int .i64 1) (fun i => 3 - (intOf i).toNat)
    case atStart => exact .inl rfl
    case round =>
      rcases hrel with rfl | rfl
      · go_wp2_with fail
        go_round
        case rel => exact .inr (by go_num)
        case measure => simp [intOf]
      · go_wp2_with fail
        go_ret
        exact ⟨by rw [HO.out]; rfl, rfl⟩
  subst hb
  have HO := Aside0.mk (show orE 0 0 c = c by unfold orE; rw [if_pos rfl, if_pos rfl])
  by_cases hc : c = 0
  · subst hc
    go_enter Tryz.func140, Tryz.ntmps140
    go_wp2_with fail
    go_loop [8] (fun i => i = .int .i64 0 ∨ i = .int .i64 1 ∨ i = .int .i64 2 ∨ i = .int .i64 3) (fun i => 3 - (intOf i).toNat)
    case atStart => exact .inl rfl
    case round =>
      rcases hrel with rfl | rfl | rfl | rfl
      · go_wp2_with fail
        go_round
        case rel => exact .inr (.inl (by go_num))
        case measure => simp [intOf]
      · go_wp2_with fail
        go_round
        case rel => exact .inr (.inr (.inl (by go_num)))
        case measure => simp [intOf]
      · go_wp2_with fail
        go_round
        case rel => exact .inr (.inr (.inr (by go_num)))
        case measure => simp [intOf]
      · go_wp2_with fail
        go_ret
        exact ⟨by rw [HO.out]; rfl, rfl⟩
  · have hab : (c != 0) = true := by simpa using hc
    clear hc
    go_enter Tryz.func140, Tryz.ntmps140
    go_wp2_with fail
    go_loop [8] (fun i => i = .int .i64 0 ∨ i = .int .i64 1 ∨ i = .int .i64 2) (fun i => 3 - (intOf i).toNat)
    case atStart => exact .inl rfl
    case round =>
      rcases hrel with rfl | rfl | rfl
      · go_wp2_with fail
        go_round
        case rel => exact .inr (.inl (by go_num))
        case measure => simp [intOf]
      · go_wp2_with fail
        go_round
        case rel => exact .inr (.inr (by go_num))
        case measure => simp [intOf]
      · go_wp2_with fail
        go_ret
        exact ⟨by rw [HO.out]; rfl, rfl⟩

end Go.Proofs.YtbkbpdpegiekhaaGreatDoor
