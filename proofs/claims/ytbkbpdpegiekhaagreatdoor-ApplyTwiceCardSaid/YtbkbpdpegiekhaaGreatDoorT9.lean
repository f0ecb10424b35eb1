/- tree: ensure. -/
import Derived.Test.YtbkbpdpegiekhaaGreatDoorT8
set_option linter.unusedVariables false
set_option linter.unusedSimpArgs false
namespace Go.Proofs.YtbkbpdpegiekhaaGreatDoor
open Go.RowKit Go.Proofs.YtbkbpdpegiekhaaGreatDoorW.PrintWords Mo

theorem mem_ens1 {l : List Nd} {p : S} {m : Nd} (h : m ∈ ens1 l p) : m ∈ l ∨ m = dirN p := by
  unfold ens1 at h
  split at h
  · exact .inl h
  · rcases mem_setF.1 h with h | ⟨h, _⟩
    · exact .inr h
    · exact .inl (mem_dropF.1 h).1
theorem mem_upsT {l : List Nd} {p : S} {m : Nd} (h : m ∈ upsT l p) : m ∈ l ∨ ∃ q ∈ ups p, m = dirN q := by
  unfold upsT at h
  generalize ups p = L at h
  induction L with
  | nil => exact .inl h
  | cons q t ih =>
    rw [List.foldr_cons] at h
    rcases mem_ens1 h with h | h
    · rcases ih h with h | ⟨x, hx, h⟩
      · exact .inl h
      · exact .inr ⟨x, List.mem_cons_of_mem _ hx, h⟩
    · exact .inr ⟨q, List.mem_cons_self .., h⟩
theorem upsT_small {l : List Nd} {p : S} {B : Nat} (hl : ∀ n ∈ l, n.path.size < B) (hp : p.size < B) : ∀ n ∈ upsT l p, n.path.size < B := by
  intro n hn
  rcases mem_upsT hn with h | ⟨q, hq, rfl⟩
  · exact hl n h
  · have := ups_size p q hq
    show q.size < B
    omega
theorem ensF_small {l : List Nd} {p : S} {B : Nat} (hl : ∀ n ∈ l, n.path.size < B) (hp : p.size < B) : ∀ n ∈ ensF l p, n.path.size < B := by
  intro n hn
  rcases mem_ens1 hn with h | rfl
  · exact upsT_small hl hp n h
  · exact hp
theorem putF_small {l : List Nd} {n : Nd} {B : Nat} (hl : ∀ n ∈ l, n.path.size < B) (hp : n.path.size < B) : ∀ m ∈ putF l n, m.path.size < B := by
  intro m hm
  unfold putF at hm
  rcases mem_setF.1 hm with rfl | ⟨h, _⟩
  · exact hp
  · split at h
    · exact upsT_small hl hp m h
    · exact upsT_small hl hp m (mem_dropF.1 h).1
theorem drop_small {l : List Nd} {p : S} {B : Nat} (hl : ∀ n ∈ l, n.path.size < B) : ∀ m ∈ dropF l p, m.path.size < B := fun m hm => hl m (mem_dropF.1 hm).1
theorem dirT_has {ys : List Nd} {p : S} (hs : ys.Pairwise ltN) (h : hasT ys p = true) : dirT ys p = (ys.getD (loT ys p).length Nd.zero).dir := by
  obtain ⟨x, r, hx, he, hlo, hr, hrs⟩ := split_at hs h
  have h1 : ys.getD (loT ys p).length Nd.zero = x := by
    have : (loT ys p ++ x :: r).getD (loT ys p).length Nd.zero = x := by
      rw [List.getD_eq_getElem?_getD, List.getElem?_append_right (Nat.le_refl _), Nat.sub_self]
      rfl
    rw [← he] at this
    exact this
  have hm : x ∈ ys := by rw [he]; exact List.mem_append_right _ (List.mem_cons_self ..)
  rw [h1]
  unfold dirT
  rw [(atT_iff hs).2 ⟨hm, hx⟩]
theorem dirT_hasnt {ys : List Nd} {p : S} (h : hasT ys p = false) : dirT ys p = false := by
  rw [hasT_atT] at h
  unfold dirT
  cases h0 : atT ys p with
  | none => rfl
  | some n => rw [h0] at h; cases h
theorem Env.tdone {w w1 : World} {base tb : Nat} {v : Value} {xs : List Nd} (h : Env w) (hB : 2 < base) (ht : Tr base w tb v xs) (k : TSt w w1 tb v) : Env w1 := h.belowB (k.below ht) hB

set_option maxRecDepth 100000 in
set_option maxHeartbeats 8000000 in
theorem tree_ensure (base tb : Nat) (hB : 2 < base) : ∀ (k : Nat) (p : S) (xs : List Nd) (v : Value) (w : World), p.size ≤ k → Env w → Tr base w tb v xs → Okt xs → pFine p → (∀ n ∈ xs, n.path.size < 1000000000) → p.size < 1000000000 → xs.length + p.size ≤ 100000000 →
    Calls Tryz.prog 284 #[.pointer (some ⟨tb, 0, none⟩), .string p] w fun e w' => e = .returned (.tuple #[]) ∧ Tdone base w w' tb v (ensF xs p) := by
  intro k
  induction k with
  | zero =>
    intro p xs v w hk hE ht ho hf hx hp hlen
    exact absurd (show p = ⟨#[]⟩ from bs_nil.1 (List.eq_nil_of_length_eq_zero (by rw [bs_size]; omega))) hf.ne
  | succ k ih =>
    intro p xs v w hk hE ht ho hf hx hp hlen
    have HP := Aside0.mk (route_Parent p w (by omega))
    obtain ⟨EE, hEE⟩ : ∃ EE, EE = ensF xs p := ⟨_, rfl⟩
    rw [← hEE]
    have HEq := Aside0.mk (show EE = ens1 (upsT xs p) p from hEE)
    clear hEE
    have HOY := Aside0.mk (ho.upsT hf)
    have HXY := Aside0.mk (upsT_small hx hp)
    have hul := upsT_len xs p
    have hup := ups_len p
    have HF := Aside0.mk hf
    cases h0 : pParent p with
    | none =>
      have hy : upsT xs p = xs := upsT_none h0
      rw [hy] at HEq HOY HXY
      have HT1 := Aside0.mk ht
      have HD1 := Aside0.mk (And.intro (TSt.refl w tb v) (Heir.refl w v))
      have HE1 := Aside0.mk hE
      have hil : (pParent p).isSome = false := by rw [h0]; rfl
      rw [hil] at HP
      obtain ⟨ys, hys⟩ : ∃ ys, ys = xs := ⟨_, rfl⟩
      rw [← hys] at HEq HOY HXY HT1
      have hyl : ys.length ≤ 100000000 := by rw [hys]; omega
      have HEr := Aside0.mk (show Tr base w tb v xs from ht)
      clear hE ht ho hf hx hul hup h0 hy hys hil ih
      go_enter Tryz.func284, Tryz.ntmps284
      go_wp2_with (go_at_call 116; refine HP.out.mono ?_; rintro e1 w1 ⟨rfl, rfl⟩)
      obtain ⟨w1, hw1⟩ : ∃ w1, w1 = w := ⟨_, rfl⟩
      rw [← hw1] at HT1 HE1 ⊢
      have HW := Aside0.mk hw1
      have HD1 : Aside0 (TSt w w1 tb v ∧ Heir w v v) := by rw [hw1]; exact HD1
      obtain ⟨v1, hv1⟩ : ∃ v1, v1 = v := ⟨_, rfl⟩
      have HD1 : Aside0 (TSt w w1 tb v ∧ Heir w v v1) := by rw [hv1]; exact HD1
      rw [← hv1] at HT1
      clear hw1 hv1 HW HP
      refine (tree_find ys p base tb v1 w1 HE1.out HT1.out HOY.out.sorted (fun n hn => by have := HXY.out n hn; omega) (by omega) (by omega)).mono ?_
      rintro e2 w2 ⟨rfl, hb2⟩
      have HT2 := Aside0.mk (HT1.out.below hb2)
      have HE2 := Aside0.mk (HE1.out.below hb2)
      have HD2 := Aside0.mk (And.intro (HD1.out.1.trans HD1.out.2 (TSt.of_below hb2)) HD1.out.2)
      clear hb2 HD1 HT1 HE1
      have HNo := Aside0.mk (show dirT ys p = false → ens1 ys p = setF (dropF ys p) (dirN p) from fun h => by unfold ens1; rw [h]; rfl)
      have HYes := Aside0.mk (show dirT ys p = true → ens1 ys p = ys from fun h => by unfold ens1; rw [h]; rfl)
      cases hh : hasT ys p
      · have HE3 := Aside0.mk (HNo.out (dirT_hasnt hh))
        clear hh
        go_wp2_with fail
        refine (tree_drop ys p base tb v1 w2 HE2.out HT2.out HOY.out HF.out.ne (fun n hn => by have := HXY.out n hn; omega) (by omega) (by omega)).mono ?_
        rintro e3 w3 ⟨⟨k3, rfl⟩, v3, ht3, hs3, hh3⟩
        have HT3 := Aside0.mk ht3
        have HE4 := Aside0.mk (HE2.out.tdone hB HT2.out hs3)
        have HD3 := Aside0.mk (And.intro (HD2.out.1.trans HD2.out.2 hs3) (HD2.out.2.trans HD2.out.1.size hh3))
        have hdl := drop_len ys p
        clear ht3 hs3 hh3 HD2 HT2 HE2
        go_wp2_with fail
        refine (tree_set (dropF ys p) (dirN p) base tb v3 w3 HE4.out HT3.out (drop_sorted HOY.out.sorted p) (fun n hn => by have := drop_small HXY.out n hn; omega) (show p.size < 4294967281 by omega) (by omega)).mono ?_
        rintro e4 w4 ⟨rfl, hd4⟩
        have HD4 := Aside0.mk (Tdone.after HD3.out.1 HD3.out.2 hd4)
        clear hd4
        go_wp2_with fail
        go_end0
        exact ⟨rfl, by rw [HEq.out, HE3.out]; exact HD4.out⟩
      · have hdd := dirT_has HOY.out.sorted hh
        have hlt := (drop_cut HOY.out.sorted hh).1
        obtain ⟨A, cc, rfl, hcc, hC⟩ := HT2.out.row.rd
        obtain ⟨ad, rfl, k0, k1, _⟩ := C_node hC (loT ys p).length hlt
        have c0 := blk_cell HT2.out.box 0
        clear hC hh
        cases hx : (ys.getD (loT ys p).length Nd.zero).dir
        · rw [hx] at hdd k1
          have HE3 := Aside0.mk (HNo.out hdd)
          clear hdd hx k0
          go_wp2_with fail
          refine (tree_drop ys p base tb _ w2 HE2.out HT2.out HOY.out HF.out.ne (fun n hn => by have := HXY.out n hn; omega) (by omega) (by omega)).mono ?_
          rintro e3 w3 ⟨⟨k3, rfl⟩, v3, ht3, hs3, hh3⟩
          have HT3 := Aside0.mk ht3
          have HE4 := Aside0.mk (HE2.out.tdone hB HT2.out hs3)
          have HD3 := Aside0.mk (And.intro (HD2.out.1.trans HD2.out.2 hs3) (HD2.out.2.trans HD2.out.1.size hh3))
          have hdl := drop_len ys p
          clear ht3 hs3 hh3 HD2 HT2 HE2 c0 k1
          go_wp2_with fail
          refine (tree_set (dropF ys p) (dirN p) base tb v3 w3 HE4.out HT3.out (drop_sorted HOY.out.sorted p) (fun n hn => by have := drop_small HXY.out n hn; omega) (show p.size < 4294967281 by omega) (by omega)).mono ?_
          rintro e4 w4 ⟨rfl, hd4⟩
          have HD4 := Aside0.mk (Tdone.after HD3.out.1 HD3.out.2 hd4)
          clear hd4
          go_wp2_with fail
          go_end0
          exact ⟨rfl, by rw [HEq.out, HE3.out]; exact HD4.out⟩
        · rw [hx] at hdd k1
          have HE3 := Aside0.mk (HYes.out hdd)
          clear hdd hx k0
          go_wp2_with fail
          go_end0
          exact ⟨rfl, by rw [HEq.out, HE3.out]; exact ⟨_, HT2.out, HD2.out.1, HD2.out.2⟩⟩
    | some d =>
      have hy : upsT xs p = ensF xs d := upsT_some h0
      have hl := pParent_len h0
      have hpd : pDir p = d := by unfold pDir; rw [h0]; rfl
      have hil : (pParent p).isSome = true := by rw [h0]; rfl
      rw [hil, hpd] at HP
      rw [hy] at HEq HOY HXY hul
      have HI := Aside0.mk (ih d xs v w (by omega) hE ht ho (hf.up h0) hx (by omega) (by omega))
      have HT0 := Aside0.mk ht
      have HE0 := Aside0.mk hE
      obtain ⟨ys, hys⟩ : ∃ ys, ys = ensF xs d := ⟨_, rfl⟩
      rw [← hys] at HEq HOY HXY HI hul
      have hyl : ys.length ≤ 100000000 := by omega
      clear hE ht ho hf hx hup h0 hy hil ih hpd hul hl hys
      go_enter Tryz.func284, Tryz.ntmps284
      go_wp2_with (first | (go_at_call 116; refine HP.out.mono ?_; rintro e1 w1 ⟨rfl, rfl⟩) | (go_at_call 284; refine HI.out.mono ?_; rintro e1 w1 ⟨rfl, v1, ht1, hs1, hh1⟩; have HT1 := Aside0.mk ht1; have HE1 := Aside0.mk (HE0.out.tdone hB HT0.out hs1); have HD1 := Aside0.mk (And.intro hs1 hh1); clear ht1 hs1 hh1))
      clear HI HP HE0 HT0
      refine (tree_find ys p base tb v1 w1 HE1.out HT1.out HOY.out.sorted (fun n hn => by have := HXY.out n hn; omega) (by omega) (by omega)).mono ?_
      rintro e2 w2 ⟨rfl, hb2⟩
      have HT2 := Aside0.mk (HT1.out.below hb2)
      have HE2 := Aside0.mk (HE1.out.below hb2)
      have HD2 := Aside0.mk (And.intro (HD1.out.1.trans HD1.out.2 (TSt.of_below hb2)) HD1.out.2)
      clear hb2 HD1 HT1 HE1
      have HNo := Aside0.mk (show dirT ys p = false → ens1 ys p = setF (dropF ys p) (dirN p) from fun h => by unfold ens1; rw [h]; rfl)
      have HYes := Aside0.mk (show dirT ys p = true → ens1 ys p = ys from fun h => by unfold ens1; rw [h]; rfl)
      cases hh : hasT ys p
      · have HE3 := Aside0.mk (HNo.out (dirT_hasnt hh))
        clear hh
        go_wp2_with fail
        refine (tree_drop ys p base tb v1 w2 HE2.out HT2.out HOY.out HF.out.ne (fun n hn => by have := HXY.out n hn; omega) (by omega) (by omega)).mono ?_
        rintro e3 w3 ⟨⟨k3, rfl⟩, v3, ht3, hs3, hh3⟩
        have HT3 := Aside0.mk ht3
        have HE4 := Aside0.mk (HE2.out.tdone hB HT2.out hs3)
        have HD3 := Aside0.mk (And.intro (HD2.out.1.trans HD2.out.2 hs3) (HD2.out.2.trans HD2.out.1.size hh3))
        have hdl := drop_len ys p
        clear ht3 hs3 hh3 HD2 HT2 HE2
        go_wp2_with fail
        refine (tree_set (dropF ys p) (dirN p) base tb v3 w3 HE4.out HT3.out (drop_sorted HOY.out.sorted p) (fun n hn => by have := drop_small HXY.out n hn; omega) (show p.size < 4294967281 by omega) (by omega)).mono ?_
        rintro e4 w4 ⟨rfl, hd4⟩
        have HD4 := Aside0.mk (Tdone.after HD3.out.1 HD3.out.2 hd4)
        clear hd4
        go_wp2_with fail
        go_end0
        exact ⟨rfl, by rw [HEq.out, HE3.out]; exact HD4.out⟩
      · have hdd := dirT_has HOY.out.sorted hh
        have hlt := (drop_cut HOY.out.sorted hh).1
        obtain ⟨A, cc, rfl, hcc, hC⟩ := HT2.out.row.rd
        obtain ⟨ad, rfl, k0, k1, _⟩ := C_node hC (loT ys p).length hlt
        have c0 := blk_cell HT2.out.box 0
        clear hC hh
        cases hx : (ys.getD (loT ys p).length Nd.zero).dir
        · rw [hx] at hdd k1
          have HE3 := Aside0.mk (HNo.out hdd)
          clear hdd hx k0
          go_wp2_with fail
          refine (tree_drop ys p base tb _ w2 HE2.out HT2.out HOY.out HF.out.ne (fun n hn => by have := HXY.out n hn; omega) (by omega) (by omega)).mono ?_
          rintro e3 w3 ⟨⟨k3, rfl⟩, v3, ht3, hs3, hh3⟩
          have HT3 := Aside0.mk ht3
          have HE4 := Aside0.mk (HE2.out.tdone hB HT2.out hs3)
          have HD3 := Aside0.mk (And.intro (HD2.out.1.trans HD2.out.2 hs3) (HD2.out.2.trans HD2.out.1.size hh3))
          have hdl := drop_len ys p
          clear ht3 hs3 hh3 HD2 HT2 HE2 c0 k1
          go_wp2_with fail
          refine (tree_set (dropF ys p) (dirN p) base tb v3 w3 HE4.out HT3.out (drop_sorted HOY.out.sorted p) (fun n hn => by have := drop_small HXY.out n hn; omega) (show p.size < 4294967281 by omega) (by omega)).mono ?_
          rintro e4 w4 ⟨rfl, hd4⟩
          have HD4 := Aside0.mk (Tdone.after HD3.out.1 HD3.out.2 hd4)
          clear hd4
          go_wp2_with fail
          go_end0
          exact ⟨rfl, by rw [HEq.out, HE3.out]; exact HD4.out⟩
        · rw [hx] at hdd k1
          have HE3 := Aside0.mk (HYes.out hdd)
          clear hdd hx k0
          go_wp2_with fail
          go_end0
          exact ⟨rfl, by rw [HEq.out, HE3.out]; exact ⟨_, HT2.out, HD2.out.1, HD2.out.2⟩⟩

end Go.Proofs.YtbkbpdpegiekhaaGreatDoor
