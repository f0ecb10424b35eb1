/- Directories that must be there: in order, each once; the search among them. -/
import Derived.Test.YtbkbpdpegiekhaaGreatDoorR15
import Derived.Deep.RegionHeld3
set_option linter.unusedVariables false
set_option linter.unusedSimpArgs false
namespace Mo
open Go
section
variable {α : Type} [Inhabited α] [DecidableEq α]
theorem compactUpTo_mem (d : Array α) : ∀ (m : Nat) (x : α), x ∈ Lib.compactUpTo d m ↔ ∃ j, j < m ∧ d[j]! = x
  | 0, x => by simp [Lib.compactUpTo]
  | m + 1, x => by
    rw [Lib.compactUpTo_succ, List.mem_append, compactUpTo_mem d m x]
    constructor
    · rintro (⟨j, hj, e⟩ | h)
      · exact ⟨j, by omega, e⟩
      · by_cases hk : Lib.keeps d m = true
        · rw [if_pos hk, List.mem_singleton] at h
          exact ⟨m, by omega, h.symm⟩
        · rw [if_neg hk] at h; cases h
    · rintro ⟨j, hj, e⟩
      rcases Nat.lt_or_ge j m with h | h
      · exact .inl ⟨j, h, e⟩
      · have : j = m := by omega
        subst this
        by_cases hk : Lib.keeps d j = true
        · rw [if_pos hk]; exact .inr (by simp [e])
        · left
          unfold Lib.keeps at hk
          have hk : ¬ (j = 0 ∨ d[j]! ≠ d[j - 1]!) := fun h => hk (decide_eq_true h)
          have h0 : j ≠ 0 := fun h => hk (.inl h)
          have h1 : d[j]! = d[j - 1]! := Classical.byContradiction fun h => hk (.inr h)
          exact ⟨j - 1, by omega, by rw [← h1]; exact e⟩
theorem compact_mem (zs : List α) (x : α) : x ∈ Lib.compact zs ↔ x ∈ zs := by
  unfold Lib.compact
  rw [compactUpTo_mem]
  constructor
  · rintro ⟨j, hj, e⟩
    rw [getElem!_pos _ j (by simpa using hj)] at e
    rw [← e]; simp
  · intro h
    obtain ⟨j, hj, e⟩ := List.mem_iff_getElem.1 h
    exact ⟨j, hj, by rw [getElem!_pos _ j (by simpa using hj)]; simpa using e⟩
theorem compactUpTo_strict (d : Array α) (le lt : α → α → Prop) (hlt : ∀ x y, le x y → x ≠ y → lt x y) (htr : ∀ x y z, le x y → lt y z → lt x z) (hre : ∀ x, le x x)
    (hs : ∀ i j, i < j → j < d.size → le d[i]! d[j]!) : ∀ m, m ≤ d.size → (Lib.compactUpTo d m).Pairwise lt
  | 0, _ => by simp [Lib.compactUpTo]
  | m + 1, hm => by
    rw [Lib.compactUpTo_succ, List.pairwise_append]
    refine ⟨compactUpTo_strict d le lt hlt htr hre hs m (by omega), by split <;> simp, fun a ha b hb => ?_⟩
    by_cases hk : Lib.keeps d m = true
    · rw [if_pos hk, List.mem_singleton] at hb
      subst hb
      obtain ⟨j, hj, rfl⟩ := (compactUpTo_mem d m a).1 ha
      unfold Lib.keeps at hk
      rcases of_decide_eq_true hk with h | h
      · omega
      · have h1 : lt d[m - 1]! d[m]! := hlt _ _ (hs (m - 1) m (by omega) (by omega)) (fun e => h e.symm)
        rcases Nat.lt_or_ge j (m - 1) with hj2 | hj2
        · exact htr _ _ _ (hs j (m - 1) hj2 (by omega)) h1
        · have : j = m - 1 := by omega
          rw [this]; exact h1
    · rw [if_neg hk] at hb; cases hb
end
theorem compS_mem {xs : List S} {x : S} : x ∈ compS xs ↔ x ∈ xs := by
  unfold compS
  rw [List.mem_map]
  constructor
  · rintro ⟨l, hl, rfl⟩
    rw [compact_mem] at hl
    obtain ⟨y, hy, rfl⟩ := List.mem_map.1 hl
    rw [mk_bs]; exact hy
  · intro h
    exact ⟨bs x, (compact_mem _ _).2 (List.mem_map.2 ⟨x, h, rfl⟩), mk_bs x⟩
def ltS (x y : S) : Prop := pCmp x y < 0
theorem le_ltS {x y z : S} (h1 : leS x y = true) (h2 : ltS y z) : ltS x z := by
  rw [leS_iff] at h1
  by_cases e : pCmp x y = 0
  · rw [pCmp_eq.1 e]; exact h2
  · exact pCmp_trans (by omega) h2
theorem compS_strict {xs : List S} (h : xs.Pairwise fun a b => leS a b = true) : (compS xs).Pairwise ltS := by
  unfold compS
  rw [List.pairwise_map]
  have hd : ∀ i, i < xs.length → (xs.map bs).toArray[i]! = bs (xs[i]!) := by
    intro i hi
    rw [getElem!_pos _ i (by simpa using hi), getElem!_pos _ i hi]
    simp
  have := compactUpTo_strict (xs.map bs).toArray (fun a b => leS (mk a) (mk b) = true) (fun a b => ltS (mk a) (mk b))
    (fun x y h hne => by
      rw [leS_iff] at h
      have : pCmp (mk x) (mk y) ≠ 0 := fun e => hne (mk_inj (pCmp_eq.1 e))
      unfold ltS
      omega) (fun x y z => le_ltS) (fun x => by rw [leS_iff, pCmp_self]; exact Int.le_refl _)
    (fun i j hij hj => by
      simp only [List.size_toArray, List.length_map] at hj
      rw [hd i (by omega), hd j hj, mk_bs, mk_bs, getElem!_pos _ i (by omega), getElem!_pos _ j hj]
      exact List.pairwise_iff_getElem.1 h i j (by omega) hj hij) (xs.map bs).length (by simp)
  exact this
end Mo
namespace Go.Proofs.YtbkbpdpegiekhaaGreatDoor
open Go.RowKit Go.Proofs.YtbkbpdpegiekhaaGreatDoorW.PrintWords Mo

theorem ensL_mem {l : Ly} {x : S} : x ∈ ensL l ↔ x ∈ srcs l := by unfold ensL; rw [compS_mem, sortS_mem]
theorem ensL_strict (l : Ly) : (ensL l).Pairwise ltS := compS_strict (sortS_sorted _)
/-- A list in strict order: what is below a text lies ahead. -/
theorem strict_up {xs : List S} (h : xs.Pairwise ltS) (p : S) (a b : Nat) (hab : a ≤ b) (hb : b < xs.length) (hc : pCmp (xs.getD b ⟨#[]⟩) p < 0) : pCmp (xs.getD a ⟨#[]⟩) p < 0 := by
  rcases Nat.lt_or_ge a b with h1 | h1
  · have := List.pairwise_iff_getElem.1 h a b (by omega) hb h1
    rw [List.getD_eq_getElem?_getD, List.getElem?_eq_getElem hb] at hc
    rw [List.getD_eq_getElem?_getD, List.getElem?_eq_getElem (by omega)]
    exact pCmp_trans this hc
  · have : a = b := by omega
    rw [this]; exact hc
theorem found_mem {xs : List S} (h : xs.Pairwise ltS) (p : S) (i : Nat) (h1 : ∀ k, k < i → pCmp (xs.getD k ⟨#[]⟩) p < 0) (h2 : ∀ k, i ≤ k → k < xs.length → 0 ≤ pCmp (xs.getD k ⟨#[]⟩) p) :
    (decide (i < xs.length) && (pCmp (xs.getD i ⟨#[]⟩) p == 0)) = decide (p ∈ xs) := by
  by_cases hm : p ∈ xs
  · obtain ⟨k, hk, rfl⟩ := List.mem_iff_getElem.1 hm
    have hkk : xs.getD k ⟨#[]⟩ = xs[k] := by rw [List.getD_eq_getElem?_getD, List.getElem?_eq_getElem hk]; rfl
    have hik : i ≤ k := by
      rcases Nat.lt_or_ge k i with h' | h'
      · have := h1 k h'
        rw [hkk, pCmp_self] at this
        omega
      · exact h'
    have : i = k := by
      rcases Nat.lt_or_ge i k with h' | h'
      · have h3 := List.pairwise_iff_getElem.1 h i k (by omega) hk h'
        have h4 := h2 i (Nat.le_refl _) (by omega)
        rw [List.getD_eq_getElem?_getD, List.getElem?_eq_getElem (by omega)] at h4
        unfold ltS at h3
        simp only [Option.getD_some] at h4
        omega
      · omega
    subst this
    rw [decide_eq_true hm, hkk, pCmp_self]
    simp [hk]
  · rw [decide_eq_false hm]
    by_cases hi : i < xs.length
    · have : pCmp (xs.getD i ⟨#[]⟩) p ≠ 0 := fun e => hm (by
        have := pCmp_eq.1 e
        rw [← this, List.getD_eq_getElem?_getD, List.getElem?_eq_getElem hi]
        simp)
      rw [beq_eq_false_iff_ne.2 this, Bool.and_false]
    · simp [hi]

set_option maxHeartbeats 1000000 in
theorem search_strs (xs : List S) (p : S) (v : Value) (w : World) (hE : Env w) (hv : Rd Kd.string w v xs) (hx : ∀ s ∈ xs, s.size < 4294967281) (h2 : p.size < 4294967281) (hsz : xs.length ≤ 1000000000000)
    (hm : xs.Pairwise ltS) :
    Calls Tryz.prog 194 #[v, .string p, .func (.func 149) #[] #[]] w fun e w' => ∃ i : Int, e = .returned (.tuple #[.int .i64 i, .bool (decide (p ∈ xs))]) ∧ Below w.heap.size w w' := by
  obtain ⟨A, c, rfl, hl, hc⟩ := hv
  have HE := Aside0.mk hE
  have HX := Aside0.mk hx
  have HM := Aside0.mk (strict_up hm p)
  have HFm := Aside0.mk (found_mem hm p)
  have HC := Aside0.mk hc
  clear hE hx hm hc
  obtain ⟨n, hn0⟩ : ∃ n, n = xs.length := ⟨_, rfl⟩
  rw [← hn0] at hsz hl ⊢
  have HN := Aside0.mk hn0
  clear hn0
  obtain ⟨mb, hmb⟩ : ∃ mb, mb = decide (p ∈ xs) := ⟨_, rfl⟩
  rw [← hmb]
  have HMB := Aside0.mk hmb
  clear hmb
  go_enter Tryz.func194, Tryz.ntmps194
  go_wp2_with fail
  go_loopw [9, 10] (fun i j wr => ∃ a b : Nat, a ≤ b ∧ b ≤ n ∧ i = .int .i64 a ∧ j = .int .i64 b ∧ Aside0 (∀ h, h < a → pCmp (xs.getD h ⟨#[]⟩) p < 0) ∧ Aside0 (∀ h, b ≤ h → h < n → 0 ≤ pCmp (xs.getD h ⟨#[]⟩) p) ∧ Aside0 (Grew w wr))
    (fun i j _ => (intOf j).toNat - (intOf i).toNat)
  case atStart => exact ⟨0, n, Nat.zero_le _, Nat.le_refl _, rfl, rfl, ⟨fun h hh => absurd hh (Nat.not_lt_zero _)⟩, ⟨fun h h1 h2 => absurd h2 (by omega)⟩, ⟨Grew.refl _⟩⟩
  case round =>
    obtain ⟨a, b, hab, hbn, rfl, rfl, HA, HB, HG⟩ := hrel
    by_cases hlt : a < b
    · have hh : (a + b) / 2 < n := by omega
      obtain ⟨ad, rfl, k0⟩ := C_str (Kd.C_below HC.out HG.out.below) ((a + b) / 2) (by rw [← HN.out]; exact hh)
      have hp1 := HX.out (xs.getD ((a + b) / 2) ⟨#[]⟩) (getD_memStr _ _ (by rw [← HN.out]; exact hh))
      have hmo := HM.out
      rw [← HN.out] at hmo
      have HM2 := Aside0.mk hmo
      clear hmo
      go_wp2_with fail
      refine (route_Compare (xs.getD ((a + b) / 2) ⟨#[]⟩) p _ (HE.out.grew HG.out) hp1 h2).mono ?_
      rintro e w1 ⟨rfl, hg⟩
      have HG1 := Aside0.mk (HG.out.trans hg)
      clear hg HG
      obtain ⟨cc, hcc⟩ : ∃ cc, cc = pCmp (xs.getD ((a + b) / 2) ⟨#[]⟩) p := ⟨_, rfl⟩
      rw [← hcc]
      have HCC := Aside0.mk hcc
      clear hcc k0 hp1
      by_cases hneg : cc < 0
      · have hnb : decide (cc < 0) = true := decide_eq_true hneg
        go_wp2_with fail
        go_roundw
        case rel =>
          exact ⟨(a + b) / 2 + 1, b, by omega, by omega, by go_num, rfl, ⟨fun h hh => HM2.out h ((a + b) / 2) (by omega) (by omega) (by rw [← HCC.out]; exact hneg)⟩, HB, HG1⟩
        case measure => simp [intOf]; omega
      · have hnb : decide (cc < 0) = false := decide_eq_false hneg
        have HNN := Aside0.mk hneg
        clear hneg
        go_wp2_with fail
        go_roundw
        case rel =>
          exact ⟨a, (a + b) / 2, by omega, by omega, rfl, by go_num, HA, ⟨fun h h1 h2 => Classical.byContradiction fun hc => by have q1 := HNN.out; have q2 := HM2.out ((a + b) / 2) h h1 h2 (by omega); rw [← HCC.out] at q2; omega⟩, HG1⟩
        case measure => simp [intOf]; omega
    · obtain rfl : b = a := by omega
      clear hlt
      have hfin := HFm.out b HA.out (by rw [← HN.out]; exact HB.out)
      rw [← HN.out, ← HMB.out] at hfin
      have HFin := Aside0.mk hfin
      have HCm := HC.out
      clear hfin
      by_cases hin : b < n
      · obtain ⟨ad, rfl, k0⟩ := C_str (Kd.C_below HC.out HG.out.below) b (by rw [← HN.out]; exact hin)
        have hp1 := HX.out (xs.getD b ⟨#[]⟩) (getD_memStr _ _ (by rw [← HN.out]; exact hin))
        clear HCm
        go_wp2_with fail
        refine (route_Compare (xs.getD b ⟨#[]⟩) p _ (HE.out.grew HG.out) hp1 h2).mono ?_
        rintro e w1 ⟨rfl, hg⟩
        have HG1 := Aside0.mk (HG.out.trans hg)
        clear hg HG k0 hp1
        go_wp2_with fail
        go_ret2
        refine ⟨b, tup2 rfl ?_, HG1.out.below⟩
        rw [← HFin.out, decide_eq_true hin]; rfl
      · clear HCm
        go_wp2_with fail
        go_ret2
        refine ⟨b, tup2 rfl ?_, HG.out.below⟩
        rw [← HFin.out, decide_eq_false hin]; rfl

end Go.Proofs.YtbkbpdpegiekhaaGreatDoor

/- layer: files. -/
set_option linter.unusedVariables false
set_option linter.unusedSimpArgs false
namespace Go.Proofs.YtbkbpdpegiekhaaGreatDoor
open Go.RowKit Go.Proofs.YtbkbpdpegiekhaaGreatDoorW.PrintWords Mo

def blockB (l : Ly) (n : Nd) : Bool := decide (n.path ∈ ensL l) && !n.dir
/-- Is nothing below a file? -/
def filesB (l : Ly) : Bool := !l.adds.any (blockB l)

theorem ensL_len {l : Ly} (h : Lb l) : (ensL l).length ≤ 40000000000 := by
  have h1 := srcA_len h
  have h2 := srcW_len h
  have h3 := srcO_len h
  have h4 : (ensL l).length ≤ (sortS (srcs l)).length := by
    unfold ensL compS
    rw [List.length_map]
    have := Lib.compact_length_le ((sortS (srcs l)).map bs)
    rw [List.length_map] at this
    exact this
  rw [sortS_len] at h4
  unfold srcs at h4
  rw [List.length_append, List.length_append] at h4
  omega
theorem ensL_small {l : Ly} (h : Lb l) : ∀ s ∈ ensL l, s.size ≤ 100000 := fun s hs => srcs_small h s (ensL_mem.1 hs)

set_option maxHeartbeats 2000000 in
theorem layer_files (l : Ly) (va vw vo : Value) (w : World) (hE : Env w) (hr : RdL w va vw vo l) (hl : Lb l) :
    Calls Tryz.prog 143 #[.agg #[va, vw, vo]] w fun e w' => e = .returned (.bool (filesB l)) ∧ Below w.heap.size w w' := by
  have hrb := fun o => hr.below ((Grew.refl w).alloc o).below
  have HR := Aside0.mk hrb
  have hEb : ∀ o, Env (w.alloc o) := fun o => hE.below ((Grew.refl w).alloc o).below
  obtain ⟨A, ca, rfl, hca, hCa⟩ := hr.1
  obtain ⟨Wp, cw, rfl, hcw, hCw⟩ := hr.2.1
  obtain ⟨Op, co, rfl, hco, hCo⟩ := hr.2.2
  have HE := Aside0.mk hE
  have HEb := Aside0.mk hEb
  have HL := Aside0.mk hl
  have HCa := Aside0.mk hCa
  have hna := hl.na
  have hu23 := Tryz.underlying23
  clear hE hEb hCa hCw hCo hl hr hrb
  obtain ⟨na, hna0⟩ : ∃ n, n = l.adds.length := ⟨_, rfl⟩
  obtain ⟨nw, hnw0⟩ : ∃ n, n = l.whites.length := ⟨_, rfl⟩
  obtain ⟨no, hno0⟩ : ∃ n, n = l.opaques.length := ⟨_, rfl⟩
  rw [← hna0] at hna hca HR ⊢
  rw [← hnw0] at hcw HR ⊢
  rw [← hno0] at hco HR ⊢
  have HNa := Aside0.mk hna0
  clear hna0 hnw0 hno0
  go_enter Tryz.func143, Tryz.ntmps143
  go_wp2_with fail
  refine (layer_Ensured l _ _ _ _ (HEb.out _) (HR.out _) HL.out).mono ?_
  rintro e1 w1 ⟨v, rfl, ho, hb1⟩
  have HV := Aside0.mk ho.rd
  have HB1 := Aside0.mk (box_below _ hb1)
  have hw1 := (hb1.block w.heap.size (by simp)).trans (heap_alloc_new w _)
  have c0 := blk_cell hw1 0
  clear ho hb1 hw1
  go_wp2_with fail
  go_loopw [13] (fun i wr => ∃ (k : Nat), k ≤ na ∧ i = .int .i64 k ∧ Aside0 ((l.adds.drop k).any (blockB l) = l.adds.any (blockB l)) ∧ Aside0 (Below w1.heap.size w1 wr))
    (fun i _ => na - (intOf i).toNat)
  case atStart => exact ⟨0, Nat.zero_le _, rfl, ⟨rfl⟩, ⟨Below.refl _ _⟩⟩
  case round =>
    clear c0
    obtain ⟨k, hk, rfl, HD, HB⟩ := hrel
    have HBw := Aside0.mk (below_then HB1.out HB1.out.size HB.out)
    by_cases hlt : k < na
    · have hk2 : k < l.adds.length := by rw [← HNa.out]; exact hlt
      obtain ⟨ad, rfl, k0, k1, k2, k3, k4⟩ := C_node (Kd.C_below HCa.out HBw.out) k hk2
      have hp1 := HL.out.a (l.adds.getD k Nd.zero) (getD_mem _ _ hk2)
      have HDr := Aside0.mk (drop_node l.adds k hk2)
      obtain ⟨x, hx0⟩ : ∃ x, x = l.adds.getD k Nd.zero := ⟨_, rfl⟩
      rw [← hx0] at hp1 HDr k0 k1 k2 k3 k4
      clear hx0 hk2
      go_wp2_with fail
      have hb0 := ((Grew.refl wr).alloc (.cells #[.string x.path, .bool x.dir, .string x.data, .int .i64 x.mode, .int .i64 x.time] 46)).below
      have hw0 := heap_alloc_new wr (.cells #[.string x.path, .bool x.dir, .string x.data, .int .i64 x.mode, .int .i64 x.time] 46)
      refine (search_strs (ensL l) x.path v _ ((HE.out.below HBw.out).below hb0) ((HV.out.below HB.out).below hb0) (fun s hs => by have := ensL_small HL.out s hs; omega) (by omega) (by have := ensL_len HL.out; omega) (ensL_strict l)).mono ?_
      rintro e2 w2 ⟨i, rfl, hb2⟩
      have HB2 := Aside0.mk (HB.out.trans (below_lower (box_below _ hb2) HB.out.size))
      have hw2 := (hb2.block wr.heap.size (by simp)).trans hw0
      have c1 := blk_cell hw2 1
      have hst : (x :: l.adds.drop (k + 1)).any (blockB l) = (blockB l x || (l.adds.drop (k + 1)).any (blockB l)) := rfl
      have hbl : blockB l x = (decide (x.path ∈ ensL l) && !x.dir) := rfl
      clear hb0 hw0 hb2 hw2 k0 k1 k2 k3 k4
      cases hm : decide (x.path ∈ ensL l)
      · rw [hm, Bool.false_and] at hbl
        have HS := Aside0.mk (show (l.adds.drop (k + 1)).any (blockB l) = l.adds.any (blockB l) by rw [← HD.out, HDr.out, hst, hbl, Bool.false_or])
        clear hst hbl hm
        go_wp2_with fail
        go_roundw
        case rel => exact ⟨k + 1, by omega, by go_num, HS, HB2⟩
        case measure => simp [intOf]; omega
      · rw [hm, Bool.true_and] at hbl
        cases hd : x.dir
        · rw [hd] at hbl c1
          have HS := Aside0.mk (show filesB l = false by unfold filesB; rw [← HD.out, HDr.out, hst, hbl]; rfl)
          clear hst hbl hm
          go_wp2_with fail
          go_ret
          exact ⟨by rw [HS.out]; rfl, below_then HB1.out HB1.out.size HB2.out⟩
        · rw [hd] at hbl c1
          have HS := Aside0.mk (show (l.adds.drop (k + 1)).any (blockB l) = l.adds.any (blockB l) by rw [← HD.out, HDr.out, hst, hbl]; rfl)
          clear hst hbl hm
          go_wp2_with fail
          go_roundw
          case rel => exact ⟨k + 1, by omega, by go_num, HS, HB2⟩
          case measure => simp [intOf]; omega
    · obtain rfl : na = k := by omega
      have HF := Aside0.mk (show filesB l = true by
        have := HD.out
        rw [List.drop_of_length_le (by rw [← HNa.out]; exact Nat.le_refl _)] at this
        unfold filesB
        rw [← this]; rfl)
      clear HD hlt
      go_wp2_with fail
      go_ret
      exact ⟨by rw [HF.out]; rfl, HBw.out⟩

end Go.Proofs.YtbkbpdpegiekhaaGreatDoor

/- layer: Check. -/
set_option linter.unusedVariables false
set_option linter.unusedSimpArgs false
namespace Go.Proofs.YtbkbpdpegiekhaaGreatDoor
open Go.RowKit Go.Proofs.YtbkbpdpegiekhaaGreatDoorW.PrintWords Mo

def bytesN (l : List Nd) : Nat := (l.map fun n => n.data.size).sum
def entsE (l : Ly) : Int := orE (addsE ⟨#[]⟩ [] l.adds) (markersE 1 none l.whites) (markersE 2 none l.opaques)
/-- Why a layer may not be; 0: it may. -/
def checkL (l : Ly) : Int :=
  if 4096 < l.adds.length + l.whites.length + l.opaques.length then 7
  else if entsE l = 0 then (if filesB l = true then (if 4194304 < bytesN l.adds then 7 else 0) else 6)
  else entsE l

/-- What is kept while the entries are checked. -/
structure ChkSt (w W : World) (va vw vo : Value) : Prop where
  lay : W.heap[w.heap.size]? = some (.cells #[va, vw, vo] 25 (0, 0))
  below : Below w.heap.size w W
theorem ChkSt.step {w W W' : World} {va vw vo : Value} (h : ChkSt w W va vw vo) (hb : Below W.heap.size W W') : ChkSt w W' va vw vo :=
  ⟨(hb.block _ (blk_lt h.lay)).trans h.lay, below_then h.below h.below.size hb⟩
theorem ChkSt.alloc {w W : World} {va vw vo : Value} (h : ChkSt w W va vw vo) (o : Obj) : ChkSt w (W.alloc o) va vw vo := h.step ((Grew.refl W).alloc o).below
def ChkS (w : World) (va vw vo : Value) (W : World) : Prop :=
  W.cell? ⟨w.heap.size, 0, none⟩ = some va ∧ W.cell? ⟨w.heap.size, 1, none⟩ = some vw ∧ W.cell? ⟨w.heap.size, 2, none⟩ = some vo ∧ ChkSt w W va vw vo
theorem ChkSt.all {w W : World} {va vw vo : Value} (h : ChkSt w W va vw vo) : ChkS w va vw vo W := ⟨blk_cell h.lay 0, blk_cell h.lay 1, blk_cell h.lay 2, h⟩

theorem ChkS.st {w W : World} {va vw vo : Value} (h : ChkS w va vw vo W) : ChkSt w W va vw vo := h.2.2.2
theorem ChkS.keep {w W W' : World} {va vw vo : Value} (hb : Below W.heap.size W W') (h : ChkS w va vw vo W) : ChkS w va vw vo W' := (h.st.step hb).all
theorem ChkS.keepA {w W : World} {va vw vo : Value} {o : Obj} (h : ChkS w va vw vo W) : ChkS w va vw vo (W.alloc o) := (h.st.alloc o).all

set_option maxHeartbeats 4000000 in
theorem layer_Check (l : Ly) (va vw vo : Value) (w : World) (hE : Env w) (hr : RdL w va vw vo l) (hl : Lb l) :
    Calls Tryz.prog 82 #[.agg #[va, vw, vo]] w fun e w' => e = .returned (.int .i64 (checkL l)) ∧ Below w.heap.size w w' := by
  have hrb := fun W (hb : Below w.heap.size w W) => hr.below hb
  have HR := Aside0.mk hrb
  have hEb : ∀ W, Below w.heap.size w W → Env W := fun W hb => hE.below hb
  obtain ⟨A, ca, rfl, hca, hCa⟩ := hr.1
  obtain ⟨Wp, cw, rfl, hcw, hCw⟩ := hr.2.1
  obtain ⟨Op, co, rfl, hco, hCo⟩ := hr.2.2
  have HE := Aside0.mk hEb
  have HL := Aside0.mk hl
  have HCa := Aside0.mk hCa
  have hna := hl.na
  have hnw := hl.nw
  have hno := hl.no
  clear hE hEb hCa hCw hCo hl hr hrb
  have hadds : ∀ W, Below w.heap.size w W → Calls Tryz.prog 141 #[.slice A l.adds.length ca] W fun e w' => e = .returned (.int .i64 (addsE ⟨#[]⟩ [] l.adds)) ∧ Below W.heap.size W w' :=
    fun W hb => layer_adds l.adds _ W (HE.out W hb) (HR.out W hb).1 (fun n hn => by have := HL.out.a n hn; omega) (by omega)
  have hmw : ∀ W, Below w.heap.size w W → Calls Tryz.prog 142 #[.slice Wp l.whites.length cw, .int .i64 1] W fun e w' => e = .returned (.int .i64 (markersE 1 none l.whites)) ∧ Below W.heap.size W w' :=
    fun W hb => layer_markers 1 (.inl rfl) l.whites _ W (HE.out W hb) (HR.out W hb).2.1 (fun n hn => by have := HL.out.w n hn; omega) (by omega)
  have hmo : ∀ W, Below w.heap.size w W → Calls Tryz.prog 142 #[.slice Op l.opaques.length co, .int .i64 2] W fun e w' => e = .returned (.int .i64 (markersE 2 none l.opaques)) ∧ Below W.heap.size W w' :=
    fun W hb => layer_markers 2 (.inr rfl) l.opaques _ W (HE.out W hb) (HR.out W hb).2.2 (fun n hn => by have := HL.out.o n hn; omega) (by omega)
  have HAd := Aside0.mk hadds
  have HMw := Aside0.mk hmw
  have HMo := Aside0.mk hmo
  clear hadds hmw hmo
  obtain ⟨xe, hxe⟩ : ∃ xe, xe = addsE ⟨#[]⟩ [] l.adds := ⟨_, rfl⟩
  obtain ⟨ye, hye⟩ : ∃ ye, ye = markersE 1 none l.whites := ⟨_, rfl⟩
  obtain ⟨ze, hze⟩ : ∃ ze, ze = markersE 2 none l.opaques := ⟨_, rfl⟩
  have HEn := Aside0.mk (show entsE l = orE xe ye ze by unfold entsE; rw [hxe, hye, hze])
  rw [← hxe] at HAd
  rw [← hye] at HMw
  rw [← hze] at HMo
  clear hxe hye hze
  obtain ⟨na, hna0⟩ : ∃ n, n = l.adds.length := ⟨_, rfl⟩
  obtain ⟨nw, hnw0⟩ : ∃ n, n = l.whites.length := ⟨_, rfl⟩
  obtain ⟨no, hno0⟩ : ∃ n, n = l.opaques.length := ⟨_, rfl⟩
  rw [← hna0] at hna hca HR HAd ⊢
  rw [← hnw0] at hnw hcw HR HMw ⊢
  rw [← hno0] at hno hco HR HMo ⊢
  have HNa := Aside0.mk hna0
  have HTot := Aside0.mk (show l.adds.length + l.whites.length + l.opaques.length = na + nw + no by rw [hna0, hnw0, hno0])
  clear hna0 hnw0 hno0
  by_cases htot : 4096 < na + nw + no
  · have HF := Aside0.mk (show checkL l = 7 by unfold checkL; rw [if_pos (by rw [HTot.out]; exact htot)])
    go_enter Tryz.func82, Tryz.ntmps82
    go_wp2_with fail
    go_ret
    exact ⟨by rw [HF.out]; rfl, ((Grew.refl w).alloc _).below⟩
  have HF := Aside0.mk (show checkL l = if entsE l = 0 then (if filesB l = true then (if 4194304 < bytesN l.adds then 7 else 0) else 6) else entsE l by unfold checkL; rw [if_neg (by rw [HTot.out]; exact htot)])
  go_enter Tryz.func82, Tryz.ntmps82
  go_wp2_with fail
  have hst : ChkS w (.slice A na ca) (.slice Wp nw cw) (.slice Op no co) (w.alloc (.cells #[.slice A na ca, .slice Wp nw cw, .slice Op no co] 25)).drew := ChkSt.all ⟨heap_alloc_new w _, ((Grew.refl w).alloc _).drew.below⟩
  go_region_held3 (fun W => W.cell? ⟨w.heap.size, 0, none⟩ = some (.slice A na ca) ∧ W.cell? ⟨w.heap.size, 1, none⟩ = some (.slice Wp nw cw) ∧ W.cell? ⟨w.heap.size, 2, none⟩ = some (.slice Op no co) ∧ ChkSt w W (.slice A na ca) (.slice Wp nw cw) (.slice Op no co))
    (first | assumption | exact hst | (apply ChkS.keep; assumption; assumption) | (apply ChkS.keepA; assumption))
    (first
      | (go_at_call 141; refine (HAd.out _ ?_).mono ?_; (refine (ChkS.st (va := .slice A na ca) (vw := .slice Wp nw cw) (vo := .slice Op no co) ?_).below; assumption); rintro e w' ⟨rfl, hb⟩)
      | (go_at_call_of 142 (Value.slice Wp nw cw); refine (HMw.out _ ?_).mono ?_; (refine (ChkS.st (va := .slice A na ca) (vw := .slice Wp nw cw) (vo := .slice Op no co) ?_).below; assumption); rintro e w' ⟨rfl, hb⟩)
      | (go_at_call_of 142 (Value.slice Op no co); refine (HMo.out _ ?_).mono ?_; (refine (ChkS.st (va := .slice A na ca) (vw := .slice Wp nw cw) (vo := .slice Op no co) ?_).below; assumption); rintro e w' ⟨rfl, hb⟩)
      | (go_at_call 140; refine (cmp_Or xe ye ze _ _ (blk_cell (heap_alloc_new _ _) 0) (blk_cell (heap_alloc_new _ _) 1) (blk_cell (heap_alloc_new _ _) 2)).mono ?_; rintro e w' ⟨rfl, rfl⟩))
  rename_i _ _ _ _ hh
  have hch : ChkS w (.slice A na ca) (.slice Wp nw cw) (.slice Op no co) _ := hh
  have HS := Aside0.mk hch.st
  have c0 := hch.1
  clear hst hh
  clear hch
  obtain ⟨en, hen⟩ : ∃ en, en = orE xe ye ze := ⟨_, rfl⟩
  rw [← hen] at HEn ⊢
  clear hen
  generalize World.alloc _ (Obj.cells #[Value.int IntKind.i64 xe, Value.int IntKind.i64 ye, Value.int IntKind.i64 ze] 28) = w2 at HS c0 ⊢
  by_cases he : en = 0
  rotate_left
  · have HZ := Aside0.mk (show checkL l = en by rw [HF.out, if_neg (by rw [HEn.out]; exact he), HEn.out])
    have heb : (en != 0) = true := by simpa using he
    clear he
    go_wp2_with fail
    go_ret
    exact ⟨by rw [HZ.out]; rfl, HS.out.below⟩
  subst he
  have HF2 := Aside0.mk (show checkL l = if filesB l = true then (if 4194304 < bytesN l.adds then 7 else 0) else 6 by rw [HF.out, if_pos HEn.out])
  clear HF HEn
  go_wp2_with fail
  go_loopw [4, 36] (fun b i wr => ∃ (k s : Nat), k ≤ na ∧ i = .int .i64 k ∧ b = .int .i64 s ∧ s ≤ k * 1000000000 ∧ Aside0 (s + bytesN (l.adds.drop k) = bytesN l.adds) ∧ Aside0 (ChkSt w wr (.slice A na ca) (.slice Wp nw cw) (.slice Op no co)))
    (fun b i _ => na - (intOf i).toNat)
  case atStart => exact ⟨0, 0, Nat.zero_le _, rfl, rfl, by omega, ⟨by simp⟩, HS⟩
  case round =>
    clear c0 HS
    obtain ⟨k, s, hk, rfl, rfl, hs, HD, HS⟩ := hrel
    by_cases hlt : k < na
    · have hk2 : k < l.adds.length := by rw [← HNa.out]; exact hlt
      obtain ⟨ad, rfl, k0, k1, k2, k3, k4⟩ := C_node (Kd.C_below HCa.out HS.out.below) k hk2
      have hp1 := HL.out.d (l.adds.getD k Nd.zero) (getD_mem _ _ hk2)
      have HDr := Aside0.mk (drop_node l.adds k hk2)
      obtain ⟨x, hx0⟩ : ∃ x, x = l.adds.getD k Nd.zero := ⟨_, rfl⟩
      rw [← hx0] at hp1 HDr k0 k1 k2 k3 k4
      clear hx0 hk2
      have hkm : k * 1000000000 ≤ 100000 * 1000000000 := Nat.mul_le_mul_right _ (by omega)
      have hkk : s + x.data.size ≤ (k + 1) * 1000000000 := by omega
      go_wp2_with fail
      go_roundw
      case rel => exact ⟨k + 1, s + x.data.size, by omega, by go_num, by go_num, hkk, ⟨by
        have := HD.out
        rw [HDr.out] at this
        unfold bytesN at this ⊢
        rw [List.map_cons, List.sum_cons] at this
        omega⟩, ⟨HS.out.alloc _⟩⟩
      case measure => simp [intOf]; omega
    obtain rfl : na = k := by omega
    have HB := Aside0.mk (show bytesN l.adds = s by
      have := HD.out
      rw [List.drop_of_length_le (by rw [← HNa.out]; exact Nat.le_refl _)] at this
      unfold bytesN at this ⊢
      simpa using this.symm)
    obtain ⟨c0, c1, c2, _⟩ := HS.out.all
    clear hlt hk HD
    go_wp2_with fail
    refine (layer_files l _ _ _ _ (HE.out _ HS.out.below) (HR.out _ HS.out.below) HL.out).mono ?_
    rintro e2 w3 ⟨rfl, hb3⟩
    have HB3 := Aside0.mk (below_then HS.out.below HS.out.below.size hb3)
    clear hb3 c0 c1 c2
    cases hf : filesB l
    · have HZ := Aside0.mk (show checkL l = 6 by rw [HF2.out, hf]; rfl)
      clear hf
      go_wp2_with fail
      go_ret
      exact ⟨by rw [HZ.out]; rfl, HB3.out⟩
    · by_cases hby : 4194304 < s
      · have HZ := Aside0.mk (show checkL l = 7 by rw [HF2.out, if_pos hf, if_pos (by rw [HB.out]; exact hby)])
        clear hf
        go_wp2_with fail
        go_ret
        exact ⟨by rw [HZ.out]; rfl, HB3.out⟩
      · have HZ := Aside0.mk (show checkL l = 0 by rw [HF2.out, if_pos hf, if_neg (by rw [HB.out]; exact hby)])
        clear hf
        go_wp2_with fail
        go_ret
        exact ⟨by rw [HZ.out]; rfl, HB3.out⟩

end Go.Proofs.YtbkbpdpegiekhaaGreatDoor
