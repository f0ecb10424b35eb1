/- Directories that must be there: in order, each once; the search among them. -/
import Derived.Test.YtbkbpdpegiekhaaGreatDoorR15
set_option linter.unusedVariables false
set_option linter.unusedSimpArgs false
namespace Mo
open Go
section
variable {α : Type} [Inhabited α] [DecidableEq α]
theorem compactUpTo_mem (d : Array α) : ∀ (m : Nat) (x : α), x ∈ Lib.compactUpTo d m ↔ ∃ j, j < m ∧ d[j]! = x
  | 0, x => by simp [Lib.compactUpTo]
  | m + 1, x => by
    rw [Lib.compactUpTo_succ, List.mem_append, compactUpTo_mem d m x]
    constructor
    · rintro (⟨j, hj, e⟩ | h)
      · exact ⟨j, by omega, e⟩
      · by_cases hk : Lib.keeps d m = true
        · rw [if_pos hk, List.mem_singleton] at h
          exact ⟨m, by omega, h.symm⟩
        · rw [if_neg hk] at h; cases h
    · rintro ⟨j, hj, e⟩
      rcases Nat.lt_or_ge j m with h | h
      · exact .inl ⟨j, h, e⟩
      · have : j = m := by omega
        subst this
        by_cases hk : Lib.keeps d j = true
        · rw [if_pos hk]; exact .inr (by simp [e])
        · left
          unfold Lib.keeps at hk
          have hk : ¬ (j = 0 ∨ d[j]! ≠ d[j - 1]!) := fun h => hk (decide_eq_true h)
          have h0 : j ≠ 0 := fun h => hk (.inl h)
          have h1 : d[j]! = d[j - 1]! := Classical.byContradiction fun h => hk (.inr h)
          exact ⟨j - 1, by omega, by rw [← h1]; exact e⟩
theorem compact_mem (zs : List α) (x : α) : x ∈ Lib.compact zs ↔ x ∈ zs := by
  unfold Lib.compact
  rw [compactUpTo_mem]
  constructor
  · rintro ⟨j, hj, e⟩
    rw [getElem!_pos _ j (by simpa using hj)] at e
    rw [← e]; simp
  · intro h
    obtain ⟨j, hj, e⟩ := List.mem_iff_getElem.1 h
    exact ⟨j, hj, by rw [getElem!_pos _ j (by simpa using hj)]; simpa using e⟩
theorem compactUpTo_strict (d : Array α) (le lt : α → α → Prop) (hlt : ∀ x y, le x y → x ≠ y → lt x y) (htr : ∀ x y z, le x y → lt y z → lt x z) (hre : ∀ x, le x x)
    (hs : ∀ i j, i < j → j < d.size → le d[i]! d[j]!) : ∀ m, m ≤ d.size → (Lib.compactUpTo d m).Pairwise lt
  | 0, _ => by simp [Lib.compactUpTo]
  | m + 1, hm => by
    rw [Lib.compactUpTo_succ, List.pairwise_append]
    refine ⟨compactUpTo_strict d le lt hlt htr hre hs m (by omega), by split <;> simp, fun a ha b hb => ?_⟩
    by_cases hk : Lib.keeps d m = true
    · rw [if_pos hk, List.mem_singleton] at hb
      subst hb
      obtain ⟨j, hj, rfl⟩ := (compactUpTo_mem d m a).1 ha
      unfold Lib.keeps at hk
      rcases of_decide_eq_true hk with h | h
      · omega
      · have h1 : lt d[m - 1]! d[m]! := hlt _ _ (hs (m - 1) m (by omega) (by omega)) (fun e => h e.symm)
        rcases Nat.lt_or_ge j (m - 1) with hj2 | hj2
        · exact htr _ _ _ (hs j (m - 1) hj2 (by omega)) h1
        · have : j = m - 1 := by omega
          rw [this]; exact h1
    · rw [if_neg hk] at hb; cases hb
end
theorem compS_mem {xs : List S} {x : S} : x ∈ compS xs ↔ x ∈ xs := by
  unfold compS
  rw [List.mem_map]
  constructor
  · rintro ⟨l, hl, rfl⟩
    rw [compact_mem] at hl
    obtain ⟨y, hy, rfl⟩ := List.mem_map.1 hl
    rw [mk_bs]; exact hy
  · intro h
    exact ⟨bs x, (compact_mem _ _).2 (List.mem_map.2 ⟨x, h, rfl⟩), mk_bs x⟩
def ltS (x y : S) : Prop := pCmp x y < 0
theorem le_ltS {x y z : S} (h1 : leS x y = true) (h2 : ltS y z) : ltS x z := by
  rw [leS_iff] at h1
  by_cases e : pCmp x y = 0
  · rw [pCmp_eq.1 e]; exact h2
  · exact pCmp_trans (by omega) h2
theorem compS_strict {xs : List S} (h : xs.Pairwise fun a b => leS a b = true) : (compS xs).Pairwise ltS := by
  unfold compS
  rw [List.pairwise_map]
  have hd : ∀ i, i < xs.length → (xs.map bs).toArray[i]! = bs (xs[i]!) := by
    intro i hi
    rw [getElem!_pos _ i (by simpa using hi), getElem!_pos _ i hi]
    simp
  have := compactUpTo_strict (xs.map bs).toArray (fun a b => leS (mk a) (mk b) = true) (fun a b => ltS (mk a) (mk b))
    (fun x y h hne => by
      rw [leS_iff] at h
      have : pCmp (mk x) (mk y) ≠ 0 := fun e => hne (mk_inj (pCmp_eq.1 e))
      unfold ltS
      omega) (fun x y z => le_ltS) (fun x => by rw [leS_iff, pCmp_self]; exact Int.le_refl _)
    (fun i j hij hj => by
      simp only [List.size_toArray, List.length_map] at hj
      rw [hd i (by omega), hd j hj, mk_bs, mk_bs, getElem!_pos _ i (by omega), getElem!_pos _ j hj]
      exact List.pairwise_iff_getElem.1 h i j (by omega) hj hij) (xs.map bs).length (by simp)
  exact this
end Mo
namespace Go.Proofs.YtbkbpdpegiekhaaGreatDoor
open Go.RowKit Go.Proofs.YtbkbpdpegiekhaaGreatDoorW.PrintWords Mo

theorem ensL_mem {l : Ly} {x : S} : x ∈ ensL l ↔ x ∈ srcs l := by unfold ensL; rw [compS_mem, sortS_mem]
theorem ensL_strict (l : Ly) : (ensL l).Pairwise ltS := compS_strict (sortS_sorted _)
/-- A list in strict order: what is below a text lies ahead. -/
theorem strict_up {xs : List S} (h : xs.Pairwise ltS) (p : S) (a b : Nat) (hab : a ≤ b) (hb : b < xs.length) (hc : pCmp (xs.getD b ⟨#[]⟩) p < 0) : pCmp (xs.getD a ⟨#[]⟩) p < 0 := by
  rcases Nat.lt_or_ge a b with h1 | h1
  · have := List.pairwise_iff_getElem.1 h a b (by omega) hb h1
    rw [List.getD_eq_getElem?_getD, List.getElem?_eq_getElem hb] at hc
    rw [List.getD_eq_getElem?_getD, List.getElem?_eq_getElem (by omega)]
    exact pCmp_trans this hc
  · have : a = b := by omega
    rw [this]; exact hc
theorem found_mem {xs : List S} (h : xs.Pairwise ltS) (p : S) (i : Nat) (h1 : ∀ k, k < i → pCmp (xs.getD k ⟨#[]⟩) p < 0) (h2 : ∀ k, i ≤ k → k < xs.length → 0 ≤ pCmp (xs.getD k ⟨#[]⟩) p) :
    (decide (i < xs.length) && (pCmp (xs.getD i ⟨#[]⟩) p == 0)) = decide (p ∈ xs) := by
  by_cases hm : p ∈ xs
  · obtain ⟨k, hk, rfl⟩ := List.mem_iff_getElem.1 hm
    have hkk : xs.getD k ⟨#[]⟩ = xs[k] := by rw [List.getD_eq_getElem?_getD, List.getElem?_eq_getElem hk]; rfl
    have hik : i ≤ k := by
      rcases Nat.lt_or_ge k i with h' | h'
      · have := h1 k h'
        rw [hkk, pCmp_self] at this
        omega
      · exact h'
    have : i = k := by
      rcases Nat.lt_or_ge i k with h' | h'
      · have h3 := List.pairwise_iff_getElem.1 h i k (by omega) hk h'
        have h4 := h2 i (Nat.le_refl _) (by omega)
        rw [List.getD_eq_getElem?_getD, List.getElem?_eq_getElem (by omega)] at h4
        unfold ltS at h3
        simp only [Option.getD_some] at h4
        omega
      · omega
    subst this
    rw [decide_eq_true hm, hkk, pCmp_self]
    simp [hk]
  · rw [decide_eq_false hm]
    by_cases hi : i < xs.length
    · have : pCmp (xs.getD i ⟨#[]⟩) p ≠ 0 := fun e => hm (by
        have := pCmp_eq.1 e
        rw [← this, List.getD_eq_getElem?_getD, List.getElem?_eq_getElem hi]
        simp)
      rw [beq_eq_false_iff_ne.2 this, Bool.and_false]
    · simp [hi]

set_option maxHeartbeats 1000000 in
theorem search_strs (xs : List S) (p : S) (v : Value) (w : World) (hE : Env w) (hv : Rd Kd.string w v xs) (hx : ∀ s ∈ xs, s.size < 4294967281) (h2 : p.size < 4294967281) (hsz : xs.length ≤ 1000000000000)
    (hm : xs.Pairwise ltS) :
    Calls Tryz.prog 194 #[v, .string p, .func (.func 149) #[] #[]] w fun e w' => ∃ i : Int, e = .returned (.tuple #[.int .i64 i, .bool (decide (p ∈ xs))]) ∧ Below w.heap.size w w' := by
  obtain ⟨A, c, rfl, hl, hc⟩ := hv
  have HE := Aside0.mk hE
  have HX := Aside0.mk hx
  have HM := Aside0.mk (strict_up hm p)
  have HFm := Aside0.mk (found_mem hm p)
  have HC := Aside0.mk hc
  clear hE hx hm hc
  obtain ⟨n, hn0⟩ : ∃ n, n = xs.length := ⟨_, rfl⟩
  rw [← hn0] at hsz hl ⊢
  have HN := Aside0.mk hn0
  clear hn0
  obtain ⟨mb, hmb⟩ : ∃ mb, mb = decide (p ∈ xs) := ⟨_, rfl⟩
  rw [← hmb]
  have HMB := Aside0.mk hmb
  clear hmb
  go_enter Tryz.func194, Tryz.ntmps194
  go_wp2_with fail
  go_loopw [9, 10] (fun i j wr => ∃ a b : Nat, a ≤ b ∧ b ≤ n ∧ i = .int .i64 a ∧ j = .int .i64 b ∧ Aside0 (∀ h, h < a → pCmp (xs.getD h ⟨#[]⟩) p < 0) ∧ Aside0 (∀ h, b ≤ h → h < n → 0 ≤ pCmp (xs.getD h ⟨#[]⟩) p) ∧ Aside0 (Grew w wr))
    (fun i j _ => (intOf j).toNat - (intOf i).toNat)
  case atStart => exact ⟨0, n, Nat.zero_le _, Nat.le_refl _, rfl, rfl, ⟨fun h hh => absurd hh (Nat.not_lt_zero _)⟩, ⟨fun h h1 h2 => absurd h2 (by omega)⟩, ⟨Grew.refl _⟩⟩
  case round =>
    obtain ⟨a, b, hab, hbn, rfl, rfl, HA, HB, HG⟩ := hrel
    by_cases hlt : a < b
    · have hh : (a + b) / 2 < n := by omega
      obtain ⟨ad, rfl, k0⟩ := C_str (Kd.C_below HC.out HG.out.below) ((a + b) / 2) (by rw [← HN.out]; exact hh)
      have hp1 := HX.out (xs.getD ((a + b) / 2) ⟨#[]⟩) (getD_memStr _ _ (by rw [← HN.out]; exact hh))
      have hmo := HM.out
      rw [← HN.out] at hmo
      have HM2 := Aside0.mk hmo
      clear hmo
      go_wp2_with fail
      refine (route_Compare (xs.getD ((a + b) / 2) ⟨#[]⟩) p _ (HE.out.grew HG.out) hp1 h2).mono ?_
      rintro e w1 ⟨rfl, hg⟩
      have HG1 := Aside0.mk (HG.out.trans hg)
      clear hg HG
      obtain ⟨cc, hcc⟩ : ∃ cc, cc = pCmp (xs.getD ((a + b) / 2) ⟨#[]⟩) p := ⟨_, rfl⟩
      rw [← hcc]
      have HCC := Aside0.mk hcc
      clear hcc k0 hp1
      by_cases hneg : cc < 0
      · have hnb : decide (cc < 0) = true := decide_eq_true hneg
        go_wp2_with fail
        go_roundw
        case rel =>
          exact ⟨(a + b) / 2 + 1, b, by omega, by omega, by go_num, rfl, ⟨fun h hh => HM2.out h ((a + b) / 2) (by omega) (by omega) (by rw [← HCC.out]; exact hneg)⟩, HB, HG1⟩
        case measure => simp [intOf]; omega
      · have hnb : decide (cc < 0) = false := decide_eq_false hneg
        have HNN := Aside0.mk hneg
        clear hneg
        go_wp2_with fail
        go_roundw
        case rel =>
          exact ⟨a, (a + b) / 2, by omega, by omega, rfl, by go_num, HA, ⟨fun h h1 h2 => Classical.byContradiction fun hc => by have q1 := HNN.out; have q2 := HM2.out ((a + b) / 2) h h1 h2 (by omega); rw [← HCC.out] at q2; omega⟩, HG1⟩
        case measure => simp [intOf]; omega
    · obtain rfl : b = a := by omega
      clear hlt
      have hfin := HFm.out b HA.out (by rw [← HN.out]; exact HB.out)
      rw [← HN.out, ← HMB.out] at hfin
      have HFin := Aside0.mk hfin
      have HCm := HC.out
      clear hfin
      by_cases hin : b < n
      · obtain ⟨ad, rfl, k0⟩ := C_str (Kd.C_below HC.out HG.out.below) b (by rw [← HN.out]; exact hin)
        have hp1 := HX.out (xs.getD b ⟨#[]⟩) (getD_memStr _ _ (by rw [← HN.out]; exact hin))
        clear HCm
        go_wp2_with fail
        refine (route_Compare (xs.getD b ⟨#[]⟩) p _ (HE.out.grew HG.out) hp1 h2).mono ?_
        rintro e w1 ⟨rfl, hg⟩
        have HG1 := Aside0.mk (HG.out.trans hg)
        clear hg HG k0 hp1
        go_wp2_with fail
        go_ret2
        refine ⟨b, tup2 rfl ?_, HG1.out.below⟩
        rw [← HFin.out, decide_eq_true hin]; rfl
      · clear HCm
        go_wp2_with fail
        go_ret2
        refine ⟨b, tup2 rfl ?_, HG.out.below⟩
        rw [← HFin.out, decide_eq_false hin]; rfl

end Go.Proofs.YtbkbpdpegiekhaaGreatDoor
