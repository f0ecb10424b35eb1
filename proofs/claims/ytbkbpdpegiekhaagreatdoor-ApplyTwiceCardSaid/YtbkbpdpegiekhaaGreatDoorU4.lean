/- A layer laid twice; of what is cleared first; each path of it: plainly. -/
import Derived.Test.YtbkbpdpegiekhaaGreatDoorU3
import Derived.Test.YtbkbpdpegiekhaaGreatDoorN3
set_option linter.unusedVariables false
set_option linter.unusedSimpArgs false
namespace Go.Proofs.YtbkbpdpegiekhaaGreatDoor
open Go.RowKit Go.Proofs.YtbkbpdpegiekhaaGreatDoorW.PrintWords Mo

/-! ### what is above a path that may be -/
theorem right_up {p d : S} (h : pRight p = true) (hd : pParent p = some d) : pRight d = true := by
  have hf := fine_of_right h
  have hdn := (hf.up hd).ne
  obtain ⟨b, hb⟩ := parent_parts hf.ne hd hdn
  have hsz := pParent_len hd
  have hd0 := hd
  unfold pParent at hd
  cases h0 : parent (bs p) with
  | none => rw [h0] at hd; cases hd
  | some q =>
    rw [h0] at hd
    simp only [Option.map_some, Option.some.injEq] at hd
    obtain ⟨b', hb', e⟩ := parent_some.1 h0
    have hq : bs d = q := by rw [← hd, bs_mk]
    rw [← hq] at e
    rw [pRight_eq] at h ⊢
    simp only [Bool.and_eq_true, Bool.not_eq_true', decide_eq_true_eq] at h ⊢
    obtain ⟨⟨⟨⟨h1, h2⟩, h3⟩, h4⟩, h5⟩ := h
    refine ⟨⟨⟨⟨?_, by omega⟩, ?_⟩, ?_⟩, ?_⟩
    · cases hh : d.toList.isEmpty
      · rfl
      · exact absurd (isEmpty_eq hh) hdn
    · rw [← okFrom_zero] at h3 ⊢
      exact okFrom_pre e d.size 0 (by omega) h3
    · rw [hb, List.length_append] at h4
      omega
    · rw [hb, List.any_append, Bool.or_eq_false_iff] at h5
      exact h5.1
theorem right_above : ∀ (k : Nat) {p q : S}, p.size ≤ k → pRight p = true → q ∈ ups p → pRight q = true
  | k, p, q, hk, h, hq => by
    cases h0 : pParent p with
    | none => rw [ups_none h0] at hq; cases hq
    | some d =>
      have hl := pParent_len h0
      rw [ups_some h0] at hq
      rcases List.mem_cons.1 hq with rfl | hq
      · exact right_up h h0
      · cases k with
        | zero => omega
        | succ k => exact right_above k (by omega) (right_up h h0) hq
section
variable {l : Ly} {t : List Nd} {p q : S} {n : Nd}
theorem Okl.ens_right (h : Okl l) (hq : q ∈ ensL l) : pRight q = true := by
  rw [ensL_mem, mem_srcs] at hq
  rcases hq with ⟨n, hn, hx⟩ | ⟨p, hp, hx⟩ | ⟨p, hp, hx | ⟨h1, rfl⟩⟩
  · exact right_above _ (Nat.le_refl _) (h.right n hn).1 hx
  · exact right_above _ (Nat.le_refl _) (h.whites p hp) hx
  · rcases h.opaques p hp with rfl | hr
    · rw [ups_empty] at hx; cases hx
    · exact right_above _ (Nat.le_refl _) hr hx
  · rcases h.opaques q hp with rfl | hr
    · exact absurd rfl h1
    · exact hr

/-! ### what was made may be -/
theorem rest_dirN (p : S) : okRest (dirN p) = true := by
  unfold okRest dirN
  have : (⟨#[]⟩ : S).toList.isEmpty = true := by rw [Lib.toList_data]; rfl
  simp [this]
theorem run_len (l : Ly) : ∀ (R : List S) (c r : List Nd), c.length ≤ 4096 → runF l c R = some r → r.length ≤ 4096
  | [], c, r, hc, hr => by obtain rfl := Option.some.inj hr; exact hc
  | p :: R, c, r, hc, hr => by
    unfold runF at hr
    split at hr
    · cases hr
    · exact run_len l R _ r (by omega) hr
theorem start_len (h : Okl l) (t : List Nd) : (startF l t).length ≤ t.length := by
  rw [start_filter h.whites_ne]
  exact List.length_filter_le _ _
theorem Okl.made_right (h : Okl l) (ht : ∀ n ∈ t, pRight n.path = true ∧ okRest n = true) {r : List Nd} (hr : ∀ q, atT r q = valP l (startF l t) (pathsL l) q) (hs : r.Pairwise ltN) :
    ∀ n ∈ r, pRight n.path = true ∧ okRest n = true := by
  intro n hn
  have hv := hr n.path
  rw [atT_of hs hn] at hv
  have hst : ∀ m, atT (startF l t) n.path = some m → pRight m.path = true ∧ okRest m = true := by
    intro m hm
    have h1 := (atT_mem hm).1
    rw [start_filter h.whites_ne] at h1
    exact ht m (List.mem_filter.1 h1).1
  unfold valP at hv
  split at hv
  · rename_i hq
    cases h0 : atT l.adds n.path with
    | some m =>
      rw [h0] at hv
      obtain rfl := Option.some.inj hv
      exact h.right n (atT_mem h0).1
    | none =>
      rw [h0] at hv
      have hv := Option.some.inj hv
      have he : n.path ∈ ensL l := by
        rcases mem_pathsL.1 hq with he | ⟨m, hm, he⟩
        · exact he
        · exact absurd he (atT_none.1 h0 m hm)
      refine ⟨h.ens_right he, ?_⟩
      rw [hv]
      unfold ensV
      cases h1 : atT (startF l t) n.path with
      | none => exact rest_dirN _
      | some m =>
        simp only
        split
        · exact (hst m h1).2
        · exact rest_dirN _
  · split at hv
    · cases hv
    · exact hst n hv.symm
theorem applyL_ok {r : List Nd} (h : applyL l t = (r, 0)) : Treed t ∧ checkL l = 0 ∧ Okl l ∧ runF l (startF l t) (pathsL l) = some r ∧ bytesN r ≤ 4194304 ∧ collT r = false := by
  unfold applyL at h
  by_cases hc : checkT t = 0 ∧ checkL l = 0
  · rw [if_pos hc] at h
    cases hr : runF l (startF l t) (pathsL l) with
    | none => rw [hr] at h; unfold endF at h; injection h with _ h; cases h
    | some r' =>
      rw [hr] at h
      unfold endF at h
      simp only at h
      split at h
      · injection h with _ h; cases h
      · split at h
        · injection h with _ h; cases h
        · rename_i hb hcl
          injection h with h _
          subst h
          refine ⟨checkT_zero.1 hc.1, hc.2, Okl.of hc.2, rfl, by omega, ?_⟩
          cases hh : collT r'
          · rfl
          · exact absurd hh hcl
  · rw [if_neg hc] at h; injection h with _ h; cases h
theorem made_tree {r : List Nd} (h : applyL l t = (r, 0)) : Treed r := by
  obtain ⟨ht, hl, hok, hr, hb, hc⟩ := applyL_ok h
  obtain ⟨h1, h2⟩ := hok.result ht.ok hr
  refine ⟨run_len l _ _ r (Nat.le_trans (start_len hok t) ht.len) hr, h1, hok.made_right ht.right h2 h1.sorted, collT_false.1 hc, hb⟩

/-! ### how many nodes -/
theorem paths_sorted {c : List Nd} (h : c.Pairwise ltN) : (c.map (·.path)).Pairwise ltS := List.pairwise_map.2 h
theorem len_of_paths {c : List Nd} {ps : List S} (hc : c.Pairwise ltN) (hp : ps.Pairwise ltS) (h : ∀ n ∈ c, n.path ∈ ps) : c.length ≤ ps.length := by
  have e : c.map (·.path) = ps.filter fun q => decide (q ∈ c.map (·.path)) := by
    refine strict_unique (paths_sorted hc) (hp.filter _) fun x => ?_
    rw [List.mem_filter, decide_eq_true_eq]
    refine ⟨fun hx => ⟨?_, hx⟩, fun hx => hx.2⟩
    obtain ⟨n, hn, rfl⟩ := List.mem_map.1 hx
    exact h n hn
  rw [← List.length_map (f := fun n : Nd => n.path), e]
  exact List.length_filter_le _ _
theorem isSome_mem {c : List Nd} (h : (atT c q).isSome = true) : q ∈ c.map (·.path) := by
  cases h0 : atT c q with
  | none => rw [h0] at h; cases h
  | some n => exact List.mem_map.2 ⟨n, (atT_mem h0).1, (atT_mem h0).2⟩
/-- Where no more paths can come than some, a run has room. -/
theorem Okl.room (h : Okl l) {s : List Nd} {ps : List S} (hps : ps.Pairwise ltS) (hl : ps.length ≤ 4096) (hs : ∀ n ∈ s, n.path ∈ ps) (hp : ∀ q ∈ pathsL l, q ∈ ps) :
    ∀ (R P : List S) (c : List Nd), pathsL l = P ++ R → Okt c → (∀ q, atT c q = valP l s P q) → ∃ r, runF l c R = some r
  | [], P, c, hP, hc, hv => ⟨c, rfl⟩
  | p :: R, P, c, hP, hc, hv => by
    obtain ⟨h1, h2⟩ := h.step hP hc hv
    have hlen : (stepF l c p).length ≤ ps.length := by
      refine len_of_paths h1.sorted hps fun n hn => ?_
      have h3 := h2 n.path
      rw [atT_of h1.sorted hn] at h3
      unfold valP at h3
      split at h3
      · rename_i hq
        refine hp _ ?_
        rw [hP, show P ++ p :: R = (P ++ [p]) ++ R by simp]
        exact List.mem_append_left _ hq
      · split at h3
        · cases h3
        · exact hs n (atT_mem h3.symm).1
    obtain ⟨r, hr⟩ := h.room hps hl hs hp R (P ++ [p]) _ (by rw [hP]; simp) h1 h2
    refine ⟨r, ?_⟩
    unfold runF
    rw [if_neg (by omega)]
    exact hr

/-! ### twice -/
theorem ensV_again (o : Option Nd) (q : S) : ensV (some (ensV o q)) q = ensV o q := by
  show (if (ensV o q).dir = true then ensV o q else dirN q) = ensV o q
  rw [if_pos (ensV_dir o q)]
theorem apply_twice {r : List Nd} (h : applyL l t = (r, 0)) : applyL l r = (r, 0) := by
  obtain ⟨ht, hl, hok, hr, hb, hc⟩ := applyL_ok h
  have hT := made_tree h
  obtain ⟨h1, h2⟩ := hok.result ht.ok hr
  have hs2 := hok.atT_start h1
  have hs1 := hok.atT_start ht.ok
  have hO2 := hok.start h1
  obtain ⟨r2, hr2⟩ := hok.room (s := startF l r) (paths_sorted h1.sorted) (by rw [List.length_map]; exact hT.len) (fun n hn => by
      have : (atT (startF l r) n.path).isSome = true := by rw [atT_of hO2.sorted hn]; rfl
      rw [hs2] at this
      split at this
      · cases this
      · exact isSome_mem this) (fun q hq => isSome_mem (by
      rw [h2]
      unfold valP
      rw [if_pos hq]
      cases atT l.adds q <;> rfl)) (pathsL l) [] (startF l r) rfl hO2 (fun q => (valP_nil _ _).symm)
  obtain ⟨g1, g2⟩ := hok.result h1 hr2
  have e : r2 = r := by
    refine atT_ext g1.sorted h1.sorted fun q => ?_
    rw [g2, h2]
    unfold valP
    by_cases hq : q ∈ pathsL l
    · rw [if_pos hq, if_pos hq]
      cases h0 : atT l.adds q with
      | some n => rfl
      | none =>
        simp only
        congr 1
        rw [hs2, hs1, h2]
        unfold valP
        rw [if_pos hq, h0]
        simp only
        split
        · rfl
        · rw [hs1]
          rename_i hrm
          rw [if_neg hrm]
          exact ensV_again _ _
    · rw [if_neg hq, if_neg hq]
      by_cases hf : fileP l (pathsL l) q = true
      · rw [if_pos hf, if_pos hf]
      · rw [if_neg hf, if_neg hf, hs2, hs1, h2]
        split
        · rfl
        · unfold valP
          rw [if_neg hq, if_neg hf, hs1]
          rename_i hrm
          rw [if_neg hrm]
  subst e
  unfold applyL
  rw [if_pos ⟨checkT_zero.2 hT, hl⟩, hr2]
  unfold endF
  simp only
  rw [if_neg (by omega), if_neg (by rw [hc]; decide)]
end

end Go.Proofs.YtbkbpdpegiekhaaGreatDoor
