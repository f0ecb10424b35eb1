/- squash, plainly: with the empty layer a layer is itself. -/
import Derived.Test.YtbkbpdpegiekhaaGreatDoorR27
set_option linter.unusedVariables false
set_option linter.unusedSimpArgs false
namespace Go.Proofs.YtbkbpdpegiekhaaGreatDoor
open Go.RowKit Go.Proofs.YtbkbpdpegiekhaaGreatDoorW.PrintWords Mo

theorem ltS_irrefl (x : S) : ¬ ltS x x := fun h => by unfold ltS at h; rw [pCmp_self] at h; omega
theorem ltS_asymm {x y : S} (h : ltS x y) (k : ltS y x) : False := ltS_irrefl x (pCmp_trans h k)
/-- In strict order a list is told by its members. -/
theorem strict_unique : ∀ {a b : List S}, a.Pairwise ltS → b.Pairwise ltS → (∀ x, x ∈ a ↔ x ∈ b) → a = b
  | [], [], _, _, _ => rfl
  | [], y :: u, _, _, h => by have := (h y).2 (List.mem_cons_self ..); cases this
  | x :: t, [], _, _, h => by have := (h x).1 (List.mem_cons_self ..); cases this
  | x :: t, y :: u, ha, hb, h => by
    have hat := List.pairwise_cons.1 ha
    have hbt := List.pairwise_cons.1 hb
    have e : x = y := by
      rcases List.mem_cons.1 ((h x).1 (List.mem_cons_self ..)) with e | hx
      · exact e
      · rcases List.mem_cons.1 ((h y).2 (List.mem_cons_self ..)) with e | hy
        · exact e.symm
        · exact (ltS_asymm (hbt.1 x hx) (hat.1 y hy)).elim
    subst e
    congr 1
    refine strict_unique hat.2 hbt.2 fun z => ⟨fun hz => ?_, fun hz => ?_⟩
    · rcases List.mem_cons.1 ((h z).1 (List.mem_cons_of_mem _ hz)) with e | hz'
      · subst e; exact (ltS_irrefl _ (hat.1 _ hz)).elim
      · exact hz'
    · rcases List.mem_cons.1 ((h z).2 (List.mem_cons_of_mem _ hz)) with e | hz'
      · subst e; exact (ltS_irrefl _ (hbt.1 _ hz)).elim
      · exact hz'
theorem tidy_strict (l : List S) : (compS (sortS l)).Pairwise ltS := compS_strict (sortS_sorted _)
theorem tidy_mem {l : List S} {x : S} : x ∈ compS (sortS l) ↔ x ∈ l := by rw [compS_mem, sortS_mem]
theorem tidy_self {l : List S} (h : l.Pairwise ltS) : compS (sortS l) = l := strict_unique (tidy_strict l) h fun _ => tidy_mem
theorem sortNd_self {l : List Nd} (h : l.Pairwise ltN) : sortNd l = l :=
  (sortNd_eq (List.Perm.refl l) (h.imp fun {a b} hab => by
    rw [leN_leS, leS_iff]; unfold ltN at hab; omega) (h.imp fun {a b} hab => ltN_ne hab)).symm

theorem markersE_zero (k : Int) : ∀ (l : List S) (prev : Option S), markersE k prev l = 0 → (∀ q, prev = some q → ∀ p ∈ l, ltS q p) ∧ l.Pairwise ltS
  | [], prev, _ => ⟨fun _ _ p hp => (by cases hp), List.Pairwise.nil⟩
  | p :: t, prev, h => by
    have e : markersE k prev (p :: t) = if markE k prev p = 0 then markersE k (some p) t else markE k prev p := rfl
    rw [e] at h
    by_cases h0 : markE k prev p = 0
    · rw [if_pos h0] at h
      obtain ⟨i1, i2⟩ := markersE_zero k t (some p) h
      have i1 := i1 p rfl
      refine ⟨fun q hq r hr => ?_, List.pairwise_cons.2 ⟨i1, i2⟩⟩
      subst hq
      have hlt : ltS q p := by
        unfold markE at h0
        by_cases hp : (pPath k p).2 = 0
        · rw [if_pos hp] at h0
          by_cases hn : nextE (some q) p = true
          · rw [if_pos hn] at h0; omega
          · have : ¬ (0 ≤ pCmp q p) := fun hle => hn (decide_eq_true hle)
            unfold ltS; omega
        · rw [if_neg hp] at h0; exact absurd h0 hp
      rcases List.mem_cons.1 hr with e | hr
      · rw [e]; exact hlt
      · exact pCmp_trans hlt (i1 r hr)
    · rw [if_neg h0] at h; exact absurd h h0
theorem check_whites {l : Ly} (h : checkL l = 0) : l.whites.Pairwise ltS := (markersE_zero 1 _ none (check_ents h).2.1).2
theorem check_opaques {l : Ly} (h : checkL l = 0) : l.opaques.Pairwise ltS := (markersE_zero 2 _ none (check_ents h).2.2).2

theorem check_none : checkL Ly.none = 0 := by
  unfold checkL
  rw [if_neg (by decide)]
  rfl
theorem filter_all {α : Type} {f : α → Bool} {l : List α} (h : ∀ x, f x = true) : l.filter f = l := List.filter_eq_self.2 fun x _ => h x
theorem filter_no {α : Type} {f : α → Bool} {l : List α} (h : ∀ x, f x = false) : l.filter f = [] := List.filter_eq_nil_iff.2 fun x _ => by rw [h x]; decide
theorem over_none (p : S) : overB Ly.none p = false := rfl
theorem ens_none : ensL Ly.none = [] := by
  have : ensL Ly.none = compS (sortS []) := rfl
  rw [this, tidy_self List.Pairwise.nil]
theorem isDir_none (p : S) : isDirB Ly.none p = false := by
  have : isDirB Ly.none p = decide (p ∈ ensL Ly.none) := rfl
  rw [this, ens_none]
  exact decide_eq_false (fun h => by cases h)
theorem keep_none (n : Nd) : keepB Ly.none n = true := by unfold keepB; rw [over_none, isDir_none, Bool.and_false]; rfl
theorem gone_none (n : Nd) : goneB Ly.none n = false := by unfold goneB; rw [isDir_none, Bool.and_false, Bool.and_false]
theorem join_none {x : Ly} (h : checkL x = 0) : joinL x Ly.none = x := by
  have e1 : bothN Ly.none x.adds = x.adds := by
    have : bothN Ly.none x.adds = [] ++ x.adds.filter (keepB Ly.none) := rfl
    rw [this, List.nil_append, filter_all keep_none]
  have e2 : goneS Ly.none x.adds = [] := by unfold goneS; rw [filter_no gone_none]; rfl
  have e3 : x.whites.filter (whiteB Ly.none) = x.whites := filter_all fun _ => rfl
  have e4 : x.opaques.filter (opaqueB Ly.none) = x.opaques := filter_all fun p => by
    unfold opaqueB
    rw [show coverB Ly.none p = false from rfl]
    rfl
  have e5 : ∀ l : List S, l ++ Ly.none.whites = l := fun l => List.append_nil l
  have e6 : ∀ l : List S, l ++ Ly.none.opaques = l := fun l => List.append_nil l
  unfold joinL
  rw [e1, e2, e3, e4, e5, e6, List.append_nil, sortNd_self (check_sorted h), tidy_self (check_whites h), tidy_self (check_opaques h)]
theorem none_join {x : Ly} (h : checkL x = 0) : joinL Ly.none x = x := by
  have e1 : bothN x Ly.none.adds = x.adds := List.append_nil _
  have e2 : goneS x Ly.none.adds = [] := rfl
  have e3 : Ly.none.whites.filter (whiteB x) = [] := rfl
  have e4 : Ly.none.opaques.filter (opaqueB x) = [] := rfl
  unfold joinL
  rw [e1, e2, e3, e4, List.nil_append, List.nil_append, List.nil_append, sortNd_self (check_sorted h), tidy_self (check_whites h), tidy_self (check_opaques h)]
theorem squash_none (x : Ly) : squashL x Ly.none = if checkL x = 0 then (x, 0) else (Ly.none, 1) := by
  unfold squashL
  by_cases h : checkL x = 0
  · rw [if_pos ⟨h, check_none⟩, join_none h, if_pos h, if_pos h]
  · rw [if_neg (fun k => h k.1), if_neg h]
theorem none_squash (x : Ly) : squashL Ly.none x = if checkL x = 0 then (x, 0) else (Ly.none, 1) := by
  unfold squashL
  by_cases h : checkL x = 0
  · rw [if_pos ⟨check_none, h⟩, none_join h, if_pos h, if_pos h]
  · rw [if_neg (fun k => h k.2), if_neg h]

end Go.Proofs.YtbkbpdpegiekhaaGreatDoor
