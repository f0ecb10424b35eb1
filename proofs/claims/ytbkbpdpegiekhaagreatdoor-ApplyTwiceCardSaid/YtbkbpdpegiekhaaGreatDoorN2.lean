/- Layers that may be, plainly: in order, each once. -/
import Derived.Test.YtbkbpdpegiekhaaGreatDoorR24
import Derived.Test.YtbkbpdpegiekhaaGreatDoorN1
set_option linter.unusedVariables false
set_option linter.unusedSimpArgs false
namespace Go.Proofs.YtbkbpdpegiekhaaGreatDoor
open Go.RowKit Go.Proofs.YtbkbpdpegiekhaaGreatDoorW.PrintWords Mo

theorem addE_zero {n : Nd} {last : S} {seen : List S} (h : addE n last seen = 0) : pRight n.path = true ∧ okRest n = true ∧ kindE (pKind n.path) = false ∧ pastE last n.path = false ∧ seen.count (pFold n.path) = 0 := by
  unfold addE at h
  split at h <;> first | (exfalso; revert h; decide) | skip
  rename_i h1 h2 h3 h4 h5
  exact ⟨h1, h2, h3, h4, by have := of_decide_eq_false h5; omega⟩
theorem addsE_zero : ∀ (l : List Nd) (last : S) (seen : List S), addsE last seen l = 0 → (last ≠ ⟨#[]⟩ → ∀ n ∈ l, pCmp last n.path < 0) ∧ l.Pairwise ltN ∧ ∀ n ∈ l, pRight n.path = true
  | [], last, seen, _ => ⟨fun _ n hn => (by cases hn), List.Pairwise.nil, fun n hn => (by cases hn)⟩
  | n :: t, last, seen, h => by
    have hz : addE n last seen = 0 := by
      by_cases h0 : addE n last seen = 0
      · exact h0
      · have h' : addE n last seen = 0 := by
          have e : addsE last seen (n :: t) = addE n last seen := by show (if _ then _ else _) = _; rw [if_neg h0]
          rw [← e]; exact h
        exact absurd h' h0
    have ht : addsE n.path (seen ++ [pFold n.path]) t = 0 := by
      have e : addsE last seen (n :: t) = addsE n.path (seen ++ [pFold n.path]) t := by show (if _ then _ else _) = _; rw [if_pos hz]
      rw [← e]; exact h
    obtain ⟨h1, _, _, h4, _⟩ := addE_zero hz
    obtain ⟨i1, i2, i3⟩ := addsE_zero t n.path _ ht
    have i1 := i1 (bytes_nil h1)
    refine ⟨fun hl m hm => ?_, List.pairwise_cons.2 ⟨fun m hm => i1 m hm, i2⟩, fun m hm => ?_⟩
    · have hlt : pCmp last n.path < 0 := by
        unfold pastE at h4
        rw [Bool.and_eq_false_iff] at h4
        rcases h4 with h4 | h4
        · exact absurd (by simpa using h4) hl
        · have := of_decide_eq_false h4; omega
      rcases List.mem_cons.1 hm with rfl | hm
      · exact hlt
      · exact pCmp_trans hlt (i1 m hm)
    · rcases List.mem_cons.1 hm with rfl | hm
      · exact h1
      · exact i3 m hm
theorem check_ents {l : Ly} (h : checkL l = 0) : addsE ⟨#[]⟩ [] l.adds = 0 ∧ markersE 1 none l.whites = 0 ∧ markersE 2 none l.opaques = 0 := by
  unfold checkL at h
  split at h
  · cases h
  · have he : entsE l = 0 := by
      by_cases h0 : entsE l = 0
      · exact h0
      · rw [if_neg h0] at h; exact h
    unfold entsE orE at he
    by_cases ha : addsE ⟨#[]⟩ [] l.adds = 0
    · rw [if_pos ha] at he
      by_cases hb : markersE 1 none l.whites = 0
      · rw [if_pos hb] at he
        exact ⟨ha, hb, he⟩
      · rw [if_neg hb] at he
        exact absurd he hb
    · rw [if_neg ha] at he
      exact absurd he ha
theorem check_sorted {l : Ly} (h : checkL l = 0) : l.adds.Pairwise ltN := (addsE_zero _ _ _ (check_ents h).1).2.1

theorem ltS_irrefl (x : S) : ¬ ltS x x := fun h => by unfold ltS at h; rw [pCmp_self] at h; omega
theorem ltS_asymm {x y : S} (h : ltS x y) (k : ltS y x) : False := ltS_irrefl x (pCmp_trans h k)
/-- In strict order a list is told by its members. -/
theorem strict_unique : ∀ {a b : List S}, a.Pairwise ltS → b.Pairwise ltS → (∀ x, x ∈ a ↔ x ∈ b) → a = b
  | [], [], _, _, _ => rfl
  | [], y :: u, _, _, h => by have := (h y).2 (List.mem_cons_self ..); cases this
  | x :: t, [], _, _, h => by have := (h x).1 (List.mem_cons_self ..); cases this
  | x :: t, y :: u, ha, hb, h => by
    have hat := List.pairwise_cons.1 ha
    have hbt := List.pairwise_cons.1 hb
    have e : x = y := by
      rcases List.mem_cons.1 ((h x).1 (List.mem_cons_self ..)) with e | hx
      · exact e
      · rcases List.mem_cons.1 ((h y).2 (List.mem_cons_self ..)) with e | hy
        · exact e.symm
        · exact (ltS_asymm (hbt.1 x hx) (hat.1 y hy)).elim
    subst e
    congr 1
    refine strict_unique hat.2 hbt.2 fun z => ⟨fun hz => ?_, fun hz => ?_⟩
    · rcases List.mem_cons.1 ((h z).1 (List.mem_cons_of_mem _ hz)) with e | hz'
      · subst e; exact (ltS_irrefl _ (hat.1 _ hz)).elim
      · exact hz'
    · rcases List.mem_cons.1 ((h z).2 (List.mem_cons_of_mem _ hz)) with e | hz'
      · subst e; exact (ltS_irrefl _ (hbt.1 _ hz)).elim
      · exact hz'
theorem tidy_strict (l : List S) : (compS (sortS l)).Pairwise ltS := compS_strict (sortS_sorted _)
theorem tidy_mem {l : List S} {x : S} : x ∈ compS (sortS l) ↔ x ∈ l := by rw [compS_mem, sortS_mem]
theorem tidy_self {l : List S} (h : l.Pairwise ltS) : compS (sortS l) = l := strict_unique (tidy_strict l) h fun _ => tidy_mem
theorem compS_len (l : List S) : (compS l).length ≤ l.length := by
  unfold compS
  rw [List.length_map]
  have := Lib.compact_length_le (l.map bs)
  rw [List.length_map] at this
  exact this

end Go.Proofs.YtbkbpdpegiekhaaGreatDoor
