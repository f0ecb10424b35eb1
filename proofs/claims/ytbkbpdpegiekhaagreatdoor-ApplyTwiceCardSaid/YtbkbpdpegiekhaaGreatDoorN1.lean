/- Paths, plainly: parts, what is above, what is below. -/
import Derived.Test.YtbkbpdpegiekhaaGreatDoorR13
set_option linter.unusedVariables false
set_option linter.unusedSimpArgs false
namespace Go.Proofs.YtbkbpdpegiekhaaGreatDoor
open Go.RowKit Go.Proofs.YtbkbpdpegiekhaaGreatDoorW.PrintWords Mo

theorem map_inj {xs ys : List S} (h : xs.map bs = ys.map bs) : xs = ys := by
  have := congrArg (List.map Mo.mk) h
  rw [List.map_map, List.map_map] at this
  have e : (Mo.mk ∘ bs : S → S) = id := by funext x; exact mk_bs x
  rwa [e, List.map_id, List.map_id] at this
theorem pParts_bs (s : S) : (pParts s).map bs = parts (bs s) := by
  unfold pParts
  rw [List.map_map]
  have e : (bs ∘ Mo.mk : Mo.B → Mo.B) = id := by funext x; exact bs_mk x
  rw [e, List.map_id]
theorem pRight_eq (s : S) : pRight s = (!s.toList.isEmpty && decide (s.size ≤ 1024) && pRunes s && decide ((pParts s).length ≤ 32) && !(pParts s).any fun x => !okPart x) := rfl
theorem bytes_nil {p : S} (h : pRight p = true) : p ≠ ⟨#[]⟩ := by
  intro e
  subst e
  unfold pRight at h
  rw [show (⟨#[]⟩ : S).toList = [] from by rw [Lib.toList_data]] at h
  simp at h
theorem bs_nil {p : S} : bs p = [] ↔ p = ⟨#[]⟩ := ⟨fun e => by rw [← mk_bs p, e]; rfl, fun e => by rw [e]; rfl⟩
theorem right_parts {p : S} (h : pRight p = true) : ∀ x ∈ pParts p, x ≠ ⟨#[]⟩ := by
  intro x hx e
  rw [pRight_eq, Bool.and_eq_true, Bool.not_eq_true'] at h
  have := h.2
  have h2 : (pParts p).any (fun x => !okPart x) = true := List.any_eq_true.2 ⟨x, hx, by
    subst e
    have : okPart ⟨#[]⟩ = false := by
      unfold okPart
      rw [show (⟨#[]⟩ : S).toList = [] from by rw [Lib.toList_data]]
      rfl
    rw [this]; rfl⟩
  rw [h2] at this
  cases this
theorem parts_dir_base {p : S} (h : pRight p = true) : pParts p = pParts (pDir p) ++ [pBase p] := by
  have hr := right_parts h
  have hne : bs p ≠ [] := fun e => bytes_nil h (bs_nil.1 e)
  apply map_inj
  rw [List.map_append, pParts_bs, pParts_bs, List.map_singleton, parts_ne hne]
  have hpb := pParts_bs p
  rw [parts_ne hne] at hpb
  unfold pDir pBase pParent base
  cases hp : parent (bs p) with
  | none =>
    rw [split_of_free (parent_none.1 hp)]
    simp only [Option.map_none, Option.getD_none]
    show [bs p] = parts (bs (Mo.mk [])) ++ [bs (Mo.mk (bs p))]
    rw [bs_mk, bs_mk]; rfl
  | some d =>
    obtain ⟨b, hb, e⟩ := parent_some.1 hp
    have hd : d ≠ [] := by
      intro h0
      rw [e, split_append, split_of_free hb, h0] at hpb
      have h1 : ([] : Mo.B) ∈ (pParts p).map bs := by rw [hpb]; simp [Mo.split]
      obtain ⟨x, hx, hx0⟩ := List.mem_map.1 h1
      exact hr x hx (bs_nil.1 hx0)
    simp only [Option.map_some, Option.getD_some]
    rw [bs_mk, bs_mk, e, split_append, split_of_free hb, parts_ne hd]
    have : (d ++ 47 :: b).drop (d.length + 1) = b := by simp
    rw [this]
theorem kind_clear {p : S} (h : pRight p = true) : kindE (pKind p) = (pParts p).any begins := by
  rw [parts_dir_base h, List.any_append]
  unfold pKind
  rw [if_pos h]
  by_cases h1 : (pParts (pDir p)).any begins = true
  · rw [if_pos h1, h1]; rfl
  · rw [if_neg h1, Bool.eq_false_iff.2 h1]
    simp only [List.any_cons, List.any_nil, Bool.or_false, Bool.false_or]
    by_cases h2 : begins (pBase p) = true
    · rw [if_pos h2, h2]
      split
      · rfl
      · split
        · rfl
        · rfl
    · rw [if_neg h2, Bool.eq_false_iff.2 h2]; rfl
theorem pParent_under {p d x : S} (hx : x ≠ ⟨#[]⟩) (h : pParent p = some d) : pUnder p x = true ↔ (x = d ∨ pUnder d x = true) := by
  have hxb : bs x ≠ [] := fun e => hx (bs_nil.1 e)
  unfold pParent at h
  cases hp : parent (bs p) with
  | none => rw [hp] at h; cases h
  | some q =>
    rw [hp] at h
    simp only [Option.map_some, Option.some.injEq] at h
    subst h
    unfold pUnder
    rw [bs_mk]
    constructor
    · intro hu
      obtain ⟨q', hq', h2⟩ := under_parent hxb hu
      rw [hp] at hq'
      obtain rfl := Option.some.inj hq'
      rcases h2 with h2 | h2
      · left; rw [h2, mk_bs]
      · right; exact h2
    · rintro (e | hu)
      · subst e
        rw [bs_mk] at hxb ⊢
        exact parent_under hp hxb
      · have hq : q ≠ [] := by
          rintro rfl
          unfold Mo.under at hu
          rw [if_neg hxb, List.isPrefixOf_iff_prefix] at hu
          have := hu.length_le
          simp at this
        exact Mo.under_trans (parent_under hp hq) hu
theorem pParent_none_under {p x : S} (hx : x ≠ ⟨#[]⟩) (h : pParent p = none) : pUnder p x = false := by
  have hxb : bs x ≠ [] := fun e => hx (bs_nil.1 e)
  rw [Bool.eq_false_iff]
  intro hu
  obtain ⟨q, hq, _⟩ := under_parent hxb hu
  unfold pParent at h
  rw [hq] at h
  cases h
theorem ups_under_n {x : S} (hx : x ≠ ⟨#[]⟩) : ∀ (n : Nat) (p : S), p.size ≤ n → (x ∈ ups p ↔ pUnder p x = true)
  | 0, p, hp => by
    have h : pParent p = none := by
      cases h : pParent p with
      | none => rfl
      | some d => have := pParent_len h; omega
    rw [ups_none h, pParent_none_under hx h]
    simp
  | n + 1, p, hp => by
    cases h : pParent p with
    | none =>
      rw [ups_none h, pParent_none_under hx h]
      simp
    | some d =>
      have hl := pParent_len h
      rw [ups_some h, List.mem_cons, pParent_under hx h, ups_under_n hx n d (by omega)]
theorem ups_under {p x : S} (hx : x ≠ ⟨#[]⟩) : x ∈ ups p ↔ pUnder p x = true := ups_under_n hx p.size p (Nat.le_refl _)

end Go.Proofs.YtbkbpdpegiekhaaGreatDoor
