/- Trees, plainly: what the check says. -/
import Derived.Test.YtbkbpdpegiekhaaGreatDoorU1
set_option linter.unusedVariables false
set_option linter.unusedSimpArgs false
namespace Go.Proofs.YtbkbpdpegiekhaaGreatDoor
open Go.RowKit Go.Proofs.YtbkbpdpegiekhaaGreatDoorW.PrintWords Mo

theorem past_false {last p : S} : pastE last p = false ↔ (last ≠ ⟨#[]⟩ → pCmp last p < 0) := by
  unfold pastE
  by_cases h : last = ⟨#[]⟩
  · subst h; simp
  · have : (last != ⟨#[]⟩) = true := by simpa using h
    rw [this, Bool.true_and, decide_eq_false_iff_not]
    exact ⟨fun k _ => by omega, fun k => (by have := k h; omega)⟩
theorem lack_false {dirs : List S} {p : S} : lackE dirs p = false ↔ ∀ d, pParent p = some d → d ∈ dirs := by
  unfold lackE pDir
  cases h : pParent p with
  | none => simp
  | some d =>
    simp only [Option.isSome_some, Bool.true_and, Option.getD_some, decide_eq_false_iff_not, Option.some.injEq, forall_eq']
    rw [List.count_eq_zero]
    exact ⟨fun k => Classical.byContradiction k, fun k e => e k⟩
theorem nodeE_zero {n : Nd} {last : S} {dirs alike : List S} : nodeE n last dirs alike = 0 ↔ pRight n.path = true ∧ okRest n = true ∧ pastE last n.path = false ∧ lackE dirs n.path = false ∧ pFold n.path ∉ alike := by
  have hc : decide (0 < alike.count (pFold n.path)) = false ↔ pFold n.path ∉ alike := by
    rw [decide_eq_false_iff_not, ← List.count_eq_zero]; omega
  unfold nodeE
  rw [← hc]
  generalize pRight n.path = a
  generalize okRest n = b
  generalize pastE last n.path = c
  generalize lackE dirs n.path = d
  generalize decide (0 < alike.count (pFold n.path)) = e
  cases a <;> cases b <;> cases c <;> cases d <;> cases e <;> simp
theorem parent_lt {p d : S} (hf : pFine p) (h : pParent p = some d) : pCmp d p < 0 := pUnder_lt ((pParent_under (hf.up h).ne h).2 (.inl rfl))
theorem mem_dirsE {n : Nd} {dirs : List S} {d : S} : d ∈ dirsE n dirs ↔ d ∈ dirs ∨ (n.dir = true ∧ d = n.path) := by
  unfold dirsE
  cases n.dir <;> simp
theorem bytesN_cons (n : Nd) (t : List Nd) : bytesN (n :: t) = n.data.size + bytesN t := by simp [bytesN]

def apartN (xs : List Nd) : Prop := xs.Pairwise fun a b => pFold a.path ≠ pFold b.path
theorem checkN_zero : ∀ (xs : List Nd) (last : S) (dirs alike : List S) (bytes : Int), checkN last dirs alike bytes xs = 0 ↔
    ((∀ n ∈ xs, pRight n.path = true ∧ okRest n = true) ∧ (last ≠ ⟨#[]⟩ → ∀ n ∈ xs, pCmp last n.path < 0) ∧ xs.Pairwise ltN ∧
      (∀ n ∈ xs, ∀ d, pParent n.path = some d → d ∈ dirs ∨ ∃ m ∈ xs, m.path = d ∧ m.dir = true) ∧ (∀ n ∈ xs, pFold n.path ∉ alike) ∧ apartN xs ∧ bytes + (bytesN xs : Nat) ≤ 4194304)
  | [], last, dirs, alike, bytes => by
    have h : checkN last dirs alike bytes [] = if 4194304 < bytes then 7 else 0 := rfl
    rw [h]
    have hb : bytesN [] = 0 := rfl
    rw [hb]
    constructor
    · intro h0
      split at h0
      · cases h0
      · exact ⟨fun n hn => (by cases hn), fun _ n hn => (by cases hn), List.Pairwise.nil, fun n hn => (by cases hn), fun n hn => (by cases hn), List.Pairwise.nil, by simp; omega⟩
    · intro h0
      rw [if_neg]
      have := h0.2.2.2.2.2.2
      simp at this
      omega
  | n :: t, last, dirs, alike, bytes => by
    have h : checkN last dirs alike bytes (n :: t) = if nodeE n last dirs alike = 0 then checkN n.path (dirsE n dirs) (alike ++ [pFold n.path]) (bytes + n.data.size) t else nodeE n last dirs alike := rfl
    have ih := checkN_zero t n.path (dirsE n dirs) (alike ++ [pFold n.path]) (bytes + n.data.size)
    have hb := bytesN_cons n t
    rw [h]
    constructor
    · intro h0
      by_cases hn : nodeE n last dirs alike = 0
      · rw [if_pos hn] at h0
        obtain ⟨h1, h2, h3, h4, h5, h6, h7⟩ := ih.1 h0
        obtain ⟨n1, n2, n3, n4, n5⟩ := nodeE_zero.1 hn
        have n3 := past_false.1 n3
        have n4 := lack_false.1 n4
        have h2 := h2 (bytes_nil n1)
        refine ⟨fun m hm => ?_, fun hl m hm => ?_, List.pairwise_cons.2 ⟨h2, h3⟩, fun m hm d hd => ?_, fun m hm => ?_, List.pairwise_cons.2 ⟨fun m hm e => ?_, h6⟩, ?_⟩
        · rcases List.mem_cons.1 hm with rfl | hm
          · exact ⟨n1, n2⟩
          · exact h1 m hm
        · rcases List.mem_cons.1 hm with rfl | hm
          · exact n3 hl
          · exact pCmp_trans (n3 hl) (h2 m hm)
        · rcases List.mem_cons.1 hm with rfl | hm
          · exact .inl (n4 d hd)
          · rcases h4 m hm d hd with h | ⟨x, hx, h⟩
            · rcases mem_dirsE.1 h with h | ⟨h, he⟩
              · exact .inl h
              · exact .inr ⟨n, List.mem_cons_self .., he.symm, h⟩
            · exact .inr ⟨x, List.mem_cons_of_mem _ hx, h⟩
        · rcases List.mem_cons.1 hm with rfl | hm
          · exact n5
          · exact fun e => h5 m hm (List.mem_append_left _ e)
        · exact h5 m hm (by rw [e]; exact List.mem_append_right _ (List.mem_singleton.2 rfl))
        · rw [hb]; push_cast; omega
      · rw [if_neg hn] at h0
        exact absurd h0 hn
    · rintro ⟨h1, h2, h3, h4, h5, h6, h7⟩
      obtain ⟨p1, p2⟩ := List.pairwise_cons.1 h3
      obtain ⟨q1, q2⟩ := List.pairwise_cons.1 h6
      have hr := h1 n (List.mem_cons_self ..)
      have hf := fine_of_right hr.1
      have hn : nodeE n last dirs alike = 0 := by
        refine nodeE_zero.2 ⟨hr.1, hr.2, past_false.2 fun hl => h2 hl n (List.mem_cons_self ..), lack_false.2 fun d hd => ?_, h5 n (List.mem_cons_self ..)⟩
        rcases h4 n (List.mem_cons_self ..) d hd with h | ⟨m, hm, rfl, _⟩
        · exact h
        · exfalso
          have hlt := parent_lt hf hd
          rcases List.mem_cons.1 hm with rfl | hm
          · rw [pCmp_self] at hlt; omega
          · exact ltN_asymm (x := m) (y := n) hlt (p1 m hm)
      rw [if_pos hn]
      refine ih.2 ⟨fun m hm => h1 m (List.mem_cons_of_mem _ hm), fun _ => p1, p2, fun m hm d hd => ?_, fun m hm e => ?_, q2, ?_⟩
      · rcases h4 m (List.mem_cons_of_mem _ hm) d hd with h | ⟨x, hx, hp, hxd⟩
        · exact .inl (mem_dirsE.2 (.inl h))
        · rcases List.mem_cons.1 hx with rfl | hx
          · exact .inl (mem_dirsE.2 (.inr ⟨hxd, hp.symm⟩))
          · exact .inr ⟨x, hx, hp, hxd⟩
      · rcases List.mem_append.1 e with e | e
        · exact h5 m (List.mem_cons_of_mem _ hm) e
        · exact q1 m hm (List.mem_singleton.1 e).symm
      · rw [hb] at h7; push_cast at h7; omega

/-- A tree that may be. -/
structure Treed (xs : List Nd) : Prop where
  len : xs.length ≤ 4096
  ok : Okt xs
  right : ∀ n ∈ xs, pRight n.path = true ∧ okRest n = true
  apart : apartN xs
  bytes : bytesN xs ≤ 4194304
theorem checkT_zero {xs : List Nd} : checkT xs = 0 ↔ Treed xs := by
  unfold checkT
  by_cases hl : 4096 < xs.length
  · rw [if_pos hl]
    exact ⟨fun h => (by cases h), fun h => (by have := h.len; omega)⟩
  · rw [if_neg hl, checkN_zero]
    constructor
    · rintro ⟨h1, h2, h3, h4, h5, h6, h7⟩
      refine ⟨by omega, ⟨h3, fun n hn => fine_of_right (h1 n hn).1, fun n hn d hd => ?_⟩, h1, h6, by omega⟩
      rcases h4 n hn d hd with h | ⟨m, hm, rfl, hmd⟩
      · cases h
      · exact dirT_of h3 hm hmd
    · rintro ⟨h1, h2, h3, h4, h5⟩
      refine ⟨h3, fun h => absurd rfl h, h2.sorted, fun n hn d hd => .inr ?_, fun n hn => by simp, h4, by omega⟩
      obtain ⟨m, hm, he, hd⟩ := dirT_mem (h2.closed n hn d hd)
      exact ⟨m, hm, he, hd⟩

/-- Does a path collide with one ahead? -/
def collN : List S → List Nd → Bool
  | _, [] => false
  | seen, n :: t => if pFold n.path ∈ seen then true else collN (seen ++ [pFold n.path]) t
theorem collN_false : ∀ (xs : List Nd) (seen : List S), collN seen xs = false ↔ (∀ n ∈ xs, pFold n.path ∉ seen) ∧ apartN xs
  | [], seen => ⟨fun _ => ⟨fun n hn => (by cases hn), List.Pairwise.nil⟩, fun _ => rfl⟩
  | n :: t, seen => by
    have h : collN seen (n :: t) = if pFold n.path ∈ seen then true else collN (seen ++ [pFold n.path]) t := rfl
    have ih := collN_false t (seen ++ [pFold n.path])
    rw [h]
    constructor
    · intro h0
      by_cases hm : pFold n.path ∈ seen
      · rw [if_pos hm] at h0; cases h0
      · rw [if_neg hm] at h0
        obtain ⟨h1, h2⟩ := ih.1 h0
        refine ⟨fun m hm' => ?_, List.pairwise_cons.2 ⟨fun m hm' e => h1 m hm' (by rw [e]; exact List.mem_append_right _ (List.mem_singleton.2 rfl)), h2⟩⟩
        rcases List.mem_cons.1 hm' with rfl | hm'
        · exact hm
        · exact fun e => h1 m hm' (List.mem_append_left _ e)
    · rintro ⟨h1, h2⟩
      obtain ⟨q1, q2⟩ := List.pairwise_cons.1 h2
      rw [if_neg (h1 n (List.mem_cons_self ..))]
      refine ih.2 ⟨fun m hm e => ?_, q2⟩
      rcases List.mem_append.1 e with e | e
      · exact h1 m (List.mem_cons_of_mem _ hm) e
      · exact q1 m hm (List.mem_singleton.1 e).symm
def collT (xs : List Nd) : Bool := collN [] xs
theorem collT_false {xs : List Nd} : collT xs = false ↔ apartN xs := by
  unfold collT
  rw [collN_false]
  exact ⟨fun h => h.2, fun h => ⟨fun n _ => by simp, h⟩⟩

end Go.Proofs.YtbkbpdpegiekhaaGreatDoor
