/- Paths as lists of bytes: parts, order. -/
import Derived.Lib.SplitLaws
import Derived.Lib.LastIndexLaws
import Derived.Lib.Strings
namespace Mo
abbrev B := List UInt8

/-- Between slashes; never empty. -/
def split : B → List B
  | [] => [[]]
  | c :: t => if c = 47 then [] :: split t else
    match split t with
    | [] => [[c]]
    | h :: r => (c :: h) :: r

def parts (p : B) : List B := if p = [] then [] else split p

def joinS : List B → B
  | [] => []
  | [x] => x
  | x :: y :: r => x ++ 47 :: joinS (y :: r)

theorem split_ne (p : B) : split p ≠ [] := by
  cases p with
  | nil => simp [split]
  | cons c t =>
    unfold split
    split
    · simp
    · split <;> simp

theorem split_join (p : B) : joinS (split p) = p := by
  induction p with
  | nil => rfl
  | cons c t ih =>
    unfold split
    split
    · rename_i h
      subst h
      cases hs : split t with
      | nil => exact absurd hs (split_ne t)
      | cons a r => rw [hs] at ih; simp [joinS, ih]
    · cases hs : split t with
      | nil => exact absurd hs (split_ne t)
      | cons a r =>
        rw [hs] at ih
        cases r with
        | nil => simp [joinS] at ih ⊢; exact ih
        | cons b r => simp [joinS] at ih ⊢; exact ih

theorem split_inj {p q : B} (h : split p = split q) : p = q := by
  rw [← split_join p, h, split_join]

theorem parts_inj {p q : B} (h : parts p = parts q) : p = q := by
  unfold parts at h
  split at h <;> split at h
  · simp_all
  · exact absurd h.symm (split_ne q)
  · exact absurd h (split_ne p)
  · exact split_inj h

theorem split_cons (c : UInt8) (t : B) : split (c :: t) = if c = 47 then [] :: split t else
    match split t with
    | [] => [[c]]
    | h :: r => (c :: h) :: r := by rw [split]

theorem split_append (a b : B) : split (a ++ 47 :: b) = split a ++ split b := by
  induction a with
  | nil => simp [split]
  | cons c t ih =>
    rw [List.cons_append, split_cons, split_cons c t, ih]
    split
    · simp
    · cases hs : split t with
      | nil => exact absurd hs (split_ne t)
      | cons x r => simp

/-- No part has a slash. -/
theorem split_free (p : B) : ∀ s ∈ split p, (47 : UInt8) ∉ s := by
  induction p with
  | nil => simp [split]
  | cons c t ih =>
    unfold split
    split
    · intro s hs
      simp only [List.mem_cons] at hs
      rcases hs with rfl | hs
      · simp
      · exact ih s hs
    · rename_i hc
      cases hs : split t with
      | nil => exact absurd hs (split_ne t)
      | cons x r =>
        intro s hs'
        rw [hs] at ih
        simp only [List.mem_cons] at hs'
        rcases hs' with rfl | hs'
        · simp only [List.mem_cons, not_or]
          exact ⟨fun e => hc e.symm, ih x (by simp)⟩
        · exact ih s (by simp [hs'])

theorem split_of_free {s : B} (h : (47 : UInt8) ∉ s) : split s = [s] := by
  induction s with
  | nil => rfl
  | cons c t ih =>
    simp only [List.mem_cons, not_or] at h
    unfold split
    rw [if_neg (fun e => h.1 e.symm), ih h.2]

theorem split_joinS {l : List B} (h : ∀ s ∈ l, (47 : UInt8) ∉ s) (hn : l ≠ []) : split (joinS l) = l := by
  induction l with
  | nil => exact absurd rfl hn
  | cons x r ih =>
    cases r with
    | nil => simp only [joinS]; exact split_of_free (h x (by simp))
    | cons y r =>
      simp only [joinS]
      rw [split_append, split_of_free (h x (by simp)), ih (fun s hs => h s (by simp_all)) (by simp)]
      rfl

/-! ### The order -/
/-- Bytes, as a dictionary has them: below 0, 0, above. -/
def cmpB : B → B → Int
  | [], [] => 0
  | [], _ :: _ => -1
  | _ :: _, [] => 1
  | a :: s, b :: t => if a < b then -1 else if b < a then 1 else cmpB s t

def cmpL : List B → List B → Int
  | [], [] => 0
  | [], _ :: _ => -1
  | _ :: _, [] => 1
  | a :: s, b :: t => if cmpB a b = 0 then cmpL s t else cmpB a b

def compare (p q : B) : Int := cmpL (parts p) (parts q)

theorem cmpB_self (a : B) : cmpB a a = 0 := by
  induction a with
  | nil => rfl
  | cons x t ih => simp [cmpB, ih, UInt8.lt_irrefl]

theorem u8_tri (a b : UInt8) : a < b ∨ a = b ∨ b < a := by
  rcases Nat.lt_trichotomy a.toNat b.toNat with h | h | h
  · exact .inl h
  · exact .inr (.inl (UInt8.toNat_inj.1 h))
  · exact .inr (.inr h)

theorem cmpB_eq {a b : B} : cmpB a b = 0 ↔ a = b := by
  constructor
  · intro h
    induction a generalizing b with
    | nil => cases b <;> simp_all [cmpB]
    | cons x t ih =>
      cases b with
      | nil => simp [cmpB] at h
      | cons y u =>
        unfold cmpB at h
        split at h
        · simp at h
        · split at h
          · simp at h
          · rcases u8_tri x y with h1 | h1 | h1
            · contradiction
            · rw [h1, ih h]
            · contradiction
  · rintro rfl
    exact cmpB_self a

theorem cmpB_neg (a b : B) : cmpB b a = - cmpB a b := by
  induction a generalizing b with
  | nil => cases b <;> simp [cmpB]
  | cons x t ih =>
    cases b with
    | nil => simp [cmpB]
    | cons y u =>
      unfold cmpB
      by_cases h1 : x < y
      · have h2 : ¬ y < x := fun h => by have := UInt8.lt_iff_toNat_lt.1 h1; have := UInt8.lt_iff_toNat_lt.1 h; omega
        simp [h1, h2]
      · by_cases h2 : y < x
        · simp [h1, h2]
        · simp [h1, h2, ih]

theorem cmpB_range (a b : B) : cmpB a b = -1 ∨ cmpB a b = 0 ∨ cmpB a b = 1 := by
  induction a generalizing b with
  | nil => cases b <;> simp [cmpB]
  | cons x t ih =>
    cases b with
    | nil => simp [cmpB]
    | cons y u =>
      unfold cmpB
      split
      · simp
      · split
        · simp
        · exact ih u

theorem cmpB_trans {a b c : B} (h1 : cmpB a b < 0) (h2 : cmpB b c < 0) : cmpB a c < 0 := by
  induction a generalizing b c with
  | nil =>
    cases b with
    | nil => simp [cmpB] at h1
    | cons y u => cases c with
      | nil => simp [cmpB] at h2
      | cons z v => simp [cmpB]
  | cons x t ih =>
    cases b with
    | nil => simp [cmpB] at h1
    | cons y u => cases c with
      | nil => simp [cmpB] at h2
      | cons z v =>
        unfold cmpB at h1 h2 ⊢
        split at h1 <;> split at h2
        · rename_i p q
          have : x < z := UInt8.lt_trans p q
          simp [this]
        · split at h2
          · simp at h2
          · rename_i p q r
            have : y = z := by rcases u8_tri y z with h | h | h <;> first | contradiction | exact h
            subst this
            simp [p]
        · split at h1
          · simp at h1
          · rename_i p q r
            have : x = y := by rcases u8_tri x y with h | h | h <;> first | contradiction | exact h
            subst this
            simp_all
        · split at h1
          · simp at h1
          · split at h2
            · simp at h2
            · rename_i p q r s
              have e1 : x = y := by rcases u8_tri x y with h | h | h <;> first | contradiction | exact h
              have e2 : y = z := by rcases u8_tri y z with h | h | h <;> first | contradiction | exact h
              subst e1; subst e2
              simp [UInt8.lt_irrefl]
              exact ih h1 h2

theorem cmpL_self (a : List B) : cmpL a a = 0 := by
  induction a with
  | nil => rfl
  | cons x t ih => simp [cmpL, ih, cmpB_self]

theorem cmpL_eq {a b : List B} : cmpL a b = 0 ↔ a = b := by
  constructor
  · intro h
    induction a generalizing b with
    | nil => cases b <;> simp_all [cmpL]
    | cons x t ih =>
      cases b with
      | nil => simp [cmpL] at h
      | cons y u =>
        unfold cmpL at h
        split at h
        · rename_i h0
          rw [cmpB_eq.1 h0, ih h]
        · contradiction
  · rintro rfl
    exact cmpL_self a

theorem cmpL_neg (a b : List B) : cmpL b a = - cmpL a b := by
  induction a generalizing b with
  | nil => cases b <;> simp [cmpL]
  | cons x t ih =>
    cases b with
    | nil => simp [cmpL]
    | cons y u =>
      unfold cmpL
      by_cases h : cmpB x y = 0
      · have h' : cmpB y x = 0 := by rw [cmpB_neg, h]; rfl
        rw [if_pos h, if_pos h', ih]
      · have h' : ¬ cmpB y x = 0 := by rw [cmpB_neg]; omega
        rw [if_neg h, if_neg h', cmpB_neg]

theorem cmpL_range (a b : List B) : cmpL a b = -1 ∨ cmpL a b = 0 ∨ cmpL a b = 1 := by
  induction a generalizing b with
  | nil => cases b <;> simp [cmpL]
  | cons x t ih =>
    cases b with
    | nil => simp [cmpL]
    | cons y u =>
      unfold cmpL
      split
      · exact ih u
      · exact cmpB_range x y

theorem cmpL_trans {a b c : List B} (h1 : cmpL a b < 0) (h2 : cmpL b c < 0) : cmpL a c < 0 := by
  induction a generalizing b c with
  | nil =>
    cases b with
    | nil => simp [cmpL] at h1
    | cons y u => cases c with
      | nil => simp [cmpL] at h2
      | cons z v => simp [cmpL]
  | cons x t ih =>
    cases b with
    | nil => simp [cmpL] at h1
    | cons y u => cases c with
      | nil => simp [cmpL] at h2
      | cons z v =>
        unfold cmpL at h1 h2 ⊢
        split at h1 <;> split at h2
        · rename_i p q
          have e1 := cmpB_eq.1 p
          have e2 := cmpB_eq.1 q
          subst e1; subst e2
          rw [if_pos p]
          exact ih h1 h2
        · rename_i p q
          have e1 := cmpB_eq.1 p
          subst e1
          rw [if_neg q]; exact h2
        · rename_i p q
          have e1 := cmpB_eq.1 q
          subst e1
          rw [if_neg p]; exact h1
        · have h3 := cmpB_trans h1 h2
          rw [if_neg (by omega)]
          exact h3

theorem compare_eq {p q : B} : compare p q = 0 ↔ p = q :=
  ⟨fun h => parts_inj (cmpL_eq.1 h), fun h => by subst h; exact cmpL_self _⟩
theorem compare_neg (p q : B) : compare q p = - compare p q := cmpL_neg _ _
theorem compare_range (p q : B) : compare p q = -1 ∨ compare p q = 0 ∨ compare p q = 1 := cmpL_range _ _
theorem compare_trans {p q r : B} (h1 : compare p q < 0) (h2 : compare q r < 0) : compare p r < 0 := cmpL_trans h1 h2
theorem compare_self (p : B) : compare p p = 0 := compare_eq.2 rfl

end Mo

/-! Under, parent, base, join. -/
namespace Mo

def under (p d : B) : Bool := if d = [] then !p.isEmpty else (d ++ [47]).isPrefixOf p

/-- Strictly ahead of, part by part. -/
def underL (a b : List B) : Prop := ∃ c, c ≠ [] ∧ a = b ++ c

theorem parts_ne {p : B} (h : p ≠ []) : parts p = split p := by simp [parts, h]
theorem parts_nil : parts [] = [] := rfl
theorem parts_eq_nil {p : B} : parts p = [] ↔ p = [] := by
  unfold parts
  split
  · simp_all
  · simp [split_ne, *]

theorem under_iff {p d : B} : under p d = true ↔ underL (parts p) (parts d) := by
  unfold under underL
  split
  · rename_i h
    subst h
    rw [parts_nil]
    constructor
    · intro h
      refine ⟨parts p, ?_, rfl⟩
      rw [Ne, parts_eq_nil]
      simpa using h
    · rintro ⟨c, hc, h⟩
      have : p ≠ [] := by
        rintro rfl
        rw [parts_nil] at h
        simp at h
        exact hc h
      simpa using this
  · rename_i h
    rw [parts_ne h, List.isPrefixOf_iff_prefix]
    constructor
    · rintro ⟨t, rfl⟩
      have e : d ++ [47] ++ t = d ++ 47 :: t := by simp
      rw [e, parts_ne (by simp), split_append]
      exact ⟨split t, split_ne t, rfl⟩
    · rintro ⟨c, hc, hp⟩
      have hp0 : p ≠ [] := by
        rintro rfl
        exact split_ne d (List.append_eq_nil_iff.1 hp.symm).1
      rw [parts_ne hp0] at hp
      refine ⟨joinS c, ?_⟩
      have hf : ∀ s ∈ c, (47 : UInt8) ∉ s := fun s hs => split_free p s (by rw [hp]; simp [hs])
      apply split_inj
      rw [show d ++ [47] ++ joinS c = d ++ 47 :: joinS c by simp, split_append, split_joinS hf hc, hp]

theorem under_ne {p d : B} (h : under p d = true) : p ≠ d := by
  rintro rfl
  obtain ⟨c, hc, h⟩ := under_iff.1 h
  exact hc (by simpa using h)

theorem under_trans {p q r : B} (h1 : under p q = true) (h2 : under q r = true) : under p r = true := by
  obtain ⟨c, hc, h1⟩ := under_iff.1 h1
  obtain ⟨d, hd, h2⟩ := under_iff.1 h2
  exact under_iff.2 ⟨d ++ c, by simp [hc], by rw [h1, h2, List.append_assoc]⟩

theorem cmpL_append {a c : List B} (hc : c ≠ []) : cmpL a (a ++ c) < 0 := by
  induction a with
  | nil => cases c with
    | nil => exact absurd rfl hc
    | cons x t => simp [cmpL]
  | cons x t ih => simp [cmpL, cmpB_self, ih]

theorem under_lt {p d : B} (h : under p d = true) : compare d p < 0 := by
  obtain ⟨c, hc, h⟩ := under_iff.1 h
  unfold compare
  rw [h]
  exact cmpL_append hc

/-- What lies between a path and one under it is under it. -/
theorem cmpL_between {a c m : List B} (h1 : cmpL a m < 0) (h2 : cmpL m (a ++ c) < 0) : ∃ d, d ≠ [] ∧ m = a ++ d := by
  induction a generalizing m with
  | nil =>
    cases m with
    | nil => simp [cmpL] at h1
    | cons x t => exact ⟨x :: t, by simp, rfl⟩
  | cons x t ih =>
    cases m with
    | nil => simp [cmpL] at h1
    | cons y u =>
      simp only [List.cons_append] at h2
      unfold cmpL at h1 h2
      by_cases e : cmpB x y = 0
      · have e' := cmpB_eq.1 e
        subst e'
        rw [if_pos e] at h1 h2
        obtain ⟨d, hd, hm⟩ := ih h1 h2
        exact ⟨d, hd, by rw [hm]; rfl⟩
      · have e2 : ¬ cmpB y x = 0 := by rw [cmpB_neg]; omega
        rw [if_neg e] at h1
        rw [if_neg e2] at h2
        rw [cmpB_neg] at h2
        omega

theorem under_between {p d m : B} (h : under p d = true) (h1 : compare d m < 0) (h2 : compare m p < 0) : under m d = true := by
  obtain ⟨c, hc, h⟩ := under_iff.1 h
  unfold compare at h1 h2
  rw [h] at h2
  exact under_iff.2 (cmpL_between h1 h2)

/-! ### The parent -/
/-- What is ahead of the last slash. -/
def parent : B → Option B
  | [] => none
  | c :: t => match parent t with
    | some d => some (c :: d)
    | none => if c = 47 then some [] else none

theorem parent_none {p : B} : parent p = none ↔ (47 : UInt8) ∉ p := by
  induction p with
  | nil => simp [parent]
  | cons c t ih =>
    unfold parent
    cases h : parent t with
    | some d => rw [h] at ih; simp at ih ⊢; intro _; exact ih
    | none =>
      rw [h] at ih
      simp only [true_iff] at ih
      by_cases e : c = 47
      · simp [e]
      · simp [e, ih]; exact fun h => e h.symm

theorem parent_some {p d : B} : parent p = some d ↔ ∃ b, (47 : UInt8) ∉ b ∧ p = d ++ 47 :: b := by
  induction p generalizing d with
  | nil => simp [parent]
  | cons c t ih =>
    unfold parent
    cases h : parent t with
    | some q =>
      simp only [Option.some.injEq]
      constructor
      · rintro rfl
        obtain ⟨b, hb, e⟩ := ih.1 h
        exact ⟨b, hb, by rw [e]; rfl⟩
      · rintro ⟨b, hb, e⟩
        cases d with
        | nil =>
          simp only [List.nil_append, List.cons.injEq] at e
          obtain ⟨rfl, rfl⟩ := e
          rw [parent_none.2 hb] at h
          cases h
        | cons x d =>
          simp only [List.cons_append, List.cons.injEq] at e
          obtain ⟨rfl, e⟩ := e
          have := ih.2 ⟨b, hb, e⟩
          rw [h] at this
          rw [Option.some.inj this]
    | none =>
      have hn := parent_none.1 h
      show (if c = 47 then some [] else none) = some d ↔ _
      constructor
      · intro h'
        by_cases e : c = 47
        · rw [if_pos e] at h'
          obtain rfl := Option.some.inj h'
          exact ⟨t, hn, by rw [e]; rfl⟩
        · rw [if_neg e] at h'
          cases h'
      · rintro ⟨b, hb, e⟩
        cases d with
        | nil =>
          simp only [List.nil_append, List.cons.injEq] at e
          rw [if_pos e.1]
        | cons x d =>
          simp only [List.cons_append, List.cons.injEq] at e
          exfalso
          apply hn
          rw [e.2]
          simp

theorem parent_under {p d : B} (h : parent p = some d) (hd : d ≠ []) : under p d = true := by
  obtain ⟨b, _, rfl⟩ := parent_some.1 h
  unfold under
  rw [if_neg hd, List.isPrefixOf_iff_prefix]
  exact ⟨b, by simp⟩

theorem parent_split {p d : B} (h : parent p = some d) : ∃ b, split p = split d ++ [b] := by
  obtain ⟨b, hb, rfl⟩ := parent_some.1 h
  exact ⟨b, by rw [split_append, split_of_free hb]⟩

theorem parent_len {p d : B} (h : parent p = some d) : d.length < p.length := by
  obtain ⟨b, _, rfl⟩ := parent_some.1 h
  simp

/-- Under a directory that has a name: so is, or it is, the parent. -/
theorem under_parent {p d : B} (hd : d ≠ []) (h : under p d = true) : ∃ q, parent p = some q ∧ (q = d ∨ under q d = true) := by
  have h' := h
  unfold under at h'
  rw [if_neg hd, List.isPrefixOf_iff_prefix] at h'
  obtain ⟨t, rfl⟩ := h'
  cases ht : parent t with
  | none =>
    refine ⟨d, parent_some.2 ⟨t, parent_none.1 ht, by simp⟩, .inl rfl⟩
  | some q =>
    obtain ⟨b, hb, rfl⟩ := parent_some.1 ht
    refine ⟨d ++ 47 :: q, parent_some.2 ⟨b, hb, by simp⟩, .inr ?_⟩
    unfold under
    rw [if_neg hd, List.isPrefixOf_iff_prefix]
    exact ⟨q, by simp⟩

/-- Behind the last slash. -/
def base (p : B) : B := match parent p with
  | some d => p.drop (d.length + 1)
  | none => p

def join (d n : B) : B := if d = [] then n else d ++ 47 :: n

theorem base_eq {p d b : B} (hb : (47 : UInt8) ∉ b) (h : p = d ++ 47 :: b) : base p = b := by
  unfold base
  rw [parent_some.2 ⟨b, hb, h⟩, h]
  simp

end Mo

/- The library's plain functions at the slash, as the paths' own; paths as the program has them (ByteArray). -/
set_option linter.unusedVariables false
set_option linter.unusedSimpArgs false
namespace Mo
open Go Go.Lib

/-! ### strings.Split -/
theorem index_slash_none {l : B} (h : (47 : UInt8) ∉ l) : index l [47] = -1 := by
  refine index_none fun j _ => ?_
  unfold occAt
  by_cases e : [47].isPrefixOf (l.drop j) = true
  · rw [List.isPrefixOf_iff_prefix] at e
    exact absurd (List.mem_of_mem_drop (i := j) (e.subset (by simp))) h
  · exact Bool.eq_false_iff.2 e

theorem index_slash_at (a b : B) (h : (47 : UInt8) ∉ a) : index (a ++ 47 :: b) [47] = a.length := by
  refine index_first (by simp) (by simp [occAt]) fun j hj => ?_
  unfold occAt
  by_cases e : [47].isPrefixOf ((a ++ 47 :: b).drop j) = true
  · rw [List.isPrefixOf_iff_prefix, List.drop_append_of_le_length (by omega)] at e
    obtain ⟨t, ht⟩ := e
    cases hd : a.drop j with
    | nil => have := congrArg List.length hd; simp at this; omega
    | cons x r =>
      rw [hd] at ht
      simp only [List.cons_append, List.cons.injEq] at ht
      exact absurd (List.mem_of_mem_drop (i := j) (by rw [hd, ← ht.1]; simp)) h
  · exact Bool.eq_false_iff.2 e

theorem cut_first (l : B) (h : (47 : UInt8) ∈ l) : ∃ a b, (47 : UInt8) ∉ a ∧ l = a ++ 47 :: b := by
  induction l with
  | nil => simp at h
  | cons c t ih =>
    by_cases e : c = 47
    · exact ⟨[], t, by simp, by simp [e]⟩
    · have ht : (47 : UInt8) ∈ t := by
        simp only [List.mem_cons] at h
        rcases h with h | h
        · exact absurd h.symm e
        · exact h
      obtain ⟨a, b, ha, hl⟩ := ih ht
      exact ⟨c :: a, b, by simp only [List.mem_cons, not_or]; exact ⟨fun h => e h.symm, ha⟩, by rw [hl]; rfl⟩

theorem splitK_slash : ∀ (k : Nat) (l : B), l.count 47 ≤ k → splitK [47] 0 k l = split l
  | 0, l, h => by
    have : (47 : UInt8) ∉ l := fun hm => by have := List.count_pos_iff.2 hm; omega
    rw [split_of_free this]; rfl
  | k + 1, l, h => by
    by_cases hm : (47 : UInt8) ∈ l
    · obtain ⟨a, b, ha, rfl⟩ := cut_first l hm
      unfold splitK
      rw [index_slash_at a b ha]
      have e0 : ((a.length : Int) == -1) = false := by rw [beq_eq_false_iff_ne]; omega
      rw [e0, split_append, split_of_free ha]
      have hc : b.count 47 ≤ k := by
        rw [List.count_append, List.count_cons_self] at h
        omega
      have := splitK_slash k b hc
      simp [this]
    · unfold splitK
      rw [index_slash_none hm, split_of_free hm]
      rfl

theorem split_eq (l : B) : Lib.split l [47] = split l := by
  unfold Lib.split
  exact splitK_slash _ l (by rw [count_one]; exact Nat.le_refl _)

/-! ### Over ByteArray -/
abbrev S := ByteArray
instance lawfulS : LawfulBEq ByteArray where
  eq_of_beq := by
    intro a b h
    cases a; cases b
    have h' : (_ == _) = true := h
    congr 1
    exact eq_of_beq h'
  rfl := by
    intro a
    cases a
    exact beq_self_eq_true (α := Array UInt8) _
def bs (s : S) : B := s.data.toList
def mk (l : B) : S := ⟨l.toArray⟩
@[simp] theorem bs_mk (l : B) : bs (mk l) = l := by simp [bs, mk]
@[simp] theorem mk_bs (s : S) : mk (bs s) = s := by cases s; simp [bs, mk]
theorem bs_inj {s t : S} (h : bs s = bs t) : s = t := by rw [← mk_bs s, h, mk_bs]
theorem mk_inj {a b : B} (h : mk a = mk b) : a = b := by rw [← bs_mk a, h, bs_mk]
theorem size_bs (s : S) : s.size = (bs s).length := Lib.size_eq s
theorem bs_size (s : S) : (bs s).length = s.size := (size_bs s).symm

def pParts (s : S) : List S := (parts (bs s)).map mk
def pSplit (s : S) : List S := (split (bs s)).map mk
def pCmp (p q : S) : Int := compare (bs p) (bs q)
def pUnder (p d : S) : Bool := under (bs p) (bs d)
def pParent (p : S) : Option S := (parent (bs p)).map mk
def pBase (p : S) : S := mk (base (bs p))
def pJoin (d n : S) : S := mk (join (bs d) (bs n))

theorem pSplit_eq (s sep : S) (h : bs sep = [47]) : Lib.splitB sep 0 (Lib.countB s sep) s = pSplit s := by
  have h1 := splitB_data sep 0 (countB s sep) s
  have e : splitK sep.data.toList 0 (countB s sep) s.data.toList = Mo.split (bs s) := by
    have h' : sep.data.toList = [47] := h
    rw [h', ← Mo.split_eq]
    unfold Lib.split countB
    rw [h']; rfl
  rw [e] at h1
  unfold pSplit
  rw [← h1, List.map_map]
  have : (mk ∘ fun x : S => x.data.toList) = id := by funext x; exact mk_bs x
  rw [this, List.map_id]

theorem pSplit_len (s : S) : 1 ≤ (pSplit s).length := by
  unfold pSplit
  rw [List.length_map]
  exact List.length_pos_iff.2 (split_ne _)

theorem pCount_len (s sep : S) (h : bs sep = [47]) : Lib.countB s sep + 1 = (pSplit s).length := by
  rw [← pSplit_eq s sep h]
  exact (splitB_all sep (by rw [size_bs, h]; decide) 0 _ s rfl).symm

/-! ### strings.LastIndex -/
theorem lastIndex_slash (l : B) : (lastIndex l [47] = -1 ∧ parent l = none) ∨ (∃ k : Nat, lastIndex l [47] = k ∧ k < l.length ∧ parent l = some (l.take k) ∧ base l = l.drop (k + 1) ∧ (47 : UInt8) ∉ l.drop (k + 1) ∧ l = l.take k ++ 47 :: l.drop (k + 1)) := by
  have occ : ∀ j, occAt l [47] j = true ↔ l[j]? = some 47 := by
    intro j
    unfold occAt
    rw [List.isPrefixOf_iff_prefix]
    constructor
    · rintro ⟨t, ht⟩
      have : (l.drop j)[0]? = some 47 := by rw [← ht]; rfl
      simpa using this
    · intro h
      have hj := (List.getElem?_eq_some_iff.1 h).1
      refine ⟨l.drop (j + 1), ?_⟩
      rw [List.drop_eq_getElem_cons hj]
      have := (List.getElem?_eq_some_iff.1 h).2
      rw [this]; rfl
  unfold lastIndex
  simp only [List.length_cons, List.length_nil, Nat.zero_add]
  by_cases h1 : 1 ≤ l.length
  · rw [if_pos h1]
    rcases lastOcc_spec l [47] (l.length - 1 + 1) with ⟨h, hn⟩ | ⟨i, hi, h, ho, hn⟩
    · refine .inl ⟨h, parent_none.2 fun hm => ?_⟩
      obtain ⟨j, hj, e⟩ := List.mem_iff_getElem.1 hm
      have := hn j (by omega)
      rw [(occ j).2 (by rw [List.getElem?_eq_getElem hj, e])] at this
      cases this
    · have hl : i < l.length := by omega
      have hg : l[i] = 47 := (List.getElem?_eq_some_iff.1 ((occ i).1 ho)).2
      have hcut : l = l.take i ++ 47 :: l.drop (i + 1) := by
        rw [← hg, ← List.drop_eq_getElem_cons hl, List.take_append_drop]
      have hfree : (47 : UInt8) ∉ l.drop (i + 1) := by
        intro hm
        obtain ⟨j, hj, e⟩ := List.mem_iff_getElem.1 hm
        rw [List.length_drop] at hj
        have := hn (i + 1 + j) (by omega) (by omega)
        rw [(occ _).2 (by rw [List.getElem?_eq_getElem (by omega)]; rw [List.getElem_drop] at e; rw [e])] at this
        cases this
      refine .inr ⟨i, h, hl, parent_some.2 ⟨_, hfree, hcut⟩, base_eq hfree hcut, hfree, hcut⟩
  · rw [if_neg h1]
    have : l = [] := List.eq_nil_of_length_eq_zero (by omega)
    subst this
    exact .inl ⟨rfl, rfl⟩

theorem pParent_cases (s : S) : (lastIndex s.data.toList [47] = -1 ∧ pParent s = none ∧ pBase s = s) ∨
    (∃ k : Nat, lastIndex s.data.toList [47] = k ∧ k < s.size ∧ pParent s = some (s.extract 0 k) ∧ pBase s = s.extract (k + 1) s.size) := by
  rcases lastIndex_slash (bs s) with ⟨h, hp⟩ | ⟨k, h, hk, hp, hb, _⟩
  · refine .inl ⟨h, by unfold pParent; rw [hp]; rfl, ?_⟩
    unfold pBase base
    rw [hp]; simp
  · refine .inr ⟨k, h, by rw [size_bs]; exact hk, ?_, ?_⟩
    · unfold pParent
      rw [hp]
      simp only [Option.map_some, Option.some.injEq]
      apply bs_inj
      rw [bs_mk]
      unfold bs
      rw [extract_from_zero]
    · unfold pBase
      rw [hb]
      apply bs_inj
      rw [bs_mk]
      unfold bs
      simp [ByteArray.data_extract]
      rw [List.take_of_length_le]
      simp

theorem pUnder_prefix (p d : S) (hd : ¬ d.data.toList = []) (x : S) (hx : x.data.toList = d.data.toList ++ [47]) : Lib.hasPrefix p.data.toList x.data.toList = pUnder p d := by
  unfold Lib.hasPrefix pUnder under bs
  rw [if_neg hd, hx]

theorem pCmp_eq {p q : S} : pCmp p q = 0 ↔ p = q := ⟨fun h => bs_inj (compare_eq.1 h), fun h => by subst h; exact compare_self _⟩
theorem pCmp_neg (p q : S) : pCmp q p = - pCmp p q := compare_neg _ _
theorem pCmp_range (p q : S) : pCmp p q = -1 ∨ pCmp p q = 0 ∨ pCmp p q = 1 := compare_range _ _
theorem pCmp_trans {p q r : S} (h1 : pCmp p q < 0) (h2 : pCmp q r < 0) : pCmp p r < 0 := compare_trans h1 h2
theorem pCmp_self (p : S) : pCmp p p = 0 := compare_self _
theorem pUnder_lt {p d : S} (h : pUnder p d = true) : pCmp d p < 0 := under_lt h
theorem pUnder_ne {p d : S} (h : pUnder p d = true) : p ≠ d := fun e => Mo.under_ne h (by rw [e])
theorem pUnder_trans {p q r : S} (h1 : pUnder p q = true) (h2 : pUnder q r = true) : pUnder p r = true := Mo.under_trans h1 h2
theorem pUnder_between {p d m : S} (h : pUnder p d = true) (h1 : pCmp d m < 0) (h2 : pCmp m p < 0) : pUnder m d = true := Mo.under_between h h1 h2
theorem pParent_len {p d : S} (h : pParent p = some d) : d.size < p.size := by
  unfold pParent at h
  cases hp : parent (bs p) with
  | none => rw [hp] at h; cases h
  | some q =>
    rw [hp] at h
    simp only [Option.map_some, Option.some.injEq] at h
    subst h
    rw [size_bs, size_bs, bs_mk]
    exact Mo.parent_len hp

end Mo
