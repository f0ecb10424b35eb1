/- Paths as lists of bytes: parts, order. -/
namespace Mo
abbrev B := List UInt8

/-- Between slashes; never empty. -/
def split : B → List B
  | [] => [[]]
  | c :: t => if c = 47 then [] :: split t else
    match split t with
    | [] => [[c]]
    | h :: r => (c :: h) :: r

def parts (p : B) : List B := if p = [] then [] else split p

def joinS : List B → B
  | [] => []
  | [x] => x
  | x :: y :: r => x ++ 47 :: joinS (y :: r)

theorem split_ne (p : B) : split p ≠ [] := by
  cases p with
  | nil => simp [split]
  | cons c t =>
    unfold split
    split
    · simp
    · split <;> simp

theorem split_join (p : B) : joinS (split p) = p := by
  induction p with
  | nil => rfl
  | cons c t ih =>
    unfold split
    split
    · rename_i h
      subst h
      cases hs : split t with
      | nil => exact absurd hs (split_ne t)
      | cons a r => rw [hs] at ih; simp [joinS, ih]
    · cases hs : split t with
      | nil => exact absurd hs (split_ne t)
      | cons a r =>
        rw [hs] at ih
        cases r with
        | nil => simp [joinS] at ih ⊢; exact ih
        | cons b r => simp [joinS] at ih ⊢; exact ih

theorem split_inj {p q : B} (h : split p = split q) : p = q := by
  rw [← split_join p, h, split_join]

theorem parts_inj {p q : B} (h : parts p = parts q) : p = q := by
  unfold parts at h
  split at h <;> split at h
  · simp_all
  · exact absurd h.symm (split_ne q)
  · exact absurd h (split_ne p)
  · exact split_inj h

theorem split_cons (c : UInt8) (t : B) : split (c :: t) = if c = 47 then [] :: split t else
    match split t with
    | [] => [[c]]
    | h :: r => (c :: h) :: r := by rw [split]

theorem split_append (a b : B) : split (a ++ 47 :: b) = split a ++ split b := by
  induction a with
  | nil => simp [split]
  | cons c t ih =>
    rw [List.cons_append, split_cons, split_cons c t, ih]
    split
    · simp
    · cases hs : split t with
      | nil => exact absurd hs (split_ne t)
      | cons x r => simp

/-- No part has a slash. -/
theorem split_free (p : B) : ∀ s ∈ split p, (47 : UInt8) ∉ s := by
  induction p with
  | nil => simp [split]
  | cons c t ih =>
    unfold split
    split
    · intro s hs
      simp only [List.mem_cons] at hs
      rcases hs with rfl | hs
      · simp
      · exact ih s hs
    · rename_i hc
      cases hs : split t with
      | nil => exact absurd hs (split_ne t)
      | cons x r =>
        intro s hs'
        rw [hs] at ih
        simp only [List.mem_cons] at hs'
        rcases hs' with rfl | hs'
        · simp only [List.mem_cons, not_or]
          exact ⟨fun e => hc e.symm, ih x (by simp)⟩
        · exact ih s (by simp [hs'])

theorem split_of_free {s : B} (h : (47 : UInt8) ∉ s) : split s = [s] := by
  induction s with
  | nil => rfl
  | cons c t ih =>
    simp only [List.mem_cons, not_or] at h
    unfold split
    rw [if_neg (fun e => h.1 e.symm), ih h.2]

theorem split_joinS {l : List B} (h : ∀ s ∈ l, (47 : UInt8) ∉ s) (hn : l ≠ []) : split (joinS l) = l := by
  induction l with
  | nil => exact absurd rfl hn
  | cons x r ih =>
    cases r with
    | nil => simp only [joinS]; exact split_of_free (h x (by simp))
    | cons y r =>
      simp only [joinS]
      rw [split_append, split_of_free (h x (by simp)), ih (fun s hs => h s (by simp_all)) (by simp)]
      rfl

/-! ### The order -/
/-- Bytes, as a dictionary has them: below 0, 0, above. -/
def cmpB : B → B → Int
  | [], [] => 0
  | [], _ :: _ => -1
  | _ :: _, [] => 1
  | a :: s, b :: t => if a < b then -1 else if b < a then 1 else cmpB s t

def cmpL : List B → List B → Int
  | [], [] => 0
  | [], _ :: _ => -1
  | _ :: _, [] => 1
  | a :: s, b :: t => if cmpB a b = 0 then cmpL s t else cmpB a b

def compare (p q : B) : Int := cmpL (parts p) (parts q)

theorem cmpB_self (a : B) : cmpB a a = 0 := by
  induction a with
  | nil => rfl
  | cons x t ih => simp [cmpB, ih, UInt8.lt_irrefl]

theorem u8_tri (a b : UInt8) : a < b ∨ a = b ∨ b < a := by
  rcases Nat.lt_trichotomy a.toNat b.toNat with h | h | h
  · exact .inl h
  · exact .inr (.inl (UInt8.toNat_inj.1 h))
  · exact .inr (.inr h)

theorem cmpB_eq {a b : B} : cmpB a b = 0 ↔ a = b := by
  constructor
  · intro h
    induction a generalizing b with
    | nil => cases b <;> simp_all [cmpB]
    | cons x t ih =>
      cases b with
      | nil => simp [cmpB] at h
      | cons y u =>
        unfold cmpB at h
        split at h
        · simp at h
        · split at h
          · simp at h
          · rcases u8_tri x y with h1 | h1 | h1
            · contradiction
            · rw [h1, ih h]
            · contradiction
  · rintro rfl
    exact cmpB_self a

theorem cmpB_neg (a b : B) : cmpB b a = - cmpB a b := by
  induction a generalizing b with
  | nil => cases b <;> simp [cmpB]
  | cons x t ih =>
    cases b with
    | nil => simp [cmpB]
    | cons y u =>
      unfold cmpB
      by_cases h1 : x < y
      · have h2 : ¬ y < x := fun h => by have := UInt8.lt_iff_toNat_lt.1 h1; have := UInt8.lt_iff_toNat_lt.1 h; omega
        simp [h1, h2]
      · by_cases h2 : y < x
        · simp [h1, h2]
        · simp [h1, h2, ih]

theorem cmpB_range (a b : B) : cmpB a b = -1 ∨ cmpB a b = 0 ∨ cmpB a b = 1 := by
  induction a generalizing b with
  | nil => cases b <;> simp [cmpB]
  | cons x t ih =>
    cases b with
    | nil => simp [cmpB]
    | cons y u =>
      unfold cmpB
      split
      · simp
      · split
        · simp
        · exact ih u

theorem cmpB_trans {a b c : B} (h1 : cmpB a b < 0) (h2 : cmpB b c < 0) : cmpB a c < 0 := by
  induction a generalizing b c with
  | nil =>
    cases b with
    | nil => simp [cmpB] at h1
    | cons y u => cases c with
      | nil => simp [cmpB] at h2
      | cons z v => simp [cmpB]
  | cons x t ih =>
    cases b with
    | nil => simp [cmpB] at h1
    | cons y u => cases c with
      | nil => simp [cmpB] at h2
      | cons z v =>
        unfold cmpB at h1 h2 ⊢
        split at h1 <;> split at h2
        · rename_i p q
          have : x < z := UInt8.lt_trans p q
          simp [this]
        · split at h2
          · simp at h2
          · rename_i p q r
            have : y = z := by rcases u8_tri y z with h | h | h <;> first | contradiction | exact h
            subst this
            simp [p]
        · split at h1
          · simp at h1
          · rename_i p q r
            have : x = y := by rcases u8_tri x y with h | h | h <;> first | contradiction | exact h
            subst this
            simp_all
        · split at h1
          · simp at h1
          · split at h2
            · simp at h2
            · rename_i p q r s
              have e1 : x = y := by rcases u8_tri x y with h | h | h <;> first | contradiction | exact h
              have e2 : y = z := by rcases u8_tri y z with h | h | h <;> first | contradiction | exact h
              subst e1; subst e2
              simp [UInt8.lt_irrefl]
              exact ih h1 h2

theorem cmpL_self (a : List B) : cmpL a a = 0 := by
  induction a with
  | nil => rfl
  | cons x t ih => simp [cmpL, ih, cmpB_self]

theorem cmpL_eq {a b : List B} : cmpL a b = 0 ↔ a = b := by
  constructor
  · intro h
    induction a generalizing b with
    | nil => cases b <;> simp_all [cmpL]
    | cons x t ih =>
      cases b with
      | nil => simp [cmpL] at h
      | cons y u =>
        unfold cmpL at h
        split at h
        · rename_i h0
          rw [cmpB_eq.1 h0, ih h]
        · contradiction
  · rintro rfl
    exact cmpL_self a

theorem cmpL_neg (a b : List B) : cmpL b a = - cmpL a b := by
  induction a generalizing b with
  | nil => cases b <;> simp [cmpL]
  | cons x t ih =>
    cases b with
    | nil => simp [cmpL]
    | cons y u =>
      unfold cmpL
      by_cases h : cmpB x y = 0
      · have h' : cmpB y x = 0 := by rw [cmpB_neg, h]; rfl
        rw [if_pos h, if_pos h', ih]
      · have h' : ¬ cmpB y x = 0 := by rw [cmpB_neg]; omega
        rw [if_neg h, if_neg h', cmpB_neg]

theorem cmpL_range (a b : List B) : cmpL a b = -1 ∨ cmpL a b = 0 ∨ cmpL a b = 1 := by
  induction a generalizing b with
  | nil => cases b <;> simp [cmpL]
  | cons x t ih =>
    cases b with
    | nil => simp [cmpL]
    | cons y u =>
      unfold cmpL
      split
      · exact ih u
      · exact cmpB_range x y

theorem cmpL_trans {a b c : List B} (h1 : cmpL a b < 0) (h2 : cmpL b c < 0) : cmpL a c < 0 := by
  induction a generalizing b c with
  | nil =>
    cases b with
    | nil => simp [cmpL] at h1
    | cons y u => cases c with
      | nil => simp [cmpL] at h2
      | cons z v => simp [cmpL]
  | cons x t ih =>
    cases b with
    | nil => simp [cmpL] at h1
    | cons y u => cases c with
      | nil => simp [cmpL] at h2
      | cons z v =>
        unfold cmpL at h1 h2 ⊢
        split at h1 <;> split at h2
        · rename_i p q
          have e1 := cmpB_eq.1 p
          have e2 := cmpB_eq.1 q
          subst e1; subst e2
          rw [if_pos p]
          exact ih h1 h2
        · rename_i p q
          have e1 := cmpB_eq.1 p
          subst e1
          rw [if_neg q]; exact h2
        · rename_i p q
          have e1 := cmpB_eq.1 q
          subst e1
          rw [if_neg p]; exact h1
        · have h3 := cmpB_trans h1 h2
          rw [if_neg (by omega)]
          exact h3

theorem compare_eq {p q : B} : compare p q = 0 ↔ p = q :=
  ⟨fun h => parts_inj (cmpL_eq.1 h), fun h => by subst h; exact cmpL_self _⟩
theorem compare_neg (p q : B) : compare q p = - compare p q := cmpL_neg _ _
theorem compare_range (p q : B) : compare p q = -1 ∨ compare p q = 0 ∨ compare p q = 1 := cmpL_range _ _
theorem compare_trans {p q r : B} (h1 : compare p q < 0) (h2 : compare q r < 0) : compare p r < 0 := cmpL_trans h1 h2
theorem compare_self (p : B) : compare p p = 0 := compare_eq.2 rfl

end Mo
