/- The words of this seat's contracts: what the library reads, the structs' kinds, small movers. -/
import Derived.Lib.SplitLaws
import Derived.Lib.LastIndexLaws
import Derived.Lib.Strings
import Derived.Below
import Derived.Deep.Draws
import Derived.Deep.AppendLies
import Derived.Maps.AppendAt
import Derived.OwnWalk
import Derived.Laws.BytesArg
import Derived.Laws.MakeOwn
import Derived.Laws.OwnMore
import Derived.Deep.OwnRows
import Derived.Tactics
import Derived.Lib.ConvBytes
import Derived.Laws.Slices
import Derived.WalkKit
import Derived.KernelRfl
import Derived.RowKit3
import Derived.Deep.LoopGhost
import Derived.Deep.QuietTactic
import Derived.BigQuiet
import Derived.WideLaws
import Derived.Deep.DeepCutAuto
import Derived.Deep.CutBlock
import Derived.Deep.RegionHeld3
import Derived.Laws.Rows
import Derived.Lib.AppendStr
import Derived.ArgAppend
import Derived.Laws.IdiomCopy
import Derived.RowKit
import Derived.Shelf.Unicode.DecodeSlow
import Derived.Sort.Grow
import Derived.Deep.DeepMust
import Derived.Test.YtbkbpdpegiekhaaGreatDoorMA
import Derived.Test.YtbkbpdpegiekhaaGreatDoorWWords
import Derived.Test.YtbkbpdpegiekhaaGreatDoorProg
/-! Under, parent, base, join. -/
namespace Mo

def under (p d : B) : Bool := if d = [] then !p.isEmpty else (d ++ [47]).isPrefixOf p

/-- Strictly ahead of, part by part. -/
def underL (a b : List B) : Prop := ∃ c, c ≠ [] ∧ a = b ++ c

theorem parts_ne {p : B} (h : p ≠ []) : parts p = split p := by simp [parts, h]
theorem parts_nil : parts [] = [] := rfl
theorem parts_eq_nil {p : B} : parts p = [] ↔ p = [] := by
  unfold parts
  split
  · simp_all
  · simp [split_ne, *]

theorem under_iff {p d : B} : under p d = true ↔ underL (parts p) (parts d) := by
  unfold under underL
  split
  · rename_i h
    subst h
    rw [parts_nil]
    constructor
    · intro h
      refine ⟨parts p, ?_, rfl⟩
      rw [Ne, parts_eq_nil]
      simpa using h
    · rintro ⟨c, hc, h⟩
      have : p ≠ [] := by
        rintro rfl
        rw [parts_nil] at h
        simp at h
        exact hc h
      simpa using this
  · rename_i h
    rw [parts_ne h, List.isPrefixOf_iff_prefix]
    constructor
    · rintro ⟨t, rfl⟩
      have e : d ++ [47] ++ t = d ++ 47 :: t := by simp
      rw [e, parts_ne (by simp), split_append]
      exact ⟨split t, split_ne t, rfl⟩
    · rintro ⟨c, hc, hp⟩
      have hp0 : p ≠ [] := by
        rintro rfl
        exact split_ne d (List.append_eq_nil_iff.1 hp.symm).1
      rw [parts_ne hp0] at hp
      refine ⟨joinS c, ?_⟩
      have hf : ∀ s ∈ c, (47 : UInt8) ∉ s := fun s hs => split_free p s (by rw [hp]; simp [hs])
      apply split_inj
      rw [show d ++ [47] ++ joinS c = d ++ 47 :: joinS c by simp, split_append, split_joinS hf hc, hp]

theorem under_ne {p d : B} (h : under p d = true) : p ≠ d := by
  rintro rfl
  obtain ⟨c, hc, h⟩ := under_iff.1 h
  exact hc (by simpa using h)

theorem under_trans {p q r : B} (h1 : under p q = true) (h2 : under q r = true) : under p r = true := by
  obtain ⟨c, hc, h1⟩ := under_iff.1 h1
  obtain ⟨d, hd, h2⟩ := under_iff.1 h2
  exact under_iff.2 ⟨d ++ c, by simp [hc], by rw [h1, h2, List.append_assoc]⟩

theorem cmpL_append {a c : List B} (hc : c ≠ []) : cmpL a (a ++ c) < 0 := by
  induction a with
  | nil => cases c with
    | nil => exact absurd rfl hc
    | cons x t => simp [cmpL]
  | cons x t ih => simp [cmpL, cmpB_self, ih]

theorem under_lt {p d : B} (h : under p d = true) : compare d p < 0 := by
  obtain ⟨c, hc, h⟩ := under_iff.1 h
  unfold compare
  rw [h]
  exact cmpL_append hc

/-- What lies between a path and one under it is under it. -/
theorem cmpL_between {a c m : List B} (h1 : cmpL a m < 0) (h2 : cmpL m (a ++ c) < 0) : ∃ d, d ≠ [] ∧ m = a ++ d := by
  induction a generalizing m with
  | nil =>
    cases m with
    | nil => simp [cmpL] at h1
    | cons x t => exact ⟨x :: t, by simp, rfl⟩
  | cons x t ih =>
    cases m with
    | nil => simp [cmpL] at h1
    | cons y u =>
      simp only [List.cons_append] at h2
      unfold cmpL at h1 h2
      by_cases e : cmpB x y = 0
      · have e' := cmpB_eq.1 e
        subst e'
        rw [if_pos e] at h1 h2
        obtain ⟨d, hd, hm⟩ := ih h1 h2
        exact ⟨d, hd, by rw [hm]; rfl⟩
      · have e2 : ¬ cmpB y x = 0 := by rw [cmpB_neg]; omega
        rw [if_neg e] at h1
        rw [if_neg e2] at h2
        rw [cmpB_neg] at h2
        omega

theorem under_between {p d m : B} (h : under p d = true) (h1 : compare d m < 0) (h2 : compare m p < 0) : under m d = true := by
  obtain ⟨c, hc, h⟩ := under_iff.1 h
  unfold compare at h1 h2
  rw [h] at h2
  exact under_iff.2 (cmpL_between h1 h2)

/-! ### The parent -/
/-- What is ahead of the last slash. -/
def parent : B → Option B
  | [] => none
  | c :: t => match parent t with
    | some d => some (c :: d)
    | none => if c = 47 then some [] else none

theorem parent_none {p : B} : parent p = none ↔ (47 : UInt8) ∉ p := by
  induction p with
  | nil => simp [parent]
  | cons c t ih =>
    unfold parent
    cases h : parent t with
    | some d => rw [h] at ih; simp at ih ⊢; intro _; exact ih
    | none =>
      rw [h] at ih
      simp only [true_iff] at ih
      by_cases e : c = 47
      · simp [e]
      · simp [e, ih]; exact fun h => e h.symm

theorem parent_some {p d : B} : parent p = some d ↔ ∃ b, (47 : UInt8) ∉ b ∧ p = d ++ 47 :: b := by
  induction p generalizing d with
  | nil => simp [parent]
  | cons c t ih =>
    unfold parent
    cases h : parent t with
    | some q =>
      simp only [Option.some.injEq]
      constructor
      · rintro rfl
        obtain ⟨b, hb, e⟩ := ih.1 h
        exact ⟨b, hb, by rw [e]; rfl⟩
      · rintro ⟨b, hb, e⟩
        cases d with
        | nil =>
          simp only [List.nil_append, List.cons.injEq] at e
          obtain ⟨rfl, rfl⟩ := e
          rw [parent_none.2 hb] at h
          cases h
        | cons x d =>
          simp only [List.cons_append, List.cons.injEq] at e
          obtain ⟨rfl, e⟩ := e
          have := ih.2 ⟨b, hb, e⟩
          rw [h] at this
          rw [Option.some.inj this]
    | none =>
      have hn := parent_none.1 h
      show (if c = 47 then some [] else none) = some d ↔ _
      constructor
      · intro h'
        by_cases e : c = 47
        · rw [if_pos e] at h'
          obtain rfl := Option.some.inj h'
          exact ⟨t, hn, by rw [e]; rfl⟩
        · rw [if_neg e] at h'
          cases h'
      · rintro ⟨b, hb, e⟩
        cases d with
        | nil =>
          simp only [List.nil_append, List.cons.injEq] at e
          rw [if_pos e.1]
        | cons x d =>
          simp only [List.cons_append, List.cons.injEq] at e
          exfalso
          apply hn
          rw [e.2]
          simp

theorem parent_under {p d : B} (h : parent p = some d) (hd : d ≠ []) : under p d = true := by
  obtain ⟨b, _, rfl⟩ := parent_some.1 h
  unfold under
  rw [if_neg hd, List.isPrefixOf_iff_prefix]
  exact ⟨b, by simp⟩

theorem parent_split {p d : B} (h : parent p = some d) : ∃ b, split p = split d ++ [b] := by
  obtain ⟨b, hb, rfl⟩ := parent_some.1 h
  exact ⟨b, by rw [split_append, split_of_free hb]⟩

theorem parent_len {p d : B} (h : parent p = some d) : d.length < p.length := by
  obtain ⟨b, _, rfl⟩ := parent_some.1 h
  simp

/-- Under a directory that has a name: so is, or it is, the parent. -/
theorem under_parent {p d : B} (hd : d ≠ []) (h : under p d = true) : ∃ q, parent p = some q ∧ (q = d ∨ under q d = true) := by
  have h' := h
  unfold under at h'
  rw [if_neg hd, List.isPrefixOf_iff_prefix] at h'
  obtain ⟨t, rfl⟩ := h'
  cases ht : parent t with
  | none =>
    refine ⟨d, parent_some.2 ⟨t, parent_none.1 ht, by simp⟩, .inl rfl⟩
  | some q =>
    obtain ⟨b, hb, rfl⟩ := parent_some.1 ht
    refine ⟨d ++ 47 :: q, parent_some.2 ⟨b, hb, by simp⟩, .inr ?_⟩
    unfold under
    rw [if_neg hd, List.isPrefixOf_iff_prefix]
    exact ⟨q, by simp⟩

/-- Behind the last slash. -/
def base (p : B) : B := match parent p with
  | some d => p.drop (d.length + 1)
  | none => p

def join (d n : B) : B := if d = [] then n else d ++ 47 :: n

theorem base_eq {p d b : B} (hb : (47 : UInt8) ∉ b) (h : p = d ++ 47 :: b) : base p = b := by
  unfold base
  rw [parent_some.2 ⟨b, hb, h⟩, h]
  simp

end Mo

/- The library's plain functions at the slash, as the paths' own; paths as the program has them (ByteArray). -/
set_option linter.unusedVariables false
set_option linter.unusedSimpArgs false
namespace Mo
open Go Go.Lib

/-! ### strings.Split -/
theorem index_slash_none {l : B} (h : (47 : UInt8) ∉ l) : index l [47] = -1 := by
  refine index_none fun j _ => ?_
  unfold occAt
  by_cases e : [47].isPrefixOf (l.drop j) = true
  · rw [List.isPrefixOf_iff_prefix] at e
    exact absurd (List.mem_of_mem_drop (i := j) (e.subset (by simp))) h
  · exact Bool.eq_false_iff.2 e

theorem index_slash_at (a b : B) (h : (47 : UInt8) ∉ a) : index (a ++ 47 :: b) [47] = a.length := by
  refine index_first (by simp) (by simp [occAt]) fun j hj => ?_
  unfold occAt
  by_cases e : [47].isPrefixOf ((a ++ 47 :: b).drop j) = true
  · rw [List.isPrefixOf_iff_prefix, List.drop_append_of_le_length (by omega)] at e
    obtain ⟨t, ht⟩ := e
    cases hd : a.drop j with
    | nil => have := congrArg List.length hd; simp at this; omega
    | cons x r =>
      rw [hd] at ht
      simp only [List.cons_append, List.cons.injEq] at ht
      exact absurd (List.mem_of_mem_drop (i := j) (by rw [hd, ← ht.1]; simp)) h
  · exact Bool.eq_false_iff.2 e

theorem cut_first (l : B) (h : (47 : UInt8) ∈ l) : ∃ a b, (47 : UInt8) ∉ a ∧ l = a ++ 47 :: b := by
  induction l with
  | nil => simp at h
  | cons c t ih =>
    by_cases e : c = 47
    · exact ⟨[], t, by simp, by simp [e]⟩
    · have ht : (47 : UInt8) ∈ t := by
        simp only [List.mem_cons] at h
        rcases h with h | h
        · exact absurd h.symm e
        · exact h
      obtain ⟨a, b, ha, hl⟩ := ih ht
      exact ⟨c :: a, b, by simp only [List.mem_cons, not_or]; exact ⟨fun h => e h.symm, ha⟩, by rw [hl]; rfl⟩

theorem splitK_slash : ∀ (k : Nat) (l : B), l.count 47 ≤ k → splitK [47] 0 k l = split l
  | 0, l, h => by
    have : (47 : UInt8) ∉ l := fun hm => by have := List.count_pos_iff.2 hm; omega
    rw [split_of_free this]; rfl
  | k + 1, l, h => by
    by_cases hm : (47 : UInt8) ∈ l
    · obtain ⟨a, b, ha, rfl⟩ := cut_first l hm
      unfold splitK
      rw [index_slash_at a b ha]
      have e0 : ((a.length : Int) == -1) = false := by rw [beq_eq_false_iff_ne]; omega
      rw [e0, split_append, split_of_free ha]
      have hc : b.count 47 ≤ k := by
        rw [List.count_append, List.count_cons_self] at h
        omega
      have := splitK_slash k b hc
      simp [this]
    · unfold splitK
      rw [index_slash_none hm, split_of_free hm]
      rfl

theorem split_eq (l : B) : Lib.split l [47] = split l := by
  unfold Lib.split
  exact splitK_slash _ l (by rw [count_one]; exact Nat.le_refl _)

/-! ### Over ByteArray -/
abbrev S := ByteArray
instance lawfulS : LawfulBEq ByteArray where
  eq_of_beq := by
    intro a b h
    cases a; cases b
    have h' : (_ == _) = true := h
    congr 1
    exact eq_of_beq h'
  rfl := by
    intro a
    cases a
    exact beq_self_eq_true (α := Array UInt8) _
def bs (s : S) : B := s.data.toList
def mk (l : B) : S := ⟨l.toArray⟩
@[simp] theorem bs_mk (l : B) : bs (mk l) = l := by simp [bs, mk]
@[simp] theorem mk_bs (s : S) : mk (bs s) = s := by cases s; simp [bs, mk]
theorem bs_inj {s t : S} (h : bs s = bs t) : s = t := by rw [← mk_bs s, h, mk_bs]
theorem mk_inj {a b : B} (h : mk a = mk b) : a = b := by rw [← bs_mk a, h, bs_mk]
theorem size_bs (s : S) : s.size = (bs s).length := Lib.size_eq s
theorem bs_size (s : S) : (bs s).length = s.size := (size_bs s).symm

def pParts (s : S) : List S := (parts (bs s)).map mk
def pSplit (s : S) : List S := (split (bs s)).map mk
def pCmp (p q : S) : Int := compare (bs p) (bs q)
def pUnder (p d : S) : Bool := under (bs p) (bs d)
def pParent (p : S) : Option S := (parent (bs p)).map mk
def pBase (p : S) : S := mk (base (bs p))
def pJoin (d n : S) : S := mk (join (bs d) (bs n))

theorem pSplit_eq (s sep : S) (h : bs sep = [47]) : Lib.splitB sep 0 (Lib.countB s sep) s = pSplit s := by
  have h1 := splitB_data sep 0 (countB s sep) s
  have e : splitK sep.data.toList 0 (countB s sep) s.data.toList = Mo.split (bs s) := by
    have h' : sep.data.toList = [47] := h
    rw [h', ← Mo.split_eq]
    unfold Lib.split countB
    rw [h']; rfl
  rw [e] at h1
  unfold pSplit
  rw [← h1, List.map_map]
  have : (mk ∘ fun x : S => x.data.toList) = id := by funext x; exact mk_bs x
  rw [this, List.map_id]

theorem pCount_len (s sep : S) (h : bs sep = [47]) : Lib.countB s sep + 1 = (pSplit s).length := by
  rw [← pSplit_eq s sep h]
  exact (splitB_all sep (by rw [size_bs, h]; decide) 0 _ s rfl).symm

/-! ### strings.LastIndex -/
theorem lastIndex_slash (l : B) : (lastIndex l [47] = -1 ∧ parent l = none) ∨ (∃ k : Nat, lastIndex l [47] = k ∧ k < l.length ∧ parent l = some (l.take k) ∧ base l = l.drop (k + 1) ∧ (47 : UInt8) ∉ l.drop (k + 1) ∧ l = l.take k ++ 47 :: l.drop (k + 1)) := by
  have occ : ∀ j, occAt l [47] j = true ↔ l[j]? = some 47 := by
    intro j
    unfold occAt
    rw [List.isPrefixOf_iff_prefix]
    constructor
    · rintro ⟨t, ht⟩
      have : (l.drop j)[0]? = some 47 := by rw [← ht]; rfl
      simpa using this
    · intro h
      have hj := (List.getElem?_eq_some_iff.1 h).1
      refine ⟨l.drop (j + 1), ?_⟩
      rw [List.drop_eq_getElem_cons hj]
      have := (List.getElem?_eq_some_iff.1 h).2
      rw [this]; rfl
  unfold lastIndex
  simp only [List.length_cons, List.length_nil, Nat.zero_add]
  by_cases h1 : 1 ≤ l.length
  · rw [if_pos h1]
    rcases lastOcc_spec l [47] (l.length - 1 + 1) with ⟨h, hn⟩ | ⟨i, hi, h, ho, hn⟩
    · refine .inl ⟨h, parent_none.2 fun hm => ?_⟩
      obtain ⟨j, hj, e⟩ := List.mem_iff_getElem.1 hm
      have := hn j (by omega)
      rw [(occ j).2 (by rw [List.getElem?_eq_getElem hj, e])] at this
      cases this
    · have hl : i < l.length := by omega
      have hg : l[i] = 47 := (List.getElem?_eq_some_iff.1 ((occ i).1 ho)).2
      have hcut : l = l.take i ++ 47 :: l.drop (i + 1) := by
        rw [← hg, ← List.drop_eq_getElem_cons hl, List.take_append_drop]
      have hfree : (47 : UInt8) ∉ l.drop (i + 1) := by
        intro hm
        obtain ⟨j, hj, e⟩ := List.mem_iff_getElem.1 hm
        rw [List.length_drop] at hj
        have := hn (i + 1 + j) (by omega) (by omega)
        rw [(occ _).2 (by rw [List.getElem?_eq_getElem (by omega)]; rw [List.getElem_drop] at e; rw [e])] at this
        cases this
      refine .inr ⟨i, h, hl, parent_some.2 ⟨_, hfree, hcut⟩, base_eq hfree hcut, hfree, hcut⟩
  · rw [if_neg h1]
    have : l = [] := List.eq_nil_of_length_eq_zero (by omega)
    subst this
    exact .inl ⟨rfl, rfl⟩

theorem pParent_cases (s : S) : (lastIndex s.data.toList [47] = -1 ∧ pParent s = none ∧ pBase s = s) ∨
    (∃ k : Nat, lastIndex s.data.toList [47] = k ∧ k < s.size ∧ pParent s = some (s.extract 0 k) ∧ pBase s = s.extract (k + 1) s.size) := by
  rcases lastIndex_slash (bs s) with ⟨h, hp⟩ | ⟨k, h, hk, hp, hb, _⟩
  · refine .inl ⟨h, by unfold pParent; rw [hp]; rfl, ?_⟩
    unfold pBase base
    rw [hp]; simp
  · refine .inr ⟨k, h, by rw [size_bs]; exact hk, ?_, ?_⟩
    · unfold pParent
      rw [hp]
      simp only [Option.map_some, Option.some.injEq]
      apply bs_inj
      rw [bs_mk]
      unfold bs
      rw [extract_from_zero]
    · unfold pBase
      rw [hb]
      apply bs_inj
      rw [bs_mk]
      unfold bs
      simp [ByteArray.data_extract]
      rw [List.take_of_length_le]
      simp

theorem pUnder_prefix (p d : S) (hd : ¬ d.data.toList = []) (x : S) (hx : x.data.toList = d.data.toList ++ [47]) : Lib.hasPrefix p.data.toList x.data.toList = pUnder p d := by
  unfold Lib.hasPrefix pUnder under bs
  rw [if_neg hd, hx]

theorem pCmp_eq {p q : S} : pCmp p q = 0 ↔ p = q := ⟨fun h => bs_inj (compare_eq.1 h), fun h => by subst h; exact compare_self _⟩
theorem pCmp_neg (p q : S) : pCmp q p = - pCmp p q := compare_neg _ _
theorem pCmp_range (p q : S) : pCmp p q = -1 ∨ pCmp p q = 0 ∨ pCmp p q = 1 := compare_range _ _
theorem pCmp_trans {p q r : S} (h1 : pCmp p q < 0) (h2 : pCmp q r < 0) : pCmp p r < 0 := compare_trans h1 h2
theorem pCmp_self (p : S) : pCmp p p = 0 := compare_self _
theorem pUnder_lt {p d : S} (h : pUnder p d = true) : pCmp d p < 0 := under_lt h
theorem pUnder_ne {p d : S} (h : pUnder p d = true) : p ≠ d := fun e => Mo.under_ne h (by rw [e])
theorem pUnder_trans {p q r : S} (h1 : pUnder p q = true) (h2 : pUnder q r = true) : pUnder p r = true := Mo.under_trans h1 h2
theorem pUnder_between {p d m : S} (h : pUnder p d = true) (h1 : pCmp d m < 0) (h2 : pCmp m p < 0) : pUnder m d = true := Mo.under_between h h1 h2
theorem pParent_len {p d : S} (h : pParent p = some d) : d.size < p.size := by
  unfold pParent at h
  cases hp : parent (bs p) with
  | none => rw [hp] at h; cases h
  | some q =>
    rw [hp] at h
    simp only [Option.map_some, Option.some.injEq] at h
    subst h
    rw [size_bs, size_bs, bs_mk]
    exact Mo.parent_len hp

end Mo

set_option linter.unusedVariables false
set_option linter.unusedSimpArgs false
namespace Go.Proofs.YtbkbpdpegiekhaaGreatDoor
open Go.RowKit Go.Proofs.YtbkbpdpegiekhaaGreatDoorW.PrintWords Mo

/-- What of the library's variables the code reads. -/
structure Env (w : World) : Prop where
  tabs : Lib.Utf8Tabs 1 2 w
  max : ∃ m, w.cell? ⟨0, 0, none⟩ = some (.int .i64 m)
theorem Env.below {w w' : World} (h : Env w) (hb : Below w.heap.size w w') : Env w' := by
  refine ⟨⟨fun c hc => pw_cell_below hb (h.tabs.1 c hc), fun i hi => ⟨pw_cell_below hb (h.tabs.2 i hi).1, pw_cell_below hb (h.tabs.2 i hi).2⟩⟩, ?_⟩
  obtain ⟨m, hm⟩ := h.max
  exact ⟨m, pw_cell_below hb hm⟩

/-- New blocks and draws, nothing else. -/
structure Grew (w w' : World) : Prop where
  below : Below w.heap.size w w'
  drawn : w.drawn ≤ w'.drawn
theorem Grew.refl (w : World) : Grew w w := ⟨Below.refl _ _, Nat.le_refl _⟩
theorem Grew.trans {a b c : World} (h : Grew a b) (k : Grew b c) : Grew a c := ⟨below_then h.below h.below.size k.below, Nat.le_trans h.drawn k.drawn⟩
theorem Grew.alloc {a w : World} (h : Grew a w) (o : Obj) : Grew a (w.alloc o) := ⟨h.below.alloc h.below.size o, h.drawn⟩
theorem Grew.drew {a w : World} (h : Grew a w) : Grew a w.drew := ⟨h.below.drew, Nat.le_trans h.drawn (Nat.le_succ _)⟩
theorem Grew.drewN {a w : World} (h : Grew a w) (n : Nat) : Grew a (w.drewN n) := ⟨pw_below_drewN h.below n, Nat.le_trans h.drawn (Nat.le_add_right _ _)⟩
theorem Grew.set {a w : World} (h : Grew a w) {p : Addr} (hp : a.heap.size ≤ p.block) (u : Value) : Grew a (w.setCell p u) := ⟨h.below.setCell hp u, h.drawn⟩
theorem Grew.eq {w w' : World} (h : Grew w w') : ∃ q os, w' = Sort.grow (w.drewN q) os := by
  refine ⟨w'.drawn - w.drawn, w'.heap.extract w.heap.size w'.heap.size, ?_⟩
  have h1 := h.below
  have h2 := h.drawn
  obtain ⟨hp, tp, dn, os, out⟩ := w'
  have e1 : tp = w.tape := h1.tape
  have e2 : os = w.os := h1.os
  have e3 : out = w.output := h1.output
  have e5 : dn = w.drawn + (dn - w.drawn) := by simp only at h2; omega
  have e4 : hp = w.heap ++ hp.extract w.heap.size hp.size := by
    have hs : w.heap.size ≤ hp.size := h1.size
    apply Array.ext_getElem?
    intro k
    rw [Array.getElem?_append]
    split
    · rename_i hk; exact h1.block k hk
    · rename_i hk
      rw [Array.getElem?_extract]
      split
      · congr 1; omega
      · rw [Array.getElem?_eq_none (by omega)]
  unfold Sort.grow World.drewN
  simp only [e1, e2, e3]
  rw [← e5, ← e4]

theorem info9 : (Tryz.prog.info? 9).map (fun i => (i.zero, i.size, i.bytes)) = some (some (.string ⟨#[]⟩), 1, 16) := by kernel_rfl
theorem info46 : (Tryz.prog.info? 46).map (fun i => (i.zero, i.size, i.bytes)) = some (some (.agg #[(.string ⟨#[]⟩), (.bool false), (.string ⟨#[]⟩), (.int .i64 0), (.int .i64 0)]), 5, 56) := by kernel_rfl
/-! ### The structs -/
structure Nd where
  path : S
  dir : Bool
  data : S
  mode : Int
  time : Int
instance : DecidableEq Nd := fun a b => by
  cases a; cases b
  simp only [Nd.mk.injEq]
  infer_instance
def Nd.zero : Nd := ⟨⟨#[]⟩, false, ⟨#[]⟩, 0, 0⟩
abbrev vN (n : Nd) : Value := .agg #[.string n.path, .bool n.dir, .string n.data, .int .i64 n.mode, .int .i64 n.time]
def kN : Kd Nd := Kd.iso (Kd.pair Kd.string (Kd.pair Kd.bool (Kd.pair Kd.string (Kd.pair (Kd.int .i64) (Kd.int .i64))))) (fun x : Nd => (x.path, x.dir, x.data, x.mode, x.time))
abbrev cN (n : Nd) : List Value := [.string n.path, .bool n.dir, .string n.data, .int .i64 n.mode, .int .i64 n.time]
theorem kN_open {w : World} {x : Nd} {cs : List Value} (h : kN.K w x cs) : cs = cN x := by
  obtain ⟨_, _, rfl, rfl, ⟨_, _, rfl, rfl, ⟨_, _, rfl, rfl, ⟨_, _, rfl, rfl, rfl⟩⟩⟩⟩ := h
  exact rfl
theorem kN_mk (w : World) (x : Nd) : kN.K w x (cN x) := ⟨[.string x.path], [.bool x.dir, .string x.data, .int .i64 x.mode, .int .i64 x.time], rfl, rfl, ⟨[.bool x.dir], [.string x.data, .int .i64 x.mode, .int .i64 x.time], rfl, rfl, ⟨[.string x.data], [.int .i64 x.mode, .int .i64 x.time], rfl, rfl, ⟨[.int .i64 x.mode], [.int .i64 x.time], rfl, rfl, rfl⟩⟩⟩⟩
/-- A slice that is read. -/
def Rd {α : Type} (d : Kd α) (w : World) (v : Value) (xs : List α) : Prop := ∃ A c, v = .slice A xs.length c ∧ xs.length ≤ c ∧ d.C w A xs.length xs
theorem Rd.below {α : Type} {d : Kd α} {w w' : World} {v : Value} {xs : List α} (h : Rd d w v xs) (hb : Below w.heap.size w w') : Rd d w' v xs := by
  obtain ⟨A, c, rfl, hl, hc⟩ := h
  exact ⟨A, c, rfl, hl, Kd.C_below hc hb⟩
theorem Rd.of_R {α : Type} {d : Kd α} {e : Nat} {w : World} {base : Nat} {ok : Nat → Prop} {v : Value} {xs : List α} (h : d.R e w base ok v xs) : Rd d w v xs := Kd.R_reads h
theorem Rd.len {α : Type} {d : Kd α} {w : World} {v : Value} {xs : List α} (h : Rd d w v xs) : xs.length ≤ 9223372036854775807 := by
  obtain ⟨A, c, rfl, hl, hc⟩ := h
  exact hc.2.1

/-- The string at a place. -/
theorem C_str {w : World} {A : Option Addr} {n : Nat} {xs : List S} (h : Kd.string.C w A n xs) (i : Nat) (hi : i < n) : ∃ ad, A = some ad ∧ w.cell? (ad.add i) = some (.string (xs.getD i ⟨#[]⟩)) := by
  obtain ⟨ad, c, e, _, hK, hc⟩ := Kd.C_get h ⟨#[]⟩ i (by omega) (by omega)
  obtain rfl := hK
  refine ⟨ad, e, ?_⟩
  have := hc 0 _ rfl
  simpa [Kd.string, Kd.scalar] using this
theorem C_node {w : World} {A : Option Addr} {n : Nat} {xs : List Nd} (h : kN.C w A n xs) (i : Nat) (hi : i < n) : ∃ ad, A = some ad ∧
    w.cell? (ad.add (i * 5)) = some (.string (xs.getD i Nd.zero).path) ∧ w.cell? ⟨(ad.add (i * 5)).block, (ad.add (i * 5)).off + 1, none⟩ = some (.bool (xs.getD i Nd.zero).dir) ∧
    w.cell? ⟨(ad.add (i * 5)).block, (ad.add (i * 5)).off + 2, none⟩ = some (.string (xs.getD i Nd.zero).data) ∧ w.cell? ⟨(ad.add (i * 5)).block, (ad.add (i * 5)).off + 3, none⟩ = some (.int .i64 (xs.getD i Nd.zero).mode) ∧
    w.cell? ⟨(ad.add (i * 5)).block, (ad.add (i * 5)).off + 4, none⟩ = some (.int .i64 (xs.getD i Nd.zero).time) := by
  obtain ⟨ad, c, e, _, hK, hc⟩ := Kd.C_get h Nd.zero i (by omega) (by omega)
  have hc : ∀ j u, c[j]? = some u → w.cell? (ad.add (i * 5 + j)) = some u := hc
  obtain rfl := kN_open hK
  exact ⟨ad, e, hc 0 _ rfl, by rw [← add_field _ _ 1 (by omega)]; exact hc 1 _ rfl, by rw [← add_field _ _ 2 (by omega)]; exact hc 2 _ rfl, by rw [← add_field _ _ 3 (by omega)]; exact hc 3 _ rfl, by rw [← add_field _ _ 4 (by omega)]; exact hc 4 _ rfl⟩

theorem spot_none {w : World} {b o : Nat} {sp : Option Nat} {v : Value} (h : w.cell? ⟨b, o, sp⟩ = some v) : sp = none := by
  cases sp with
  | none => rfl
  | some x =>
    exfalso
    simp only [World.cell?, Option.isSome_some, if_true] at h
    split at h <;> cases h
theorem add_flat (b off j : Nat) : (⟨b, off, none⟩ : Addr).add j = ⟨b, off + j, none⟩ := by
  unfold Addr.add
  by_cases hj : j = 0
  · subst hj; simp
  · simp [hj]
/-- A slice that is read: nothing, or cells in a line. -/
theorem C_flat {α : Type} {d : Kd α} {w : World} {A : Option Addr} {xs : List α} (h : d.C w A xs.length xs) (hs : 0 < d.sz) : xs = [] ∨ ∃ b off, A = some ⟨b, off, none⟩ ∧ b < w.heap.size ∧
    ∀ j (hj : j < xs.length), ∃ c, c.length = d.sz ∧ d.K w xs[j] c ∧ ∀ i u, c[i]? = some u → w.cell? ⟨b, off + (j * d.sz + i), none⟩ = some u := by
  rcases Nat.eq_zero_or_pos xs.length with h0 | h0
  · exact .inl (List.eq_nil_of_length_eq_zero h0)
  · obtain ⟨ad, rfl, hcell⟩ := h.2.2 h0
    obtain ⟨b, off, sp⟩ := ad
    have h1 : ∃ v, w.cell? ⟨b, off, sp⟩ = some v := by
      obtain ⟨c', hl, hk, hh⟩ := hcell 0 xs[0] (by simp [h0])
      have hc0 : 0 < c'.length := by omega
      have := hh 0 _ (List.getElem?_eq_getElem hc0)
      rw [show (⟨b, off, sp⟩ : Addr).add (0 * d.sz + 0) = ⟨b, off, sp⟩ from by simp [Addr.add]] at this
      exact ⟨_, this⟩
    obtain ⟨v1, h1⟩ := h1
    obtain rfl := spot_none h1
    refine .inr ⟨b, off, rfl, World.block_lt_of_cell? w _ h1, fun j hj => ?_⟩
    obtain ⟨c', hl, hk, hh⟩ := hcell j xs[j] (by simp [hj])
    exact ⟨c', hl, hk, fun i u hu => by rw [← add_flat]; exact hh i u hu⟩
theorem C_strs {w : World} {A : Option Addr} {xs : List S} (h : Kd.string.C w A xs.length xs) : xs = [] ∨ ∃ b off, A = some ⟨b, off, none⟩ ∧ b < w.heap.size ∧
    ∀ j (hj : j < xs.length), w.cell? ⟨b, off + j, none⟩ = some (.string xs[j]) := by
  rcases C_flat h (by decide) with h | ⟨b, off, e, hb, hc⟩
  · exact .inl h
  · refine .inr ⟨b, off, e, hb, fun j hj => ?_⟩
    obtain ⟨c, _, hk, hh⟩ := hc j hj
    obtain rfl := hk
    have := hh 0 _ rfl
    simpa [Kd.string, Kd.scalar] using this

end Go.Proofs.YtbkbpdpegiekhaaGreatDoor
