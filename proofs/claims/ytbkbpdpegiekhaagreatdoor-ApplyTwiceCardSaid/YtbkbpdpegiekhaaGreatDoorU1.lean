/- Trees as lists of nodes in order: what is at a path; dropped, set, ensured, put, cleared. -/
import Derived.Test.YtbkbpdpegiekhaaGreatDoorT6
import Derived.Test.YtbkbpdpegiekhaaGreatDoorN2
set_option linter.unusedVariables false
set_option linter.unusedSimpArgs false
namespace Go.Proofs.YtbkbpdpegiekhaaGreatDoor
open Go.RowKit Go.Proofs.YtbkbpdpegiekhaaGreatDoorW.PrintWords Mo

/-! ### paths -/
/-- Neither it nor what is above it is empty. -/
def pFine (p : S) : Prop := ∀ q ∈ p :: ups p, q ≠ ⟨#[]⟩
theorem pFine.ne {p : S} (h : pFine p) : p ≠ ⟨#[]⟩ := h p (List.mem_cons_self ..)
theorem pFine.up {p d : S} (h : pFine p) (hd : pParent p = some d) : pFine d := fun q hq => h q (by rw [ups_some hd]; exact List.mem_cons_of_mem _ hq)
theorem pFine.ups_ne {p q : S} (h : pFine p) (hq : q ∈ ups p) : q ≠ ⟨#[]⟩ := h q (List.mem_cons_of_mem _ hq)
theorem pFine.of_ups : ∀ (n : Nat) {p q : S}, p.size ≤ n → pFine p → q ∈ ups p → pFine q
  | 0, p, q, hn, h, hq => by
    cases hp : pParent p with
    | none => rw [ups_none hp] at hq; cases hq
    | some d => have := pParent_len hp; omega
  | n + 1, p, q, hn, h, hq => by
    cases hp : pParent p with
    | none => rw [ups_none hp] at hq; cases hq
    | some d =>
      have := pParent_len hp
      rw [ups_some hp] at hq
      rcases List.mem_cons.1 hq with rfl | hq
      · exact h.up hp
      · exact pFine.of_ups n (by omega) (h.up hp) hq
theorem pFine.above {p q : S} (h : pFine p) (hq : q ∈ ups p) : pFine q := pFine.of_ups p.size (Nat.le_refl _) h hq
theorem parent_parts {p d : S} (hp : p ≠ ⟨#[]⟩) (h : pParent p = some d) (hd : d ≠ ⟨#[]⟩) : ∃ b, pParts p = pParts d ++ [b] := by
  unfold pParent at h
  cases h0 : parent (bs p) with
  | none => rw [h0] at h; cases h
  | some q =>
    rw [h0] at h
    simp only [Option.map_some, Option.some.injEq] at h
    subst h
    obtain ⟨b, hb⟩ := parent_split h0
    have hq : q ≠ [] := fun e => hd (bs_nil.1 (by rw [bs_mk]; exact e))
    have hpn : bs p ≠ [] := fun e => hp (bs_nil.1 e)
    refine ⟨Mo.mk b, ?_⟩
    unfold pParts
    rw [bs_mk, parts_ne hpn, parts_ne hq, hb, List.map_append]
    rfl
theorem parent_empty {p : S} (hp : p ≠ ⟨#[]⟩) (h : pParent p = some ⟨#[]⟩) : (⟨#[]⟩ : S) ∈ pParts p := by
  unfold pParent at h
  cases h0 : parent (bs p) with
  | none => rw [h0] at h; cases h
  | some q =>
    rw [h0] at h
    simp only [Option.map_some, Option.some.injEq] at h
    have hq : q = [] := by rw [← bs_mk q, h]; rfl
    subst hq
    obtain ⟨b, hb⟩ := parent_split h0
    have hpn : bs p ≠ [] := fun e => hp (bs_nil.1 e)
    unfold pParts
    rw [parts_ne hpn, hb]
    refine List.mem_map.2 ⟨[], ?_, rfl⟩
    simp [Mo.split]
theorem fine_aux : ∀ (n : Nat) (p : S), p.size ≤ n → p ≠ ⟨#[]⟩ → (∀ x ∈ pParts p, x ≠ ⟨#[]⟩) → pFine p
  | 0, p, hn, hp, h => by
    intro q hq
    cases h0 : pParent p with
    | none =>
      rw [ups_none h0] at hq
      rcases List.mem_cons.1 hq with rfl | hq
      · exact hp
      · cases hq
    | some d => have := pParent_len h0; omega
  | n + 1, p, hn, hp, h => by
    intro q hq
    cases h0 : pParent p with
    | none =>
      rw [ups_none h0] at hq
      rcases List.mem_cons.1 hq with rfl | hq
      · exact hp
      · cases hq
    | some d =>
      have hl := pParent_len h0
      have hd : d ≠ ⟨#[]⟩ := by
        rintro rfl
        exact h _ (parent_empty hp h0) rfl
      obtain ⟨b, hb⟩ := parent_parts hp h0 hd
      rw [ups_some h0] at hq
      rcases List.mem_cons.1 hq with rfl | hq
      · exact hp
      · exact fine_aux n d (by omega) hd (fun x hx => h x (by rw [hb]; exact List.mem_append_left _ hx)) q hq
theorem fine_of_right {p : S} (h : pRight p = true) : pFine p := fine_aux p.size p (Nat.le_refl _) (bytes_nil h) (right_parts h)
theorem parts_ups : ∀ (n : Nat) (p : S), p.size ≤ n → pFine p → (pParts p).length = (ups p).length + 1
  | n, p, hn, hp => by
    cases h0 : pParent p with
    | none =>
      rw [ups_none h0]
      unfold pParent at h0
      have h1 : parent (bs p) = none := by
        cases h : parent (bs p) with
        | none => rfl
        | some q => rw [h] at h0; cases h0
      have hpn : bs p ≠ [] := fun e => hp.ne (bs_nil.1 e)
      unfold pParts
      rw [parts_ne hpn, split_of_free (parent_none.1 h1)]
      rfl
    | some d =>
      have hl := pParent_len h0
      obtain ⟨b, hb⟩ := parent_parts hp.ne h0 (hp.up h0).ne
      rw [ups_some h0, hb, List.length_append, List.length_cons]
      cases n with
      | zero => omega
      | succ n => rw [parts_ups n d (by omega) (hp.up h0)]; rfl

/-! ### what is at a path -/
def atT (l : List Nd) (p : S) : Option Nd := l.find? fun n => n.path == p
def dirT (l : List Nd) (p : S) : Bool := match atT l p with
  | some n => n.dir
  | none => false
section
variable {l : List Nd} {p q : S} {n m : Nd}
theorem atT_mem (h : atT l p = some n) : n ∈ l ∧ n.path = p := ⟨List.mem_of_find?_eq_some h, by simpa using List.find?_some h⟩
theorem atT_none : atT l p = none ↔ ∀ n ∈ l, n.path ≠ p := by
  unfold atT
  rw [List.find?_eq_none]
  simp
theorem path_inj (hs : l.Pairwise ltN) (hm : m ∈ l) (hn : n ∈ l) (h : m.path = n.path) : m = n := by
  induction hs with
  | nil => cases hm
  | cons h1 _ ih =>
    rcases List.mem_cons.1 hm with e1 | hm
    · rcases List.mem_cons.1 hn with e2 | hn
      · rw [e1, e2]
      · rw [e1] at h
        exact absurd h (ltN_ne (h1 n hn))
    · rcases List.mem_cons.1 hn with e2 | hn
      · rw [e2] at h
        exact absurd h.symm (ltN_ne (h1 m hm))
      · exact ih hm hn
theorem atT_of (hs : l.Pairwise ltN) (hn : n ∈ l) : atT l n.path = some n := by
  cases h : atT l n.path with
  | none => exact absurd rfl (atT_none.1 h n hn)
  | some m =>
    obtain ⟨hm, he⟩ := atT_mem h
    rw [path_inj hs hm hn he]
theorem atT_iff (hs : l.Pairwise ltN) : atT l p = some n ↔ n ∈ l ∧ n.path = p := ⟨atT_mem, fun ⟨h1, h2⟩ => by rw [← h2]; exact atT_of hs h1⟩
theorem ltN_irrefl (x : Nd) : ¬ ltN x x := fun h => ltN_ne h rfl
theorem ltN_asymm {x y : Nd} (h : ltN x y) (k : ltN y x) : False := ltN_ne (pCmp_trans h k : ltN x x) rfl
theorem uniq_nodes : ∀ {a b : List Nd}, a.Pairwise ltN → b.Pairwise ltN → (∀ x, x ∈ a ↔ x ∈ b) → a = b
  | [], [], _, _, _ => rfl
  | [], y :: u, _, _, h => by have := (h y).2 (List.mem_cons_self ..); cases this
  | x :: t, [], _, _, h => by have := (h x).1 (List.mem_cons_self ..); cases this
  | x :: t, y :: u, ha, hb, h => by
    have hat := List.pairwise_cons.1 ha
    have hbt := List.pairwise_cons.1 hb
    have e : x = y := by
      rcases List.mem_cons.1 ((h x).1 (List.mem_cons_self ..)) with e | hx
      · exact e
      · rcases List.mem_cons.1 ((h y).2 (List.mem_cons_self ..)) with e | hy
        · exact e.symm
        · exact (ltN_asymm (hbt.1 x hx) (hat.1 y hy)).elim
    subst e
    congr 1
    refine uniq_nodes hat.2 hbt.2 fun z => ⟨fun hz => ?_, fun hz => ?_⟩
    · rcases List.mem_cons.1 ((h z).1 (List.mem_cons_of_mem _ hz)) with e | hz'
      · subst e; exact (ltN_irrefl _ (hat.1 _ hz)).elim
      · exact hz'
    · rcases List.mem_cons.1 ((h z).2 (List.mem_cons_of_mem _ hz)) with e | hz'
      · subst e; exact (ltN_irrefl _ (hbt.1 _ hz)).elim
      · exact hz'
theorem atT_ext {a b : List Nd} (ha : a.Pairwise ltN) (hb : b.Pairwise ltN) (h : ∀ p, atT a p = atT b p) : a = b :=
  uniq_nodes ha hb fun x => ⟨fun hx => by have := atT_of ha hx; rw [h] at this; exact (atT_mem this).1, fun hx => by have := atT_of hb hx; rw [← h] at this; exact (atT_mem this).1⟩
theorem atT_filter (hs : l.Pairwise ltN) (f : Nd → Bool) (p : S) : atT (l.filter f) p = (atT l p).filter f := by
  have hf : (l.filter f).Pairwise ltN := hs.filter f
  cases h : atT l p with
  | none =>
    rw [show (none : Option Nd).filter f = none from rfl, atT_none]
    intro n hn
    exact atT_none.1 h n (List.mem_filter.1 hn).1
  | some n =>
    obtain ⟨hn, he⟩ := atT_mem h
    by_cases hfn : f n = true
    · rw [show (some n).filter f = some n from by simp [Option.filter, hfn], atT_iff hf]
      exact ⟨List.mem_filter.2 ⟨hn, hfn⟩, he⟩
    · rw [show (some n).filter f = none from by simp [Option.filter, hfn], atT_none]
      intro m hm e
      obtain ⟨hm1, hm2⟩ := List.mem_filter.1 hm
      obtain rfl := path_inj hs hm1 hn (e.trans he.symm)
      exact hfn hm2
theorem dirT_mem (h : dirT l p = true) : ∃ n ∈ l, n.path = p ∧ n.dir = true := by
  unfold dirT at h
  cases h0 : atT l p with
  | none => rw [h0] at h; cases h
  | some n =>
    rw [h0] at h
    exact ⟨n, (atT_mem h0).1, (atT_mem h0).2, h⟩
theorem dirT_of (hs : l.Pairwise ltN) (hn : n ∈ l) (hd : n.dir = true) : dirT l n.path = true := by
  unfold dirT
  rw [atT_of hs hn]
  exact hd
theorem dirT_congr {a b : List Nd} {p : S} (h : atT a p = atT b p) : dirT a p = dirT b p := by unfold dirT; rw [h]

/-! ### the deeds -/
def dropF (l : List Nd) (p : S) : List Nd := l.filter fun n => !(n.path == p || pUnder n.path p)
def clearF (l : List Nd) (d : S) : List Nd := if d = ⟨#[]⟩ then [] else l.filter fun n => !pUnder n.path d
def setF (l : List Nd) (n : Nd) : List Nd := l.filter (fun m => decide (pCmp m.path n.path < 0)) ++ n :: l.filter (fun m => decide (0 < pCmp m.path n.path))
/-- A directory that nobody told of. -/
def dirN (p : S) : Nd := ⟨p, true, ⟨#[]⟩, 493, 0⟩
def ens1 (l : List Nd) (p : S) : List Nd := if dirT l p then l else setF (dropF l p) (dirN p)
def upsT (l : List Nd) (p : S) : List Nd := (ups p).foldr (fun q c => ens1 c q) l
def ensF (l : List Nd) (p : S) : List Nd := ens1 (upsT l p) p
def putF (l : List Nd) (n : Nd) : List Nd := setF (if n.dir then upsT l n.path else dropF (upsT l n.path) n.path) n
theorem upsT_none (h : pParent p = none) : upsT l p = l := by unfold upsT; rw [ups_none h]; rfl
theorem upsT_some {d : S} (h : pParent p = some d) : upsT l p = ensF l d := by unfold ensF upsT; rw [ups_some h]; rfl

theorem mem_setF : m ∈ setF l n ↔ m = n ∨ (m ∈ l ∧ m.path ≠ n.path) := by
  unfold setF
  simp only [List.mem_append, List.mem_cons, List.mem_filter, decide_eq_true_eq]
  constructor
  · rintro (⟨h1, h2⟩ | rfl | ⟨h1, h2⟩)
    · exact .inr ⟨h1, fun e => by rw [e, pCmp_self] at h2; omega⟩
    · exact .inl rfl
    · exact .inr ⟨h1, fun e => by rw [e, pCmp_self] at h2; omega⟩
  · rintro (rfl | ⟨h1, h2⟩)
    · exact .inr (.inl rfl)
    · rcases pCmp_range m.path n.path with h | h | h
      · exact .inl ⟨h1, by omega⟩
      · exact absurd (pCmp_eq.1 h) h2
      · exact .inr (.inr ⟨h1, by omega⟩)
theorem set_sorted (hs : l.Pairwise ltN) (n : Nd) : (setF l n).Pairwise ltN := by
  unfold setF
  rw [List.pairwise_append]
  refine ⟨hs.filter _, List.pairwise_cons.2 ⟨fun m hm => ?_, hs.filter _⟩, fun a ha b hb => ?_⟩
  · have h1 := (List.mem_filter.1 hm).2
    rw [decide_eq_true_eq] at h1
    have h2 := pCmp_neg m.path n.path
    unfold ltN
    omega
  · have h1 := (List.mem_filter.1 ha).2
    rw [decide_eq_true_eq] at h1
    rcases List.mem_cons.1 hb with rfl | hb
    · exact h1
    · have h2 := (List.mem_filter.1 hb).2
      rw [decide_eq_true_eq] at h2
      have h3 := pCmp_neg b.path n.path
      exact pCmp_trans h1 (by omega)
theorem atT_set (hs : l.Pairwise ltN) (n : Nd) (p : S) : atT (setF l n) p = if p = n.path then some n else atT l p := by
  have hss := set_sorted hs n
  split
  · rename_i h
    rw [atT_iff hss]
    exact ⟨mem_setF.2 (.inl rfl), h.symm⟩
  · rename_i hne
    cases h : atT l p with
    | none =>
      rw [atT_none]
      intro m hm e
      rcases mem_setF.1 hm with rfl | ⟨h1, h2⟩
      · exact hne e.symm
      · exact atT_none.1 h m h1 e
    | some m =>
      obtain ⟨h1, h2⟩ := atT_mem h
      rw [atT_iff hss]
      exact ⟨mem_setF.2 (.inr ⟨h1, by rw [h2]; exact hne⟩), h2⟩
theorem drop_sorted (hs : l.Pairwise ltN) (p : S) : (dropF l p).Pairwise ltN := hs.filter _
theorem mem_dropF : m ∈ dropF l p ↔ m ∈ l ∧ m.path ≠ p ∧ pUnder m.path p = false := by
  unfold dropF
  rw [List.mem_filter]
  simp
theorem atT_drop (hs : l.Pairwise ltN) (p q : S) : atT (dropF l p) q = if q = p ∨ pUnder q p = true then none else atT l q := by
  unfold dropF
  rw [atT_filter hs]
  cases h : atT l q with
  | none => rw [show (none : Option Nd).filter _ = none from rfl]; split <;> rfl
  | some n =>
    obtain ⟨_, rfl⟩ := atT_mem h
    by_cases h1 : n.path = p ∨ pUnder n.path p = true
    · rw [if_pos h1]
      have : (!(n.path == p || pUnder n.path p)) = false := by rcases h1 with h1 | h1 <;> simp [h1]
      simp [Option.filter, this]
    · rw [if_neg h1]
      have h2 : n.path ≠ p := fun e => h1 (.inl e)
      have h3 : pUnder n.path p = false := by
        cases hu : pUnder n.path p
        · rfl
        · exact absurd (.inr hu) h1
      simp [Option.filter, h2, h3]
end

/-- In order; above each path are directories. -/
structure Okt (l : List Nd) : Prop where
  sorted : l.Pairwise ltN
  fine : ∀ n ∈ l, pFine n.path
  closed : ∀ n ∈ l, ∀ d, pParent n.path = some d → dirT l d = true
theorem Okt.nil : Okt [] := ⟨List.Pairwise.nil, fun n h => (by cases h), fun n h => (by cases h)⟩
section
variable {l : List Nd} {p q : S} {n m : Nd}
theorem Okt.up_n (h : Okt l) : ∀ (k : Nat) (n : Nd), n.path.size ≤ k → n ∈ l → q ∈ ups n.path → dirT l q = true
  | k, n, hk, hn, hq => by
    cases h0 : pParent n.path with
    | none => rw [ups_none h0] at hq; cases hq
    | some d =>
      have hl := pParent_len h0
      have hd := h.closed n hn d h0
      rw [ups_some h0] at hq
      rcases List.mem_cons.1 hq with rfl | hq
      · exact hd
      · obtain ⟨m, hm, he, _⟩ := dirT_mem hd
        subst he
        cases k with
        | zero => omega
        | succ k => exact h.up_n k m (by omega) hm hq
theorem Okt.up (h : Okt l) (hn : n ∈ l) (hq : q ∈ ups n.path) : dirT l q = true := h.up_n n.path.size n (Nat.le_refl _) hn hq
/-- Below what is no directory nothing is. -/
theorem Okt.none_under (h : Okt l) (hp : p ≠ ⟨#[]⟩) (hd : dirT l p = false) : ∀ n ∈ l, pUnder n.path p = false := by
  intro n hn
  cases hu : pUnder n.path p
  · rfl
  · have := h.up hn ((ups_under hp).2 hu)
    rw [hd] at this
    cases this
theorem Okt.drop_absent (h : Okt l) (hp : p ≠ ⟨#[]⟩) (ha : atT l p = none) : dropF l p = l := by
  have hd : dirT l p = false := by unfold dirT; rw [ha]
  refine List.filter_eq_self.2 fun n hn => ?_
  rw [h.none_under hp hd n hn, beq_eq_false_iff_ne.2 (atT_none.1 ha n hn)]
  rfl
theorem Okt.drop (h : Okt l) (hp : p ≠ ⟨#[]⟩) : Okt (dropF l p) := by
  refine ⟨drop_sorted h.sorted p, fun n hn => h.fine n (mem_dropF.1 hn).1, fun n hn d hd => ?_⟩
  obtain ⟨h1, h2, h3⟩ := mem_dropF.1 hn
  obtain ⟨m, hm, rfl, hmd⟩ := dirT_mem (h.closed n h1 d hd)
  have h4 := pParent_under hp hd
  refine dirT_of (drop_sorted h.sorted p) (mem_dropF.2 ⟨hm, fun e => ?_, ?_⟩) hmd
  · rw [h4.2 (.inl e.symm)] at h3
    cases h3
  · cases hu : pUnder m.path p
    · rfl
    · rw [h4.2 (.inr hu)] at h3
      cases h3
theorem mem_clearF (hp : p ≠ ⟨#[]⟩) : m ∈ clearF l p ↔ m ∈ l ∧ pUnder m.path p = false := by
  unfold clearF
  rw [if_neg hp, List.mem_filter]
  simp
theorem Okt.clear (h : Okt l) (p : S) : Okt (clearF l p) := by
  by_cases hp : p = ⟨#[]⟩
  · unfold clearF
    rw [if_pos hp]
    exact Okt.nil
  · have hs : (clearF l p).Pairwise ltN := by
      unfold clearF
      rw [if_neg hp]
      exact h.sorted.filter _
    refine ⟨hs, fun n hn => h.fine n ((mem_clearF hp).1 hn).1, fun n hn d hd => ?_⟩
    obtain ⟨h1, h3⟩ := (mem_clearF hp).1 hn
    obtain ⟨m, hm, rfl, hmd⟩ := dirT_mem (h.closed n h1 d hd)
    have h4 := pParent_under hp hd
    refine dirT_of hs ((mem_clearF hp).2 ⟨hm, ?_⟩) hmd
    cases hu : pUnder m.path p
    · rfl
    · rw [h4.2 (.inr hu)] at h3
      cases h3
theorem parent_ne {d : S} (h : pParent p = some d) : d ≠ p := fun e => by
  have := pParent_len h
  rw [e] at this
  omega
theorem Okt.set (h : Okt l) (hf : pFine n.path) (hpar : ∀ d, pParent n.path = some d → dirT l d = true) (hbel : n.dir = false → ∀ m ∈ l, pUnder m.path n.path = false) : Okt (setF l n) := by
  have hs := set_sorted h.sorted n
  refine ⟨hs, fun m hm => ?_, fun m hm d hd => ?_⟩
  · rcases mem_setF.1 hm with rfl | ⟨h1, _⟩
    · exact hf
    · exact h.fine m h1
  · rcases mem_setF.1 hm with rfl | ⟨h1, h2⟩
    · obtain ⟨x, hx, rfl, hxd⟩ := dirT_mem (hpar d hd)
      exact dirT_of hs (mem_setF.2 (.inr ⟨hx, parent_ne hd⟩)) hxd
    · obtain ⟨x, hx, rfl, hxd⟩ := dirT_mem (h.closed m h1 d hd)
      by_cases he : x.path = n.path
      · cases hnd : n.dir
        · have h3 := hbel hnd m h1
          rw [(pParent_under hf.ne hd).2 (.inl he.symm)] at h3
          cases h3
        · rw [he]
          exact dirT_of hs (mem_setF.2 (.inl rfl)) hnd
      · exact dirT_of hs (mem_setF.2 (.inr ⟨hx, he⟩)) hxd
theorem not_under_up {d : S} (hf : pFine p) (hd : d ∈ ups p) : pUnder d p = false := by
  cases hu : pUnder d p
  · rfl
  · have h1 := (ups_under (hf.ups_ne hd)).1 hd
    exact absurd rfl (pUnder_ne (pUnder_trans h1 hu))
theorem up_ne {d : S} (hf : pFine p) (hd : d ∈ ups p) : d ≠ p := fun e => by
  subst e
  exact absurd rfl (pUnder_ne ((ups_under (hf.ups_ne hd)).1 hd))
theorem parent_up {d : S} (h : pParent p = some d) : d ∈ ups p := by rw [ups_some h]; exact List.mem_cons_self ..
theorem dirT_drop_up (h : Okt l) (hf : pFine p) {d : S} (hd : d ∈ ups p) : dirT (dropF l p) d = dirT l d := by
  refine dirT_congr ?_
  rw [atT_drop h.sorted, if_neg]
  rintro (e | e)
  · exact up_ne hf hd e
  · rw [not_under_up hf hd] at e
    cases e
theorem Okt.ens1 (h : Okt l) (hf : pFine p) (hpar : ∀ d, pParent p = some d → dirT l d = true) : Okt (ens1 l p) := by
  unfold Go.Proofs.YtbkbpdpegiekhaaGreatDoor.ens1
  cases hd : dirT l p
  · rw [if_neg (by decide)]
    refine (h.drop hf.ne).set hf (fun d hpd => ?_) (fun e => by cases e)
    rw [dirT_drop_up h hf (parent_up hpd)]
    exact hpar d hpd
  · rw [if_pos rfl]
    exact h
theorem atT_ens1 (h : Okt l) (hf : pFine p) (q : S) : atT (ens1 l p) q = if q = p ∧ dirT l p = false then some (dirN p) else atT l q := by
  unfold ens1
  cases hd : dirT l p
  · rw [if_neg (by decide), atT_set (drop_sorted h.sorted p)]
    by_cases hq : q = p
    · rw [if_pos (show q = (dirN p).path from hq), if_pos ⟨hq, rfl⟩]
    · rw [if_neg (show q ≠ (dirN p).path from hq), if_neg (fun e => hq e.1), atT_drop h.sorted]
      split
      · rename_i h1
        rcases h1 with h1 | h1
        · exact absurd h1 hq
        · symm
          rw [atT_none]
          rintro n hn rfl
          rw [h.none_under hf.ne hd n hn] at h1
          cases h1
      · rfl
  · rw [if_pos rfl, if_neg (fun e => by cases e.2)]
theorem dirT_ens1 (h : Okt l) (hf : pFine p) : dirT (ens1 l p) p = true := by
  cases hd : dirT l p
  · unfold dirT
    rw [atT_ens1 h hf, if_pos ⟨rfl, hd⟩]
    rfl
  · unfold ens1
    rw [if_pos hd]
    exact hd
theorem Okt.ensF_n (h : Okt l) : ∀ (k : Nat) (p : S), p.size ≤ k → pFine p → Okt (upsT l p) ∧ (∀ d, pParent p = some d → dirT (upsT l p) d = true)
  | k, p, hk, hf => by
    cases h0 : pParent p with
    | none =>
      rw [upsT_none h0]
      exact ⟨h, fun d hd => by cases hd⟩
    | some d =>
      have hl := pParent_len h0
      rw [upsT_some h0]
      cases k with
      | zero => omega
      | succ k =>
        obtain ⟨h1, h2⟩ := h.ensF_n k d (by omega) (hf.up h0)
        unfold ensF
        exact ⟨h1.ens1 (hf.up h0) h2, fun d' hd' => by obtain rfl := Option.some.inj hd'; exact dirT_ens1 h1 (hf.up h0)⟩
theorem Okt.upsT (h : Okt l) (hf : pFine p) : Okt (upsT l p) := (h.ensF_n p.size p (Nat.le_refl _) hf).1
theorem dirT_upsT (h : Okt l) (hf : pFine p) {d : S} (hd : pParent p = some d) : dirT (upsT l p) d = true := (h.ensF_n p.size p (Nat.le_refl _) hf).2 d hd
theorem Okt.ensF (h : Okt l) (hf : pFine p) : Okt (ensF l p) := (h.upsT hf).ens1 hf fun _ hd => dirT_upsT h hf hd
theorem Okt.putF (h : Okt l) (hf : pFine n.path) : Okt (putF l n) := by
  have h1 := h.upsT hf
  have h2 := fun d (hd : pParent n.path = some d) => dirT_upsT h hf hd
  unfold Go.Proofs.YtbkbpdpegiekhaaGreatDoor.putF
  cases hd : n.dir
  · rw [if_neg (by decide)]
    refine (h1.drop hf.ne).set hf (fun d hpd => ?_) (fun _ m hm => (mem_dropF.1 hm).2.2)
    rw [dirT_drop_up h1 hf (parent_up hpd)]
    exact h2 d hpd
  · rw [if_pos rfl]
    exact h1.set hf h2 (fun e => by rw [hd] at e; cases e)
/-- Where all above is there, nothing is ensured above. -/
theorem foldr_ens {L : List S} (hL : ∀ q ∈ L, dirT l q = true) : L.foldr (fun q c => ens1 c q) l = l := by
  induction L with
  | nil => rfl
  | cons q t ih =>
    rw [List.foldr_cons, ih fun x hx => hL x (List.mem_cons_of_mem _ hx)]
    unfold ens1
    rw [if_pos (hL q (List.mem_cons_self ..))]
theorem upsT_id (h : ∀ q ∈ ups p, dirT l q = true) : upsT l p = l := foldr_ens h

/-! ### how many -/
theorem two_filters {α : Type} (f g : α → Bool) (h : ∀ x, f x = true → g x = false) : ∀ l : List α, (l.filter f).length + (l.filter g).length ≤ l.length
  | [] => Nat.le_refl _
  | x :: t => by
    have ih := two_filters f g h t
    cases hf : f x
    · rw [List.filter_cons_of_neg (by simp [hf])]
      cases hg : g x
      · rw [List.filter_cons_of_neg (by simp [hg]), List.length_cons]; omega
      · rw [List.filter_cons_of_pos hg, List.length_cons, List.length_cons]; omega
    · rw [List.filter_cons_of_pos hf, List.filter_cons_of_neg (by simp [h x hf]), List.length_cons, List.length_cons]; omega
theorem set_len (l : List Nd) (n : Nd) : (setF l n).length ≤ l.length + 1 := by
  have := two_filters (fun m : Nd => decide (pCmp m.path n.path < 0)) (fun m => decide (0 < pCmp m.path n.path)) (fun x hx => by simp at hx ⊢; omega) l
  unfold setF
  rw [List.length_append, List.length_cons]
  omega
theorem drop_len (l : List Nd) (p : S) : (dropF l p).length ≤ l.length := List.length_filter_le _ _
theorem clear_len (l : List Nd) (p : S) : (clearF l p).length ≤ l.length := by
  unfold clearF
  split
  · exact Nat.zero_le _
  · exact List.length_filter_le _ _
theorem ens1_len (l : List Nd) (p : S) : (ens1 l p).length ≤ l.length + 1 := by
  unfold ens1
  split
  · omega
  · have := set_len (dropF l p) (dirN p)
    have := drop_len l p
    omega
theorem upsT_len (l : List Nd) (p : S) : (upsT l p).length ≤ l.length + (ups p).length := by
  unfold upsT
  generalize ups p = L
  induction L with
  | nil => exact Nat.le_refl _
  | cons q t ih =>
    rw [List.foldr_cons]
    have := ens1_len (t.foldr (fun q c => ens1 c q) l) q
    rw [List.length_cons]
    omega
theorem ensF_len (l : List Nd) (p : S) : (ensF l p).length ≤ l.length + (ups p).length + 1 := by
  have := ens1_len (upsT l p) p
  have := upsT_len l p
  unfold ensF
  omega
theorem putF_len (l : List Nd) (n : Nd) : (putF l n).length ≤ l.length + (ups n.path).length + 1 := by
  have h1 := upsT_len l n.path
  have h2 := drop_len (upsT l n.path) n.path
  have h3 : (if n.dir = true then upsT l n.path else dropF (upsT l n.path) n.path).length ≤ (upsT l n.path).length := by
    split <;> omega
  have h4 := set_len (if n.dir = true then upsT l n.path else dropF (upsT l n.path) n.path) n
  unfold putF
  omega
end

end Go.Proofs.YtbkbpdpegiekhaaGreatDoor
