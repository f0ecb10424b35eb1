/- A layer, laid on a tree, plainly. -/
import Derived.Test.YtbkbpdpegiekhaaGreatDoorU2
import Derived.Test.YtbkbpdpegiekhaaGreatDoorR19
set_option linter.unusedVariables false
set_option linter.unusedSimpArgs false
namespace Go.Proofs.YtbkbpdpegiekhaaGreatDoor
open Go.RowKit Go.Proofs.YtbkbpdpegiekhaaGreatDoorW.PrintWords Mo

/-- One path of a layer: put, or ensured. -/
def stepF (l : Ly) (c : List Nd) (p : S) : List Nd := match lastAt l.adds p with
  | some n => putF c n
  | none => ensF c p
def runF (l : Ly) : List Nd → List S → Option (List Nd)
  | c, [] => some c
  | c, p :: t => if 4096 < (stepF l c p).length then none else runF l (stepF l c p) t
def pathsL (l : Ly) : List S := compS (sortS (ensL l ++ l.adds.map (·.path)))
def startF (l : Ly) (t : List Nd) : List Nd := l.opaques.foldl clearF (l.whites.foldl dropF t)
def endF (o : Option (List Nd)) : List Nd × Int := match o with
  | none => ([], 7)
  | some r => if 4194304 < bytesN r then ([], 7) else if collT r = true then ([], 6) else (r, 0)
/-- What comes of a layer that is laid on a tree. -/
def applyL (l : Ly) (t : List Nd) : List Nd × Int := if checkT t = 0 ∧ checkL l = 0 then endF (runF l (startF l t) (pathsL l)) else ([], 1)

/-! ### a layer that may be -/
theorem markersE_right (k : Int) : ∀ (l : List S) (prev : Option S), markersE k prev l = 0 → ∀ p ∈ l, (pPath k p).2 = 0
  | [], prev, _, p, hp => by cases hp
  | x :: t, prev, h, p, hp => by
    have e : markersE k prev (x :: t) = if markE k prev x = 0 then markersE k (some x) t else markE k prev x := rfl
    rw [e] at h
    by_cases h0 : markE k prev x = 0
    · rw [if_pos h0] at h
      rcases List.mem_cons.1 hp with rfl | hp
      · unfold markE at h0
        by_cases hz : (pPath k p).2 = 0
        · exact hz
        · rw [if_neg hz] at h0; exact absurd h0 hz
      · exact markersE_right k t (some x) h p hp
    · rw [if_neg h0] at h; exact absurd h h0
theorem path_right {k : Int} {p : S} (h : (pPath k p).2 = 0) : pRight p = true ∨ (k = 2 ∧ p = ⟨#[]⟩) := by
  unfold pPath at h
  split at h
  · cases h
  · rename_i h1
    cases hr : pRight p
    · right
      apply Classical.byContradiction
      intro h2
      refine h1 (.inl ⟨hr, ?_⟩)
      by_cases hk : k = 2
      · exact .inr fun e => h2 ⟨hk, e⟩
      · exact .inl hk
    · exact .inl rfl
structure Okl (l : Ly) : Prop where
  adds : l.adds.Pairwise ltN
  right : ∀ n ∈ l.adds, pRight n.path = true ∧ okRest n = true
  whites : ∀ p ∈ l.whites, pRight p = true
  opaques : ∀ p ∈ l.opaques, p = ⟨#[]⟩ ∨ pRight p = true
  files : ∀ n ∈ l.adds, n.dir = false → n.path ∉ ensL l
theorem addsE_right : ∀ (l : List Nd) (last : S) (seen : List S), addsE last seen l = 0 → ∀ n ∈ l, pRight n.path = true ∧ okRest n = true
  | [], last, seen, _, n, hn => by cases hn
  | x :: t, last, seen, h, n, hn => by
    have e : addsE last seen (x :: t) = if addE x last seen = 0 then addsE x.path (seen ++ [pFold x.path]) t else addE x last seen := rfl
    rw [e] at h
    by_cases h0 : addE x last seen = 0
    · rw [if_pos h0] at h
      rcases List.mem_cons.1 hn with rfl | hn
      · exact ⟨(addE_zero h0).1, (addE_zero h0).2.1⟩
      · exact addsE_right t _ _ h n hn
    · rw [if_neg h0] at h; exact absurd h h0
theorem check_files {l : Ly} (h : checkL l = 0) : filesB l = true := by
  unfold checkL at h
  split at h
  · cases h
  · by_cases h0 : entsE l = 0
    · rw [if_pos h0] at h
      cases hf : filesB l
      · rw [hf, if_neg (by decide)] at h; cases h
      · rfl
    · rw [if_neg h0] at h; exact absurd h h0
theorem Okl.of {l : Ly} (h : checkL l = 0) : Okl l := by
  obtain ⟨h1, h2, h3⟩ := check_ents h
  refine ⟨check_sorted h, addsE_right _ _ _ h1, fun p hp => ?_, fun p hp => ?_, fun n hn hd hm => ?_⟩
  · rcases path_right (markersE_right 1 _ none h2 p hp) with h | ⟨h, _⟩
    · exact h
    · cases h
  · rcases path_right (markersE_right 2 _ none h3 p hp) with h | ⟨_, h⟩
    · exact .inr h
    · exact .inl h
  · have hf := check_files h
    unfold filesB at hf
    rw [Bool.not_eq_true', List.any_eq_false] at hf
    refine hf n hn ?_
    unfold blockB
    rw [decide_eq_true hm, hd]
    rfl

theorem ups_trans : ∀ (k : Nat) {p q x : S}, p.size ≤ k → q ∈ ups p → x ∈ ups q → x ∈ ups p
  | k, p, q, x, hk, hq, hx => by
    cases h0 : pParent p with
    | none => rw [ups_none h0] at hq; cases hq
    | some d =>
      have hl := pParent_len h0
      rw [ups_some h0] at hq ⊢
      refine List.mem_cons_of_mem _ ?_
      rcases List.mem_cons.1 hq with rfl | hq
      · exact hx
      · cases k with
        | zero => omega
        | succ k => exact ups_trans k (by omega) hq hx
theorem ups_of {p q x : S} (hq : q ∈ ups p) (hx : x ∈ ups q) : x ∈ ups p := ups_trans p.size (Nat.le_refl _) hq hx
theorem ups_empty : ups ⟨#[]⟩ = [] := List.eq_nil_of_length_eq_zero (by have := ups_len ⟨#[]⟩; have h : (⟨#[]⟩ : S).size = 0 := rfl; omega)
theorem mem_srcs {l : Ly} {x : S} : x ∈ srcs l ↔ (∃ n ∈ l.adds, x ∈ ups n.path) ∨ (∃ p ∈ l.whites, x ∈ ups p) ∨ (∃ p ∈ l.opaques, x ∈ ups p ∨ (p ≠ ⟨#[]⟩ ∧ x = p)) := by
  unfold srcs srcA srcW srcO
  simp only [List.mem_append, List.mem_flatMap]
  have hs : ∀ p : S, x ∈ selfS p ↔ (p ≠ ⟨#[]⟩ ∧ x = p) := by
    intro p
    unfold selfS
    split
    · rename_i h; simp [h]
    · rename_i h; simp [h]
  simp only [hs]
  constructor
  · rintro ((h | h) | h)
    · exact .inl h
    · exact .inr (.inl h)
    · exact .inr (.inr h)
  · rintro (h | h | h)
    · exact .inl (.inl h)
    · exact .inl (.inr h)
    · exact .inr h
section
variable {l : Ly} {t : List Nd} {p q : S} {n : Nd}
theorem mem_pathsL : q ∈ pathsL l ↔ q ∈ ensL l ∨ ∃ n ∈ l.adds, n.path = q := by
  unfold pathsL
  rw [tidy_mem, List.mem_append, List.mem_map]
theorem paths_strict (l : Ly) : (pathsL l).Pairwise ltS := tidy_strict _
theorem ens_up (hq : q ∈ ensL l) {x : S} (hx : x ∈ ups q) : x ∈ ensL l := by
  rw [ensL_mem, mem_srcs] at hq ⊢
  rcases hq with ⟨n, hn, h⟩ | ⟨p, hp, h⟩ | ⟨p, hp, h | ⟨h1, rfl⟩⟩
  · exact .inl ⟨n, hn, ups_of h hx⟩
  · exact .inr (.inl ⟨p, hp, ups_of h hx⟩)
  · exact .inr (.inr ⟨p, hp, .inl (ups_of h hx)⟩)
  · exact .inr (.inr ⟨q, hp, .inl hx⟩)
theorem paths_up (hq : q ∈ pathsL l) {x : S} (hx : x ∈ ups q) : x ∈ ensL l := by
  rcases mem_pathsL.1 hq with h | ⟨n, hn, rfl⟩
  · exact ens_up h hx
  · rw [ensL_mem, mem_srcs]
    exact .inl ⟨n, hn, hx⟩
theorem Okl.ens_fine (h : Okl l) (hq : q ∈ ensL l) : pFine q := by
  rw [ensL_mem, mem_srcs] at hq
  rcases hq with ⟨n, hn, hx⟩ | ⟨p, hp, hx⟩ | ⟨p, hp, hx | ⟨h1, rfl⟩⟩
  · exact (fine_of_right (h.right n hn).1).above hx
  · exact (fine_of_right (h.whites p hp)).above hx
  · rcases h.opaques p hp with rfl | hr
    · rw [ups_empty] at hx; cases hx
    · exact (fine_of_right hr).above hx
  · rcases h.opaques q hp with rfl | hr
    · exact absurd rfl h1
    · exact fine_of_right hr
theorem Okl.paths_fine (h : Okl l) (hq : q ∈ pathsL l) : pFine q := by
  rcases mem_pathsL.1 hq with hq | ⟨n, hn, rfl⟩
  · exact h.ens_fine hq
  · exact fine_of_right (h.right n hn).1
theorem lastAt_atT {xs : List Nd} (hs : xs.Pairwise ltN) (p : S) : lastAt xs p = atT xs p := by
  cases h : lastAt xs p with
  | none => exact (atT_none.2 (lastAt_none h)).symm
  | some n =>
    unfold lastAt at h
    have h1 := List.mem_reverse.1 (List.mem_of_find?_eq_some h)
    have h2 : n.path = p := by simpa using List.find?_some h
    exact ((atT_iff hs).2 ⟨h1, h2⟩).symm

/-! ### what is taken away first -/
theorem hits_w {w : S} (hw : w ≠ ⟨#[]⟩) (q : S) : wHits q w = decide (q = w ∨ pUnder q w = true) := by
  unfold wHits eS
  rw [decide_eq_false hw]
  by_cases h1 : w = q
  · rw [decide_eq_true h1]; simp [h1]
  · rw [decide_eq_false h1]
    have : ¬ q = w := fun e => h1 e.symm
    cases pUnder q w <;> simp [this]
theorem drop_filter {w : S} (hw : w ≠ ⟨#[]⟩) (c : List Nd) : dropF c w = c.filter fun n => !wHits n.path w := by
  unfold dropF
  refine List.filter_congr fun n _ => ?_
  rw [hits_w hw]
  by_cases h1 : n.path = w
  · simp [h1]
  · cases hu : pUnder n.path w <;> simp [h1]
theorem clear_filter (d : S) (c : List Nd) : clearF c d = c.filter fun n => !oHits n.path d := by
  unfold clearF oHits eS
  by_cases hd : d = ⟨#[]⟩
  · rw [if_pos hd, decide_eq_true hd]
    exact (List.filter_eq_nil_iff.2 fun n _ => by simp).symm
  · rw [if_neg hd, decide_eq_false hd]
    rfl
theorem foldl_filter {α β : Type} (f : List α → β → List α) (g : β → α → Bool) (ws : List β) (hw : ∀ w ∈ ws, ∀ c, f c w = c.filter fun n => !g w n) : ∀ c, ws.foldl f c = c.filter fun n => !ws.any fun w => g w n := by
  induction ws with
  | nil => intro c; exact (List.filter_eq_self.2 fun n _ => rfl).symm
  | cons w t ih =>
    intro c
    rw [List.foldl_cons, hw w (List.mem_cons_self ..), ih (fun x hx => hw x (List.mem_cons_of_mem _ hx)), List.filter_filter]
    refine List.filter_congr fun n _ => ?_
    rw [List.any_cons, Bool.not_or, Bool.and_comm]
theorem start_filter (h : ∀ w ∈ l.whites, w ≠ ⟨#[]⟩) (t : List Nd) : startF l t = t.filter fun n => !removesB l n.path := by
  unfold startF
  rw [foldl_filter dropF (fun w n => wHits n.path w) l.whites (fun w hw c => drop_filter (h w hw) c), foldl_filter clearF (fun w n => oHits n.path w) l.opaques (fun w hw c => clear_filter w c), List.filter_filter]
  refine List.filter_congr fun n _ => ?_
  unfold removesB
  rw [Bool.not_or, Bool.and_comm]
theorem Okl.whites_ne (h : Okl l) : ∀ w ∈ l.whites, w ≠ ⟨#[]⟩ := fun w hw => bytes_nil (h.whites w hw)
theorem drops_ok : ∀ (ws : List S) (c : List Nd), (∀ w ∈ ws, w ≠ ⟨#[]⟩) → Okt c → Okt (ws.foldl dropF c)
  | [], c, _, h => h
  | w :: t, c, hw, h => drops_ok t (dropF c w) (fun x hx => hw x (List.mem_cons_of_mem _ hx)) (h.drop (hw w (List.mem_cons_self ..)))
theorem clears_ok : ∀ (ws : List S) (c : List Nd), Okt c → Okt (ws.foldl clearF c)
  | [], c, h => h
  | w :: t, c, h => clears_ok t (clearF c w) (h.clear w)
theorem Okl.start (h : Okl l) (ht : Okt t) : Okt (startF l t) := clears_ok _ _ (drops_ok _ _ h.whites_ne ht)
theorem Okl.atT_start (h : Okl l) (ht : Okt t) (q : S) : atT (startF l t) q = if removesB l q = true then none else atT t q := by
  rw [start_filter h.whites_ne, atT_filter ht.sorted]
  cases h0 : atT t q with
  | none => rw [show (none : Option Nd).filter _ = none from rfl]; split <;> rfl
  | some n =>
    obtain ⟨_, rfl⟩ := atT_mem h0
    cases hr : removesB l n.path <;> simp [Option.filter, hr]

/-! ### the run -/
/-- Is a path below a file among the Adds at these paths? -/
def fileP (l : Ly) (P : List S) (q : S) : Bool := l.adds.any fun n => (!n.dir && decide (n.path ∈ P)) && pUnder q n.path
def ensV (o : Option Nd) (q : S) : Nd := match o with
  | some m => if m.dir then m else dirN q
  | none => dirN q
/-- What is at a path when some have been gone over. -/
def valP (l : Ly) (s : List Nd) (P : List S) (q : S) : Option Nd :=
  if q ∈ P then (match atT l.adds q with
    | some n => some n
    | none => some (ensV (atT s q) q))
  else if fileP l P q = true then none else atT s q
theorem ensV_dir (o : Option Nd) (q : S) : (ensV o q).dir = true := by
  unfold ensV
  cases o with
  | none => rfl
  | some m =>
    cases h : m.dir
    · simp only; rw [if_neg (by simp [h])]; rfl
    · simp only; rw [if_pos h]; exact h
theorem any_cong {α : Type} {f g : α → Bool} : ∀ {l : List α}, (∀ x ∈ l, f x = g x) → l.any f = l.any g
  | [], _ => rfl
  | x :: t, h => by rw [List.any_cons, List.any_cons, h x (List.mem_cons_self ..), any_cong fun y hy => h y (List.mem_cons_of_mem _ hy)]
theorem mem_snoc {P : List S} {p q : S} (h : q ≠ p) : q ∈ P ++ [p] ↔ q ∈ P := by
  rw [List.mem_append, List.mem_singleton]
  exact ⟨fun k => k.elim id fun e => absurd e h, .inl⟩
theorem fileP_snoc {P : List S} (h : ∀ n ∈ l.adds, n.path = p → n.dir = false → pUnder q p = false) : fileP l (P ++ [p]) q = fileP l P q := by
  unfold fileP
  refine any_cong fun n hn => ?_
  by_cases e : n.path = p
  · cases hd : n.dir
    · have hu := h n hn e hd
      rw [e, hu, Bool.and_false, Bool.and_false]
    · rfl
  · congr 2
    exact decide_eq_decide.2 (mem_snoc e)
/-- No path of a layer is below a file of it. -/
theorem Okl.not_below (h : Okl l) {P : List S} (hq : q ∈ pathsL l) : fileP l P q = false := by
  unfold fileP
  rw [List.any_eq_false]
  intro n hn hc
  simp only [Bool.and_eq_true, Bool.not_eq_true'] at hc
  obtain ⟨⟨hd, _⟩, hu⟩ := hc
  have hf := fine_of_right (h.right n hn).1
  exact h.files n hn hd (paths_up hq ((ups_under hf.ne).2 hu))
theorem Okl.add_dir (h : Okl l) (hn : n ∈ l.adds) (he : n.path ∈ ensL l) : n.dir = true := by
  cases hd : n.dir
  · exact absurd he (h.files n hn hd)
  · rfl
theorem valP_dir (h : Okl l) {s : List Nd} {P : List S} (hq : q ∈ P) (he : q ∈ ensL l) {c : List Nd} (hc : atT c q = valP l s P q) : dirT c q = true := by
  unfold dirT
  rw [hc]
  unfold valP
  rw [if_pos hq]
  cases h0 : atT l.adds q with
  | none => exact ensV_dir _ _
  | some n =>
    obtain ⟨hn, rfl⟩ := atT_mem h0
    exact h.add_dir hn he
theorem Okl.step (h : Okl l) {s c : List Nd} {P R : List S} {p : S} (hP : pathsL l = P ++ p :: R) (hc : Okt c) (hv : ∀ q, atT c q = valP l s P q) :
    Okt (stepF l c p) ∧ ∀ q, atT (stepF l c p) q = valP l s (P ++ [p]) q := by
  have hpm : p ∈ pathsL l := by rw [hP]; exact List.mem_append_right _ (List.mem_cons_self ..)
  have hf := h.paths_fine hpm
  have hst := paths_strict l
  rw [hP] at hst
  obtain ⟨hs1, hs2, hs3⟩ := List.pairwise_append.1 hst
  have hPp : ∀ x ∈ P, ltS x p := fun x hx => hs3 x hx p (List.mem_cons_self ..)
  have hpP : p ∉ P := fun hm => ltS_irrefl p (hPp p hm)
  have hups : ∀ x ∈ ups p, dirT c x = true := by
    intro x hx
    have hxe := paths_up hpm hx
    have hxm : x ∈ pathsL l := mem_pathsL.2 (.inl hxe)
    rw [hP] at hxm
    have hlt : ltS x p := pUnder_lt ((ups_under (hf.ups_ne hx)).1 hx)
    refine valP_dir h ?_ hxe (hv x)
    rcases List.mem_append.1 hxm with hm | hm
    · exact hm
    · rcases List.mem_cons.1 hm with rfl | hm
      · exact (ltS_irrefl _ hlt).elim
      · exact (ltS_asymm hlt ((List.pairwise_cons.1 hs2).1 x hm)).elim
  have hid := upsT_id hups
  have hlast := lastAt_atT h.adds p
  cases h0 : atT l.adds p with
  | some n =>
    rw [h0] at hlast
    obtain ⟨hn, rfl⟩ := atT_mem h0
    have e : stepF l c n.path = putF c n := by unfold stepF; rw [hlast]
    rw [e]
    refine ⟨hc.putF hf, fun q => ?_⟩
    unfold putF
    rw [hid]
    have hss : (if n.dir = true then c else dropF c n.path).Pairwise ltN := by
      split
      · exact hc.sorted
      · exact drop_sorted hc.sorted _
    rw [atT_set hss]
    by_cases hq : q = n.path
    · subst hq
      rw [if_pos rfl]
      unfold valP
      rw [if_pos (List.mem_append_right _ (List.mem_singleton.2 rfl)), h0]
    · rw [if_neg hq]
      have hmem := mem_snoc (P := P) hq
      cases hd : n.dir
      · rw [if_neg (by decide), atT_drop hc.sorted]
        by_cases hqP : q ∈ P
        · have hnu : ¬ (q = n.path ∨ pUnder q n.path = true) := by
            rintro (e | e)
            · exact hq e
            · exact ltS_asymm (hPp q hqP) (pUnder_lt e)
          rw [if_neg hnu, hv]
          unfold valP
          rw [if_pos hqP, if_pos (hmem.2 hqP)]
        · by_cases hu : pUnder q n.path = true
          · rw [if_pos (.inr hu)]
            unfold valP
            rw [if_neg (fun k => hqP (hmem.1 k)), if_pos]
            unfold fileP
            refine List.any_eq_true.2 ⟨n, hn, ?_⟩
            rw [hd, hu, decide_eq_true (List.mem_append_right P (List.mem_singleton.2 rfl))]
            rfl
          · rw [if_neg (fun k => k.elim hq hu), hv]
            unfold valP
            rw [if_neg hqP, if_neg (fun k => hqP (hmem.1 k)), fileP_snoc]
            intro m _ _ _
            cases hh : pUnder q n.path
            · rfl
            · exact absurd hh hu
      · rw [if_pos rfl, hv]
        unfold valP
        rw [fileP_snoc]
        · by_cases hqP : q ∈ P
          · rw [if_pos hqP, if_pos (hmem.2 hqP)]
          · rw [if_neg hqP, if_neg (fun k => hqP (hmem.1 k))]
        · intro m hm hmp hmd
          obtain rfl := path_inj h.adds hm hn hmp
          rw [hd] at hmd
          cases hmd
  | none =>
    rw [h0] at hlast
    have e : stepF l c p = ensF c p := by unfold stepF; rw [hlast]
    have hno : ∀ m ∈ l.adds, m.path ≠ p := atT_none.1 h0
    rw [e]
    refine ⟨hc.ensF hf, fun q => ?_⟩
    unfold ensF
    rw [hid, atT_ens1 hc hf]
    have hcp : atT c p = atT s p := by
      rw [hv]
      unfold valP
      rw [if_neg hpP, if_neg (by rw [h.not_below hpm]; decide)]
    by_cases hq : q = p
    · subst hq
      have hval : valP l s (P ++ [q]) q = some (ensV (atT s q) q) := by
        unfold valP
        rw [if_pos (List.mem_append_right _ (List.mem_singleton.2 rfl)), h0]
      rw [hval]
      cases hd : dirT c q
      · rw [if_pos ⟨rfl, rfl⟩]
        unfold dirT at hd
        rw [hcp] at hd
        unfold ensV
        cases h1 : atT s q with
        | none => rfl
        | some m =>
          rw [h1] at hd
          simp only at hd ⊢
          rw [if_neg (by simp [hd])]
      · rw [if_neg (fun k => by cases k.2), hcp]
        unfold dirT at hd
        rw [hcp] at hd
        unfold ensV
        cases h1 : atT s q with
        | none => rw [h1] at hd; cases hd
        | some m =>
          rw [h1] at hd
          simp only at hd ⊢
          rw [if_pos hd]
    · rw [if_neg (fun k => hq k.1), hv]
      have hmem := mem_snoc (P := P) hq
      unfold valP
      rw [fileP_snoc (fun m hm hmp _ => absurd hmp (hno m hm))]
      by_cases hqP : q ∈ P
      · rw [if_pos hqP, if_pos (hmem.2 hqP)]
      · rw [if_neg hqP, if_neg (fun k => hqP (hmem.1 k))]
theorem Okl.run (h : Okl l) {s : List Nd} : ∀ (R P : List S) (c r : List Nd), pathsL l = P ++ R → Okt c → (∀ q, atT c q = valP l s P q) → runF l c R = some r →
    Okt r ∧ ∀ q, atT r q = valP l s (pathsL l) q
  | [], P, c, r, hP, hc, hv, hr => by
    obtain rfl := Option.some.inj hr
    rw [List.append_nil] at hP
    rw [hP]
    exact ⟨hc, hv⟩
  | p :: R, P, c, r, hP, hc, hv, hr => by
    obtain ⟨h1, h2⟩ := h.step hP hc hv
    unfold runF at hr
    split at hr
    · cases hr
    · exact h.run R (P ++ [p]) _ r (by rw [hP]; simp) h1 h2 hr
theorem valP_nil (s : List Nd) (q : S) : valP l s [] q = atT s q := by
  unfold valP
  rw [if_neg (by simp), if_neg]
  unfold fileP
  simp
/-- What is at a path behind it all. -/
theorem Okl.result (h : Okl l) (ht : Okt t) {r : List Nd} (hr : runF l (startF l t) (pathsL l) = some r) : Okt r ∧ ∀ q, atT r q = valP l (startF l t) (pathsL l) q :=
  h.run (pathsL l) [] (startF l t) r rfl (h.start ht) (fun q => (valP_nil _ _).symm) hr
end

end Go.Proofs.YtbkbpdpegiekhaaGreatDoor
