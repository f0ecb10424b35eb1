/- tree: behind. -/
import Derived.Test.YtbkbpdpegiekhaaGreatDoorT2
import Derived.Test.YtbkbpdpegiekhaaGreatDoorR25
/- tree: Check. -/
set_option linter.unusedVariables false
set_option linter.unusedSimpArgs false
namespace Go.Proofs.YtbkbpdpegiekhaaGreatDoor
open Go.RowKit Go.Proofs.YtbkbpdpegiekhaaGreatDoorW.PrintWords Mo

/-- The first that is wrong of nodes; behind all: too many bytes? -/
def checkN : S → List S → List S → Int → List Nd → Int
  | _, _, _, bytes, [] => if 4194304 < bytes then 7 else 0
  | last, dirs, alike, bytes, n :: t => if nodeE n last dirs alike = 0 then checkN n.path (dirsE n dirs) (alike ++ [pFold n.path]) (bytes + n.data.size) t else nodeE n last dirs alike
def checkT (xs : List Nd) : Int := if 4096 < xs.length then 7 else checkN ⟨#[]⟩ [] [] 0 xs
theorem dirsE_len (n : Nd) (dirs : List S) : (dirsE n dirs).length ≤ dirs.length + 1 := by
  unfold dirsE
  split <;> simp

set_option maxRecDepth 100000 in
set_option maxHeartbeats 2000000 in
theorem tree_Check (xs : List Nd) (v : Value) (w : World) (hE : Env w) (hv : Rd kN w v xs) (hx : ∀ n ∈ xs, n.path.size < 1000000000 ∧ n.data.size < 1000000000) :
    Calls Tryz.prog 97 #[v] w fun e w' => e = .returned (.int .i64 (checkT xs)) ∧ Below w.heap.size w w' := by
  have hlen := hv.len
  obtain ⟨A, c, rfl, hl, hc⟩ := hv
  have HE := Aside0.mk hE
  have HX := Aside0.mk hx
  have HC := Aside0.mk hc
  clear hE hx hc
  obtain ⟨n, hn0⟩ : ∃ n, n = xs.length := ⟨_, rfl⟩
  rw [← hn0] at hlen hl ⊢
  have HN := Aside0.mk hn0
  clear hn0
  have hmm := @run_makeMap Tryz.prog
  by_cases hbig : 4096 < n
  · have HA := Aside0.mk (show checkT xs = 7 by unfold checkT; rw [if_pos (by rw [← HN.out]; exact hbig)])
    go_enter Tryz.func97, Tryz.ntmps97
    go_wp2_with fail
    go_ret
    exact ⟨by rw [HA.out]; rfl, Below.refl _ _⟩
  have HT := Aside0.mk (show checkT xs = checkN ⟨#[]⟩ [] [] 0 xs by unfold checkT; rw [if_neg (by rw [← HN.out]; exact hbig)])
  go_enter Tryz.func97, Tryz.ntmps97
  go_wp2_with fail
  go_loopw [16] (fun i wr => ∃ (k : Nat) (last : S) (dirs alike : List S) (bytes : Int), k ≤ n ∧ i = .int .i64 k ∧ dirs.length ≤ k ∧ alike.length = k ∧ 0 ≤ bytes ∧ bytes ≤ (k : Int) * 1000000000 ∧ last.size < 1000000000 ∧
      Aside0 (checkN last dirs alike bytes (xs.drop k) = checkN ⟨#[]⟩ [] [] 0 xs) ∧ Aside0 (Chk w.heap.size wr (w.heap.size + 2) w.heap.size (w.heap.size + 1) dirs alike bytes last) ∧ Aside0 (Below w.heap.size w wr) ∧ w.heap.size ≤ wr.heap.size)
    (fun i _ => n - (intOf i).toNat)
  case atStart =>
    refine ⟨0, ⟨#[]⟩, [], [], 0, Nat.zero_le _, rfl, Nat.zero_le _, rfl, Int.le_refl _, by decide, by decide, ⟨rfl⟩, ⟨?_⟩, ⟨?_⟩, ?_⟩
    · have h1 := Cnt.made w
      have h2 := Cnt.made (w.alloc (.map #[] 0))
      have g2 := ((Grew.refl (w.alloc (.map #[] 0))).alloc (.map #[] 0)).below
      have g3 := ((Grew.refl ((w.alloc (.map #[] 0)).alloc (.map #[] 0))).alloc (.cells #[.map (some w.heap.size), .map (some (w.heap.size + 1)), .int .i64 0, .string ⟨#[]⟩] 186)).below
      refine ⟨?_, ?_, ?_, by omega, by omega⟩
      · have := heap_alloc_new ((w.alloc (.map #[] 0)).alloc (.map #[] 0)) (.cells #[.map (some w.heap.size), .map (some (w.heap.size + 1)), .int .i64 0, .string ⟨#[]⟩] 186)
        simpa using this
      · simpa using (h1.below g2).below g3
      · simpa using h2.below g3
    · exact (((Below.refl w.heap.size w).alloc (Nat.le_refl _) _).alloc (by simp) _).alloc (by simp; omega) _
    · simp; omega
  case round =>
    obtain ⟨k, last, dirs, alike, bytes, hk, rfl, hdl, hal, hb0, hb1, hlast, HA, HK, HB, hws⟩ := hrel
    by_cases hlt : k < n
    · have hk2 : k < xs.length := by rw [← HN.out]; exact hlt
      obtain ⟨ad, rfl, k0, k1, k2, k3, k4⟩ := C_node (Kd.C_below HC.out HB.out) k (by rw [← HN.out]; exact hlt)
      have hp1 := HX.out (xs.getD k Nd.zero) (getD_mem _ _ hk2)
      have HD := Aside0.mk (drop_node xs k hk2)
      obtain ⟨x, hx0⟩ : ∃ x, x = xs.getD k Nd.zero := ⟨_, rfl⟩
      rw [← hx0] at hp1 HD k0 k1 k2 k3 k4
      obtain ⟨hp1, hp2⟩ := hp1
      clear hx0 hk2
      go_wp2_with fail
      have hb0' := ((Grew.refl wr).alloc (.cells #[.string x.path, .bool x.dir, .string x.data, .int .i64 x.mode, .int .i64 x.time] 46)).below
      refine (tree_node x last dirs alike bytes w.heap.size _ _ _ _ ((HE.out.below HB.out).below hb0') (HK.out.below hb0') (by simp; omega) hp1 hlast (by omega) (by omega) hp2 hb0 (by omega)).mono ?_
      rintro e1 w1 ⟨rfl, hb1', hst1⟩
      have HB1 := Aside0.mk ((HB.out.alloc hws (.cells #[.string x.path, .bool x.dir, .string x.data, .int .i64 x.mode, .int .i64 x.time] 46)).trans hb1')
      have HST := Aside0.mk hst1
      clear hb0' hb1' hst1 k0 k1 k2 k3 k4 HK HB
      have hst : checkN last dirs alike bytes (x :: xs.drop (k + 1)) = if nodeE x last dirs alike = 0 then checkN x.path (dirsE x dirs) (alike ++ [pFold x.path]) (bytes + x.data.size) (xs.drop (k + 1)) else nodeE x last dirs alike := rfl
      by_cases ha : nodeE x last dirs alike = 0
      · rw [if_pos ha] at hst
        have HS := Aside0.mk hst
        have HK1 := Aside0.mk (HST.out ha)
        rw [ha]
        clear hst ha HST
        have hde := dirsE_len x dirs
        go_wp2_with fail
        go_roundw
        case rel => exact ⟨k + 1, x.path, dirsE x dirs, alike ++ [pFold x.path], bytes + x.data.size, by omega, by go_num, by omega, by simp [hal], by omega, by omega, hp1, ⟨by rw [← HS.out, ← HD.out]; exact HA.out⟩, HK1, HB1, HB1.out.size⟩
        case measure => simp [intOf]; omega
      · rw [if_neg ha] at hst
        have HS := Aside0.mk (show nodeE x last dirs alike = checkT xs by rw [HT.out, ← HA.out, HD.out, hst])
        have hab : (nodeE x last dirs alike != 0) = true := by simpa using ha
        clear hst ha
        go_wp2_with fail
        go_ret
        exact ⟨by rw [← HS.out]; rfl, HB1.out⟩
    · have hk2 : k = n := by omega
      subst hk2
      have hf : checkT xs = if 4194304 < bytes then 7 else 0 := by
        rw [HT.out, ← HA.out, List.drop_of_length_le (by rw [← HN.out]; exact Nat.le_refl _)]; rfl
      have b2 := blk_cell HK.out.box 2
      clear HA hlt
      by_cases hby : 4194304 < bytes
      · have HF := Aside0.mk (show checkT xs = 7 by rw [hf, if_pos hby])
        clear hf
        go_wp2_with fail
        go_ret
        exact ⟨by rw [HF.out]; rfl, HB.out⟩
      · have HF := Aside0.mk (show checkT xs = 0 by rw [hf, if_neg hby])
        clear hf
        go_wp2_with fail
        go_ret
        exact ⟨by rw [HF.out]; rfl, HB.out⟩

end Go.Proofs.YtbkbpdpegiekhaaGreatDoor

/- tree: a tree in memory; Of, find, behind. -/
set_option linter.unusedVariables false
set_option linter.unusedSimpArgs false
namespace Go.Proofs.YtbkbpdpegiekhaaGreatDoor
open Go.RowKit Go.Proofs.YtbkbpdpegiekhaaGreatDoorW.PrintWords Mo

/-- A tree of the call's own: one cell that holds a row of nodes. -/
structure Tr (base : Nat) (w : World) (tb : Nat) (v : Value) (xs : List Nd) : Prop where
  box : w.heap[tb]? = some (.cells #[v] 208 (0, 0))
  row : Ow kN 46 w base v xs
  lo : base ≤ tb
theorem Tr.below {base : Nat} {w w' : World} {tb : Nat} {v : Value} {xs : List Nd} (h : Tr base w tb v xs) (hb : Below w.heap.size w w') : Tr base w' tb v xs :=
  ⟨(hb.block tb (blk_lt h.box)).trans h.box, h.row.below flat_node hb, h.lo⟩

set_option maxRecDepth 100000 in
set_option maxHeartbeats 2000000 in
theorem tree_Of (xs : List Nd) (v : Value) (w : World) (hE : Env w) (hv : Rd kN w v xs) (hx : ∀ n ∈ xs, n.path.size < 1000000000 ∧ n.data.size < 1000000000) (hsz : xs.length ≤ 1000000000) :
    Calls Tryz.prog 119 #[v] w fun e w' => Below w.heap.size w w' ∧ ((checkT xs ≠ 0 ∧ e = .returned (.tuple #[.pointer none, .int .i64 (checkT xs)])) ∨
      (checkT xs = 0 ∧ ∃ tb u, e = .returned (.tuple #[.pointer (some ⟨tb, 0, none⟩), .int .i64 0]) ∧ Tr w.heap.size w' tb u xs)) := by
  have HC := Aside0.mk (tree_Check xs v w hE hv hx)
  have HV := Aside0.mk hv
  clear hE hx hv
  go_enter Tryz.func119, Tryz.ntmps119
  go_wp2_with fail
  refine HC.out.mono ?_
  rintro e1 w1 ⟨rfl, hb1⟩
  have HB1 := Aside0.mk hb1
  have HV1 := Aside0.mk (HV.out.below hb1)
  clear hb1 HC HV
  by_cases h0 : checkT xs = 0
  · have H0 := Aside0.mk h0
    rw [h0]
    clear h0
    go_wp2_with fail
    refine (clone_nodes xs v _ HV1.out hsz).mono ?_
    rintro e2 w2 ⟨u, rfl, ho, hb2⟩
    have HB2 := Aside0.mk (below_then HB1.out HB1.out.size hb2)
    have HO := Aside0.mk (ho.lower HB1.out.size)
    obtain ⟨A, nn, cc, rfl⟩ := ho.sl
    clear ho hb2
    go_wp2_with fail
    go_ret2
    refine ⟨HB2.out.alloc HB2.out.size _, .inr ⟨H0.out, w2.heap.size, .slice A nn cc, rfl, ⟨heap_alloc_new w2 _, HO.out.below flat_node ((Grew.refl w2).alloc _).below, HB2.out.size⟩⟩⟩
  · have H0 := Aside0.mk h0
    have hne : (checkT xs != 0) = true := by simpa using h0
    clear h0
    go_wp2_with fail
    go_ret2
    exact ⟨HB1.out, .inl ⟨H0.out, rfl⟩⟩

end Go.Proofs.YtbkbpdpegiekhaaGreatDoor

/- tree: find, behind. -/
set_option linter.unusedVariables false
set_option linter.unusedSimpArgs false
namespace Go.Proofs.YtbkbpdpegiekhaaGreatDoor
open Go.RowKit Go.Proofs.YtbkbpdpegiekhaaGreatDoorW.PrintWords Mo

/-- What stands ahead of a path. -/
def loT (xs : List Nd) (p : S) : List Nd := xs.filter fun n => decide (pCmp n.path p < 0)
/-- What doesn't. -/
def hiT (xs : List Nd) (p : S) : List Nd := xs.filter fun n => !decide (pCmp n.path p < 0)
def hasT (xs : List Nd) (p : S) : Bool := xs.any fun n => n.path == p
theorem lo_hi {xs : List Nd} (h : xs.Pairwise ltN) (p : S) : xs = loT xs p ++ hiT xs p := by
  induction xs with
  | nil => rfl
  | cons n t ih =>
    obtain ⟨h1, h2⟩ := List.pairwise_cons.1 h
    unfold loT hiT
    by_cases hn : pCmp n.path p < 0
    · rw [List.filter_cons_of_pos (by simpa using hn), List.filter_cons_of_neg (by simpa using hn), List.cons_append]
      congr 1
      exact ih h2
    · have hl : t.filter (fun n => decide (pCmp n.path p < 0)) = [] := by
        rw [List.filter_eq_nil_iff]
        intro m hm hc
        exact hn (pCmp_trans (h1 m hm) (by simpa using hc))
      rw [List.filter_cons_of_neg (by simpa using hn), List.filter_cons_of_pos (by simpa using hn), hl]
      have := ih h2
      unfold loT hiT at this
      rw [hl, List.nil_append] at this
      rw [List.nil_append, ← this]
theorem found_at {xs : List Nd} (h : xs.Pairwise ltN) (p : S) (i : Nat) (hi : i ≤ xs.length) (h1 : ∀ k, k < i → pCmp (xs.getD k Nd.zero).path p < 0) (h2 : ∀ k, i ≤ k → k < xs.length → 0 ≤ pCmp (xs.getD k Nd.zero).path p) :
    i = (loT xs p).length ∧ (decide (i < xs.length) && (pCmp (xs.getD i Nd.zero).path p == 0)) = hasT xs p := by
  have he := lo_hi h p
  have hlo : ∀ n ∈ loT xs p, pCmp n.path p < 0 := fun n hn => by simpa using (List.mem_filter.1 hn).2
  have hhi : ∀ n ∈ hiT xs p, 0 ≤ pCmp n.path p := fun n hn => by simpa using (List.mem_filter.1 hn).2
  have hi' : i = (loT xs p).length := by
    generalize loT xs p = lo at he hlo ⊢
    generalize hiT xs p = hi0 at he hhi
    subst he
    rcases Nat.lt_trichotomy i lo.length with hlt | heq | hgt
    · exfalso
      have h3 := h2 i (Nat.le_refl _) (by rw [List.length_append]; omega)
      rw [List.getD_eq_getElem?_getD, List.getElem?_append_left hlt, List.getElem?_eq_getElem hlt] at h3
      have := hlo lo[i] (by simp)
      simp only [Option.getD_some] at h3
      omega
    · exact heq
    · exfalso
      have h3 := h1 lo.length hgt
      rw [List.length_append] at hi
      have h0 : 0 < hi0.length := by omega
      rw [List.getD_eq_getElem?_getD, List.getElem?_append_right (Nat.le_refl _), Nat.sub_self, List.getElem?_eq_getElem h0] at h3
      have := hhi hi0[0] (by simp)
      simp only [Option.getD_some] at h3
      omega
  refine ⟨hi', ?_⟩
  by_cases hlt : i < xs.length
  · rw [decide_eq_true hlt, Bool.true_and]
    have hmem := getD_mem xs i hlt
    by_cases hc : pCmp (xs.getD i Nd.zero).path p = 0
    · rw [hc, show ((0 : Int) == 0) = true from rfl]
      symm
      unfold hasT
      rw [List.any_eq_true]
      exact ⟨_, hmem, by simpa using pCmp_eq.1 hc⟩
    · rw [beq_eq_false_iff_ne.2 hc]
      symm
      unfold hasT
      rw [List.any_eq_false]
      intro m hm he2
      have hmp : m.path = p := by simpa using he2
      obtain ⟨k, hk, rfl⟩ := List.getElem_of_mem hm
      have e1 : xs.getD k Nd.zero = xs[k] := by rw [List.getD_eq_getElem?_getD, List.getElem?_eq_getElem hk]; rfl
      have e2 : xs.getD i Nd.zero = xs[i] := by rw [List.getD_eq_getElem?_getD, List.getElem?_eq_getElem hlt]; rfl
      rcases Nat.lt_trichotomy k i with hki | hki | hki
      · have := h1 k hki
        rw [e1, hmp, pCmp_self] at this
        omega
      · subst hki
        rw [e1, hmp, pCmp_self] at hc
        exact hc rfl
      · have hs := List.pairwise_iff_getElem.1 h i k hlt hk hki
        have h3 := h2 i (Nat.le_refl _) hlt
        unfold ltN at hs
        rw [hmp] at hs
        rw [e2] at h3
        omega
  · rw [decide_eq_false hlt, Bool.false_and]
    symm
    unfold hasT
    rw [List.any_eq_false]
    intro m hm he2
    have hmp : m.path = p := by simpa using he2
    obtain ⟨k, hk, rfl⟩ := List.getElem_of_mem hm
    have e1 : xs.getD k Nd.zero = xs[k] := by rw [List.getD_eq_getElem?_getD, List.getElem?_eq_getElem hk]; rfl
    have := h1 k (by omega)
    rw [e1, hmp, pCmp_self] at this
    omega
theorem sorted_mono {xs : List Nd} (h : xs.Pairwise ltN) (p : S) : ∀ a b, a ≤ b → b < xs.length → pCmp (xs.getD b Nd.zero).path p < 0 → pCmp (xs.getD a Nd.zero).path p < 0 := by
  intro a b hab hb hc
  rcases Nat.lt_or_ge a b with hlt | hge
  · have e1 : xs.getD a Nd.zero = xs[a] := by rw [List.getD_eq_getElem?_getD, List.getElem?_eq_getElem (by omega)]; rfl
    have e2 : xs.getD b Nd.zero = xs[b] := by rw [List.getD_eq_getElem?_getD, List.getElem?_eq_getElem hb]; rfl
    have hs := List.pairwise_iff_getElem.1 h a b (by omega) hb hlt
    rw [e1]
    rw [e2] at hc
    exact pCmp_trans hs hc
  · obtain rfl : a = b := by omega
    exact hc

set_option maxRecDepth 100000 in
set_option maxHeartbeats 2000000 in
theorem tree_find (xs : List Nd) (p : S) (base tb : Nat) (v : Value) (w : World) (hE : Env w) (ht : Tr base w tb v xs) (hs : xs.Pairwise ltN) (hx : ∀ n ∈ xs, n.path.size < 4294967281) (hp : p.size < 4294967281) (hsz : xs.length ≤ 1000000000) :
    Calls Tryz.prog 225 #[.pointer (some ⟨tb, 0, none⟩), .string p] w fun e w' => e = .returned (.tuple #[.int .i64 (loT xs p).length, .bool (hasT xs p)]) ∧ Below w.heap.size w w' := by
  have HS := Aside0.mk (search_nodes xs p v w hE ht.row.rd hx hp hsz (sorted_mono hs p))
  have HF := Aside0.mk (found_at hs p)
  have c0 := blk_cell ht.box 0
  obtain ⟨A, nn, cc, rfl⟩ := ht.row.sl
  clear hE hs hx ht
  go_enter Tryz.func225, Tryz.ntmps225
  go_wp2_with fail
  refine HS.out.mono ?_
  rintro e1 w1 ⟨i, hi, h1, h2, rfl, hg⟩
  obtain ⟨hi1, hi2⟩ := HF.out i hi h1 h2
  have HB := Aside0.mk hg.below
  rw [hi2]
  clear h1 h2 hg HS HF hi2
  go_wp2_with fail
  go_ret2
  exact ⟨rfl, HB.out⟩

end Go.Proofs.YtbkbpdpegiekhaaGreatDoor

set_option linter.unusedVariables false
set_option linter.unusedSimpArgs false
namespace Go.Proofs.YtbkbpdpegiekhaaGreatDoor
open Go.RowKit Go.Proofs.YtbkbpdpegiekhaaGreatDoorW.PrintWords Mo

/-- How many stand below a path, one behind the other. -/
def belowT (p : S) (l : List Nd) : Nat := (l.takeWhile fun n => pUnder n.path p).length
theorem belowT_cons (p : S) (n : Nd) (l : List Nd) : belowT p (n :: l) = if pUnder n.path p then belowT p l + 1 else 0 := by
  unfold belowT
  rw [List.takeWhile_cons]
  cases pUnder n.path p <;> rfl
theorem belowT_le (p : S) (l : List Nd) : belowT p l ≤ l.length := (List.takeWhile_prefix _).length_le

set_option maxRecDepth 100000 in
set_option maxHeartbeats 2000000 in
theorem tree_behind (xs : List Nd) (p : S) (start : Nat) (base tb : Nat) (v : Value) (w : World) (ht : Tr base w tb v xs) (hx : ∀ n ∈ xs, n.path.size < 4294967281) (hp : p.size < 4294967281) (hsz : xs.length ≤ 1000000000) (hst : start ≤ xs.length) :
    Calls Tryz.prog 227 #[.pointer (some ⟨tb, 0, none⟩), .string p, .int .i64 start] w fun e w' => e = .returned (.int .i64 ((start + belowT p (xs.drop start) : Nat) : Int)) ∧ Below w.heap.size w w' := by
  have HT := Aside0.mk ht
  have c0 := blk_cell ht.box 0
  obtain ⟨A, c, rfl, hl, hc⟩ := ht.row.rd
  have HC := Aside0.mk hc
  clear ht hx hc
  obtain ⟨n, hn0⟩ : ∃ n, n = xs.length := ⟨_, rfl⟩
  rw [← hn0] at hsz hl hst c0
  have HN := Aside0.mk hn0
  have HU := Aside0.mk fun (q : S) (W : World) => route_Under q p W hp
  clear hn0
  go_enter Tryz.func227, Tryz.ntmps227
  go_wp2_with fail
  go_loopw [2] (fun i wr => ∃ (k : Nat), k ≤ n ∧ i = .int .i64 k ∧ wr = w ∧ Aside0 (start + belowT p (xs.drop start) = k + belowT p (xs.drop k)))
    (fun i _ => n - (intOf i).toNat)
  case atStart => exact ⟨start, hst, rfl, rfl, ⟨rfl⟩⟩
  case round =>
    obtain ⟨k, hk, rfl, rfl, HA⟩ := hrel
    by_cases hlt : k < n
    · have hk2 : k < xs.length := by rw [← HN.out]; exact hlt
      obtain ⟨ad, rfl, k0, _⟩ := C_node HC.out k (by rw [← HN.out]; exact hlt)
      have HD := Aside0.mk (drop_node xs k hk2)
      obtain ⟨x, hx0⟩ : ∃ x, x = xs.getD k Nd.zero := ⟨_, rfl⟩
      rw [← hx0] at HD k0
      clear hx0 hk2
      cases hu : pUnder x.path p
      · have HE := Aside0.mk (show start + belowT p (xs.drop start) = k by rw [HA.out, HD.out, belowT_cons, hu]; rfl)
        have HUx := Aside0.mk (HU.out x.path wr)
        rw [hu] at HUx
        clear hu
        go_wp2_with (go_at_call 129; refine HUx.out.mono ?_; rintro e w' ⟨rfl, rfl⟩)
        go_ret
        exact ⟨by rw [HE.out]; rfl, Below.refl _ _⟩
      · have HE := Aside0.mk (show start + belowT p (xs.drop start) = (k + 1) + belowT p (xs.drop (k + 1)) by rw [HA.out, HD.out, belowT_cons, hu, if_pos rfl]; omega)
        have HUx := Aside0.mk (HU.out x.path wr)
        rw [hu] at HUx
        clear hu
        go_wp2_with (go_at_call 129; refine HUx.out.mono ?_; rintro e w' ⟨rfl, rfl⟩)
        go_roundw
        case rel => exact ⟨k + 1, by omega, by go_num, trivial, HE⟩
        case measure => simp [intOf]; omega
    · have hk2 : k = n := by omega
      subst hk2
      have HE := Aside0.mk (show start + belowT p (xs.drop start) = k by
        rw [HA.out, List.drop_of_length_le (by rw [← HN.out]; exact Nat.le_refl _)]; rfl)
      clear HA hlt
      go_wp2_with fail
      go_ret
      exact ⟨by rw [HE.out]; rfl, Below.refl _ _⟩

end Go.Proofs.YtbkbpdpegiekhaaGreatDoor
