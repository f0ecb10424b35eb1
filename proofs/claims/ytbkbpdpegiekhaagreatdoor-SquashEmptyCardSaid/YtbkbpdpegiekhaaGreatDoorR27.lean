/- Rows of nodes, put in order of their paths. -/
import Derived.Test.YtbkbpdpegiekhaaGreatDoorR23
import Derived.Laws.ResultCell
set_option linter.unusedVariables false
set_option linter.unusedSimpArgs false
namespace Mo
open Go
open Go.Proofs.YtbkbpdpegiekhaaGreatDoor (Nd)
def leN (x y : Nd) : Bool := !decide (pCmp y.path x.path < 0)
def sortNd (xs : List Nd) : List Nd := xs.mergeSort leN
def ltN (x y : Nd) : Prop := pCmp x.path y.path < 0
theorem leN_leS (x y : Nd) : leN x y = leS x.path y.path := rfl
theorem leN_trans (a b c : Nd) (h1 : leN a b = true) (h2 : leN b c = true) : leN a c = true := leS_trans _ _ _ h1 h2
theorem leN_total (a b : Nd) : (leN a b || leN b a) = true := leS_total _ _
/-- Nodes whose paths are apart: in order there is one row of them. -/
theorem sortNd_eq {xs zs : List Nd} (hp : zs.Perm xs) (hs : zs.Pairwise fun a b => leN a b = true) (hd : xs.Pairwise fun a b => a.path ≠ b.path) : zs = sortNd xs := by
  have h1 : (sortNd xs).Perm xs := List.mergeSort_perm xs leN
  have h2 : (sortNd xs).Pairwise fun a b => leN a b = true := List.pairwise_mergeSort leN_trans leN_total xs
  have hz : zs.Pairwise fun a b => a.path ≠ b.path := (hp.pairwise_iff (fun h => Ne.symm h)).2 hd
  refine List.Perm.eq_of_pairwise (le := fun a b => leN a b = true) ?_ hs h2 (hp.trans h1.symm)
  intro a b ha hb hab hba
  have e : a.path = b.path := by
    rw [leN_leS, leS_iff] at hab hba
    have := pCmp_neg a.path b.path
    exact pCmp_eq.1 (by omega)
  have ha' := hp.mem_iff.1 ha
  have hb' := h1.mem_iff.1 hb
  exact Classical.byContradiction fun hne => (List.Pairwise.forall_of_forall_of_flip (R := fun a b : Nd => a = b ∨ a.path ≠ b.path) (l := xs) (fun x _ => .inl rfl) (hd.imp fun h => .inr h) (hd.imp fun h => .inr (Ne.symm h)) ha' hb').elim hne (fun h => h e)
end Mo
namespace Go.Proofs.YtbkbpdpegiekhaaGreatDoor
open Go.RowKit Go.Proofs.YtbkbpdpegiekhaaGreatDoorW.PrintWords Mo Go.Sort

/-- A node of a path that is not great. -/
abbrev Nt := {n : Nd // n.path.size < 4294967281}
instance : Inhabited Nt := ⟨⟨Nd.zero, by decide⟩⟩
def cmpN (x y : Nt) : Int := pCmp x.1.path y.1.path
theorem swoN : Sort.SWO (ltOf cmpN) := by
  have h := swo
  exact ⟨fun x => h.irrefl ⟨x.1.path, x.2⟩, fun x y z => h.trans ⟨x.1.path, x.2⟩ ⟨y.1.path, y.2⟩ ⟨z.1.path, z.2⟩, fun x y z => h.ntrans ⟨x.1.path, x.2⟩ ⟨y.1.path, y.2⟩ ⟨z.1.path, z.2⟩⟩
abbrev encN (x : Nt) : List Value := cN x.1

theorem adds_cmp (a b : Nd) (w : World) (hE : Env w) (h1 : a.path.size < 4294967281) (h2 : b.path.size < 4294967281) :
    Calls Tryz.prog 148 #[vN a, vN b] w fun e w' => e = .returned (.int .i64 (pCmp a.path b.path)) ∧ Grew w w' := by
  have hE' : ∀ o o', Env ((w.alloc o).alloc o') := fun o o' => hE.grew (((Grew.refl w).alloc o).alloc o')
  have HE := Aside0.mk hE'
  clear hE hE'
  go_enter Tryz.func148, Tryz.ntmps148
  go_wp2_with fail
  refine (route_Compare _ _ _ (HE.out _ _) h1 h2).mono ?_
  rintro e w1 ⟨rfl, hg⟩
  have HG := Aside0.mk ((((Grew.refl w).alloc _).alloc _).trans hg)
  clear hg
  go_wp2_with fail
  go_ret
  exact ⟨rfl, HG.out⟩

theorem below_sortWorldK {α : Type} [Inhabited α] (enc : α → List Value) (k : Nat) (w : World) (blk m : Nat) (dk : Array α) (os : Array Obj) (h : blk < w.heap.size) : Below blk w (sortWorldK enc k w blk 0 m dk os) := by
  have h1 : Below blk w (Sort.putRow id (Sort.ahead w m) blk 0 (flatK enc k dk)) := Lib.below_putRow (Below.refl _ _) (Nat.le_refl _)
  exact h1.trans (below_grow blk _ os (by have := h1.size; omega))
theorem adds_lays (blk size : Nat) (w : World) (hE : Env w) (hz : 2 < blk) (hlt : blk < w.heap.size) : CmpLays Tryz.prog 148 #[] encN 5 cmpN blk 0 size w := by
  intro m os dk hs x y
  refine (adds_cmp x.1 y.1 _ (hE.belowB (below_sortWorldK encN 5 w blk m dk os hlt) hz) x.2 y.2).mono ?_
  rintro e w' ⟨rfl, hg⟩
  exact ⟨rfl, hg.eq⟩

theorem grown_sortWorldK {α : Type} [Inhabited α] (enc : α → List Value) (k : Nat) (w : World) (blk m : Nat) (dk : Array α) (os : Array Obj) : w.grownBy (sortWorldK enc k w blk 0 m dk os) (some blk) := by
  refine ⟨rfl, rfl, rfl, by simp [sortWorldK, Sort.grow, putRowK, Sort.putRow, Sort.mapBlock, Sort.ahead], fun i hi hne => ?_⟩
  have h : blk ≠ i := fun e => hne (by rw [e])
  simp only [sortWorldK, Sort.grow, putRowK, Sort.putRow, Sort.mapBlock, Sort.ahead]
  rw [Array.getElem?_append, if_pos (by simpa using hi), Array.getElem?_modify]
  simp [h]
/-- Cells in a row, put into the row's block. -/
theorem own_putCells {w : World} {base : Nat} {e : TypeId} {g n cap q s : Nat} {xs F : List Value} (h : w.ownsRow base e s (.slice (some ⟨g, 0, none⟩) n cap) n xs) (hF : F.length = n * s) :
    (Sort.putRow id (Sort.ahead w q) g 0 F.toArray).ownsRow base e s (.slice (some ⟨g, 0, none⟩) n cap) n F := by
  rcases h.2 with ⟨e0, _⟩ | ⟨g', cap', cur, e0, hb, hg, hn, hm, hs, ht⟩
  · cases e0
  · injection e0 with e1 _ e3
    injection e1 with e1
    injection e1 with e1
    subst e1; subst e3
    refine ⟨hF, .inr ⟨g, cap, Sort.putCells id 0 F.toArray cur, rfl, hb, ?_, hn, hm, by simpa [Sort.putCells] using hs, ?_⟩⟩
    · simp [Sort.putRow, Sort.mapBlock, Sort.ahead, Array.getElem?_modify, hg, Sort.onCells]
    · apply List.ext_getElem?
      intro j
      rw [List.getElem?_take, Array.getElem?_toList]
      by_cases hj : j < n * s
      · have hns : n * s ≤ cap * s := Nat.mul_le_mul_right _ hn
        have hjc : j < cur.size := by omega
        simp only [if_pos hj, Sort.putCells, Array.getElem?_mapIdx, Array.getElem?_eq_getElem hjc, Option.map_some]
        rw [if_pos (by simp; omega), List.getElem?_eq_getElem (by omega)]
        simp [getElem!_pos, show j < F.length by omega]
      · rw [if_neg hj, List.getElem?_eq_none (by omega)]
theorem own_holds {w : World} {base : Nat} {e : TypeId} {v : Value} {n s : Nat} {xs : List Value} (h : w.ownsRow base e s v n xs) (hv : v ≠ .slice none 0 0) :
    ∃ g cap, v = .slice (some ⟨g, 0, none⟩) n cap ∧ base ≤ g ∧ g < w.heap.size ∧ n ≤ cap ∧ Sort.Holds id w g 0 xs.toArray := by
  rcases h.2 with ⟨e0, _⟩ | ⟨g, cap, cur, rfl, hb, hg, hn, hm, hs, ht⟩
  · exact absurd e0 hv
  · refine ⟨g, cap, rfl, hb, blk_lt hg, hn, fun j hj => ?_⟩
    have hj' : j < xs.length := by simpa using hj
    have hl := h.1
    refine ⟨?_, blk_frozen hg _⟩
    have e1 : (cur.toList.take (n * s))[j]? = xs[j]? := by rw [ht]
    rw [List.getElem?_take, if_pos (by omega), Array.getElem?_toList, List.getElem?_eq_getElem hj'] at e1
    rw [blk_cell hg, Nat.zero_add, e1]
    simp [getElem!_pos, hj']
theorem reps_nodes {w : World} {xs : List Nd} {inner : List Value} (h : Reps (kN.K w) 5 xs inner) : ∀ t, t < xs.length * 5 → inner[t]? = (cN (xs.getD (t / 5) Nd.zero))[t % 5]? := by
  intro t ht
  have hlt : t / 5 < xs.length := by omega
  have h2 := kN_open (h.2 (t / 5) xs[t / 5] (List.getElem?_eq_getElem hlt))
  have h3 : ((inner.drop (t / 5 * 5)).take 5)[t % 5]? = inner[t]? := by
    rw [List.getElem?_take, if_pos (by omega), List.getElem?_drop]
    congr 1
    omega
  rw [← h3, h2, List.getD_eq_getElem?_getD, List.getElem?_eq_getElem hlt]
  rfl
theorem flat_nodes (ts : List Nt) {w : World} {inner : List Value} (h : Reps (kN.K w) 5 (ts.map Subtype.val) inner) : flatK encN 5 ts.toArray = inner.toArray := by
  have hl : inner.length = ts.length * 5 := by rw [h.1, List.length_map]
  apply Array.ext
  · simp [hl]
  · intro t h1 h2
    have ht : t < ts.length * 5 := by simpa using h1
    have hq := reps_nodes h t (by rw [List.length_map]; exact ht)
    rw [List.getElem?_eq_getElem (by omega)] at hq
    have hg := get_flatK encN 5 ts.toArray t (by simpa using ht)
    rw [getElem!_pos _ t h1] at hg
    rw [hg]
    have hlt : t / 5 < ts.length := by omega
    have e : (ts.map Subtype.val).getD (t / 5) Nd.zero = ts[t / 5].1 := by
      rw [List.getD_eq_getElem?_getD, List.getElem?_map, List.getElem?_eq_getElem hlt]; rfl
    rw [e] at hq
    have e2 : ts.toArray[t / 5]! = ts[t / 5] := by rw [getElem!_pos _ (t / 5) (by simpa using hlt)]; simp
    rw [e2]
    have hm : t % 5 < (cN ts[t / 5].1).length := by show t % 5 < 5; omega
    rw [List.getElem?_eq_getElem hm] at hq
    rw [getElem!_pos _ (t % 5) hm]
    simpa using (Option.some.inj hq).symm
theorem nodes_reps {w : World} (xs : List Nd) : ∃ inner, Reps (kN.K w) 5 xs inner ∧ inner.length = xs.length * 5 := by
  induction xs with
  | nil => exact ⟨[], Reps.none _ _, rfl⟩
  | cons x t ih =>
    obtain ⟨inner, h, hl⟩ := ih
    have := Reps.app (reps_single (kN_mk w x)) h
    exact ⟨_, this, by rw [List.length_append, hl]; simp; omega⟩

/-- slices.SortFunc at a row of nodes of the call's own. -/
theorem sort_nodes (xs : List Nd) (v : Value) (base : Nat) (w : World) (hE : Env w) (hb : 2 < base) (ho : Ow kN 46 w base v xs) (hx : ∀ n ∈ xs, n.path.size < 4294967281) (hsz : xs.length ≤ 1000000000000) (hd : xs.Pairwise fun a b => a.path ≠ b.path) :
    Calls Tryz.prog 147 #[v, .func (.func 148) #[] #[]] w fun e w' => e = .returned (.tuple #[]) ∧ Ow kN 46 w' base v (sortNd xs) ∧ Below base w w' ∧ w.grownBy w' v.ownBlock := by
  by_cases hv : v = .slice none 0 0
  · subst hv
    have h0 : xs = [] := by
      obtain ⟨A, c, e, _⟩ := ho.slice
      injection e with _ e2 _
      exact List.eq_nil_of_length_eq_zero e2.symm
    subst h0
    refine (AnyF.slices_SortFunc_none Tryz.sortN none 0 _ w).mono ?_
    rintro e w' ⟨rfl, rfl⟩
    exact ⟨rfl, by rw [show sortNd [] = [] from List.eq_nil_of_length_eq_zero (List.length_mergeSort _)]; exact ho, Below.refl _ _, ⟨rfl, rfl, rfl, Nat.le_refl _, fun _ _ _ => rfl⟩⟩
  obtain ⟨ts, rfl⟩ : ∃ ts : List Nt, ts.map Subtype.val = xs := by
    refine ⟨xs.attach.map fun s => ⟨s.1, hx s.1 s.2⟩, ?_⟩
    rw [List.map_map]
    exact List.attach_map_subtype_val xs
  obtain ⟨inner, hown, hr⟩ := ho
  have hown : w.ownsRow base 46 5 v (ts.map Subtype.val).length inner := hown
  have hr : Reps (kN.K w) 5 (ts.map Subtype.val) inner := hr
  obtain ⟨g, cap, rfl, hbg, hlt, hcap, hH⟩ := own_holds hown hv
  rw [List.length_map] at hsz hown hcap ⊢
  rw [← flat_nodes ts hr] at hH
  have key := AnyQ.slices_SortFunc Tryz.sortN 5 (fun w => Tryz.isAgg46 w) (fun w => Tryz.sizeOf46 w) encN (fun _ => rfl) (fun x u hu => by simp [cN] at hu; rcases hu with rfl | rfl | rfl | rfl | rfl <;> rfl) cmpN swoN 148 #[] g 0 cap ts.toArray w (enters_of Tryz.func148 (by kernel_rfl) rfl) (adds_lays g ts.toArray.size w hE (by omega) hlt) hH hlt (by simp; omega)
  rw [List.size_toArray] at key
  refine key.mono ?_
  rintro e w' ⟨rfl, d', n, os, hperm, hsort, rfl⟩
  have hB := below_sortWorldK encN 5 w g n d' os hlt
  refine ⟨rfl, ?_, below_lower hB hbg, grown_sortWorldK encN 5 w g n d' os⟩
  have hsz' : d'.size = ts.length := by have := hperm.1; simpa using this
  have hp : (d'.toList.map Subtype.val).Perm (ts.map Subtype.val) := by
    have h := hperm.2.2
    have e1 : d'.extract 0 ts.length = d' := by rw [← hsz']; simp
    have e2 : ts.toArray.extract 0 ts.length = ts.toArray := by simp
    rw [e1, e2] at h
    exact h.map _
  have hs : (d'.toList.map Subtype.val).Pairwise fun a b => leN a b = true := by
    rw [List.pairwise_map, List.pairwise_iff_getElem]
    intro i j hi hj hij
    have hi' : i < d'.size := by simpa using hi
    have hj' : j < d'.size := by simpa using hj
    have h := hsort i j (Nat.zero_le _) hij (by omega)
    rw [getElem!_pos _ i hi', getElem!_pos _ j hj'] at h
    unfold leN
    unfold ltOf cmpN at h
    rw [Array.getElem_toList, Array.getElem_toList, h]
    rfl
  have heq := sortNd_eq hp hs hd
  obtain ⟨inner', hr', hl'⟩ := nodes_reps (w := w) (d'.toList.map Subtype.val)
  have hfl := flat_nodes d'.toList hr'
  rw [Array.toArray_toList] at hfl
  have hlen : (d'.toList.map Subtype.val).length = ts.length := by rw [List.length_map, Array.length_toList, hsz']
  have ho2 : Ow kN 46 (Sort.putRow id (Sort.ahead w n) g 0 inner'.toArray) base (.slice (some ⟨g, 0, none⟩) ts.length cap) (sortNd (ts.map Subtype.val)) := by
    rw [← heq]
    refine ⟨inner', ?_, hr'.imp_ fun _ _ hk => flat_node.free hk⟩
    rw [hlen]
    exact own_putCells hown (by rw [hl', hlen]; rfl)
  have ho3 := ho2.below flat_node (below_grow _ _ os (Nat.le_refl _))
  rw [← hfl] at ho3
  exact ho3

end Go.Proofs.YtbkbpdpegiekhaaGreatDoor

/- slices.Clone at nodes; squash: adds. -/
set_option linter.unusedVariables false
set_option linter.unusedSimpArgs false
namespace Go.Proofs.YtbkbpdpegiekhaaGreatDoor
open Go.RowKit Go.Proofs.YtbkbpdpegiekhaaGreatDoorW.PrintWords Mo

theorem eql_nil22 (w : World) (a : Option Addr) (n c n' c' : Nat) : (binOp .eql 22 (.slice a n c) (.slice none n' c')).run Tryz.prog w = .ok (.bool a.isNone) w := Lib.run_eql_slice_nil w _ _ a n c n' c' Tryz.underlying22

set_option maxHeartbeats 1000000 in
theorem clone_nodes (xs : List Nd) (v : Value) (w : World) (hv : Rd kN w v xs) (hsz : xs.length ≤ 1000000000) :
    Calls Tryz.prog 131 #[v] w fun e w' => ∃ v', e = .returned v' ∧ Ow kN 46 w' w.heap.size v' xs ∧ Below w.heap.size w w' := by
  obtain ⟨A, c, rfl, hl, hc⟩ := hv
  cases A with
  | none =>
    have h0 : xs = [] := by
      rcases C_flat hc (by decide) with h | ⟨b, off, e, _⟩
      · exact h
      · cases e
    subst h0
    refine (AnyE.slices_Clone_nil Tryz.cloneN 0 c w).mono ?_
    rintro e w' ⟨rfl, rfl⟩
    exact ⟨_, rfl, Ow.nil _ _ _ _, Below.refl _ _⟩
  | some ad =>
    have HC := Aside0.mk hc
    clear hc
    have hq := eql_nil22
    obtain ⟨n, hn0⟩ : ∃ n, n = xs.length := ⟨_, rfl⟩
    rw [← hn0] at hl hsz ⊢
    have HN := Aside0.mk hn0
    clear hn0
    have hO : Ow kN 46 (w.alloc (.cells #[] 46)) w.heap.size (.slice (some ⟨w.heap.size, 0, none⟩) 0 0) [] := ⟨[], ⟨rfl, .inr ⟨w.heap.size, 0, #[], rfl, Nat.le_refl _, heap_alloc_new _ _, Nat.le_refl _, Nat.zero_le _, rfl, rfl⟩⟩, Reps.none _ _⟩
    have HO := Aside0.mk hO
    clear hO
    go_enter Tryz.func131, Tryz.ntmps131
    go_wp2_with (at_builtin; refine Ow.app kN flat_node _ w.heap.size rfl _ _ 22 46 (.agg #[(.string ⟨#[]⟩), (.bool false), (.string ⟨#[]⟩), (.int .i64 0), (.int .i64 0)]) 56 rfl Tryz.underlying22 info46 rfl (by decide) _ [] xs rfl (some ad) c (by rw [← HN.out]; rfl) ?hC ?hO ?hB ?hL ?_; (case hC => exact Kd.C_below HC.out ((Grew.refl w).alloc _).below); (case hO => exact HO.out); (case hB => simp); (case hL => rw [← HN.out]; simp; omega); intro v1' w2 ho hgg hat; have HB1 := Aside0.mk (Below.grown ((Grew.refl w).alloc (.cells #[] 46)).below hgg (by simp) HO.out.base_le); have HO1 := Aside0.mk ho; clear ho hgg hat)
    go_ret
    exact ⟨_, rfl, HO1.out, HB1.out⟩

end Go.Proofs.YtbkbpdpegiekhaaGreatDoor

/- squash: adds. -/
set_option linter.unusedVariables false
set_option linter.unusedSimpArgs false
namespace Go.Proofs.YtbkbpdpegiekhaaGreatDoor
open Go.RowKit Go.Proofs.YtbkbpdpegiekhaaGreatDoorW.PrintWords Mo

def goneB (y : Ly) (n : Nd) : Bool := !overB y n.path && (!n.dir && isDirB y n.path)
def keepB (y : Ly) (n : Nd) : Bool := !overB y n.path && !(!n.dir && isDirB y n.path) && !(lastAt y.adds n.path).isSome
def goneS (y : Ly) (xs : List Nd) : List S := (xs.filter (goneB y)).map (·.path)
/-- Adds of both. -/
def bothN (y : Ly) (xs : List Nd) : List Nd := y.adds ++ xs.filter (keepB y)

theorem lastAt_none {xs : List Nd} {p : S} (h : lastAt xs p = none) : ∀ n ∈ xs, n.path ≠ p := by
  intro n hn e
  unfold lastAt at h
  have := List.find?_eq_none.1 h n (List.mem_reverse.2 hn)
  simp [e] at this
theorem ltN_ne {a b : Nd} (h : ltN a b) : a.path ≠ b.path := fun e => by
  unfold ltN at h
  rw [e, pCmp_self] at h
  omega
theorem both_apart {y : Ly} {xs : List Nd} (hy : y.adds.Pairwise ltN) (hx : xs.Pairwise ltN) : (bothN y xs).Pairwise fun a b => a.path ≠ b.path := by
  unfold bothN
  rw [List.pairwise_append]
  refine ⟨hy.imp ltN_ne, (hx.filter _).imp ltN_ne, fun a ha b hb e => ?_⟩
  have hk := (List.mem_filter.1 hb).2
  unfold keepB at hk
  rw [Bool.and_eq_true, Bool.not_eq_true'] at hk
  have hn : lastAt y.adds b.path = none := Option.not_isSome_iff_eq_none.1 (by rw [hk.2]; decide)
  exact lastAt_none hn a ha e

/-- What the loop of adds keeps. -/
structure AS (w wr : World) (g : Nat) (y : Ly) (vo vg : Value) (out : List Nd) (gone : List S) : Prop where
  out : Ow kN 46 wr w.heap.size vo out
  gone : Ow Kd.string 9 wr w.heap.size vg gone
  sec : Sec wr g y
  gb : g < w.heap.size
  below : Below w.heap.size w wr
theorem AS.step {w wr wr' : World} {g : Nat} {y : Ly} {vo vg : Value} {out : List Nd} {gone : List S} (h : AS w wr g y vo vg out gone) (hb : Below wr.heap.size wr wr') : AS w wr' g y vo vg out gone :=
  ⟨h.out.below flat_node hb, h.gone.below flat_string hb, h.sec.below hb, h.gb, below_then h.below h.below.size hb⟩

theorem ow_apart {α β : Type} {d : Kd α} {d' : Kd β} {e e' : Nat} {w : World} {base base' : Nat} {v v' : Value} {xs : List α} {ys : List β} (h : Ow d e w base v xs) (h' : Ow d' e' w base' v' ys) (hne : e ≠ e') : v.ownBlock = none ∨ v.ownBlock ≠ v'.ownBlock := by
  by_cases hv : v.ownBlock = none
  · exact .inl hv
  · right
    intro heq
    obtain ⟨k, hk⟩ := Option.ne_none_iff_exists'.1 hv
    obtain ⟨c, hc⟩ := h.typed k hk
    exact h'.ne_type hc (Ne.symm hne) (by rw [← heq]; exact hk)
theorem AS.putOut {w wr W w' : World} {g : Nat} {y : Ly} {vo vg vo' : Value} {out out' : List Nd} {gone : List S} (hs : Sec w g y) (h : AS w W g y vo vg out gone) (ho : Ow kN 46 w' w.heap.size vo' out') (hg : W.grownBy w' vo.ownBlock) : AS w w' g y vo' vg out' gone := by
  have hb : Below w.heap.size w w' := h.below.grown hg h.below.size (fun k hk => h.out.base_le k hk)
  exact ⟨ho, h.gone.grown flat_string hg (ow_apart h.gone h.out (by decide)), hs.below hb, h.gb, hb⟩
theorem AS.putGone {w wr W w' : World} {g : Nat} {y : Ly} {vo vg vg' : Value} {out : List Nd} {gone gone' : List S} (hs : Sec w g y) (h : AS w W g y vo vg out gone) (ho : Ow Kd.string 9 w' w.heap.size vg' gone') (hg : W.grownBy w' vg.ownBlock) : AS w w' g y vo vg' out gone' := by
  have hb : Below w.heap.size w w' := h.below.grown hg h.below.size (fun k hk => h.gone.base_le k hk)
  exact ⟨h.out.grown flat_node hg (ow_apart h.out h.gone (by decide)), ho, hs.below hb, h.gb, hb⟩

set_option maxHeartbeats 8000000 in
set_option maxRecDepth 100000 in
theorem sec_adds (y x : Ly) (g : Nat) (va vw vo : Value) (w : World) (hE : Env w) (hs : Sec w g y) (hy : Lb y) (hr : RdL w va vw vo x) (hx : Lb x) (hys : y.adds.Pairwise ltN) (hxs : x.adds.Pairwise ltN) :
    Calls Tryz.prog 84 #[.pointer (some ⟨g, 0, none⟩), .agg #[va, vw, vo]] w fun e w' => ∃ v1 v2, e = .returned (.tuple #[v1, v2]) ∧ Ow kN 46 w' w.heap.size v1 (sortNd (bothN y x.adds)) ∧ Ow Kd.string 9 w' w.heap.size v2 (goneS y x.adds) ∧ Below w.heap.size w w' := by
  have HE := Aside0.mk (fun W (hb : Below w.heap.size w W) => hE.below hb)
  have hes := hE.size
  have HS := Aside0.mk hs
  have HY := Aside0.mk hy
  have HX := Aside0.mk hx
  have HAp := Aside0.mk (both_apart hys hxs)
  obtain ⟨ya, yw, yo, ym, yf, ye, hsec, hyr, _⟩ := hs
  have HYR := Aside0.mk hyr
  have hgl := blk_lt hsec
  obtain ⟨Aya, nya, cya, rfl⟩ := hyr.1.sl
  obtain ⟨Ayw, nyw, cyw, rfl⟩ := hyr.2.1.sl
  obtain ⟨Ayo, nyo, cyo, rfl⟩ := hyr.2.2.sl
  obtain ⟨A, ca, rfl, hca, hCa⟩ := hr.1
  obtain ⟨Wp, nw, cw, rfl⟩ := hr.2.1.sl
  obtain ⟨Op, no, co, rfl⟩ := hr.2.2.sl
  have HCa := Aside0.mk hCa
  have hna := hx.na
  have hyn := hy.na
  have k0 := blk_cell hsec 0
  have k1 : ∀ o, (w.alloc o).cell? ⟨g, 0, none⟩ = _ := fun o => blk_cell (blk_lt' hsec o) 0
  clear hE hy hx hyr hr hCa hys hxs hsec
  obtain ⟨na, hna0⟩ : ∃ n, n = x.adds.length := ⟨_, rfl⟩
  rw [← hna0] at hna hca ⊢
  have HNa := Aside0.mk hna0
  clear hna0
  go_enter Tryz.func84, Tryz.ntmps84
  go_wp2_with fail
  have hb0 := ((Grew.refl w).alloc (.cells #[.slice A na ca, .slice Wp nw cw, .slice Op no co] 25)).below
  have hl0 := heap_alloc_new w (.cells #[.slice A na ca, .slice Wp nw cw, .slice Op no co] 25)
  refine (clone_nodes y.adds _ _ (HYR.out.1.below hb0) (by omega)).mono ?_
  rintro e1 w1 ⟨v1, rfl, ho1, hb1⟩
  have HA := Aside0.mk (show AS w w1 g y v1 (.slice none 0 0) y.adds [] from ⟨ho1.lower (by simp), Ow.nil _ _ _ _, (HS.out.below hb0).below hb1, hgl, below_then hb0 hb0.size hb1⟩)
  have c0 := blk_cell ((hb1.block w.heap.size (by simp)).trans hl0) 0
  clear hb0 hl0 ho1 hb1 k0 k1
  go_wp2_with fail
  go_loopw [6, 7, 21] (fun v1 v2 i wr => ∃ (k : Nat) (out : List Nd) (gone : List S), k ≤ na ∧ i = .int .i64 k ∧ Aside0 (out ++ (x.adds.drop k).filter (keepB y) = bothN y x.adds) ∧ Aside0 (gone ++ ((x.adds.drop k).filter (goneB y)).map (·.path) = goneS y x.adds) ∧ out.length ≤ 100000 + k ∧ gone.length ≤ k ∧ Aside0 (AS w wr g y v1 v2 out gone))
    (fun v1 v2 i _ => na - (intOf i).toNat)
  case atStart => exact ⟨0, y.adds, [], Nat.zero_le _, rfl, ⟨rfl⟩, ⟨rfl⟩, by omega, Nat.zero_le _, HA⟩
  case round =>
    clear c0 HA
    obtain ⟨k, out, gone, hk, rfl, HO, HG, hol, hgl2, HA⟩ := hrel
    by_cases hlt : k < na
    · have hk2 : k < x.adds.length := by rw [← HNa.out]; exact hlt
      obtain ⟨ad, rfl, k0, k1, k2, k3, k4⟩ := C_node (Kd.C_below HCa.out HA.out.below) k hk2
      have hp1 := HX.out.a (x.adds.getD k Nd.zero) (getD_mem _ _ hk2)
      have HDr := Aside0.mk (drop_node x.adds k hk2)
      obtain ⟨n, hn0⟩ : ∃ n, n = x.adds.getD k Nd.zero := ⟨_, rfl⟩
      rw [← hn0] at hp1 HDr k0 k1 k2 k3 k4
      clear hn0 hk2
      obtain ⟨nb, hnb⟩ : ∃ o, o = Obj.cells #[.string n.path, .bool n.dir, .string n.data, .int .i64 n.mode, .int .i64 n.time] 46 := ⟨_, rfl⟩
      have HA1 := Aside0.mk (HA.out.step ((Grew.refl wr).alloc nb).drew.below)
      have HA2 := Aside0.mk (fun o => HA.out.step (((Grew.refl wr).alloc nb).alloc o).drew.below)
      obtain ⟨za, zw, zo, zm, zf, ze, hz1, _, hz3, _⟩ := HA.out.sec
      have hl1 := (hz3.below ((Grew.refl wr).alloc nb).drew.below).run n.path (by omega) true
      have hl2 := fun o => (hz3.below (((Grew.refl wr).alloc nb).alloc o).drew.below).run n.path (by omega) true
      rw [if_pos rfl] at hl1
      have hl2 : ∀ o, _ := fun o => (if_pos rfl) ▸ hl2 o
      have hnn : ∀ o, ((wr.alloc nb).alloc o).drew.heap[wr.heap.size]? = some nb := fun o => blk_lt' (heap_alloc_new wr nb) o
      have hnm : (wr.alloc nb).drew.heap[wr.heap.size]? = some nb := heap_alloc_new wr nb
      have hz4 : (wr.alloc nb).drew.heap[g]? = some (.cells #[za, zw, zo, .map (some zm), zf, ze] 171 (0, 0)) := blk_lt' hz1 nb
      have hz5 : ∀ o, ((wr.alloc nb).alloc o).drew.heap[g]? = some (.cells #[za, zw, zo, .map (some zm), zf, ze] 171 (0, 0)) := fun o => blk_lt' (blk_lt' hz1 nb) o
      subst hnb
      have hS1 : (wr.alloc (.cells #[.string n.path, .bool n.dir, .string n.data, .int .i64 n.mode, .int .i64 n.time] 46)).drew.cell? ⟨g, 3, none⟩ = some (.map (some zm)) ∧ (wr.alloc (.cells #[.string n.path, .bool n.dir, .string n.data, .int .i64 n.mode, .int .i64 n.time] 46)).drew.cell? ⟨wr.heap.size, 0, none⟩ = some (.string n.path) := ⟨blk_cell hz4 3, blk_cell hnm 0⟩
      have hS2 : ∀ o, ((wr.alloc (.cells #[.string n.path, .bool n.dir, .string n.data, .int .i64 n.mode, .int .i64 n.time] 46)).alloc o).drew.cell? ⟨g, 3, none⟩ = some (.map (some zm)) ∧ ((wr.alloc (.cells #[.string n.path, .bool n.dir, .string n.data, .int .i64 n.mode, .int .i64 n.time] 46)).alloc o).drew.cell? ⟨wr.heap.size, 0, none⟩ = some (.string n.path) := fun o => ⟨blk_cell (hz5 o) 3, blk_cell (hnn o) 0⟩
      clear hz1 hz3 hz4 hz5
      go_wp2_with fail
      go_region_held3 (fun W => W.cell? ⟨g, 3, none⟩ = some (.map (some zm)) ∧ W.cell? ⟨wr.heap.size, 0, none⟩ = some (.string n.path)) (first | assumption | exact hS1 | exact hS2 _) (fail)
      all_goals (
        have hA3 := HA2.out (Obj.cells #[Value.string ((lastAt y.adds n.path).getD Nd.zero).path, Value.bool ((lastAt y.adds n.path).getD Nd.zero).dir, Value.string ((lastAt y.adds n.path).getD Nd.zero).data, Value.int IntKind.i64 ((lastAt y.adds n.path).getD Nd.zero).mode, Value.int IntKind.i64 ((lastAt y.adds n.path).getD Nd.zero).time] 46)
        have hn3 := hnn (Obj.cells #[Value.string ((lastAt y.adds n.path).getD Nd.zero).path, Value.bool ((lastAt y.adds n.path).getD Nd.zero).dir, Value.string ((lastAt y.adds n.path).getD Nd.zero).data, Value.int IntKind.i64 ((lastAt y.adds n.path).getD Nd.zero).mode, Value.int IntKind.i64 ((lastAt y.adds n.path).getD Nd.zero).time] 46)
        clear hl1 hl2 hS1 hS2 hnn hnm HA1 HA2
        generalize ((wr.alloc (Obj.cells #[Value.string n.path, Value.bool n.dir, Value.string n.data, Value.int IntKind.i64 n.mode, Value.int IntKind.i64 n.time] 46)).alloc (Obj.cells #[Value.string ((lastAt y.adds n.path).getD Nd.zero).path, Value.bool ((lastAt y.adds n.path).getD Nd.zero).dir, Value.string ((lastAt y.adds n.path).getD Nd.zero).data, Value.int IntKind.i64 ((lastAt y.adds n.path).getD Nd.zero).mode, Value.int IntKind.i64 ((lastAt y.adds n.path).getD Nd.zero).time] 46)).drew = w2 at hA3 hn3 ⊢
        have HA3 := Aside0.mk hA3
        have d0 := blk_cell hn3 0
        clear hA3 HA k0 k1 k2 k3 k4
        go_wp2_with fail
        refine (sec_overrides y g n.path _ HA3.out.sec HY.out).mono ?_
        rintro e1 w3 ⟨rfl, hb3⟩
        have HA4 := Aside0.mk (HA3.out.step hb3)
        have hn4 := (hb3.block _ (blk_lt hn3)).trans hn3
        have HN4 := Aside0.mk hn4
        have d1 := blk_cell hn4 1
        have d2 := blk_cell hn4 0
        clear hb3 hn3 hn4 d0 HA3
        cases hov : overB y n.path
        rotate_left
        · have hke : keepB y n = false := by unfold keepB; rw [hov]; rfl
          have hgo : goneB y n = false := by unfold goneB; rw [hov]; rfl
          clear d1 d2
          have HO2 := Aside0.mk (show out ++ (x.adds.drop (k + 1)).filter (keepB y) = bothN y x.adds by rw [← HO.out, HDr.out, List.filter_cons, if_neg (by rw [hke]; decide)])
          have HG2 := Aside0.mk (show gone ++ ((x.adds.drop (k + 1)).filter (goneB y)).map (·.path) = goneS y x.adds by rw [← HG.out, HDr.out, List.filter_cons, if_neg (by rw [hgo]; decide)])
          clear hke hgo
          go_wp2_with fail
          go_roundw
          case rel => exact ⟨k + 1, out, gone, by omega, by go_num, HO2, HG2, by omega, by omega, HA4⟩
          case measure => simp [intOf]; omega
        · cases hd : n.dir
          rotate_left
          · have hmid : (!n.dir && isDirB y n.path) = false := by rw [hd]; rfl
            have d1' : w3.cell? ⟨wr.heap.size, 1, none⟩ = some (.bool true) := by rw [← hd]; exact d1
            have hcn : ∀ W : World, kN.K W n [.string n.path, .bool true, .string n.data, .int .i64 n.mode, .int .i64 n.time] := fun W => by rw [← hd]; exact kN_mk W n
            clear d1 hd
            have hgo : goneB y n = false := by unfold goneB; rw [hmid, Bool.and_false]
            cases hth : (lastAt y.adds n.path).isSome
            rotate_left
            · have hke : keepB y n = false := by unfold keepB; rw [hth]; simp
              have HO2 := Aside0.mk (show out ++ (x.adds.drop (k + 1)).filter (keepB y) = bothN y x.adds by rw [← HO.out, HDr.out, List.filter_cons, if_neg (by rw [hke]; decide)])
              have HG2 := Aside0.mk (show gone ++ ((x.adds.drop (k + 1)).filter (goneB y)).map (·.path) = goneS y x.adds by rw [← HG.out, HDr.out, List.filter_cons, if_neg (by rw [hgo]; decide)])
              clear hke hgo
              go_wp2_with fail
              go_roundw
              case rel => exact ⟨k + 1, out, gone, by omega, by go_num, HO2, HG2, by omega, by omega, HA4⟩
              case measure => simp [intOf]; omega
            · have hke : keepB y n = true := by unfold keepB; rw [hth, hmid, hov]; rfl
              have HO2 := Aside0.mk (show (out ++ [n]) ++ (x.adds.drop (k + 1)).filter (keepB y) = bothN y x.adds by rw [← HO.out, HDr.out, List.filter_cons, if_pos hke, List.append_assoc]; rfl)
              have HG2 := Aside0.mk (show gone ++ ((x.adds.drop (k + 1)).filter (goneB y)).map (·.path) = goneS y x.adds by rw [← HG.out, HDr.out, List.filter_cons, if_neg (by rw [hgo]; decide)])
              have e0 := blk_cell HN4.out 0
              have e1 := d1'
              have e2 := blk_cell HN4.out 2
              have e3 := blk_cell HN4.out 3
              have e4 := blk_cell HN4.out 4
              have hbs := HA4.out.below.size
              clear hke hgo hth hov hmid
              go_wp2_with (at_builtin; refine Ow.app kN flat_node _ w.heap.size rfl _ _ 22 46 (.agg #[(.string ⟨#[]⟩), (.bool false), (.string ⟨#[]⟩), (.int .i64 0), (.int .i64 0)]) 56 rfl Tryz.underlying22 info46 rfl (by decide) _ out [n] rfl _ 1 rfl ?hC ?hO ?hB ?hL ?_; (case hC => exact C_lit flat_node _ 46 n _ (hcn _) _ rfl); (case hO => exact HA4.out.out.below flat_node ((Grew.refl _).alloc _).below); (case hB => simp; omega); (case hL => simp; omega); intro v1' w9 ho hgg hat; have HA9 := Aside0.mk (AS.putOut (wr := wr) HS.out (HA4.out.step ((Grew.refl _).alloc _).below) ho hgg); clear ho hgg hat)
              go_roundw
              case rel => exact ⟨k + 1, out ++ [n], gone, by omega, by go_num, HO2, HG2, by simp; omega, by omega, HA9⟩
              case measure => simp [intOf]; omega
          · have d1' : w3.cell? ⟨wr.heap.size, 1, none⟩ = some (.bool false) := by rw [← hd]; exact d1
            clear d1
            go_wp2_with fail
            refine (sec_isDir y g n.path _ (HE.out _ HA4.out.below) HA4.out.sec HY.out hp1).mono ?_
            rintro e1 w4 ⟨rfl, hb4⟩
            have HA5 := Aside0.mk (HA4.out.step hb4)
            have hn5 := (hb4.block _ (blk_lt HN4.out)).trans HN4.out
            have HN5 := Aside0.mk hn5
            have d0 := blk_cell hn5 0
            clear hb4 hn5 d1' d2 HA4 HN4
            cases hdi : isDirB y n.path
            · have hmid : (!n.dir && isDirB y n.path) = false := by rw [hd, hdi]; rfl
              clear hd hdi
              have hgo : goneB y n = false := by unfold goneB; rw [hmid, Bool.and_false]
              cases hth : (lastAt y.adds n.path).isSome
              rotate_left
              · have hke : keepB y n = false := by unfold keepB; rw [hth]; simp
                have HO2 := Aside0.mk (show out ++ (x.adds.drop (k + 1)).filter (keepB y) = bothN y x.adds by rw [← HO.out, HDr.out, List.filter_cons, if_neg (by rw [hke]; decide)])
                have HG2 := Aside0.mk (show gone ++ ((x.adds.drop (k + 1)).filter (goneB y)).map (·.path) = goneS y x.adds by rw [← HG.out, HDr.out, List.filter_cons, if_neg (by rw [hgo]; decide)])
                clear hke hgo
                go_wp2_with fail
                go_roundw
                case rel => exact ⟨k + 1, out, gone, by omega, by go_num, HO2, HG2, by omega, by omega, HA5⟩
                case measure => simp [intOf]; omega
              · have hke : keepB y n = true := by unfold keepB; rw [hth, hmid, hov]; rfl
                have HO2 := Aside0.mk (show (out ++ [n]) ++ (x.adds.drop (k + 1)).filter (keepB y) = bothN y x.adds by rw [← HO.out, HDr.out, List.filter_cons, if_pos hke, List.append_assoc]; rfl)
                have HG2 := Aside0.mk (show gone ++ ((x.adds.drop (k + 1)).filter (goneB y)).map (·.path) = goneS y x.adds by rw [← HG.out, HDr.out, List.filter_cons, if_neg (by rw [hgo]; decide)])
                have e0 := blk_cell HN5.out 0
                have e1 := blk_cell HN5.out 1
                have e2 := blk_cell HN5.out 2
                have e3 := blk_cell HN5.out 3
                have e4 := blk_cell HN5.out 4
                have hbs := HA5.out.below.size
                clear hke hgo hth hov hmid
                go_wp2_with (at_builtin; refine Ow.app kN flat_node _ w.heap.size rfl _ _ 22 46 (.agg #[(.string ⟨#[]⟩), (.bool false), (.string ⟨#[]⟩), (.int .i64 0), (.int .i64 0)]) 56 rfl Tryz.underlying22 info46 rfl (by decide) _ out [n] rfl _ 1 rfl ?hC ?hO ?hB ?hL ?_; (case hC => exact C_lit flat_node _ 46 n (cN n) (kN_mk _ _) _ rfl); (case hO => exact HA5.out.out.below flat_node ((Grew.refl _).alloc _).below); (case hB => simp; omega); (case hL => simp; omega); intro v1' w9 ho hgg hat; have HA9 := Aside0.mk (AS.putOut (wr := wr) HS.out (HA5.out.step ((Grew.refl _).alloc _).below) ho hgg); clear ho hgg hat)
                go_roundw
                case rel => exact ⟨k + 1, out ++ [n], gone, by omega, by go_num, HO2, HG2, by simp; omega, by omega, HA9⟩
                case measure => simp [intOf]; omega
            · have hgo : goneB y n = true := by unfold goneB; rw [hov, hd, hdi]; rfl
              have hke : keepB y n = false := by unfold keepB; rw [hov, hd, hdi]; rfl
              have HO2 := Aside0.mk (show out ++ (x.adds.drop (k + 1)).filter (keepB y) = bothN y x.adds by rw [← HO.out, HDr.out, List.filter_cons, if_neg (by rw [hke]; decide)])
              have HG2 := Aside0.mk (show (gone ++ [n.path]) ++ ((x.adds.drop (k + 1)).filter (goneB y)).map (·.path) = goneS y x.adds by rw [← HG.out, HDr.out, List.filter_cons, if_pos hgo, List.append_assoc]; rfl)
              have hbs := HA5.out.below.size
              clear hke hgo hov hd hdi
              go_wp2_with (at_builtin; refine Ow.app Kd.string flat_string _ w.heap.size rfl _ _ 23 9 _ 16 rfl Tryz.underlying23 info9 rfl (by decide) _ gone [n.path] rfl _ 1 rfl ?hC ?hO ?hB ?hL ?_; (case hC => exact C_lit flat_string _ 9 n.path _ rfl _ rfl); (case hO => exact HA5.out.gone.below flat_string ((Grew.refl _).alloc _).below); (case hB => simp; omega); (case hL => simp; omega); intro v1' w9 ho hgg hat; have HA9 := Aside0.mk (AS.putGone (wr := wr) HS.out (HA5.out.step ((Grew.refl _).alloc _).below) ho hgg); clear ho hgg hat)
              go_roundw
              case rel => exact ⟨k + 1, out, gone ++ [n.path], by omega, by go_num, HO2, HG2, by omega, by simp; omega, HA9⟩
              case measure => simp [intOf]; omega)
    obtain rfl : na = k := by omega
    have hdn : x.adds.drop na = [] := List.drop_of_length_le (by rw [← HNa.out]; exact Nat.le_refl _)
    have HO2 := Aside0.mk (show out = bothN y x.adds by rw [← HO.out, hdn]; simp)
    have HG2 := Aside0.mk (show gone = goneS y x.adds by rw [← HG.out, hdn]; simp)
    clear hdn hlt hk
    go_wp2_with fail
    refine (sort_nodes out _ w.heap.size _ (HE.out _ HA.out.below) hes HA.out.out (fun n hn => ?_) (by omega) (by rw [HO2.out]; exact HAp.out)).mono ?_
    · rw [HO2.out] at hn
      unfold bothN at hn
      rcases List.mem_append.1 hn with h | h
      · have := HY.out.a n h; omega
      · have := HX.out.a n (List.mem_filter.1 h).1; omega
    rintro e2 w2 ⟨rfl, ho2, hb2, hg2⟩
    have HB2 := Aside0.mk (HA.out.below.trans hb2)
    have HO3 := Aside0.mk ho2
    have HG3 := Aside0.mk (HA.out.gone.grown flat_string hg2 (ow_apart HA.out.gone HA.out.out (by decide)))
    clear ho2 hb2 hg2
    go_wp2_with fail
    go_ret2
    exact ⟨_, _, rfl, by rw [← HO2.out]; exact HO3.out, by rw [← HG2.out]; exact HG3.out, HB2.out⟩

end Go.Proofs.YtbkbpdpegiekhaaGreatDoor

/- squash: what Squash comes to. -/
set_option linter.unusedVariables false
set_option linter.unusedSimpArgs false
namespace Go.Proofs.YtbkbpdpegiekhaaGreatDoor
open Go.RowKit Go.Proofs.YtbkbpdpegiekhaaGreatDoorW.PrintWords Mo

/-- Both as one, where they may be. -/
def joinL (x y : Ly) : Ly := ⟨sortNd (bothN y x.adds), compS (sortS ((x.whites.filter (whiteB y) ++ goneS y x.adds) ++ y.whites)), compS (sortS (x.opaques.filter (opaqueB y) ++ y.opaques))⟩
def squashL (x y : Ly) : Ly × Int :=
  if checkL x = 0 ∧ checkL y = 0 then (if checkL (joinL x y) = 0 then (joinL x y, 0) else (Ly.none, checkL (joinL x y))) else (Ly.none, 1)

/-- Small. -/
structure Lsm (l : Ly) : Prop where
  na : l.adds.length ≤ 1000
  nw : l.whites.length ≤ 3000
  no : l.opaques.length ≤ 1000
  a : ∀ n ∈ l.adds, n.path.size ≤ 100000
  w : ∀ s ∈ l.whites, s.size ≤ 100000
  o : ∀ s ∈ l.opaques, s.size ≤ 100000
  d : ∀ n ∈ l.adds, n.data.size ≤ 1000000000
theorem Lsm.lb {l : Ly} (h : Lsm l) : Lb l := ⟨by have := h.na; omega, by have := h.nw; omega, by have := h.no; omega, h.a, h.w, h.o, h.d⟩
theorem compS_len (l : List S) : (compS l).length ≤ l.length := by
  unfold compS
  rw [List.length_map]
  have := Lib.compact_length_le (l.map bs)
  rw [List.length_map] at this
  exact this
theorem sortNd_mem {l : List Nd} {n : Nd} : n ∈ sortNd l ↔ n ∈ l := (List.mergeSort_perm l leN).mem_iff
theorem goneS_len (y : Ly) (l : List Nd) : (goneS y l).length ≤ l.length := by
  unfold goneS
  rw [List.length_map]
  exact List.length_filter_le _ _
theorem both_mem {y : Ly} {l : List Nd} {n : Nd} (h : n ∈ bothN y l) : n ∈ y.adds ∨ n ∈ l := by
  unfold bothN at h
  rcases List.mem_append.1 h with h | h
  · exact .inl h
  · exact .inr (List.mem_filter.1 h).1
theorem gone_mem {y : Ly} {l : List Nd} {s : S} (h : s ∈ goneS y l) : ∃ n ∈ l, n.path = s := by
  unfold goneS at h
  obtain ⟨n, hn, rfl⟩ := List.mem_map.1 h
  exact ⟨n, (List.mem_filter.1 hn).1, rfl⟩
theorem ww_small {x y : Ly} (hx : Lsm x) (hy : Lsm y) : ∀ s ∈ (x.whites.filter (whiteB y) ++ goneS y x.adds) ++ y.whites, s.size ≤ 100000 := by
  intro s hs
  rw [List.mem_append, List.mem_append] at hs
  rcases hs with (h | h) | h
  · exact hx.w s (List.mem_filter.1 h).1
  · obtain ⟨n, hn, rfl⟩ := gone_mem h
    exact hx.a n hn
  · exact hy.w s h
theorem oo_small {x y : Ly} (hx : Lsm x) (hy : Lsm y) : ∀ s ∈ x.opaques.filter (opaqueB y) ++ y.opaques, s.size ≤ 100000 := by
  intro s hs
  rw [List.mem_append] at hs
  rcases hs with h | h
  · exact hx.o s (List.mem_filter.1 h).1
  · exact hy.o s h
theorem ww_len {x y : Ly} (hx : Lsm x) (hy : Lsm y) : ((x.whites.filter (whiteB y) ++ goneS y x.adds) ++ y.whites).length ≤ 7000 := by
  rw [List.length_append, List.length_append]
  have h1 := List.length_filter_le (whiteB y) x.whites
  have h2 := goneS_len y x.adds
  have := hx.nw
  have := hx.na
  have := hy.nw
  omega
theorem oo_len {x y : Ly} (hx : Lsm x) (hy : Lsm y) : (x.opaques.filter (opaqueB y) ++ y.opaques).length ≤ 2000 := by
  rw [List.length_append]
  have h1 := List.length_filter_le (opaqueB y) x.opaques
  have := hx.no
  have := hy.no
  omega
theorem joinL_lb {x y : Ly} (hx : Lsm x) (hy : Lsm y) : Lb (joinL x y) := by
  refine ⟨?_, ?_, ?_, fun n hn => ?_, fun s hs => ?_, fun s hs => ?_, fun n hn => ?_⟩
  · show (sortNd (bothN y x.adds)).length ≤ 100000
    unfold sortNd bothN
    rw [List.length_mergeSort, List.length_append]
    have h1 := List.length_filter_le (keepB y) x.adds
    have := hx.na
    have := hy.na
    omega
  · have h := compS_len (sortS ((x.whites.filter (whiteB y) ++ goneS y x.adds) ++ y.whites))
    rw [sortS_len] at h
    have := ww_len hx hy
    exact Nat.le_trans h (by omega)
  · have h := compS_len (sortS (x.opaques.filter (opaqueB y) ++ y.opaques))
    rw [sortS_len] at h
    have := oo_len hx hy
    exact Nat.le_trans h (by omega)
  · rcases both_mem (sortNd_mem.1 hn) with h | h
    · exact hy.a n h
    · exact hx.a n h
  · exact ww_small hx hy s (sortS_mem.1 (compS_mem.1 hs))
  · exact oo_small hx hy s (sortS_mem.1 (compS_mem.1 hs))
  · rcases both_mem (sortNd_mem.1 hn) with h | h
    · exact hy.d n h
    · exact hx.d n h

/-! ### What may be is in order -/
theorem bytes_nil {p : S} (h : pRight p = true) : p ≠ ⟨#[]⟩ := by
  intro e
  subst e
  unfold pRight at h
  rw [show (⟨#[]⟩ : S).toList = [] from by rw [Lib.toList_data]] at h
  simp at h
theorem addE_zero {n : Nd} {last : S} {seen : List S} (h : addE n last seen = 0) : pRight n.path = true ∧ okRest n = true ∧ kindE (pKind n.path) = false ∧ pastE last n.path = false ∧ seen.count (pFold n.path) = 0 := by
  unfold addE at h
  split at h <;> first | (exfalso; revert h; decide) | skip
  rename_i h1 h2 h3 h4 h5
  exact ⟨h1, h2, h3, h4, by have := of_decide_eq_false h5; omega⟩
theorem addsE_zero : ∀ (l : List Nd) (last : S) (seen : List S), addsE last seen l = 0 → (last ≠ ⟨#[]⟩ → ∀ n ∈ l, pCmp last n.path < 0) ∧ l.Pairwise ltN ∧ ∀ n ∈ l, pRight n.path = true
  | [], last, seen, _ => ⟨fun _ n hn => (by cases hn), List.Pairwise.nil, fun n hn => (by cases hn)⟩
  | n :: t, last, seen, h => by
    have hz : addE n last seen = 0 := by
      by_cases h0 : addE n last seen = 0
      · exact h0
      · have h' : addE n last seen = 0 := by
          have e : addsE last seen (n :: t) = addE n last seen := by show (if _ then _ else _) = _; rw [if_neg h0]
          rw [← e]; exact h
        exact absurd h' h0
    have ht : addsE n.path (seen ++ [pFold n.path]) t = 0 := by
      have e : addsE last seen (n :: t) = addsE n.path (seen ++ [pFold n.path]) t := by show (if _ then _ else _) = _; rw [if_pos hz]
      rw [← e]; exact h
    obtain ⟨h1, _, _, h4, _⟩ := addE_zero hz
    obtain ⟨i1, i2, i3⟩ := addsE_zero t n.path _ ht
    have i1 := i1 (bytes_nil h1)
    refine ⟨fun hl m hm => ?_, List.pairwise_cons.2 ⟨fun m hm => i1 m hm, i2⟩, fun m hm => ?_⟩
    · have hlt : pCmp last n.path < 0 := by
        unfold pastE at h4
        rw [Bool.and_eq_false_iff] at h4
        rcases h4 with h4 | h4
        · exact absurd (by simpa using h4) hl
        · have := of_decide_eq_false h4; omega
      rcases List.mem_cons.1 hm with rfl | hm
      · exact hlt
      · exact pCmp_trans hlt (i1 m hm)
    · rcases List.mem_cons.1 hm with rfl | hm
      · exact h1
      · exact i3 m hm
theorem check_ents {l : Ly} (h : checkL l = 0) : addsE ⟨#[]⟩ [] l.adds = 0 ∧ markersE 1 none l.whites = 0 ∧ markersE 2 none l.opaques = 0 := by
  unfold checkL at h
  split at h
  · cases h
  · have he : entsE l = 0 := by
      by_cases h0 : entsE l = 0
      · exact h0
      · rw [if_neg h0] at h; exact h
    unfold entsE orE at he
    by_cases ha : addsE ⟨#[]⟩ [] l.adds = 0
    · rw [if_pos ha] at he
      by_cases hb : markersE 1 none l.whites = 0
      · rw [if_pos hb] at he
        exact ⟨ha, hb, he⟩
      · rw [if_neg hb] at he
        exact absurd he hb
    · rw [if_neg ha] at he
      exact absurd he ha
theorem check_sorted {l : Ly} (h : checkL l = 0) : l.adds.Pairwise ltN := (addsE_zero _ _ _ (check_ents h).1).2.1

end Go.Proofs.YtbkbpdpegiekhaaGreatDoor
