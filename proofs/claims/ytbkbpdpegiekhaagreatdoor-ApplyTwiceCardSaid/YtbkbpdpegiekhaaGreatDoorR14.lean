/- Rows of texts: put in order; each once. -/
import Derived.Test.YtbkbpdpegiekhaaGreatDoorR13
import Derived.Test.YtbkbpdpegiekhaaGreatDoorShelf
import Derived.Lib.OwnBridge
set_option linter.unusedVariables false
set_option linter.unusedSimpArgs false
namespace Mo
open Go
def leS (x y : S) : Bool := !decide (pCmp y x < 0)
def sortS (xs : List S) : List S := xs.mergeSort leS
def compS (xs : List S) : List S := (Lib.compact (xs.map bs)).map mk
theorem leS_iff {x y : S} : leS x y = true ↔ pCmp x y ≤ 0 := by
  unfold leS
  have := pCmp_neg x y
  simp
  omega
theorem leS_trans (a b c : S) (h1 : leS a b = true) (h2 : leS b c = true) : leS a c = true := by
  rw [leS_iff] at *
  by_cases e1 : pCmp a b = 0
  · rw [pCmp_eq.1 e1]; exact h2
  by_cases e2 : pCmp b c = 0
  · rw [← pCmp_eq.1 e2]; exact h1
  have := @pCmp_trans a b c (by omega) (by omega)
  omega
theorem leS_total (a b : S) : (leS a b || leS b a) = true := by
  rw [Bool.or_eq_true, leS_iff, leS_iff]
  have := pCmp_neg a b
  omega
theorem sortS_mem {xs : List S} {x : S} : x ∈ sortS xs ↔ x ∈ xs := (List.mergeSort_perm xs leS).mem_iff
theorem sortS_len (xs : List S) : (sortS xs).length = xs.length := List.length_mergeSort xs
theorem sortS_sorted (xs : List S) : (sortS xs).Pairwise fun a b => leS a b = true := List.pairwise_mergeSort leS_trans leS_total xs
end Mo
namespace Go.Proofs.YtbkbpdpegiekhaaGreatDoor
open Go.RowKit Go.Proofs.YtbkbpdpegiekhaaGreatDoorW.PrintWords Mo

theorem below_grow (B : Nat) (w : World) (os : Array Obj) (hB : B ≤ w.heap.size) : Below B w (Sort.grow w os) :=
  ⟨rfl, rfl, rfl, by simp [Sort.grow], fun k hk => by simp only [Sort.grow]; rw [Array.getElem?_append, if_pos (by omega)]⟩
theorem reps_str {w : World} {xs : List S} {inner : List Value} (h : Reps (Kd.string.K w) 1 xs inner) : inner = xs.map Value.string := by
  have hl : inner.length = xs.length := by rw [h.1]; omega
  apply List.ext_getElem?
  intro j
  rw [List.getElem?_map]
  by_cases hj : j < xs.length
  · have h2 := h.2 j xs[j] (List.getElem?_eq_getElem hj)
    have h3 : (inner.drop (j * 1)).take 1 = [Value.string xs[j]] := h2
    have h4 : ((inner.drop (j * 1)).take 1)[0]? = some (Value.string xs[j]) := by rw [h3]; rfl
    rw [List.getElem?_take, if_pos (by omega), List.getElem?_drop] at h4
    rw [List.getElem?_eq_getElem hj]
    simpa using h4
  · rw [List.getElem?_eq_none (by omega), List.getElem?_eq_none (by omega)]
    rfl
theorem str_reps {w : World} (xs : List S) : Reps (Kd.string.K w) 1 xs (xs.map Value.string) := by
  refine ⟨by simp, fun j p hj => ?_⟩
  have hjl : j < xs.length := (List.getElem?_eq_some_iff.1 hj).1
  show ((xs.map Value.string).drop (j * 1)).take 1 = [Value.string p]
  apply List.ext_getElem?
  intro i
  rw [List.getElem?_take]
  cases i with
  | zero => rw [if_pos (by omega), List.getElem?_drop, List.getElem?_map]; simp [hj]
  | succ i => simp
theorem ow_str {e : Nat} {w : World} {base : Nat} {v : Value} {xs : List S} : Ow Kd.string e w base v xs ↔ w.ownsRow base e 1 v xs.length (xs.map Value.string) := by
  constructor
  · rintro ⟨inner, ho, hr⟩
    have := reps_str hr
    subst this
    exact ho
  · intro h
    exact ⟨_, h, str_reps xs⟩

/-- A text that is not great. -/
abbrev St := {s : S // s.size < 4294967281}
instance : Inhabited St := ⟨⟨⟨#[]⟩, by decide⟩⟩
def cmpT' (x y : St) : Int := pCmp x.1 y.1
theorem swo : Sort.SWO (ltOf cmpT') := by
  refine ⟨fun x => ?_, fun x y z h1 h2 => ?_, fun x y z h1 h2 => ?_⟩
  · simp [ltOf, cmpT', pCmp_self]
  · unfold ltOf cmpT' at *
    exact decide_eq_true (pCmp_trans (of_decide_eq_true h1) (of_decide_eq_true h2))
  · unfold ltOf cmpT' at *
    have h1 := of_decide_eq_false h1
    have h2 := of_decide_eq_false h2
    have n1 := pCmp_neg x.1 y.1
    have n2 := pCmp_neg y.1 z.1
    have n3 := pCmp_neg x.1 z.1
    have := leS_trans z.1 y.1 x.1 (leS_iff.2 (by omega)) (leS_iff.2 (by omega))
    rw [leS_iff] at this
    exact decide_eq_false (by omega)
theorem cell_same {B : Nat} {w w' : World} (hb : Below B w w') (a : Addr) (h : a.block < B) : w'.cell? a = w.cell? a := by
  unfold World.cell?
  rw [hb.block a.block h]
theorem Env.belowB {B : Nat} {w w' : World} (h : Env w) (hb : Below B w w') (hB : 2 < B) : Env w' := by
  refine ⟨⟨fun c hc => (cell_same hb _ (by simp; omega)).trans (h.tabs.1 c hc), fun i hi => ⟨(cell_same hb _ (by simp; omega)).trans (h.tabs.2 i hi).1, (cell_same hb _ (by simp; omega)).trans (h.tabs.2 i hi).2⟩⟩, ?_⟩
  obtain ⟨m, hm⟩ := h.max
  exact ⟨m, (cell_same hb _ (by simp; omega)).trans hm⟩
theorem Env.size {w : World} (h : Env w) : 2 < w.heap.size := by
  have := (h.tabs.2 0 (by decide)).1
  exact World.block_lt_of_cell? w _ this
theorem below_sortWorld {α : Type} [Inhabited α] (enc : α → Value) (w : World) (blk m : Nat) (dk : Array α) (os : Array Obj) (h : blk < w.heap.size) : Below blk w (sortWorld enc w blk 0 m dk os) := by
  have h1 : Below blk w (Sort.putRow enc (Sort.ahead w m) blk 0 dk) := Lib.below_putRow (Below.refl _ _) (Nat.le_refl _)
  exact h1.trans (below_grow blk _ os (by have := h1.size; omega))
theorem route_cmp {α : Type} [Inhabited α] (enc : α → Value) (blk size : Nat) (w : World) (hE : Env w) (hz : 2 < blk) (hlt : blk < w.heap.size) (f : α → S) (hf : ∀ x, (f x).size < 4294967281) (henc : enc = fun x => .string (f x)) :
    CmpLays1 Tryz.prog 149 #[] enc (fun x y => pCmp (f x) (f y)) blk 0 size w := by
  intro m os dk hs x y
  have hE2 : Env (sortWorld enc w blk 0 m dk os) := hE.belowB (below_sortWorld enc w blk m dk os hlt) hz
  subst henc
  refine (route_Compare (f x) (f y) _ hE2 (hf x) (hf y)).mono ?_
  rintro e w' ⟨rfl, hg⟩
  exact ⟨rfl, hg.eq⟩

theorem grown_sortWorld {α : Type} [Inhabited α] (enc : α → Value) (w : World) (blk m : Nat) (dk : Array α) (os : Array Obj) : w.grownBy (sortWorld enc w blk 0 m dk os) (some blk) := by
  refine ⟨rfl, rfl, rfl, by simp [sortWorld, Sort.grow, Sort.putRow, Sort.mapBlock, Sort.ahead], fun i hi hne => ?_⟩
  have h : blk ≠ i := fun e => hne (by rw [e])
  simp only [sortWorld, Sort.grow, Sort.putRow, Sort.mapBlock, Sort.ahead]
  rw [Array.getElem?_append, if_pos (by simpa using hi), Array.getElem?_modify]
  simp [h]
theorem grown_putRow {α : Type} [Inhabited α] (enc : α → Value) (w : World) (blk m : Nat) (dk : Array α) : w.grownBy (Sort.putRow enc (Sort.ahead w m) blk 0 dk) (some blk) := by
  refine ⟨rfl, rfl, rfl, by simp [Sort.putRow, Sort.mapBlock, Sort.ahead], fun i hi hne => ?_⟩
  have h : blk ≠ i := fun e => hne (by rw [e])
  simp only [Sort.putRow, Sort.mapBlock, Sort.ahead]
  rw [Array.getElem?_modify]
  simp [h]
/-- slices.SortFunc at a row of the call's own. -/
theorem sort_strs_g (xs : List S) (v : Value) (base : Nat) (w : World) (hE : Env w) (hb : 2 < base) (ho : Ow Kd.string 9 w base v xs) (hx : ∀ s ∈ xs, s.size < 4294967281) (hsz : xs.length ≤ 1000000000000) :
    Calls Tryz.prog 150 #[v, .func (.func 149) #[] #[]] w fun e w' => e = .returned (.tuple #[]) ∧ Ow Kd.string 9 w' base v (sortS xs) ∧ Below base w w' ∧ w.grownBy w' v.ownBlock := by
  by_cases hv : v = .slice none 0 0
  · subst hv
    have h0 : xs = [] := by
      obtain ⟨A, c, e, _⟩ := ho.slice
      injection e with _ e2 _
      exact List.eq_nil_of_length_eq_zero e2.symm
    subst h0
    refine (Tryz.slices_SortFunc_none (α := St) none 0 _ w).mono ?_
    rintro e w' ⟨rfl, rfl⟩
    exact ⟨rfl, by rw [show sortS [] = [] from List.eq_nil_of_length_eq_zero (by rw [sortS_len]; rfl)]; exact ho, Below.refl _ _, grown_refl _ _⟩
  obtain ⟨ts, rfl⟩ : ∃ ts : List St, ts.map Subtype.val = xs := by
    refine ⟨xs.attach.map fun s => ⟨s.1, hx s.1 s.2⟩, ?_⟩
    rw [List.map_map]
    exact List.attach_map_subtype_val xs
  have hown := ow_str.1 ho
  rw [List.map_map, List.length_map] at hown
  obtain ⟨g, cap, rfl, hbg, hlt, hcap, _, _, hH⟩ := Lib.holds_of_ownsRow (enc := fun t : St => Value.string t.1) hown hv
  rw [List.length_map] at hsz
  have key := Tryz.slices_SortFunc_total (fun t : St => Value.string t.1) (fun _ => rfl) cmpT' swo 149 #[] g 0 cap ts.toArray w (enters_of Tryz.func149 (by kernel_rfl) rfl) (route_cmp _ g ts.toArray.size w hE (by omega) hlt Subtype.val (fun x => x.2) rfl) hH hlt (by simp; omega)
    (fun x y h1 h2 => by
      unfold ltOf cmpT' at h1 h2
      have h1 := of_decide_eq_false h1
      have h2 := of_decide_eq_false h2
      have n1 := pCmp_neg x.1 y.1
      exact Subtype.ext (pCmp_eq.1 (by omega)))
  rw [List.size_toArray] at key
  refine key.mono ?_
  rintro e w' ⟨rfl, n, os, rfl⟩
  have hms : (ts.mergeSort fun x y => !(ltOf cmpT') y x).map Subtype.val = sortS (ts.map Subtype.val) := List.map_mergeSort (fun a _ b _ => rfl)
  have ho2 := Lib.ownsRow_putRow (q := n) (k := ts.length) (ys := ts.mergeSort fun x y => !(ltOf cmpT') y x) hown (List.length_mergeSort _) (Nat.le_refl _)
  rw [List.take_of_length_le (by rw [List.length_mergeSort]; exact Nat.le_refl _)] at ho2
  have hB := below_sortWorld (fun t : St => Value.string t.1) w g n (ts.mergeSort fun x y => !(ltOf cmpT') y x).toArray os hlt
  refine ⟨rfl, ?_, ⟨hB.os, hB.tape, hB.output, hB.size, fun k hk => hB.block k (by omega)⟩, grown_sortWorld _ w g n _ os⟩
  have hl2 : (sortS (ts.map Subtype.val)).length = ts.length := by rw [sortS_len, List.length_map]
  have ho3 : Ow Kd.string 9 (Sort.putRow (fun t : St => Value.string t.1) (Sort.ahead w n) g 0 (ts.mergeSort fun x y => !(ltOf cmpT') y x).toArray) base (.slice (some ⟨g, 0, none⟩) ts.length cap) (sortS (ts.map Subtype.val)) := by
    rw [ow_str, hl2, ← hms, List.map_map]
    exact ho2
  exact ho3.below flat_string (below_grow _ _ os (Nat.le_refl _))

theorem sort_strs (xs : List S) (v : Value) (base : Nat) (w : World) (hE : Env w) (hb : 2 < base) (ho : Ow Kd.string 9 w base v xs) (hx : ∀ s ∈ xs, s.size < 4294967281) (hsz : xs.length ≤ 1000000000000) :
    Calls Tryz.prog 150 #[v, .func (.func 149) #[] #[]] w fun e w' => e = .returned (.tuple #[]) ∧ Ow Kd.string 9 w' base v (sortS xs) ∧ Below base w w' :=
  (sort_strs_g xs v base w hE hb ho hx hsz).mono fun _ _ h => ⟨h.1, h.2.1, h.2.2.1⟩
/-- slices.Compact at a row of the call's own. -/
theorem compact_strs_g (xs : List S) (v : Value) (base : Nat) (w : World) (ho : Ow Kd.string 9 w base v xs) (hsz : xs.length ≤ 1000000000000) :
    Calls Tryz.prog 151 #[v] w fun e w' => ∃ v', e = .returned v' ∧ Ow Kd.string 9 w' base v' (compS xs) ∧ Below base w w' ∧ (v'.ownBlock = v.ownBlock) ∧ w.grownBy w' v.ownBlock := by
  by_cases hv : v = .slice none 0 0
  · subst hv
    have h0 : xs = [] := by
      obtain ⟨A, c, e, _⟩ := ho.slice
      injection e with _ e2 _
      exact List.eq_nil_of_length_eq_zero e2.symm
    subst h0
    refine (Tryz.slices_Compact_string_empty none 0 w).mono ?_
    rintro e w' ⟨rfl, rfl⟩
    exact ⟨_, rfl, ho, Below.refl _ _, rfl, grown_refl _ _⟩
  have hown := ow_str.1 ho
  rw [← Lib.map_encStr] at hown
  obtain ⟨g, cap, rfl, hbg, hlt, hcap, _, hl, hH⟩ := Lib.holds_of_ownsRow hown hv
  have hl0 : (xs.map (·.data.toList)).length = xs.length := List.length_map _
  have key := Tryz.slices_Compact_string g 0 cap (xs.map (·.data.toList)) w hH (by rw [hl0]; omega) (by rw [hl0]; exact hcap)
  rw [hl0] at key
  refine key.mono ?_
  rintro e w' ⟨rfl, q, rfl⟩
  have hk : (Lib.compact (xs.map (·.data.toList))).length ≤ xs.length := by have := Lib.compact_length_le (xs.map (·.data.toList)); rw [hl0] at this; exact this
  have ho2 := Lib.ownsRow_putRow (q := q) (k := (Lib.compact (xs.map (·.data.toList))).length) (ys := Lib.compact (xs.map (·.data.toList)) ++ List.replicate (xs.length - (Lib.compact (xs.map (·.data.toList))).length) []) hown (by rw [List.length_append, List.length_replicate]; omega) hk
  rw [List.take_left'] at ho2
  · refine ⟨_, rfl, ?_, Lib.below_putRow (Below.refl _ _) hbg, rfl, grown_putRow _ w g q _⟩
    have hc : (compS xs).length = (Lib.compact (xs.map (·.data.toList))).length := List.length_map _
    rw [ow_str, hc]
    have hm : (compS xs).map Value.string = (Lib.compact (xs.map (·.data.toList))).map encStr := by
      unfold compS
      rw [List.map_map]
      rfl
    rw [hm]
    exact ho2
  · rfl

theorem compact_strs (xs : List S) (v : Value) (base : Nat) (w : World) (ho : Ow Kd.string 9 w base v xs) (hsz : xs.length ≤ 1000000000000) :
    Calls Tryz.prog 151 #[v] w fun e w' => ∃ v', e = .returned v' ∧ Ow Kd.string 9 w' base v' (compS xs) ∧ Below base w w' ∧ (v'.ownBlock = v.ownBlock) :=
  (compact_strs_g xs v base w ho hsz).mono fun _ _ ⟨v', h⟩ => ⟨v', h.1, h.2.1, h.2.2.1, h.2.2.2.1⟩

end Go.Proofs.YtbkbpdpegiekhaaGreatDoor
