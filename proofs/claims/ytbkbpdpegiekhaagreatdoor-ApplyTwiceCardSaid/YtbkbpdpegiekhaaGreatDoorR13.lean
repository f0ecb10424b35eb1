/- layer: the closure of Ensured. -/
import Derived.Test.YtbkbpdpegiekhaaGreatDoorR12
set_option linter.unusedVariables false
set_option linter.unusedSimpArgs false
namespace Go.Proofs.YtbkbpdpegiekhaaGreatDoor
open Go.RowKit Go.Proofs.YtbkbpdpegiekhaaGreatDoorW.PrintWords Mo

/-- What is above a path, the nearest first. -/
def upsF : Nat → S → List S
  | 0, _ => []
  | n + 1, p => match pParent p with
    | none => []
    | some d => d :: upsF n d
def ups (p : S) : List S := upsF p.size p
theorem upsF_fuel : ∀ (n m : Nat) (p : S), p.size ≤ n → p.size ≤ m → upsF n p = upsF m p
  | 0, 0, p, _, _ => rfl
  | 0, m + 1, p, h, _ => by
    unfold upsF
    cases hp : pParent p with
    | none => rfl
    | some d => have := pParent_len hp; omega
  | n + 1, 0, p, _, h => by
    unfold upsF
    cases hp : pParent p with
    | none => rfl
    | some d => have := pParent_len hp; omega
  | n + 1, m + 1, p, h1, h2 => by
    unfold upsF
    cases hp : pParent p with
    | none => rfl
    | some d =>
      have := pParent_len hp
      simp only
      rw [upsF_fuel n m d (by omega) (by omega)]
theorem ups_none {p : S} (h : pParent p = none) : ups p = [] := by
  unfold ups
  cases hs : p.size with
  | zero => rfl
  | succ n => unfold upsF; rw [h]
theorem ups_some {p d : S} (h : pParent p = some d) : ups p = d :: ups d := by
  have hl := pParent_len h
  unfold ups
  obtain ⟨n, hn⟩ : ∃ n, p.size = n + 1 := ⟨p.size - 1, by omega⟩
  rw [hn]
  show (match pParent p with | none => [] | some d => d :: upsF n d) = _
  rw [h]
  simp only
  rw [upsF_fuel n d.size d (by omega) (Nat.le_refl _)]
theorem upsF_len : ∀ (n : Nat) (p : S), (upsF n p).length ≤ n
  | 0, _ => Nat.le_refl _
  | n + 1, p => by
    unfold upsF
    cases hp : pParent p with
    | none => exact Nat.zero_le _
    | some d => simp only [List.length_cons]; have := upsF_len n d; omega
theorem ups_len (p : S) : (ups p).length ≤ p.size := upsF_len _ _
theorem upsF_size : ∀ (n : Nat) (p : S), ∀ q ∈ upsF n p, q.size < p.size
  | 0, p, q, h => by cases h
  | n + 1, p, q, h => by
    unfold upsF at h
    cases hp : pParent p with
    | none => rw [hp] at h; cases h
    | some d =>
      rw [hp] at h
      have hd := pParent_len hp
      rcases List.mem_cons.1 h with rfl | h
      · exact hd
      · have := upsF_size n d q h; omega
theorem ups_size (p q : S) (h : q ∈ ups p) : q.size < p.size := upsF_size _ _ q h

/-- A variable that holds a row of texts of the call's own. -/
def BoxS (w : World) (base g : Nat) (xs : List S) : Prop := ∃ v, w.heap[g]? = some (.cells #[v] 23 (0, 0)) ∧ Ow Kd.string 9 w base v xs
theorem BoxS.below {w w' : World} {base g : Nat} {xs : List S} (h : BoxS w base g xs) (hb : Below w.heap.size w w') : BoxS w' base g xs := by
  obtain ⟨v, h1, h2⟩ := h
  exact ⟨v, (hb.block g (blk_lt h1)).trans h1, h2.below flat_string hb⟩
theorem BoxS.lt {w : World} {base g : Nat} {xs : List S} (h : BoxS w base g xs) : g < w.heap.size := by
  obtain ⟨v, h1, h2⟩ := h
  exact blk_lt h1
/-- The variable is given another row. -/
theorem BoxS.put {w : World} {base g : Nat} {v u : Value} {xs : List S} (h : w.heap[g]? = some (.cells #[u] 23 (0, 0))) (ho : Ow Kd.string 9 w base v xs) : BoxS (w.setCell ⟨g, 0, none⟩ v) base g xs := by
  refine ⟨v, blk_set h 0 v, ho.move flat_string fun k hk => ?_⟩
  exact Below.heap_setCell _ _ _ _ (fun e => ho.ne_type h (by decide) (by rw [hk, e]))

def strLen : Value → Nat
  | .string s => s.size
  | _ => 0
def onOf : Value → Value → Nat
  | .bool true, v => strLen v + 1
  | _, _ => 0

set_option maxHeartbeats 2000000 in
theorem Ensured_up (p : S) (g : Nat) (xs : List S) (w : World) (hB : BoxS w (g + 1) g xs) (hs : p.size ≤ 100000) (hx : xs.length ≤ 100000000000) :
    Calls Tryz.prog 195 #[.string p, .pointer (some ⟨g, 0, none⟩)] w fun e w' => e = .returned (.tuple #[]) ∧ BoxS w' (g + 1) g (xs ++ ups p) ∧ Below g w w' := by
  have HB := Aside0.mk hB
  have hgs := hB.lt
  clear hB
  go_enter Tryz.func195, Tryz.ntmps195
  go_wp2_with fail
  refine (route_Parent p _ (by omega)).mono ?_
  rintro e w1 ⟨rfl, rfl⟩
  go_wp2_with fail
  go_loopw [3, 4] (fun d o wr => ∃ (cur : S) (done : List S), d = .string (pDir cur) ∧ o = .bool (pParent cur).isSome ∧ cur.size ≤ p.size ∧ done.length + cur.size ≤ p.size ∧ Aside0 (done ++ ups cur = ups p) ∧ Aside0 (BoxS wr (g + 1) g (xs ++ done)) ∧ Aside0 (Below g w wr))
    (fun d o _ => onOf o d)
  case atStart => exact ⟨p, [], rfl, rfl, Nat.le_refl _, by simp, ⟨rfl⟩, ⟨by rw [List.append_nil]; exact HB.out⟩, ⟨Below.refl _ _⟩⟩
  case round =>
    obtain ⟨cur, done, rfl, rfl, hc, hdl, HD, HX, HBl⟩ := hrel
    cases hp : pParent cur with
    | none =>
      have HF := Aside0.mk (show done = ups p by rw [← HD.out, ups_none hp, List.append_nil])
      rw [show (none : Option S).isSome = false from rfl]
      clear hp
      go_wp2_with fail
      go_end0
      exact ⟨rfl, by rw [← HF.out]; exact HX.out, HBl.out⟩
    | some d =>
      have hd := pParent_len hp
      have hdd : pDir cur = d := by unfold pDir; rw [hp]; rfl
      have HF := Aside0.mk (show (done ++ [d]) ++ ups d = ups p by rw [← HD.out, ups_some hp, List.append_assoc]; rfl)
      rw [show (some d).isSome = true from rfl, hdd]
      clear hp hdd HD
      obtain ⟨v, hv1, hv2⟩ := HX.out
      obtain ⟨A, n, c, rfl⟩ := hv2.sl
      have c0 := blk_cell hv1 0
      have HV1 := Aside0.mk hv1
      have HV2 := Aside0.mk hv2
      have hgr := blk_lt hv1
      have hls : (xs ++ done).length ≤ 100000100000 := by rw [List.length_append]; omega
      clear hv1 hv2 HX
      have hbw : g ≤ wr.heap.size := by omega
      go_wp2_with (at_builtin; refine Ow.app Kd.string flat_string _ (g + 1) rfl _ _ 23 9 _ 16 rfl Tryz.underlying23 info9 rfl (by decide) _ (xs ++ done) [d] rfl (some ⟨wr.heap.size, 0, none⟩) 1 rfl ?hC ?hO ?hB ?hL ?_; (case hC => exact C_lit flat_string _ 9 d _ rfl _ rfl); (case hO => exact HV2.out.below flat_string (below_alloc (Below.refl _ _) _)); (case hB => simp; omega); (case hL => simp at hls ⊢; omega); intro v1' w1 ho hgg hat; obtain ⟨A1, n1, c1, rfl⟩ := ho.sl; have hv1 := blk_grown (blk_lt' HV1.out _) hgg (fun h => HV2.out.ne_type HV1.out (by decide) h.symm); have cc := blk_cell hv1 0; have ff := blk_frozen hv1 0; have HB1 := Aside0.mk (Below.grown (HBl.out.alloc hbw _) hgg (by simp; omega) (fun k hk => by have := HV2.out.base_le k hk; omega)); have HO1 := Aside0.mk ho; have HV3 := Aside0.mk hv1; clear ho hgg hat hv1 c0)
      refine (route_Parent d _ (by omega)).mono ?_
      rintro e2 w2 ⟨rfl, rfl⟩
      go_wp2_with fail
      go_roundw
      case rel => exact ⟨d, done ++ [d], by go_num, by go_num, by omega, by simp; omega, HF, ⟨by rw [← List.append_assoc]; exact BoxS.put HV3.out HO1.out⟩, ⟨HB1.out.setCell (Nat.le_refl g) _⟩⟩
      case measure =>
        cases hp2 : pParent d with
        | none => simp [onOf, strLen]
        | some d2 =>
          have hl2 := pParent_len hp2
          have : pDir d = d2 := by unfold pDir; rw [hp2]; rfl
          simp [onOf, strLen, this]
          omega

end Go.Proofs.YtbkbpdpegiekhaaGreatDoor
