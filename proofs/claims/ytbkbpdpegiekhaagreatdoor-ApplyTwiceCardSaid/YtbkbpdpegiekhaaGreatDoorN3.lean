/- Paths, plainly: what is above a path that may be may be. -/
import Derived.Test.YtbkbpdpegiekhaaGreatDoorN1
import Derived.Lib.TrimUEq
import Derived.Lib.ValidLaws
import Derived.Lib.MapLaws
set_option linter.unusedVariables false
set_option linter.unusedSimpArgs false
namespace Mo
open Go Go.Lib
theorem idx_fuel (p : Nat → Bool) (t : Bool) (s : S) : ∀ (f g pos : Nat), s.size ≤ pos + f → s.size ≤ pos + g → idxFuncFrom p t s f pos = idxFuncFrom p t s g pos
  | 0, g, pos, h, _ => by rw [idxFuncFrom_end _ _ _ _ _ (by omega), idxFuncFrom_end _ _ _ _ _ (by omega)]
  | f + 1, 0, pos, _, h => by rw [idxFuncFrom_end _ _ _ _ _ (by omega), idxFuncFrom_end _ _ _ _ _ (by omega)]
  | f + 1, g + 1, pos, h1, h2 => by
    unfold idxFuncFrom
    by_cases hp : pos < s.size
    · have hw : 1 ≤ (Utf8.decode s pos).2 := by rw [← decodeL_drop]; exact decodeL_width _
      rw [if_pos hp, if_pos hp, idx_fuel p t s f g _ (by omega) (by omega)]
    · rw [if_neg hp, if_neg hp]
/-- From a place on: valid, and no byte that no path has. -/
def okFrom (s : S) (a : Nat) : Bool := validD ((bs s).drop a) && !decide (0 ≤ idxFuncFrom never true s (s.size - a) a)
theorem okFrom_zero (s : S) : okFrom s 0 = pRunes s := rfl
theorem okFrom_end (s : S) (a : Nat) (h : s.size ≤ a) : okFrom s a = true := by
  unfold okFrom
  rw [List.drop_eq_nil_of_le (by rw [bs_size]; exact h), idxFuncFrom_end _ _ _ _ _ (by omega)]
  rfl
theorem drop_ne {s : S} {a : Nat} (h : a < s.size) : (bs s).drop a ≠ [] := fun e => by
  have := congrArg List.length e
  rw [List.length_drop, bs_size] at this
  simp at this
  omega
theorem idx_step {s : S} {a : Nat} (ha : a < s.size) : idxFuncFrom never true s (s.size - a) a = if never (decodeL ((bs s).drop a)).1 = true then (a : Int) else idxFuncFrom never true s (s.size - (a + (decodeL ((bs s).drop a)).2)) (a + (decodeL ((bs s).drop a)).2) := by
  obtain ⟨f, hf⟩ : ∃ f, s.size - a = f + 1 := ⟨s.size - a - 1, by omega⟩
  have hw := decodeL_width ((bs s).drop a)
  have e : decodeL ((bs s).drop a) = Utf8.decode s a := decodeL_drop s a
  rw [hf]
  rw [show idxFuncFrom never true s (f + 1) a = if a < s.size then (if never (Utf8.decode s a).1 = true then (a : Int) else idxFuncFrom never true s f (a + (Utf8.decode s a).2)) else -1 from rfl]
  rw [if_pos ha, e]
  rw [e] at hw
  rw [idx_fuel never true s f (s.size - (a + (Utf8.decode s a).2)) _ (by omega) (by omega)]

theorem okFrom_step {s : S} {a : Nat} (ha : a < s.size) : okFrom s a = if (decodeL ((bs s).drop a)).1 = 65533 ∧ (decodeL ((bs s).drop a)).2 = 1 then false else if never (decodeL ((bs s).drop a)).1 = true then false else okFrom s (a + (decodeL ((bs s).drop a)).2) := by
  have h1 := validD_step _ (drop_ne ha)
  have h2 := idx_step ha
  rw [List.drop_drop] at h1
  unfold okFrom
  rw [h1, h2]
  by_cases e1 : (decodeL ((bs s).drop a)).1 = 65533 ∧ (decodeL ((bs s).drop a)).2 = 1
  · rw [if_pos e1, if_pos e1]; rfl
  · rw [if_neg e1, if_neg e1]
    by_cases e2 : never (decodeL ((bs s).drop a)).1 = true
    · rw [if_pos e2, if_pos e2, decide_eq_true (by omega)]
      simp
    · rw [if_neg e2, if_neg e2]
theorem decode_pre {l : B} (h : l ≠ []) (b : B) : decodeL (l ++ 47 :: b) = decodeL l := by
  rw [decodeL_N, decodeL_N]
  obtain ⟨c0, l, rfl⟩ := List.exists_cons_of_ne_nil h
  match l with
  | [] =>
    simp only [List.cons_append, List.nil_append, List.getD_cons_zero, List.getD_cons_succ, List.length_cons, List.getD_nil]
    have h1 : (47 : UInt8).toNat / 64 = 0 := by decide
    have h2 : (0 : UInt8).toNat / 64 = 0 := by decide
    unfold decodeN
    simp [h1, h2]
  | [c1] =>
    simp only [List.cons_append, List.nil_append, List.getD_cons_zero, List.getD_cons_succ, List.length_cons, List.getD_nil]
    have h1 : (47 : UInt8).toNat / 64 = 0 := by decide
    have h2 : (0 : UInt8).toNat / 64 = 0 := by decide
    unfold decodeN
    simp [h1, h2]
  | [c1, c2] =>
    simp only [List.cons_append, List.nil_append, List.getD_cons_zero, List.getD_cons_succ, List.length_cons, List.getD_nil]
    have h1 : (47 : UInt8).toNat / 64 = 0 := by decide
    have h2 : (0 : UInt8).toNat / 64 = 0 := by decide
    unfold decodeN
    simp [h1, h2]
  | c1 :: c2 :: c3 :: t =>
    simp only [List.cons_append, List.nil_append, List.getD_cons_zero, List.getD_cons_succ, List.length_cons, List.getD_nil, List.length_append]
    unfold decodeN
    have e1 : (1 < t.length + 1 + 1 + 1 + 1) = True := by simp
    have e2 : (2 < t.length + 1 + 1 + 1 + 1) = True := by simp
    have e3 : (3 < t.length + 1 + 1 + 1 + 1) = True := by simp
    have f1 : (1 < t.length + (b.length + 1) + 1 + 1 + 1 + 1) = True := by simp
    have f2 : (2 < t.length + (b.length + 1) + 1 + 1 + 1 + 1) = True := by simp
    have f3 : (3 < t.length + (b.length + 1) + 1 + 1 + 1 + 1) = True := by simp
    simp only [e1, e2, e3, f1, f2, f3]
theorem okFrom_pre {s d : S} {b : B} (h : bs s = bs d ++ 47 :: b) : ∀ (k a : Nat), d.size ≤ a + k → okFrom s a = true → okFrom d a = true
  | 0, a, hk, _ => okFrom_end _ _ (by omega)
  | k + 1, a, hk, ho => by
    by_cases ha : a < d.size
    · have hsz : s.size = d.size + (b.length + 1) := by rw [size_bs, size_bs, h, List.length_append, List.length_cons]
      have hd : (bs s).drop a = (bs d).drop a ++ 47 :: b := by rw [h, List.drop_append_of_le_length (by rw [bs_size]; omega)]
      have hdec := decode_pre (drop_ne ha) b
      rw [okFrom_step (by omega), hd, hdec] at ho
      rw [okFrom_step ha]
      have hw := decodeL_width ((bs d).drop a)
      by_cases e1 : (decodeL ((bs d).drop a)).1 = 65533 ∧ (decodeL ((bs d).drop a)).2 = 1
      · rw [if_pos e1] at ho; cases ho
      · rw [if_neg e1] at ho ⊢
        by_cases e2 : never (decodeL ((bs d).drop a)).1 = true
        · rw [if_pos e2] at ho; cases ho
        · rw [if_neg e2] at ho ⊢
          exact okFrom_pre h k _ (by omega) ho
    · exact okFrom_end _ _ (by omega)
end Mo
namespace Go.Proofs.YtbkbpdpegiekhaaGreatDoor
open Go.RowKit Go.Proofs.YtbkbpdpegiekhaaGreatDoorW.PrintWords Mo

end Go.Proofs.YtbkbpdpegiekhaaGreatDoor
