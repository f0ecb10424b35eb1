/- The reference's paths: Right. -/
import Derived.Test.YtbkbpdpegiekhaaGreatDoorR3
import Derived.Test.YtbkbpdpegiekhaaGreatDoorF4
import Derived.Lib.ValidLaws
import Derived.Lib.MapLaws
set_option linter.unusedVariables false
set_option linter.unusedSimpArgs false
namespace Mo
open Go Go.Lib
theorem idx_fuel (p : Nat → Bool) (t : Bool) (s : S) : ∀ (f g pos : Nat), s.size ≤ pos + f → s.size ≤ pos + g → idxFuncFrom p t s f pos = idxFuncFrom p t s g pos
  | 0, g, pos, h, _ => by rw [idxFuncFrom_end _ _ _ _ _ (by omega), idxFuncFrom_end _ _ _ _ _ (by omega)]
  | f + 1, 0, pos, _, h => by rw [idxFuncFrom_end _ _ _ _ _ (by omega), idxFuncFrom_end _ _ _ _ _ (by omega)]
  | f + 1, g + 1, pos, h1, h2 => by
    unfold idxFuncFrom
    by_cases hp : pos < s.size
    · have hw : 1 ≤ (Utf8.decode s pos).2 := by rw [← decodeL_drop]; exact decodeL_width _
      rw [if_pos hp, if_pos hp, idx_fuel p t s f g _ (by omega) (by omega)]
    · rw [if_neg hp, if_neg hp]
/-- From a place on: valid, and no byte that no path has. -/
def okFrom (s : S) (a : Nat) : Bool := validD ((bs s).drop a) && !decide (0 ≤ idxFuncFrom never true s (s.size - a) a)
theorem okFrom_zero (s : S) : okFrom s 0 = pRunes s := rfl
theorem okFrom_end (s : S) (a : Nat) (h : s.size ≤ a) : okFrom s a = true := by
  unfold okFrom
  rw [List.drop_eq_nil_of_le (by rw [bs_size]; exact h), idxFuncFrom_end _ _ _ _ _ (by omega)]
  rfl
theorem drop_ne {s : S} {a : Nat} (h : a < s.size) : (bs s).drop a ≠ [] := fun e => by
  have := congrArg List.length e
  rw [List.length_drop, bs_size] at this
  simp at this
  omega
theorem next_zero {l : B} (h : (nextR l).2 = 0) : (decodeL l).1 = 65533 ∧ (decodeL l).2 = 1 := by
  unfold nextR at h
  by_cases e : (decodeL l).1 = 65533 ∧ (decodeL l).2 = 1
  · exact e
  · rw [if_neg e] at h
    have := decodeL_width l
    simp only at h
    omega
theorem next_pos {l : B} (h : (nextR l).2 ≠ 0) : nextR l = (((decodeL l).1 : Int), ((decodeL l).2 : Int)) ∧ ¬ ((decodeL l).1 = 65533 ∧ (decodeL l).2 = 1) := by
  unfold nextR at *
  by_cases e : (decodeL l).1 = 65533 ∧ (decodeL l).2 = 1
  · rw [if_pos e] at h; exact absurd rfl h
  · rw [if_neg e]; exact ⟨rfl, e⟩
theorem okFrom_none {s : S} {a : Nat} (ha : a < s.size) (h : (nextR ((bs s).drop a)).2 = 0) : okFrom s a = false := by
  unfold okFrom
  rw [validD_step _ (drop_ne ha), if_pos (next_zero h)]
  rfl
theorem idx_step {s : S} {a : Nat} (ha : a < s.size) : idxFuncFrom never true s (s.size - a) a = if never (decodeL ((bs s).drop a)).1 = true then (a : Int) else idxFuncFrom never true s (s.size - (a + (decodeL ((bs s).drop a)).2)) (a + (decodeL ((bs s).drop a)).2) := by
  obtain ⟨f, hf⟩ : ∃ f, s.size - a = f + 1 := ⟨s.size - a - 1, by omega⟩
  have hw := decodeL_width ((bs s).drop a)
  have e : decodeL ((bs s).drop a) = Utf8.decode s a := decodeL_drop s a
  rw [hf]
  rw [show idxFuncFrom never true s (f + 1) a = if a < s.size then (if never (Utf8.decode s a).1 = true then (a : Int) else idxFuncFrom never true s f (a + (Utf8.decode s a).2)) else -1 from rfl]
  rw [if_pos ha, e]
  rw [e] at hw
  rw [idx_fuel never true s f (s.size - (a + (Utf8.decode s a).2)) _ (by omega) (by omega)]
theorem lead_rune {s : S} {a : Nat} : (byteR s a < 128 → (decodeL ((bs s).drop a)).1 = byteR s a) ∧ (128 ≤ byteR s a → 128 ≤ (decodeL ((bs s).drop a)).1) := by
  rw [decode_byteR]
  unfold decodeN
  constructor
  · intro h; rw [if_pos h]
  · intro h
    rw [if_neg (by omega)]
    repeat' split
    all_goals (simp only; omega)
theorem never_byte {s : S} {a : Nat} : never (decodeL ((bs s).drop a)).1 = (decide (byteR s a < 32) || decide (byteR s a = 127) || decide (byteR s a = 92)) := by
  obtain ⟨h1, h2⟩ := lead_rune (s := s) (a := a)
  unfold never
  by_cases h : byteR s a < 128
  · rw [h1 h]
  · have h2 := h2 (by omega)
    rw [decide_eq_false (by omega), decide_eq_false (by omega), decide_eq_false (by omega), decide_eq_false (by omega), decide_eq_false (by omega), decide_eq_false (by omega)]
theorem okFrom_never {s : S} {a : Nat} (ha : a < s.size) (h : byteR s a < 32 ∨ byteR s a = 127 ∨ byteR s a = 92) : okFrom s a = false := by
  unfold okFrom
  rw [idx_step ha, if_pos (by rw [never_byte]; rcases h with h | h | h <;> simp [h]), decide_eq_true (by omega)]
  simp
theorem okFrom_next {s : S} {a : Nat} (ha : a < s.size) (h : (nextR ((bs s).drop a)).2 ≠ 0) (h1 : ¬ byteR s a < 32) (h2 : byteR s a ≠ 127) (h3 : byteR s a ≠ 92) :
    ∃ n : Nat, (nextR ((bs s).drop a)).2 = n ∧ 1 ≤ n ∧ a + n ≤ s.size ∧ okFrom s (a + n) = okFrom s a := by
  obtain ⟨e1, e2⟩ := next_pos h
  have hle := decodeL_le ((bs s).drop a) (drop_ne ha)
  rw [List.length_drop, bs_size] at hle
  refine ⟨(decodeL ((bs s).drop a)).2, by rw [e1], decodeL_width _, by omega, ?_⟩
  unfold okFrom
  rw [idx_step ha, if_neg (by rw [never_byte]; simp [h1, h2, h3]), validD_step _ (drop_ne ha), if_neg e2, List.drop_drop]
end Mo
namespace Go.Proofs.YtbkbpdpegiekhaaGreatDoor
open Go.RowKit Go.Proofs.YtbkbpdpegiekhaaGreatDoorW.PrintWords Mo

theorem split_len : ∀ (l : Mo.B), ∀ x ∈ Mo.split l, x.length ≤ l.length
  | [], x, h => by simp [Mo.split] at h; subst h; simp
  | c :: t, x, h => by
    unfold Mo.split at h
    split at h
    · rcases List.mem_cons.1 h with e | h
      · subst e; simp
      · have := split_len t x h
        simp; omega
    · cases hs : Mo.split t with
      | nil => rw [hs] at h; simp at h; subst h; simp
      | cons y r =>
        rw [hs] at h
        rcases List.mem_cons.1 h with e | h
        · subst e
          have := split_len t y (by rw [hs]; simp)
          simp; omega
        · have := split_len t x (by rw [hs]; exact List.mem_cons_of_mem _ h)
          simp; omega
theorem pParts_size (s : S) : ∀ x ∈ pParts s, x.size ≤ s.size := by
  intro x hx
  unfold pParts at hx
  obtain ⟨l, hl, rfl⟩ := List.mem_map.1 hx
  rw [size_bs, bs_mk, size_bs]
  unfold parts at hl
  split at hl
  · cases hl
  · exact split_len _ _ hl
theorem pRight_eq (s : S) : pRight s = (!s.toList.isEmpty && decide (s.size ≤ 1024) && pRunes s && decide ((pParts s).length ≤ 32) && !(pParts s).any fun x => !okPart x) := rfl
theorem rd_str {w : World} {v : Value} {xs : List S} (h : Rd Kd.string w v xs) : ∃ A c, v = .slice A xs.length c ∧ xs.length ≤ c ∧ xs.length ≤ 9223372036854775807 ∧ ∀ i (hi : i < xs.length), ∃ ad, A = some ad ∧ w.cell? (ad.add i) = some (.string xs[i]) := by
  obtain ⟨A, c, rfl, hl, hc⟩ := h
  refine ⟨A, c, rfl, hl, hc.2.1, fun i hi => ?_⟩
  obtain ⟨ad, e, h⟩ := C_str hc i hi
  refine ⟨ad, e, ?_⟩
  rw [h, List.getD_eq_getElem?_getD, List.getElem?_eq_getElem hi]; rfl

set_option maxHeartbeats 8000000 in
set_option maxRecDepth 100000 in
theorem ref_Right (s : S) (w : World) (hs : s.size ≤ 1000000000) :
    Calls Tryz.prog 155 #[.string s] w fun e w' => e = .returned (.bool (pRight s)) ∧ Below w.heap.size w w' := by
  by_cases h1 : s.size < 1
  · have hR := Aside0.mk (show pRight s = false by
      have : s.toList.isEmpty = true := by
        rw [Lib.toList_data, List.isEmpty_iff]
        exact List.eq_nil_of_length_eq_zero (by rw [show s.data.toList.length = s.size from bs_size s]; omega)
      rw [pRight_eq, this]; rfl)
    have h1' : (s.size : Int) < 1 := by omega
    go_enter Tryz.func155, Tryz.ntmps155
    go_wp2_with fail
    go_ret
    exact ⟨by rw [hR.out]; rfl, Below.refl _ _⟩
  have h1' : ¬ (s.size : Int) < 1 := by omega
  by_cases h2 : 1024 < s.size
  · have hR := Aside0.mk (show pRight s = false by
      rw [pRight_eq, decide_eq_false (by omega : ¬ s.size ≤ 1024), Bool.and_false]; rfl)
    have h2' : (1024 : Int) < s.size := by omega
    go_enter Tryz.func155, Tryz.ntmps155
    go_wp2_with fail
    go_ret
    exact ⟨by rw [hR.out]; rfl, Below.refl _ _⟩
  have h2' : ¬ (1024 : Int) < s.size := by omega
  have hR1 := Aside0.mk (show pRight s = (pRunes s && decide ((pParts s).length ≤ 32) && !(pParts s).any fun x => !okPart x) by
    have : s.toList.isEmpty = false := by
      rw [Lib.toList_data]
      cases h : s.data.toList with
      | nil => have := bs_size s; unfold bs at this; rw [h] at this; simp at this; omega
      | cons a t => rfl
    rw [pRight_eq, this, decide_eq_true (by omega : s.size ≤ 1024)]; rfl)
  clear h1
  go_enter Tryz.func155, Tryz.ntmps155
  go_wp2_with fail
  go_loopw [3] (fun i wr => ∃ a : Nat, a ≤ s.size ∧ i = .int .i64 a ∧ Aside0 (okFrom s a = pRunes s) ∧ Aside0 (Below w.heap.size w wr)) (fun i _ => s.size - (intOf i).toNat)
  case atStart => exact ⟨0, Nat.zero_le _, rfl, ⟨okFrom_zero s⟩, ⟨Below.refl _ _⟩⟩
  case round =>
    obtain ⟨a, ha, rfl, HO, HB⟩ := hrel
    by_cases hlt : a < s.size
    · go_wp2_with fail
      refine (ref_Next s a _ hs hlt).mono ?_
      rintro e1 w1 ⟨rfl, hb1⟩
      have HB1 := Aside0.mk (below_then HB.out HB.out.size hb1)
      clear hb1 HB
      have hby := byteR_get hlt
      by_cases hz : (nextR ((bs s).drop a)).2 = 0
      · have hR := Aside0.mk (show pRight s = false by rw [hR1.out, ← HO.out, okFrom_none hlt hz]; rfl)
        rw [hz]
        clear hz hby hR1 HO
        go_wp2_with fail
        go_ret
        exact ⟨by rw [hR.out]; rfl, HB1.out⟩
      have hzb : ((nextR ((bs s).drop a)).2 == 0) = false := by simpa using hz
      by_cases b1 : s[a].toNat < 32
      · have hR := Aside0.mk (show pRight s = false by rw [hR1.out, ← HO.out, okFrom_never hlt (by rw [hby]; exact .inl b1)]; rfl)
        have b1' : (s[a].toNat : Int) < 32 := by omega
        clear hz hby b1 hR1 HO
        go_wp2_with fail
        go_ret
        exact ⟨by rw [hR.out]; rfl, HB1.out⟩
      have b1' : ¬ (s[a].toNat : Int) < 32 := by omega
      by_cases b2 : s[a].toNat = 127
      · have hR := Aside0.mk (show pRight s = false by rw [hR1.out, ← HO.out, okFrom_never hlt (by rw [hby]; exact .inr (.inl b2))]; rfl)
        have b2' : ((s[a].toNat : Int) == 127) = true := by rw [b2]; rfl
        clear hz hby b1 b2 hR1 HO
        go_wp2_with fail
        go_ret
        exact ⟨by rw [hR.out]; rfl, HB1.out⟩
      have b2' : ((s[a].toNat : Int) == 127) = false := by rw [beq_eq_false_iff_ne]; omega
      by_cases b3 : s[a].toNat = 92
      · have hR := Aside0.mk (show pRight s = false by rw [hR1.out, ← HO.out, okFrom_never hlt (by rw [hby]; exact .inr (.inr b3))]; rfl)
        have b3' : ((s[a].toNat : Int) == 92) = true := by rw [b3]; rfl
        clear hz hby b1 b2 b3 hR1 HO
        go_wp2_with fail
        go_ret
        exact ⟨by rw [hR.out]; rfl, HB1.out⟩
      have b3' : ((s[a].toNat : Int) == 92) = false := by rw [beq_eq_false_iff_ne]; omega
      obtain ⟨n, hn, hn1, han, hok⟩ := okFrom_next hlt hz (by rw [hby]; exact b1) (by rw [hby]; exact b2) (by rw [hby]; exact b3)
      rw [hn] at hzb ⊢
      have HO2 := Aside0.mk (hok.trans HO.out)
      clear hz hby b1 b2 b3 hn hok
      go_wp2_with fail
      go_roundw
      case rel => exact ⟨a + n, han, by go_num, HO2, HB1⟩
      case measure => simp [intOf] <;> omega
    · obtain rfl : a = s.size := by omega
      have hR2 := Aside0.mk (show pRight s = (decide ((pParts s).length ≤ 32) && !(pParts s).any fun x => !okPart x) by
        rw [hR1.out, ← HO.out, okFrom_end s _ (Nat.le_refl _)]; rfl)
      clear hlt HO hR1
      go_wp2_with fail
      refine (ref_Parts s _ hs).mono ?_
      rintro e1 w1 ⟨v, rfl, ho, hb1⟩
      have HB1 := Aside0.mk (below_then HB.out HB.out.size hb1)
      have HRd := Aside0.mk ho.rd
      have hpl := pParts_len s
      clear hb1 HB ho
      obtain ⟨A, c, rfl, hlc, hmx, _⟩ := rd_str HRd.out
      obtain ⟨m, hm0⟩ : ∃ m, m = (pParts s).length := ⟨_, rfl⟩
      rw [← hm0] at hlc hmx hpl hR2 ⊢
      have HM := Aside0.mk hm0
      clear hm0
      by_cases hgt : 32 < m
      · have hR := Aside0.mk (show pRight s = false by rw [hR2.out, decide_eq_false (by omega : ¬ m ≤ 32)]; rfl)
        have hgt' : (32 : Int) < m := by omega
        go_wp2_with fail
        go_ret
        exact ⟨by rw [hR.out]; rfl, HB1.out⟩
      have hgt' : ¬ (32 : Int) < m := by omega
      have hR3 := Aside0.mk (show pRight s = !(pParts s).any fun x => !okPart x by rw [hR2.out, decide_eq_true (by omega : m ≤ 32)]; rfl)
      clear hR2
      go_wp2_with fail
      go_loop [7] (fun i => ∃ k : Nat, k ≤ m ∧ i = .int .i64 k ∧ Aside0 (((pParts s).take k).any (fun x => !okPart x) = false)) (fun i => m - (intOf i).toNat)
      case atStart => exact ⟨0, Nat.zero_le _, rfl, ⟨by simp⟩⟩
      case round =>
        obtain ⟨k, hk, rfl, HA⟩ := hrel
        by_cases hlt : k < m
        · have hk2 : k < (pParts s).length := by rw [← HM.out]; exact hlt
          obtain ⟨ad, e0, k0⟩ := C_str (by obtain ⟨A', c', e', _, h'⟩ := HRd.out; injection e' with e1 e2 e3; subst e1; exact h') k hk2
          subst e0
          have hbd : (pParts s)[k].size ≤ 100000000000 := by
            have := pParts_size s _ (List.getElem_mem hk2)
            omega
          rw [List.getD_eq_getElem?_getD, List.getElem?_eq_getElem hk2, Option.getD_some] at k0
          have hsn := Aside0.mk (List.take_succ_eq_append_getElem hk2)
          have hany := Aside0.mk (show okPart (pParts s)[k] = false → pRight s = false from fun h => by
            rw [hR3.out, List.any_eq_true.2 ⟨_, List.getElem_mem hk2, by rw [h]; rfl⟩]; rfl)
          have hok : okPart (pParts s)[k] = (!(pParts s)[k].toList.isEmpty && decide ((pParts s)[k].size ≤ 255) && !((pParts s)[k].toList == [46]) && !((pParts s)[k].toList == [46, 46])) := rfl
          obtain ⟨x, hx⟩ : ∃ x, x = (pParts s)[k] := ⟨_, rfl⟩
          rw [← hx] at hbd k0 hok hany hsn
          clear hx hk2
          by_cases c1 : x.toList = []
          · have hR := Aside0.mk (hany.out (by rw [hok, c1]; rfl))
            have c1b : x.toList.isEmpty = true := by simpa using c1
            clear hok
            go_wp2_with fail
            go_ret
            exact ⟨by rw [hR.out]; rfl, HB1.out⟩
          have c1b : x.toList.isEmpty = false := by simpa using c1
          by_cases c2 : 255 < x.size
          · have hR := Aside0.mk (hany.out (by rw [hok, decide_eq_false (by omega : ¬ x.size ≤ 255), Bool.and_false]; rfl))
            have c2b : (255 : Int) < x.size := by omega
            clear hok c2
            go_wp2_with fail
            go_ret
            exact ⟨by rw [hR.out]; rfl, HB1.out⟩
          have c2b : ¬ (255 : Int) < x.size := by omega
          by_cases c3 : x.toList = [46]
          · have hR := Aside0.mk (hany.out (by rw [hok, c3]; simp))
            have c3b : (x.toList == [46]) = true := by simpa using c3
            clear hok c2 c1 c3
            go_wp2_with fail
            go_ret
            exact ⟨by rw [hR.out]; rfl, HB1.out⟩
          have c3b : (x.toList == [46]) = false := by simpa using c3
          by_cases c4 : x.toList = [46, 46]
          · have hR := Aside0.mk (hany.out (by rw [hok, c4]; simp))
            have c4b : (x.toList == [46, 46]) = true := by simpa using c4
            clear hok c2 c1 c3 c4
            go_wp2_with fail
            go_ret
            exact ⟨by rw [hR.out]; rfl, HB1.out⟩
          have c4b : (x.toList == [46, 46]) = false := by simpa using c4
          have HA2 := Aside0.mk (show ((pParts s).take (k + 1)).any (fun x => !okPart x) = false by
            rw [hsn.out, List.any_append, HA.out]
            simp only [List.any_cons, List.any_nil, Bool.or_false, Bool.false_or]
            rw [hok, c1b, c3b, c4b, decide_eq_true (by omega : x.size ≤ 255)]; rfl)
          clear hok c2 c1 c3 c4
          go_wp2_with fail
          go_round
          case rel => exact ⟨k + 1, by omega, by go_num, HA2⟩
          case measure => simp [intOf] <;> omega
        · obtain rfl : k = m := by omega
          have hR := Aside0.mk (show pRight s = true by
            have := HA.out
            rw [List.take_of_length_le (by rw [← HM.out]; exact Nat.le_refl _)] at this
            rw [hR3.out, this]; rfl)
          clear hlt HA
          go_wp2_with fail
          go_ret
          exact ⟨by rw [hR.out]; rfl, HB1.out⟩
end Go.Proofs.YtbkbpdpegiekhaaGreatDoor
