/- fold: Fold. -/
import Derived.Test.YtbkbpdpegiekhaaGreatDoorR7
import Derived.Lib.TrimUEq
import Derived.Lib.MapLaws
set_option linter.unusedVariables false
set_option linter.unusedSimpArgs false
namespace Mo
open Go Go.Lib
open Go.Proofs.YtbkbpdpegiekhaaGreatDoor (smallS)
/-- What a code point becomes. -/
def foldOne (l : B) : B := if smallS (decodeL l).1 = (decodeL l).1 then l.take (decodeL l).2 else encodeRune (smallS (decodeL l).1)
def foldN : Nat → B → B
  | 0, _ => []
  | n + 1, l => if l = [] then [] else foldOne l ++ foldN n (l.drop (decodeL l).2)
def foldB (l : B) : B := foldN l.length l
def pFold (s : S) : S := mk (foldB (bs s))

theorem foldN_nil : ∀ n, foldN n [] = []
  | 0 => rfl
  | _ + 1 => rfl
theorem foldN_fuel : ∀ (n m : Nat) (l : B), l.length ≤ n → l.length ≤ m → foldN n l = foldN m l
  | 0, m, l, hn, _ => by
    have : l = [] := List.eq_nil_of_length_eq_zero (by omega)
    subst this
    rw [foldN_nil, foldN_nil]
  | n + 1, 0, l, _, hm => by
    have : l = [] := List.eq_nil_of_length_eq_zero (by omega)
    subst this
    rw [foldN_nil, foldN_nil]
  | n + 1, m + 1, l, hn, hm => by
    unfold foldN
    by_cases hne : l = []
    · simp [hne]
    · have hw := decodeL_width l
      have hl : 0 < l.length := List.length_pos_iff.2 hne
      rw [if_neg hne, if_neg hne, foldN_fuel n m (l.drop (decodeL l).2) (by rw [List.length_drop]; omega) (by rw [List.length_drop]; omega)]
theorem foldB_step (l : B) (hne : l ≠ []) : foldB l = foldOne l ++ foldB (l.drop (decodeL l).2) := by
  have hl : 0 < l.length := List.length_pos_iff.2 hne
  have hw := decodeL_width l
  obtain ⟨n, hn⟩ : ∃ n, l.length = n + 1 := ⟨l.length - 1, by omega⟩
  unfold foldB
  rw [hn]
  show (if l = [] then [] else _) = _
  rw [if_neg hne, foldN_fuel n (l.drop (decodeL l).2).length _ (by rw [List.length_drop]; omega) (Nat.le_refl _)]
theorem smallS_range (c : Int) (h0 : 0 ≤ c) (h1 : c ≤ 1114111) : 0 ≤ smallS c ∧ smallS c ≤ 1114111 := by
  unfold smallS
  repeat' split
  all_goals omega
end Mo
namespace Go.Proofs.YtbkbpdpegiekhaaGreatDoor
open Go.RowKit Go.Proofs.YtbkbpdpegiekhaaGreatDoorW.PrintWords Mo

theorem decode_ext (s : ByteArray) (k : Nat) (hk : k < s.size) : Lib.decodeGo (s.extract k s.size) = Lib.decodeL ((bs s).drop k) := by
  unfold Lib.decodeGo
  rw [if_neg (by rw [ByteArray.size_extract]; omega), ← Lib.decodeL_drop]
  congr 1
  rw [List.drop_zero, Lib.extract_data]
  unfold bs
  rw [List.take_of_length_le]
  rw [List.length_drop, ← Lib.size_eq]; omega

theorem take_ext (s : ByteArray) (k n : Nat) (h : k + n ≤ s.size) : Lib.strCells (s.extract k (k + n)) = Lib.byteCells (((bs s).drop k).take n) := by
  rw [Lib.strCells_eq, Lib.extract_data]
  congr 2
  omega

theorem builder_below {B b : Nat} {cs : List Value} {w w' : World} (h : Lib.IsBuilder 261 5 B b cs w) (hb : Below w.heap.size w w') : Lib.IsBuilder 261 5 B b cs w' := by
  have key : ∀ p, Lib.BuilderAt 261 5 B b p cs w → Lib.BuilderAt 261 5 B b p cs w' := by
    rintro p ⟨h1, v, h2, h3, h4⟩
    exact ⟨h1, v, (hb.block b (blk_lt h2)).trans h2, pw_own_below h3 hb, h4⟩
  rcases h with h | h
  · exact .inl (key _ h)
  · exact .inr (key _ h)
theorem builder_lt {B b : Nat} {cs : List Value} {w : World} (h : Lib.IsBuilder 261 5 B b cs w) : b < w.heap.size := by
  rcases h with ⟨_, v, h2, _⟩ | ⟨_, v, h2, _⟩
  · exact blk_lt h2
  · exact blk_lt h2

set_option maxHeartbeats 4000000 in
theorem fold_Fold (s : S) (w : World) (hE : Env w) (hs : s.size ≤ 1000000000) :
    Calls Tryz.prog 181 #[.string s] w fun e w' => e = .returned (.string (pFold s)) ∧ Below w.heap.size w w' := by
  have HE := Aside0.mk hE
  clear hE
  go_enter Tryz.func181, Tryz.ntmps181
  go_wp2_with fail
  go_loopw [4] (fun i wr => ∃ (k : Nat) (done : B), k ≤ s.size ∧ i = .int .i64 k ∧ done.length ≤ 4 * k ∧ Aside0 (done ++ foldB ((bs s).drop k) = foldB (bs s)) ∧ Aside0 (Lib.IsBuilder 261 5 w.heap.size w.heap.size (Lib.byteCells done) wr) ∧ Aside0 (Below w.heap.size w wr))
    (fun i _ => s.size - (intOf i).toNat)
  case atStart =>
    refine ⟨0, [], Nat.zero_le _, rfl, Nat.le_refl _, ⟨by simp⟩, ⟨.inl ?_⟩, ⟨below_alloc (Below.refl _ _) _⟩⟩
    exact ⟨Nat.le_refl _, .slice none 0 0, heap_alloc_new w _, own_nil _ _ _ _, by simp [Value.ownBlock]⟩
  case round =>
    obtain ⟨k, done, hk, rfl, hd, HF, HI, HB⟩ := hrel
    have hsz := HB.out.size
    by_cases hlt : k < s.size
    · have hne : (bs s).drop k ≠ [] := by
        intro h
        have := congrArg List.length h
        rw [List.length_drop, bs_size] at this
        simp at this
        omega
      have hdec := decode_ext s k hlt
      have hstep := foldB_step _ hne
      have hw1 := Lib.decodeL_width ((bs s).drop k)
      have hw2 := Lib.decodeL_le ((bs s).drop k) hne
      have hr := Lib.decodeL_rune ((bs s).drop k)
      rw [List.length_drop, bs_size] at hw2
      rw [List.drop_drop] at hstep
      obtain ⟨r, hr0⟩ : ∃ r, r = (Lib.decodeL ((bs s).drop k)).1 := ⟨_, rfl⟩
      obtain ⟨n, hn0⟩ : ∃ n, n = (Lib.decodeL ((bs s).drop k)).2 := ⟨_, rfl⟩
      rw [← hn0] at hw1 hw2 hstep
      rw [← hr0] at hr
      have HD := Aside0.mk hdec
      have HS := Aside0.mk hstep
      have HR := Aside0.mk hr0
      have HN := Aside0.mk hn0
      clear hdec hstep hr0 hn0 hne
      go_wp2_with fail
      refine (Tryz.utf8_DecodeRuneInString _ _ (HE.out.below HB.out).tabs).mono ?_
      rintro e w1 ⟨rfl, hb1⟩
      rw [HD.out, ← HR.out, ← HN.out]
      have HB1 := Aside0.mk (below_then HB.out hsz hb1)
      have HI1 := Aside0.mk (builder_below HI.out hb1)
      clear hb1 HB HI
      go_wp2_with fail
      refine (fold_Small (r : Int) (by omega) (by omega) _).mono ?_
      rintro e w2 ⟨rfl, hb2⟩
      have hsz2 := HB1.out.size
      have HB2 := Aside0.mk (below_then HB1.out hsz2 hb2)
      have HI2 := Aside0.mk (builder_below HI1.out hb2)
      clear hb2 HB1 HI1 hsz2
      have hsr := smallS_range (r : Int) (by omega) (by omega)
      obtain ⟨q, hq⟩ : ∃ q, q = smallS (r : Int) := ⟨_, rfl⟩
      rw [← hq] at hsr ⊢
      have HQ := Aside0.mk hq
      obtain ⟨hq0, hq1⟩ := hsr
      clear hq
      have hsz3 := HB2.out.size
      have hdone : ∀ x : B, x.length ≤ 4 * n → (done ++ x).length ≤ 4 * (k + n) := fun x hx => by rw [List.length_append]; omega
      by_cases heq : q = (r : Int)
      · have hb : ((q : Int) != (r : Int)) = false := by rw [heq]; simp
        have hone : foldOne ((bs s).drop k) = ((bs s).drop k).take n := by
          unfold foldOne
          rw [← HR.out, ← HN.out, if_pos (by rw [← HQ.out]; exact heq)]
        have HO := Aside0.mk hone
        have HDN := Aside0.mk hdone
        clear heq hone hdone
        go_wp2_with fail
        refine (WriteString_any w.heap.size w.heap.size _ (s.extract k (k + n)) _ HI2.out (by rw [Lib.byteCells_length, ByteArray.size_extract]; omega) hsz3).mono ?_
        rintro e w3 ⟨rfl, hi3, hb3⟩
        have HB3 := Aside0.mk (HB2.out.trans hb3)
        have HI3 := Aside0.mk (show Lib.IsBuilder 261 5 w.heap.size w.heap.size (Lib.byteCells (done ++ ((bs s).drop k).take n)) w3 by rw [Lib.byteCells_append, ← take_ext s k n (by omega)]; exact .inr hi3)
        clear hi3 hb3 HB2 HI2
        go_wp2_with fail
        go_roundw
        case rel => exact ⟨k + n, done ++ ((bs s).drop k).take n, by omega, by go_num, HDN.out _ (by rw [List.length_take]; omega), ⟨by rw [List.append_assoc, ← HO.out, ← HS.out]; exact HF.out⟩, HI3, HB3⟩
        case measure => simp [intOf]; omega
      · have hb : ((q : Int) != (r : Int)) = true := by simpa using heq
        have hone : foldOne ((bs s).drop k) = Lib.encodeRune q := by
          unfold foldOne
          rw [← HR.out, ← HN.out, if_neg (by rw [← HQ.out]; exact heq), ← HQ.out]
        have HO := Aside0.mk hone
        have HDN := Aside0.mk hdone
        clear heq hone hdone
        go_wp2_with fail
        refine (WriteRune_any w.heap.size w.heap.size _ q (by omega) (by omega) _ HI2.out (by rw [Lib.byteCells_length]; omega) hsz3).mono ?_
        rintro e w3 ⟨rfl, hi3, hb3⟩
        have HB3 := Aside0.mk (HB2.out.trans hb3)
        have HI3 := Aside0.mk (show Lib.IsBuilder 261 5 w.heap.size w.heap.size (Lib.byteCells (done ++ Lib.encodeRune q)) w3 by rw [Lib.byteCells_append, Lib.byteCells_encodeRune]; exact .inr hi3)
        clear hi3 hb3 HB2 HI2
        have he4 : (Lib.encodeRune q).length ≤ 4 * n := by have := (Lib.runeCells_le q).2; rw [Lib.runeCells_length] at this; omega
        go_wp2_with fail
        go_roundw
        case rel => exact ⟨k + n, done ++ Lib.encodeRune q, by omega, by go_num, HDN.out _ he4, ⟨by rw [List.append_assoc, ← HO.out, ← HS.out]; exact HF.out⟩, HI3, HB3⟩
        case measure => simp [intOf]; omega
    · have hk2 : k = s.size := by omega
      subst hk2
      have HFin := Aside0.mk (show done = foldB (bs s) by
        have := HF.out
        rw [List.drop_of_length_le (by rw [bs_size]; exact Nat.le_refl _)] at this
        simpa [foldB, foldN] using this)
      clear HF hlt hk
      go_wp2_with fail
      refine (Any.Builder_String_any Tryz.lays169 Tryz.Builder_Extra_169 w.heap.size w.heap.size done _ HI.out hsz).mono ?_
      rintro e w1 ⟨rfl, hb1⟩
      have HB1 := Aside0.mk (HB.out.trans hb1)
      clear hb1 HB HI
      go_wp2_with fail
      go_ret
      exact ⟨by rw [HFin.out]; rfl, HB1.out⟩

end Go.Proofs.YtbkbpdpegiekhaaGreatDoor
