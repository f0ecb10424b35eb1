/- The reference's folds: Small, utf8, Fold. -/
import Derived.Test.YtbkbpdpegiekhaaGreatDoorF8
import Derived.Test.YtbkbpdpegiekhaaGreatDoorR12
import Derived.Lib.ConvBytes
set_option linter.unusedVariables false
set_option linter.unusedSimpArgs false
namespace Go.Proofs.YtbkbpdpegiekhaaGreatDoor
open Go.RowKit Go.Proofs.YtbkbpdpegiekhaaGreatDoorW.PrintWords Mo

set_option maxHeartbeats 8000000 in
set_option maxRecDepth 100000 in
theorem ref_Small (c : Int) (hc1 : 0 ≤ c) (hc2 : c ≤ 1114111) (w : World) : Calls Tryz.prog 158 #[.int .i64 c] w fun e w' => e = .returned (.int .i64 (smallS c)) ∧ w = w' := by
  have he : smallS c = if (65 ≤ c ∧ c ≤ 90) ∨ (192 ≤ c ∧ c ≤ 214) ∨ (216 ≤ c ∧ c ≤ 222) ∨ (913 ≤ c ∧ c ≤ 929) ∨ (931 ≤ c ∧ c ≤ 937) ∨ (1040 ≤ c ∧ c ≤ 1071) then c + 32
  else if 1024 ≤ c ∧ c ≤ 1039 then c + 80 else c := rfl
  have HE := Aside0.mk he
  clear he
  by_cases h0 : c < 65
  · have b1 : ¬ (65 : Int) ≤ c := by omega
    have b2 : ¬ (192 : Int) ≤ c := by omega
    have b3 : ¬ (913 : Int) ≤ c := by omega
    have b4 : ¬ (1040 : Int) ≤ c := by omega
    have b5 : ¬ (1024 : Int) ≤ c := by omega
    have HR := Aside0.mk (show smallS c = c by rw [HE.out, if_neg (by omega), if_neg (by omega)])
    go_enter Tryz.func158, Tryz.ntmps158
    go_wp2_with fail
    go_ret
    exact ⟨by rw [HR.out]; rfl, rfl⟩
  have b1 : (65 : Int) ≤ c := by omega
  by_cases h1 : c ≤ 90
  · have HR := Aside0.mk (show smallS c = c + 32 by rw [HE.out, if_pos (by omega)])
    go_enter Tryz.func158, Tryz.ntmps158
    go_wp2_with fail
    go_ret
    exact ⟨by rw [HR.out]; rfl, rfl⟩
  by_cases h2 : c < 192
  · have b2 : ¬ (192 : Int) ≤ c := by omega
    have b3 : ¬ (913 : Int) ≤ c := by omega
    have b4 : ¬ (1040 : Int) ≤ c := by omega
    have b5 : ¬ (1024 : Int) ≤ c := by omega
    have HR := Aside0.mk (show smallS c = c by rw [HE.out, if_neg (by omega), if_neg (by omega)])
    go_enter Tryz.func158, Tryz.ntmps158
    go_wp2_with fail
    go_ret
    exact ⟨by rw [HR.out]; rfl, rfl⟩
  have b2 : (192 : Int) ≤ c := by omega
  by_cases h3 : c ≤ 222
  · by_cases h4 : c = 215
    · subst h4
      go_enter Tryz.func158, Tryz.ntmps158
      go_wp2_with fail
      go_ret
      exact ⟨by rw [HE.out]; rfl, rfl⟩
    · have b6 : (c != 215) = true := by simpa using h4
      have HR := Aside0.mk (show smallS c = c + 32 by rw [HE.out, if_pos (by omega)])
      go_enter Tryz.func158, Tryz.ntmps158
      go_wp2_with fail
      go_ret
      exact ⟨by rw [HR.out]; rfl, rfl⟩
  by_cases h5 : c < 913
  · have b3 : ¬ (913 : Int) ≤ c := by omega
    have b4 : ¬ (1040 : Int) ≤ c := by omega
    have b5 : ¬ (1024 : Int) ≤ c := by omega
    have HR := Aside0.mk (show smallS c = c by rw [HE.out, if_neg (by omega), if_neg (by omega)])
    go_enter Tryz.func158, Tryz.ntmps158
    go_wp2_with fail
    go_ret
    exact ⟨by rw [HR.out]; rfl, rfl⟩
  have b3 : (913 : Int) ≤ c := by omega
  by_cases h6 : c ≤ 937
  · by_cases h7 : c = 930
    · subst h7
      go_enter Tryz.func158, Tryz.ntmps158
      go_wp2_with fail
      go_ret
      exact ⟨by rw [HE.out]; rfl, rfl⟩
    · have b6 : (c != 930) = true := by simpa using h7
      have HR := Aside0.mk (show smallS c = c + 32 by rw [HE.out, if_pos (by omega)])
      go_enter Tryz.func158, Tryz.ntmps158
      go_wp2_with fail
      go_ret
      exact ⟨by rw [HR.out]; rfl, rfl⟩
  by_cases h8 : c < 1040
  · have b4 : ¬ (1040 : Int) ≤ c := by omega
    by_cases h9 : 1024 ≤ c
    · have b7 : c ≤ 1039 := by omega
      have HR := Aside0.mk (show smallS c = c + 80 by rw [HE.out, if_neg (by omega), if_pos (by omega)])
      go_enter Tryz.func158, Tryz.ntmps158
      go_wp2_with fail
      go_ret
      exact ⟨by rw [HR.out]; rfl, rfl⟩
    · have HR := Aside0.mk (show smallS c = c by rw [HE.out, if_neg (by omega), if_neg (by omega)])
      go_enter Tryz.func158, Tryz.ntmps158
      go_wp2_with fail
      go_ret
      exact ⟨by rw [HR.out]; rfl, rfl⟩
  have b4 : (1040 : Int) ≤ c := by omega
  by_cases h9 : c ≤ 1071
  · have HR := Aside0.mk (show smallS c = c + 32 by rw [HE.out, if_pos (by omega)])
    go_enter Tryz.func158, Tryz.ntmps158
    go_wp2_with fail
    go_ret
    exact ⟨by rw [HR.out]; rfl, rfl⟩
  · have b5 : (1024 : Int) ≤ c := by omega
    have b6 : ¬ c ≤ 1039 := by omega
    have HR := Aside0.mk (show smallS c = c by rw [HE.out, if_neg (by omega), if_neg (by omega)])
    go_enter Tryz.func158, Tryz.ntmps158
    go_wp2_with fail
    go_ret
    exact ⟨by rw [HR.out]; rfl, rfl⟩

theorem conv_bytes (xs : List Int) (n : Nat) (hn : xs.length = n) (hx : n ≤ 1000) (W : World) : (convert 235 9 (.slice (some ⟨W.heap.size, 0, none⟩) n n)).run Tryz.prog (W.alloc (.cells (xs.map fun x => Value.int .u8 x).toArray 5)) = .ok (.string (strOfNums xs)) (W.alloc (.cells (xs.map fun x => Value.int .u8 x).toArray 5)) := by
  subst hn
  refine Kd.C_string Tryz.underlying235 Tryz.underlying5 Tryz.underlying9 ?_
  have key : ∀ ys : List Int, Reps ((Kd.int .u8).K W) (Kd.int .u8).sz ys (ys.map fun x => Value.int .u8 x) := by
    intro ys
    induction ys with
    | nil => exact Reps.none _ _
    | cons y ys ih => exact Reps.app (reps_single (d := Kd.int .u8) (x := y) (cs := [.int .u8 y]) rfl) ih
  exact C_lits (flat_int .u8) W 5 xs _ (key xs) (by omega) _ rfl
set_option maxHeartbeats 2000000 in
set_option maxRecDepth 100000 in
theorem ref_utf8 (c : Int) (hc1 : 0 ≤ c) (hc2 : c ≤ 2047) (w : World) : Calls Tryz.prog 159 #[.int .i64 c] w fun e w' => e = .returned (.string ⟨(Lib.encodeRune c).toArray⟩) ∧ Below w.heap.size w w' := by
  by_cases h0 : c < 128
  · have hcv := conv_bytes [c] 1 rfl (by omega)
    simp only [List.map_cons, List.map_nil] at hcv
    have HR := Aside0.mk (show strOfNums [c] = ⟨(Lib.encodeRune c).toArray⟩ by
      unfold strOfNums Lib.encodeRune
      rw [Lib.encodeRuneZ_one hc1 (by omega)])
    go_enter Tryz.func159, Tryz.ntmps159
    go_wp2_with fail
    go_ret
    exact ⟨by rw [← HR.out]; rfl, (Grew.refl w).alloc _ |>.below⟩
  · have b0 : ¬ c < 128 := h0
    have hcv := conv_bytes [192 + c / 64, 128 + c % 64] 2 rfl (by omega)
    simp only [List.map_cons, List.map_nil] at hcv
    have HR := Aside0.mk (show strOfNums [192 + c / 64, 128 + c % 64] = ⟨(Lib.encodeRune c).toArray⟩ by
      unfold strOfNums Lib.encodeRune
      rw [Lib.encodeRuneZ_two (by omega) hc2])
    go_enter Tryz.func159, Tryz.ntmps159
    go_wp2_with fail
    go_ret
    exact ⟨by rw [← HR.out]; rfl, (Grew.refl w).alloc _ |>.below⟩

/-- What has been folded, and what is left. -/
structure FSt (s o : S) (a : Nat) : Prop where
  le : a ≤ s.size
  all : bs o ++ foldB ((bs s).drop a) = foldB (bs s)
theorem FSt.small {s o : S} {a : Nat} (h : FSt s o a) : o.size ≤ 4 * s.size := by
  have := congrArg List.length h.all
  have h2 : (foldB (bs s)).length ≤ 4 * (bs s).length := foldN_len _ _
  rw [List.length_append, bs_size] at this
  rw [bs_size] at h2
  omega
theorem bs_append (a b : S) : bs (a ++ b) = bs a ++ bs b := by simp [bs, ByteArray.data_append]
theorem ext_take (s : S) (a n : Nat) : bs (s.extract a (a + n)) = ((bs s).drop a).take n := by
  rw [bs_extract, List.drop_take]
  congr 1
  omega
theorem FSt.step {s o x : S} {a : Nat} (h : FSt s o a) (ha : a < s.size) (hx : bs x = foldOne ((bs s).drop a)) : FSt s (o ++ x) (a + (Lib.decodeL ((bs s).drop a)).2) := by
  have hle := Lib.decodeL_le ((bs s).drop a) (drop_ne ha)
  rw [List.length_drop, bs_size] at hle
  refine ⟨by omega, ?_⟩
  have h1 := h.all
  rw [foldB_step _ (drop_ne ha), ← hx, List.drop_drop] at h1
  rw [bs_append, List.append_assoc]
  exact h1
theorem foldOne_same {l : Mo.B} (h : smallS (Lib.decodeL l).1 = (Lib.decodeL l).1) : foldOne l = l.take (Lib.decodeL l).2 := by unfold foldOne; rw [if_pos h]
theorem foldOne_other {l : Mo.B} (h : smallS (Lib.decodeL l).1 ≠ (Lib.decodeL l).1) : foldOne l = Lib.encodeRune (smallS (Lib.decodeL l).1) := by unfold foldOne; rw [if_neg h]
theorem smallS_other {c : Int} (h0 : 0 ≤ c) (h : smallS c ≠ c) : 0 ≤ smallS c ∧ smallS c ≤ 2047 := by
  unfold smallS at *
  repeat' split at h
  all_goals (repeat' split)
  all_goals omega

set_option maxHeartbeats 4000000 in
set_option maxRecDepth 100000 in
theorem ref_Fold (s : S) (w : World) (hs : s.size ≤ 1000000000) :
    Calls Tryz.prog 93 #[.string s] w fun e w' => e = .returned (.string (pFold s)) ∧ Below w.heap.size w w' := by
  go_enter Tryz.func93, Tryz.ntmps93
  go_wp2_with fail
  go_loopw [3, 4] (fun v i wr => ∃ (a : Nat) (o : S), a ≤ s.size ∧ i = .int .i64 a ∧ v = .string o ∧ Aside0 (FSt s o a) ∧ Aside0 (Below w.heap.size w wr)) (fun _ i _ => s.size - (intOf i).toNat)
  case atStart => exact ⟨0, ⟨#[]⟩, Nat.zero_le _, rfl, rfl, ⟨⟨Nat.zero_le _, rfl⟩⟩, ⟨Below.refl _ _⟩⟩
  case round =>
    obtain ⟨a, o, ha, rfl, rfl, HF, HB⟩ := hrel
    by_cases hlt : a < s.size
    · have hos := HF.out.small
      go_wp2_with fail
      refine (ref_Next s a _ hs hlt).mono ?_
      rintro e1 w1 ⟨rfl, hb1⟩
      have HB1 := Aside0.mk (below_then HB.out HB.out.size hb1)
      clear hb1 HB
      have hxs : (s.extract a (a + 1)).size ≤ s.size := by rw [ByteArray.size_extract]; omega
      by_cases hz : (nextR ((bs s).drop a)).2 = 0
      · obtain ⟨d1, d2⟩ := next_zero hz
        have hx : bs (s.extract a (a + 1)) = foldOne ((bs s).drop a) := by
          rw [foldOne_same (by rw [d1]; rfl), d2, ext_take]
        have HN := HF.out.step hlt hx
        rw [d2] at HN
        have HN := Aside0.mk HN
        rw [hz]
        have a1 : (a : Int) + 1 ≤ s.size := by omega
        clear hz d1 d2 hx HF
        go_wp2_with fail
        go_roundw
        case rel => exact ⟨a + 1, _, by omega, by go_num, rfl, HN, HB1⟩
        case measure => simp [intOf] <;> omega
      have hzb : ((nextR ((bs s).drop a)).2 == 0) = false := by simpa using hz
      obtain ⟨e1, _⟩ := next_pos hz
      have hrl := Lib.decodeL_rune ((bs s).drop a)
      have hle := Lib.decodeL_le ((bs s).drop a) (drop_ne hlt)
      rw [List.length_drop, bs_size] at hle
      have hw := Lib.decodeL_width ((bs s).drop a)
      have hstep := Aside0.mk (fun x hx => HF.out.step (x := x) hlt hx)
      have hsame := Aside0.mk (fun h => foldOne_same (l := (bs s).drop a) h)
      have hother := Aside0.mk (fun h => foldOne_other (l := (bs s).drop a) h)
      rw [e1] at hzb ⊢
      obtain ⟨c, hc⟩ : ∃ c, c = (Lib.decodeL ((bs s).drop a)).1 := ⟨_, rfl⟩
      obtain ⟨n, hn⟩ : ∃ n, n = (Lib.decodeL ((bs s).drop a)).2 := ⟨_, rfl⟩
      rw [← hc] at hrl hsame hother hzb ⊢
      rw [← hn] at hle hw hstep hsame hzb ⊢
      clear hc hn e1 hz HF hxs
      have hxs : (s.extract a (a + n)).size ≤ s.size := by rw [ByteArray.size_extract]; omega
      have a1 : (a : Int) + n ≤ s.size := by omega
      have a2 : a ≤ a + n := by omega
      by_cases hsm : smallS c = c
      · have HN := Aside0.mk (hstep.out (s.extract a (a + n)) (by rw [hsame.out hsm, ext_take]))
        have HSM := Aside0.mk hsm
        clear hsame hother hstep hsm
        go_wp2_with fail
        refine (ref_Small (c : Int) (by omega) (by omega) _).mono ?_
        rintro e2 w2 ⟨rfl, rfl⟩
        rw [HSM.out]
        go_wp2_with fail
        go_roundw
        case rel => exact ⟨a + n, _, by omega, by go_num, rfl, HN, HB1⟩
        case measure => simp [intOf] <;> omega
      · obtain ⟨t0, t1⟩ := smallS_other (by omega) hsm
        have HN := Aside0.mk (hstep.out ⟨(Lib.encodeRune (smallS c)).toArray⟩ (by rw [hother.out hsm]; rfl))
        have hel : (⟨(Lib.encodeRune (smallS c)).toArray⟩ : S).size ≤ 4 := by
          have := (Lib.runeCells_le (smallS c)).2
          rw [Lib.runeCells_length] at this
          rw [size_bs]
          show (Lib.encodeRune (smallS c)).length ≤ 4
          omega
        have hsb : (smallS (c : Int) == (c : Int)) = false := by simpa using hsm
        clear hsame hother hstep hsm
        go_wp2_with fail
        refine (ref_Small (c : Int) (by omega) (by omega) _).mono ?_
        rintro e2 w2 ⟨rfl, rfl⟩
        go_wp2_with fail
        refine (ref_Small (c : Int) (by omega) (by omega) _).mono ?_
        rintro e2 w2 ⟨rfl, rfl⟩
        go_wp2_with fail
        refine (ref_utf8 (smallS c) t0 t1 _).mono ?_
        rintro e3 w3 ⟨rfl, hb3⟩
        have HB3 := Aside0.mk (below_then HB1.out HB1.out.size hb3)
        clear hb3 HB1
        obtain ⟨y, hy⟩ : ∃ y : S, y = ⟨(Lib.encodeRune (smallS c)).toArray⟩ := ⟨_, rfl⟩
        rw [← hy] at hel HN ⊢
        clear hy
        go_wp2_with fail
        go_roundw
        case rel => exact ⟨a + n, _, by omega, by go_num, rfl, HN, HB3⟩
        case measure => simp [intOf] <;> omega
    · obtain rfl : a = s.size := by omega
      have HR := Aside0.mk (show pFold s = o by
        have := HF.out.all
        rw [List.drop_eq_nil_of_le (by rw [bs_size]; exact Nat.le_refl _)] at this
        apply bs_inj
        unfold pFold
        rw [bs_mk, ← this]
        simp [foldB, foldN])
      clear hlt HF
      go_wp2_with fail
      go_ret
      exact ⟨by rw [HR.out]; rfl, HB.out⟩

end Go.Proofs.YtbkbpdpegiekhaaGreatDoor
