/- The reference's paths: Parts. -/
import Derived.Test.YtbkbpdpegiekhaaGreatDoorB1
import Derived.Outline
import Derived.WalkLawsBesides
import Derived.WalkSpells
import Derived.Lib.TrimUEq
import Derived.Deep.QuietTactic
import Derived.BigQuiet
set_option linter.unusedVariables false
set_option linter.unusedSimpArgs false
namespace Mo
theorem split_free_nil {a b : B} (h : (47 : UInt8) ∉ a) : split (a ++ 47 :: b) = a :: split b := by
  rw [split_append, split_of_free h]; rfl
/-- What is kept between slashes: all ahead of f is told; no slash lies in f .. k. -/
structure PSt (s : S) (acc : List S) (f k : Nat) : Prop where
  fk : f ≤ k
  ks : k ≤ s.size
  free : (47 : UInt8) ∉ ((bs s).take k).drop f
  all : acc.map bs ++ split ((bs s).drop f) = split (bs s)
  len : acc.length ≤ f
theorem bs_extract (s : S) (a b : Nat) : bs (s.extract a b) = ((bs s).take b).drop a := by
  unfold bs
  rw [ByteArray.data_extract]
  simp [Array.toList_extract, List.extract_eq_take_drop, List.drop_take]
theorem PSt.start (s : S) : PSt s [] 0 0 := ⟨Nat.le_refl _, Nat.zero_le _, by simp, by simp, Nat.le_refl _⟩
theorem take_cat (l : B) (f k : Nat) (c : UInt8) (hfk : f ≤ k) (hk : k < l.length) (hc : l[k]? = some c) : l.drop f = (l.take k).drop f ++ c :: l.drop (k + 1) := by
  have e1 : l.drop f = (l.take k ++ l.drop k).drop f := by rw [List.take_append_drop]
  have hg : l.drop k = c :: l.drop (k + 1) := by
    rw [List.drop_eq_getElem_cons hk]
    congr 1
    rw [List.getElem?_eq_getElem hk] at hc
    exact Option.some.inj hc
  rw [e1, List.drop_append_of_le_length (by rw [List.length_take]; omega), hg]
theorem take_snocB (l : B) (k : Nat) (c : UInt8) (hc : l[k]? = some c) : l.take (k + 1) = l.take k ++ [c] := by
  have hk := (List.getElem?_eq_some_iff.1 hc).1
  rw [List.take_succ_eq_append_getElem hk]
  congr 2
  exact (List.getElem?_eq_some_iff.1 hc).2
theorem PSt.other {s : S} {acc : List S} {f k : Nat} (h : PSt s acc f k) {c : UInt8} (hc : (bs s)[k]? = some c) (hne : c ≠ 47) : PSt s acc f (k + 1) := by
  have hk := (List.getElem?_eq_some_iff.1 hc).1
  refine ⟨by have := h.fk; omega, by rw [size_bs]; omega, ?_, h.all, h.len⟩
  rw [take_snocB _ _ _ hc, List.drop_append_of_le_length (by rw [List.length_take]; have := h.fk; omega)]
  intro hm
  rcases List.mem_append.1 hm with hm | hm
  · exact h.free hm
  · rw [List.mem_singleton] at hm; exact hne hm.symm
theorem PSt.slash {s : S} {acc : List S} {f k : Nat} (h : PSt s acc f k) (hc : (bs s)[k]? = some 47) : PSt s (acc ++ [s.extract f k]) (k + 1) (k + 1) := by
  have hk := (List.getElem?_eq_some_iff.1 hc).1
  refine ⟨Nat.le_refl _, by rw [size_bs]; omega, ?_, ?_, by rw [List.length_append, List.length_singleton]; have := h.len; have := h.fk; omega⟩
  · rw [List.drop_eq_nil_of_le (by rw [List.length_take]; omega)]; simp
  · have h1 := h.all
    rw [take_cat (bs s) f k 47 h.fk hk hc, split_free_nil h.free] at h1
    rw [List.map_append, List.map_singleton, bs_extract, ← h1, List.append_assoc]
    rfl
theorem PSt.done {s : S} {acc : List S} {f : Nat} (h : PSt s acc f s.size) : acc ++ [s.extract f s.size] = pSplit s := by
  have hf := h.free
  have h1 := h.all
  rw [List.take_of_length_le (by rw [bs_size]; exact Nat.le_refl _)] at hf
  rw [split_of_free hf] at h1
  unfold pSplit
  rw [← h1, List.map_append, List.map_map]
  have e : (Mo.mk ∘ bs : S → S) = id := by funext x; exact mk_bs x
  rw [e, List.map_id]
  congr 1
  rw [List.map_singleton]
  congr 1
  apply bs_inj
  rw [bs_extract, bs_mk, List.take_of_length_le (by rw [bs_size]; exact Nat.le_refl _)]
end Mo
namespace Go.Proofs.YtbkbpdpegiekhaaGreatDoor
open Go.RowKit Go.Proofs.YtbkbpdpegiekhaaGreatDoorW.PrintWords Mo

theorem pParts_ne {s : S} (h : s.toList ≠ []) : pParts s = pSplit s := by
  unfold pParts pSplit parts
  rw [if_neg (by rw [Lib.toList_data] at h; exact h)]
theorem pParts_len (s : S) : (pParts s).length ≤ s.size + 1 := by
  unfold pParts
  rw [List.length_map]
  unfold parts
  split
  · simp
  · have key : ∀ l : Mo.B, (Mo.split l).length ≤ l.length + 1 := by
      intro l
      induction l with
      | nil => simp [Mo.split]
      | cons c t ih =>
        unfold Mo.split
        split
        · simp; omega
        · cases hs : Mo.split t with
          | nil => exact absurd hs (split_ne t)
          | cons x r => rw [hs] at ih; simp at ih ⊢; omega
    rw [size_bs]; exact key _
theorem Ow.sl0 {α : Type} {d : Kd α} {e : Nat} {w : World} {base : Nat} {v : Value} {xs : List α} (h : Ow d e w base v xs) : ∃ A n c, v = .slice A n c := by
  obtain ⟨A, c, e1, _⟩ := h.slice
  exact ⟨A, _, c, e1⟩
theorem byte_at {s : S} {k : Nat} (h : k < s.size) : (bs s)[k]? = some s[k] := by
  unfold bs
  rw [List.getElem?_eq_getElem (by simpa using h)]
  rfl

set_option maxHeartbeats 4000000 in
theorem ref_Parts (s : S) (w : World) (hs : s.size ≤ 1000000000) :
    Calls Tryz.prog 126 #[.string s] w fun e w' => ∃ v, e = .returned v ∧ Ow Kd.string 9 w' w.heap.size v (pParts s) ∧ Below w.heap.size w w' := by
  by_cases hne : s.toList = []
  · have he : pParts s = [] := by
      unfold pParts
      rw [show bs s = [] from by rw [Lib.toList_data] at hne; exact hne]
      rfl
    have HE := Aside0.mk he
    clear he
    go_enter Tryz.func126, Tryz.ntmps126
    go_wp2_with fail
    go_ret
    exact ⟨_, rfl, by rw [HE.out]; exact Ow.nil _ _ _ _, Below.refl _ _⟩
  have HE := Aside0.mk (pParts_ne hne)
  have hnb : s.toList.isEmpty = false := by simpa using hne
  go_enter Tryz.func126, Tryz.ntmps126
  go_wp2_with fail
  go_loopw [3, 4, 5] (fun v fv iv wr => ∃ (k : Nat) (f : Nat) (acc : List S), k ≤ s.size + 1 ∧ f ≤ s.size + 1 ∧ iv = .int .i64 k ∧ fv = .int .i64 f ∧ Aside0 (Ow Kd.string 9 wr w.heap.size v acc) ∧ Aside0 (Below w.heap.size w wr) ∧
      Aside0 (PSt s acc f k ∨ (k = s.size + 1 ∧ acc = pSplit s)))
    (fun _ _ iv _ => s.size + 1 - (intOf iv).toNat)
  case atStart => exact ⟨0, 0, [], by omega, by omega, rfl, rfl, ⟨Ow.nil _ _ _ _⟩, ⟨Below.refl _ _⟩, ⟨.inl (PSt.start s)⟩⟩
  case round =>
    obtain ⟨k, f, acc, hk, hf, rfl, rfl, HO, HB, HP⟩ := hrel
    rcases HP.out with hP | ⟨rfl, hP⟩
    · have hks := hP.ks
      have hfk := hP.fk
      have hal := hP.len
      have HPS := Aside0.mk hP
      clear hP HP
      obtain ⟨A1, n1, c1, rfl⟩ := HO.out.sl0
      have hsz := HB.out.size
      by_cases hlt : k < s.size
      · have hb := byte_at hlt
        have hkn : ((k : Int) == (s.size : Int)) = false := by rw [beq_eq_false_iff_ne]; omega
        by_cases hc : s[k] = 47
        · rw [hc] at hb
          have hcb : ((s[k].toNat : Int) == 47) = true := by rw [hc]; rfl
          have HN := Aside0.mk (HPS.out.slash hb)
          clear hb hc
          go_wp2_with (at_builtin; refine Ow.app Kd.string flat_string _ w.heap.size rfl _ _ 23 9 _ 16 rfl Tryz.underlying23 info9 rfl (by decide) _ acc [s.extract f k] rfl (some ⟨wr.heap.size, 0, none⟩) 1 rfl ?hC ?hO ?hB ?hL ?_; (case hC => exact C_lit flat_string _ 9 _ _ rfl _ rfl); (case hO => exact HO.out.below flat_string ((Grew.refl wr).alloc _).below); (case hB => simp; omega); (case hL => simp; omega); intro v1 w2 ho hgg hat; have HO1 := Aside0.mk ho; have HB1 := Aside0.mk (Below.grown (HB.out.alloc hsz _) hgg (by simp; omega) (fun j hj => HO.out.base_le j hj)); clear ho hgg hat)
          go_roundw
          case rel => exact ⟨k + 1, k + 1, acc ++ [s.extract f k], by omega, by omega, by go_num, by go_num, HO1, HB1, ⟨.inl HN.out⟩⟩
          case measure => simp [intOf]; omega
        · have HN := Aside0.mk (HPS.out.other hb hc)
          have hcb : ((s[k].toNat : Int) == 47) = false := by
            rw [beq_eq_false_iff_ne]
            intro h
            exact hc (UInt8.toNat_inj.1 (by rw [show (47 : UInt8).toNat = 47 from rfl]; omega))
          clear hb hc
          go_wp2_with fail
          go_roundw
          case rel => exact ⟨k + 1, f, acc, by omega, by omega, by go_num, rfl, HO, HB, ⟨.inl HN.out⟩⟩
          case measure => simp [intOf]; omega
      · obtain rfl : k = s.size := by omega
        have HN := Aside0.mk HPS.out.done
        go_wp2_with (at_builtin; refine Ow.app Kd.string flat_string _ w.heap.size rfl _ _ 23 9 _ 16 rfl Tryz.underlying23 info9 rfl (by decide) _ acc [s.extract f s.size] rfl (some ⟨wr.heap.size, 0, none⟩) 1 rfl ?hC ?hO ?hB ?hL ?_; (case hC => exact C_lit flat_string _ 9 _ _ rfl _ rfl); (case hO => exact HO.out.below flat_string ((Grew.refl wr).alloc _).below); (case hB => simp; omega); (case hL => simp; omega); intro v1 w2 ho hgg hat; have HO1 := Aside0.mk ho; have HB1 := Aside0.mk (Below.grown (HB.out.alloc hsz _) hgg (by simp; omega) (fun j hj => HO.out.base_le j hj)); clear ho hgg hat)
        go_roundw
        case rel => exact ⟨s.size + 1, s.size + 1, acc ++ [s.extract f s.size], by omega, by omega, by go_num, by go_num, HO1, HB1, ⟨.inr ⟨rfl, HN.out⟩⟩⟩
        case measure => simp [intOf]
    · have HN := Aside0.mk hP
      clear hP HP
      go_wp2_with fail
      go_ret
      exact ⟨_, rfl, by rw [HE.out, ← HN.out]; exact HO.out, HB.out⟩

end Go.Proofs.YtbkbpdpegiekhaaGreatDoor

/- The reference's paths: Parent, Base, Join. -/
set_option linter.unusedVariables false
set_option linter.unusedSimpArgs false
namespace Mo
theorem drop_free {l : B} {j : Nat} {c : UInt8} (hc : l[j]? = some c) (hne : c ≠ 47) (h : (47 : UInt8) ∉ l.drop (j + 1)) : (47 : UInt8) ∉ l.drop j := by
  have hj := (List.getElem?_eq_some_iff.1 hc).1
  rw [List.drop_eq_getElem_cons hj]
  intro hm
  rcases List.mem_cons.1 hm with e | hm
  · rw [(List.getElem?_eq_some_iff.1 hc).2] at e; exact hne e.symm
  · exact h hm
theorem cut_at {l : B} {j : Nat} (hc : l[j]? = some 47) : l = l.take j ++ 47 :: l.drop (j + 1) := by
  have hj := (List.getElem?_eq_some_iff.1 hc).1
  have := List.drop_eq_getElem_cons hj
  rw [(List.getElem?_eq_some_iff.1 hc).2] at this
  rw [← this, List.take_append_drop]
theorem parent_here {s : S} {j : Nat} (hc : (bs s)[j]? = some 47) (h : (47 : UInt8) ∉ (bs s).drop (j + 1)) : pParent s = some (s.extract 0 j) ∧ pBase s = s.extract (j + 1) s.size := by
  have hp := parent_some.2 ⟨_, h, cut_at hc⟩
  refine ⟨?_, ?_⟩
  · unfold pParent
    rw [hp, Option.map_some]
    congr 1
    apply bs_inj
    rw [bs_mk, bs_extract, List.drop_zero]
  · unfold pBase
    rw [base_eq h (cut_at hc)]
    apply bs_inj
    rw [bs_mk, bs_extract, List.take_of_length_le (by rw [bs_size]; exact Nat.le_refl _)]
theorem parent_not {s : S} (h : (47 : UInt8) ∉ bs s) : pParent s = none ∧ pBase s = s := by
  have hp := parent_none.2 h
  refine ⟨by unfold pParent; rw [hp]; rfl, ?_⟩
  unfold pBase base
  rw [hp, mk_bs]
end Mo
namespace Go.Proofs.YtbkbpdpegiekhaaGreatDoor
open Go.RowKit Go.Proofs.YtbkbpdpegiekhaaGreatDoorW.PrintWords Mo

theorem int_eq {k : IntKind} {a b : Int} (h : a = b) : Value.int k a = Value.int k b := by rw [h]
theorem byte_is {s : S} {k : Nat} {h : k < s.size} {cu : UInt8} (c : Int) (hc : (cu.toNat : Int) = c) (e : s[k] = cu) : ((s[k].toNat : Int) == c) = true := by
  rw [e, hc]
  exact beq_self_eq_true c
theorem byte_isnt {s : S} {k : Nat} {h : k < s.size} {cu : UInt8} (c : Int) (hc : (cu.toNat : Int) = c) (e : s[k] ≠ cu) : ((s[k].toNat : Int) == c) = false := by
  rw [beq_eq_false_iff_ne]
  intro h'
  apply e
  apply UInt8.toNat_inj.1
  omega

set_option maxHeartbeats 2000000 in
theorem ref_Parent (s : S) (w : World) (hs : s.size ≤ 1000000000) :
    Calls Tryz.prog 107 #[.string s] w fun e w' => e = .returned (.tuple #[.string ((pParent s).getD ⟨#[]⟩), .bool (pParent s).isSome]) ∧ w = w' := by
  go_enter Tryz.func107, Tryz.ntmps107
  go_wp2_with fail
  go_loop [4] (fun i => (∃ j : Nat, j < s.size ∧ i = .int .i64 j ∧ Aside0 ((47 : UInt8) ∉ (bs s).drop (j + 1))) ∨ (i = .int .i64 (-1) ∧ Aside0 ((47 : UInt8) ∉ bs s))) (fun i => (intOf i + 1).toNat)
  case atStart =>
    by_cases hz : s.size = 0
    · exact .inr ⟨int_eq (by omega), ⟨by rw [show bs s = [] from List.eq_nil_of_length_eq_zero (by rw [bs_size]; exact hz)]; simp⟩⟩
    · exact .inl ⟨s.size - 1, by omega, int_eq (by omega), ⟨by rw [List.drop_eq_nil_of_le (by rw [bs_size]; omega)]; simp⟩⟩
  case round =>
    rcases hrel with ⟨j, hj, rfl, HF⟩ | ⟨rfl, HF⟩
    · have hb := byte_at hj
      by_cases hc : s[j] = 47
      · rw [hc] at hb
        have hcb := byte_is 47 rfl hc
        have HP := Aside0.mk (parent_here hb HF.out).1
        clear hb hc HF
        go_wp2_with fail
        go_ret2
        exact ⟨by rw [HP.out]; rfl, rfl⟩
      · have hcb := byte_isnt 47 rfl hc
        have HF2 := Aside0.mk (drop_free hb hc HF.out)
        clear hb hc HF
        go_wp2_with fail
        go_round
        case rel =>
          cases j with
          | zero => exact .inr ⟨by go_num, ⟨by have := HF2.out; rw [List.drop_zero] at this; exact this⟩⟩
          | succ i => exact .inl ⟨i, by omega, int_eq (by omega), HF2⟩
        case measure => simp [intOf] <;> omega
    · have HP := Aside0.mk (parent_not HF.out).1
      clear HF
      go_wp2_with fail
      go_ret2
      exact ⟨by rw [HP.out]; rfl, rfl⟩

set_option maxHeartbeats 2000000 in
theorem ref_Base (s : S) (w : World) (hs : s.size ≤ 1000000000) :
    Calls Tryz.prog 204 #[.string s] w fun e w' => e = .returned (.string (pBase s)) ∧ w = w' := by
  go_enter Tryz.func204, Tryz.ntmps204
  go_wp2_with fail
  go_loop [3] (fun i => (∃ j : Nat, j < s.size ∧ i = .int .i64 j ∧ Aside0 ((47 : UInt8) ∉ (bs s).drop (j + 1))) ∨ (i = .int .i64 (-1) ∧ Aside0 ((47 : UInt8) ∉ bs s))) (fun i => (intOf i + 1).toNat)
  case atStart =>
    by_cases hz : s.size = 0
    · exact .inr ⟨int_eq (by omega), ⟨by rw [show bs s = [] from List.eq_nil_of_length_eq_zero (by rw [bs_size]; exact hz)]; simp⟩⟩
    · exact .inl ⟨s.size - 1, by omega, int_eq (by omega), ⟨by rw [List.drop_eq_nil_of_le (by rw [bs_size]; omega)]; simp⟩⟩
  case round =>
    rcases hrel with ⟨j, hj, rfl, HF⟩ | ⟨rfl, HF⟩
    · have hb := byte_at hj
      by_cases hc : s[j] = 47
      · rw [hc] at hb
        have hcb := byte_is 47 rfl hc
        have HP := Aside0.mk (parent_here hb HF.out).2
        clear hb hc HF
        go_wp2_with fail
        go_ret
        exact ⟨by rw [HP.out]; rfl, rfl⟩
      · have hcb := byte_isnt 47 rfl hc
        have HF2 := Aside0.mk (drop_free hb hc HF.out)
        clear hb hc HF
        go_wp2_with fail
        go_round
        case rel =>
          cases j with
          | zero => exact .inr ⟨by go_num, ⟨by have := HF2.out; rw [List.drop_zero] at this; exact this⟩⟩
          | succ i => exact .inl ⟨i, by omega, int_eq (by omega), HF2⟩
        case measure => simp [intOf] <;> omega
    · have HP := Aside0.mk (parent_not HF.out).2
      clear HF
      go_wp2_with fail
      go_ret
      exact ⟨by rw [HP.out]; rfl, rfl⟩

theorem ref_Join (d n : S) (w : World) (h : d.size + n.size < 4294967281) :
    Calls Tryz.prog 203 #[.string d, .string n] w fun e w' => e = .returned (.string (pJoin d n)) ∧ w = w' := by
  by_cases h0 : d.toList = []
  · have e : pJoin d n = n := by
      unfold pJoin join
      rw [Lib.toList_data] at h0
      rw [if_pos (show bs d = [] from h0), mk_bs]
    rw [e]
    have h0b : d.toList.isEmpty = true := by simpa using h0
    go_enter Tryz.func203, Tryz.ntmps203
    go_wp2
    go_ret
    exact ⟨rfl, rfl⟩
  · have e : pJoin d n = d ++ ⟨#[47]⟩ ++ n := by
      unfold pJoin join
      rw [Lib.toList_data] at h0
      rw [if_neg (show ¬ bs d = [] from h0)]
      apply bs_inj
      rw [bs_mk]
      simp [bs, ByteArray.data_append]
    have h0b : d.toList.isEmpty = false := by simpa using h0
    have He := Aside0.mk e
    clear e
    go_enter Tryz.func203, Tryz.ntmps203
    go_wp2
    all_goals (go_ret; exact ⟨by rw [He.out]; rfl, rfl⟩)

end Go.Proofs.YtbkbpdpegiekhaaGreatDoor

/- The reference's code points: long, Next. -/
set_option linter.unusedVariables false
set_option linter.unusedSimpArgs false
namespace Mo
open Go Go.Lib
/-- The code point at the begin, and how many bytes; 0: none. -/
def nextR (l : B) : Int × Int := if (decodeL l).1 = 65533 ∧ (decodeL l).2 = 1 then (0, 0) else ((decodeL l).1, (decodeL l).2)
def leadR (c : Nat) : Nat × Int :=
  if c < 128 then (1, c) else if 192 ≤ c ∧ c < 224 then (2, c - 192) else if 224 ≤ c ∧ c < 240 then (3, c - 224) else if 240 ≤ c ∧ c < 248 then (4, c - 240) else (0, 0)
def byteR (s : S) (i : Nat) : Nat := ((bs s).getD i 0).toNat
def codR (s : S) (at' : Nat) : Nat → Int
  | 0 => (leadR (byteR s at')).2
  | j + 1 => 64 * codR s at' j + byteR s (at' + (j + 1)) - 128
def leastR (n : Nat) : Int := if n = 2 then 128 else if n = 3 then 2048 else if n = 4 then 65536 else 0
def badR (c : Int) (n : Nat) : Bool := decide (c < leastR n) || decide (1114111 < c) || (decide (55296 ≤ c) && decide (c < 57344))
/-- The bytes behind the first up to j are such as go on. -/
def goesR (s : S) (at' j : Nat) : Prop := ∀ i, 1 ≤ i → i ≤ j → 128 ≤ byteR s (at' + i) ∧ byteR s (at' + i) < 192
theorem leadR_le (c : Nat) : (leadR c).1 ≤ 4 := by 
  unfold leadR
  repeat' split
  all_goals simp
theorem leadR_bd (c : Nat) : 0 ≤ (leadR c).2 ∧ (leadR c).2 ≤ 127 := by
  unfold leadR
  repeat' split
  all_goals (simp only; omega)
theorem codR_bd (s : S) (a : Nat) : ∀ j, j ≤ 3 → goesR s a j → 0 ≤ codR s a j ∧ codR s a j < 128 * 64 ^ j := by
  intro j
  induction j with
  | zero => intro _ _; have := leadR_bd (byteR s a); unfold codR; omega
  | succ j ih =>
    intro h hg
    have h1 := ih (by omega) (fun i h1 h2 => hg i h1 (by omega))
    have h2 := hg (j + 1) (by omega) (Nat.le_refl _)
    have : codR s a (j + 1) = 64 * codR s a j + byteR s (a + (j + 1)) - 128 := rfl
    rw [this, Int.pow_succ]
    have h3 : (1 : Int) ≤ 64 ^ j := Int.pow_pos (by decide)
    omega
theorem codR_small (s : S) (a j : Nat) (h : j ≤ 3) (hg : goesR s a j) : 0 ≤ codR s a j ∧ codR s a j ≤ 40000000 := by
  have := codR_bd s a j h hg
  have h4 : (64 : Int) ^ j ≤ 262144 := by
    rcases (show j = 0 ∨ j = 1 ∨ j = 2 ∨ j = 3 by omega) with rfl | rfl | rfl | rfl <;> decide
  omega
theorem byteR_lt (s : S) (i : Nat) : byteR s i < 256 := UInt8.toNat_lt _
theorem decode_byteR (s : S) (a : Nat) : decodeL ((bs s).drop a) = decodeN (s.size - a) (byteR s a) (byteR s (a + 1)) (byteR s (a + 2)) (byteR s (a + 3)) := by
  rw [decodeL_N, List.length_drop, getD_dropU, getD_dropU, getD_dropU, getD_dropU, bs_size]; rfl
theorem next_none {s : S} {a : Nat} (h : (leadR (byteR s a)).1 = 0 ∨ s.size < a + (leadR (byteR s a)).1) (ha : a < s.size) : nextR ((bs s).drop a) = (0, 0) := by
  unfold nextR
  rw [decode_byteR]
  have h0 := byteR_lt s a
  generalize byteR s a = b0 at *
  generalize byteR s (a + 1) = b1 at *
  generalize byteR s (a + 2) = b2 at *
  generalize byteR s (a + 3) = b3 at *
  rw [if_pos]
  unfold leadR at h
  unfold decodeN
  repeat' split at h
  all_goals (simp only at h; repeat' split)
  all_goals first | (exfalso; omega) | simp
theorem next_bad {s : S} {a j : Nat} (h1 : 1 ≤ j) (h2 : j < (leadR (byteR s a)).1) (hb : ¬ (128 ≤ byteR s (a + j) ∧ byteR s (a + j) < 192)) : nextR ((bs s).drop a) = (0, 0) := by
  unfold nextR
  rw [decode_byteR]
  have h0 := byteR_lt s a
  have hj : j = 1 ∨ j = 2 ∨ j = 3 := by have := leadR_le (byteR s a); omega
  have hb1 := byteR_lt s (a + 1)
  have hb2 := byteR_lt s (a + 2)
  have hb3 := byteR_lt s (a + 3)
  have hb' : ∀ i, i = j → ¬ (128 ≤ byteR s (a + i) ∧ byteR s (a + i) < 192) := fun i e => by rw [e]; exact hb
  clear hb
  have k1 := hb' 1
  have k2 := hb' 2
  have k3 := hb' 3
  clear hb'
  generalize byteR s a = b0 at *
  generalize byteR s (a + 1) = b1 at *
  generalize byteR s (a + 2) = b2 at *
  generalize byteR s (a + 3) = b3 at *
  rw [if_pos]
  unfold leadR at h2
  unfold decodeN
  repeat' split at h2
  all_goals (simp only at h2; rcases hj with rfl | rfl | rfl)
  all_goals first | (exfalso; omega) | skip
  all_goals (simp at k1 k2 k3)
  all_goals repeat' split
  all_goals first | (exfalso; omega) | simp
theorem next_of {l : B} {c : Int} {n : Nat} {b : Bool} (h0 : 0 ≤ c) (hn : n ≠ 1 ∨ c < 128) (hd : decodeL l = if b = true then (65533, 1) else (c.toNat, n)) : nextR l = if b = true then (0, 0) else (c, (n : Int)) := by
  unfold nextR
  rw [hd]
  cases b
  · simp only [Bool.false_eq_true, if_false]
    rw [if_neg (by omega)]
    show (((c.toNat : Nat) : Int), (n : Int)) = (c, (n : Int))
    rw [Int.toNat_of_nonneg h0]
  · simp
theorem leadR_inv {b0 n : Nat} (hn : (leadR b0).1 = n) : (n = 1 → b0 < 128 ∧ (leadR b0).2 = b0) ∧ (n = 2 → 192 ≤ b0 ∧ b0 < 224 ∧ (leadR b0).2 = b0 - 192) ∧ (n = 3 → 224 ≤ b0 ∧ b0 < 240 ∧ (leadR b0).2 = b0 - 224) ∧ (n = 4 → 240 ≤ b0 ∧ b0 < 248 ∧ (leadR b0).2 = b0 - 240) := by
  unfold leadR at *
  repeat' split at hn
  all_goals (simp only at hn; subst hn)
  all_goals simp [*]
theorem next_good {s : S} {a n : Nat} (hn : (leadR (byteR s a)).1 = n) (h1 : 1 ≤ n) (ha : a + n ≤ s.size) (hg : goesR s a (n - 1)) :
    nextR ((bs s).drop a) = if badR (codR s a (n - 1)) n = true then (0, 0) else (codR s a (n - 1), (n : Int)) := by
  have hle := leadR_le (byteR s a)
  have hbd := codR_bd s a (n - 1) (by omega) hg
  refine next_of hbd.1 (by
    by_cases e : n = 1
    · subst e; right; exact hbd.2
    · exact .inl e) ?_
  rw [decode_byteR]
  clear hbd
  have h0 := byteR_lt s a
  have hb1 := byteR_lt s (a + 1)
  have hb2 := byteR_lt s (a + 2)
  have hb3 := byteR_lt s (a + 3)
  have k1 := hg 1 (by omega)
  have k2 := hg 2 (by omega)
  have k3 := hg 3 (by omega)
  clear hg
  have hc1 : codR s a 1 = 64 * codR s a 0 + byteR s (a + 1) - 128 := rfl
  have hc2 : codR s a 2 = 64 * codR s a 1 + byteR s (a + 2) - 128 := rfl
  have hc3 : codR s a 3 = 64 * codR s a 2 + byteR s (a + 3) - 128 := rfl
  have hc0 : codR s a 0 = (leadR (byteR s a)).2 := rfl
  obtain ⟨l1, l2, l3, l4⟩ := leadR_inv hn
  have hn4 : n = 1 ∨ n = 2 ∨ n = 3 ∨ n = 4 := by omega
  rcases hn4 with rfl | rfl | rfl | rfl
  · rw [show 1 - 1 = 0 from rfl]
    generalize codR s a 0 = c0 at *
    obtain ⟨hb, e⟩ := l1 rfl
    rw [e] at hc0
    unfold decodeN
    rw [if_pos hb]
    have hr : badR c0 1 = false := by unfold badR leastR; simp; omega
    rw [hr]
    simp
    omega
  · rw [show 2 - 1 = 1 from rfl]
    generalize codR s a 0 = c0 at *
    generalize codR s a 1 = c1 at *
    obtain ⟨hb, hb', e⟩ := l2 rfl
    rw [e] at hc0
    have hk := k1 (by omega)
    unfold decodeN
    rw [if_neg (by omega), if_pos (by omega)]
    unfold badR
    rw [show leastR 2 = 128 from rfl]
    simp only [Bool.or_eq_true, Bool.and_eq_true, decide_eq_true_eq]
    split <;> split
    · exfalso; omega
    · refine Prod.ext ?_ rfl
      simp only
      omega
    · rfl
    · exfalso; omega
  · rw [show 3 - 1 = 2 from rfl]
    generalize codR s a 0 = c0 at *
    generalize codR s a 1 = c1 at *
    generalize codR s a 2 = c2 at *
    obtain ⟨hb, hb', e⟩ := l3 rfl
    rw [e] at hc0
    have hk := k1 (by omega)
    have hk2 := k2 (by omega)
    unfold decodeN
    rw [if_neg (by omega), if_neg (by omega), if_pos (by omega)]
    unfold badR
    rw [show leastR 3 = 2048 from rfl]
    simp only [Bool.or_eq_true, Bool.and_eq_true, decide_eq_true_eq]
    split <;> split
    · exfalso; omega
    · refine Prod.ext ?_ rfl
      simp only
      omega
    · rfl
    · exfalso; omega
  · rw [show 4 - 1 = 3 from rfl]
    generalize codR s a 0 = c0 at *
    generalize codR s a 1 = c1 at *
    generalize codR s a 2 = c2 at *
    generalize codR s a 3 = c3 at *
    obtain ⟨hb, hb', e⟩ := l4 rfl
    rw [e] at hc0
    have hk := k1 (by omega)
    have hk2 := k2 (by omega)
    have hk3 := k3 (by omega)
    unfold decodeN
    rw [if_neg (by omega), if_neg (by omega), if_neg (by omega), if_pos (by omega)]
    unfold badR
    rw [show leastR 4 = 65536 from rfl]
    simp only [Bool.or_eq_true, Bool.and_eq_true, decide_eq_true_eq]
    split <;> split
    · exfalso; omega
    · refine Prod.ext ?_ rfl
      simp only
      omega
    · rfl
    · exfalso; omega
end Mo

/- The reference's code points: long, Next, walked. -/
set_option linter.unusedVariables false
set_option linter.unusedSimpArgs false
namespace Go.Proofs.YtbkbpdpegiekhaaGreatDoor
open Go.RowKit Go.Proofs.YtbkbpdpegiekhaaGreatDoorW.PrintWords Mo

set_option maxHeartbeats 2000000 in
theorem ref_long (c : Nat) (hc : c < 256) (w : World) :
    Calls Tryz.prog 202 #[.int .u8 (c : Int)] w fun e w' => e = .returned (.tuple #[.int .i64 ((leadR c).1 : Int), .int .i64 (leadR c).2]) ∧ w = w' := by
  have h0 : (0 : Int) ≤ c := by omega
  have h1 : (c : Int) < 256 := by omega
  by_cases a1 : c < 128
  · have e : leadR c = (1, (c : Int)) := by unfold leadR; rw [if_pos a1]
    have HE := Aside0.mk e
    clear e
    have b1 : (c : Int) < 128 := by omega
    clear a1 hc
    go_enter Tryz.func202, Tryz.ntmps202
    go_wp2
    go_ret2
    exact ⟨by rw [HE.out]; rfl, rfl⟩
  by_cases a2 : 192 ≤ c
  rotate_left
  · have e : leadR c = (0, 0) := by unfold leadR; rw [if_neg a1, if_neg (by omega), if_neg (by omega), if_neg (by omega)]
    have HE := Aside0.mk e
    clear e
    have b1 : ¬ (c : Int) < 128 := by omega
    have b2 : ¬ (192 : Int) ≤ c := by omega
    have b3 : ¬ (224 : Int) ≤ c := by omega
    have b4 : ¬ (240 : Int) ≤ c := by omega
    clear a1 a2 hc
    go_enter Tryz.func202, Tryz.ntmps202
    go_wp2
    go_ret2
    exact ⟨by rw [HE.out]; rfl, rfl⟩
  have b1 : ¬ (c : Int) < 128 := by omega
  have b2 : (192 : Int) ≤ c := by omega
  by_cases a3 : c < 224
  · have e : leadR c = (2, (c : Int) - 192) := by unfold leadR; rw [if_neg a1, if_pos ⟨a2, a3⟩]
    have HE := Aside0.mk e
    clear e
    have b3 : (c : Int) < 224 := by omega
    clear a1 a2 a3 hc
    go_enter Tryz.func202, Tryz.ntmps202
    go_wp2
    go_ret2
    exact ⟨by rw [HE.out]; rfl, rfl⟩
  have b3 : ¬ (c : Int) < 224 := by omega
  have b3' : (224 : Int) ≤ c := by omega
  by_cases a4 : c < 240
  · have e : leadR c = (3, (c : Int) - 224) := by unfold leadR; rw [if_neg a1, if_neg (by omega), if_pos (by omega)]
    have HE := Aside0.mk e
    clear e
    have b4 : (c : Int) < 240 := by omega
    clear a1 a2 a3 a4 hc
    go_enter Tryz.func202, Tryz.ntmps202
    go_wp2
    go_ret2
    exact ⟨by rw [HE.out]; rfl, rfl⟩
  have b4 : ¬ (c : Int) < 240 := by omega
  have b4' : (240 : Int) ≤ c := by omega
  by_cases a5 : c < 248
  · have e : leadR c = (4, (c : Int) - 240) := by unfold leadR; rw [if_neg a1, if_neg (by omega), if_neg (by omega), if_pos (by omega)]
    have HE := Aside0.mk e
    clear e
    have b5 : (c : Int) < 248 := by omega
    clear a1 a2 a3 a4 a5 hc
    go_enter Tryz.func202, Tryz.ntmps202
    go_wp2
    go_ret2
    exact ⟨by rw [HE.out]; rfl, rfl⟩
  · have e : leadR c = (0, 0) := by unfold leadR; rw [if_neg a1, if_neg (by omega), if_neg (by omega), if_neg (by omega)]
    have HE := Aside0.mk e
    clear e
    have b5 : ¬ (c : Int) < 248 := by omega
    clear a1 a2 a3 a4 a5 hc
    go_enter Tryz.func202, Tryz.ntmps202
    go_wp2
    go_ret2
    exact ⟨by rw [HE.out]; rfl, rfl⟩

theorem byteR_get {s : S} {k : Nat} (h : k < s.size) : byteR s k = s[k].toNat := by
  unfold byteR
  rw [List.getD_eq_getElem?_getD, byte_at h]; rfl
def least5 : Array Value := #[.int .i64 0, .int .i64 0, .int .i64 128, .int .i64 2048, .int .i64 65536]
theorem badR_eq (c : Int) (n : Nat) : badR c n = (decide (c < leastR n) || decide (1114111 < c) || (decide (55296 ≤ c) && decide (c < 57344))) := rfl
theorem goesR_succ {s : S} {a j : Nat} (h : goesR s a j) (h1 : 128 ≤ byteR s (a + (j + 1)) ∧ byteR s (a + (j + 1)) < 192) : goesR s a (j + 1) := fun i h2 h3 => by
  by_cases e : i = j + 1
  · subst e; exact h1
  · exact h i h2 (by omega)

set_option maxHeartbeats 8000000 in
set_option maxRecDepth 100000 in
theorem ref_Next (s : S) (a : Nat) (w : World) (hs : s.size ≤ 1000000000) (ha : a < s.size) :
    Calls Tryz.prog 157 #[.string s, .int .i64 (a : Int)] w fun e w' => e = .returned (.tuple #[.int .i64 (nextR ((bs s).drop a)).1, .int .i64 (nextR ((bs s).drop a)).2]) ∧ Below w.heap.size w w' := by
  have hb := byteR_get ha
  have hl := ref_long (byteR s a) (byteR_lt s a)
  rw [hb] at hl
  have HL := Aside0.mk hl
  obtain ⟨n, hn⟩ : ∃ n, n = (leadR (byteR s a)).1 := ⟨_, rfl⟩
  have hcod0 : (leadR (byteR s a)).2 = codR s a 0 := rfl
  have hbd := leadR_bd (byteR s a)
  rw [← hb, ← hn, hcod0] at hl
  rw [hcod0] at hbd
  rw [hb] at hl
  have HL := Aside0.mk hl
  have hn4 := leadR_le (byteR s a)
  rw [← hn] at hn4
  have HN := Aside0.mk hn
  clear hl hcod0 hn
  obtain ⟨c0, hc0⟩ : ∃ c0, c0 = codR s a 0 := ⟨_, rfl⟩
  rw [← hc0] at HL hbd
  by_cases hno : n = 0 ∨ s.size < a + n
  · have HR := Aside0.mk (next_none (s := s) (a := a) (by rw [← HN.out]; exact hno) ha)
    clear hc0 hb
    rcases hno with h0 | h0
    · subst h0
      go_enter Tryz.func157, Tryz.ntmps157
      go_wp2_with (go_at_call 202; refine (HL.out _).mono ?_; rintro e w' ⟨rfl, rfl⟩)
      go_ret2
      exact ⟨by rw [HR.out]; rfl, Below.refl _ _⟩
    · have hne : ((n : Int) == 0) = false := by
        rw [beq_eq_false_iff_ne]
        intro h
        omega
      have hgt : (s.size : Int) < (a : Int) + n := by omega
      go_enter Tryz.func157, Tryz.ntmps157
      go_wp2_with (go_at_call 202; refine (HL.out _).mono ?_; rintro e w' ⟨rfl, rfl⟩)
      go_ret2
      exact ⟨by rw [HR.out]; rfl, Below.refl _ _⟩
  · have hn1 : 1 ≤ n := by omega
    have han : a + n ≤ s.size := by omega
    have hne : ((n : Int) == 0) = false := by
      rw [beq_eq_false_iff_ne]
      omega
    have hgt : ¬ (s.size : Int) < (a : Int) + n := by omega
    have HC0 := Aside0.mk hc0
    have HB := Aside0.mk hb
    clear hc0 hb hno
    go_enter Tryz.func157, Tryz.ntmps157
    go_wp2_with (go_at_call 202; refine (HL.out _).mono ?_; rintro e w' ⟨rfl, rfl⟩)
    go_loop [7, 8] (fun cv kv => ∃ (k : Nat) (c : Int), 1 ≤ k ∧ k ≤ n ∧ kv = .int .i64 k ∧ cv = .int .i64 c ∧ 0 ≤ c ∧ c ≤ 40000000 ∧ Aside0 (c = codR s a (k - 1)) ∧ Aside0 (goesR s a (k - 1))) (fun _ kv => n - (intOf kv).toNat)
    case atStart => exact ⟨1, c0, Nat.le_refl _, hn1, rfl, rfl, hbd.1, by omega, HC0, ⟨fun i h1 h2 => by omega⟩⟩
    case round =>
      obtain ⟨k, c, hk1, hkn, rfl, rfl, hc1, hc2, HC, HG⟩ := hrel
      by_cases hlt : k < n
      · have hak : a + k < s.size := by omega
        have hbk := byteR_get hak
        by_cases h1 : s[a + k].toNat < 128
        · have HR := Aside0.mk (next_bad (s := s) (a := a) hk1 (by rw [← HN.out]; exact hlt) (by rw [hbk]; omega))
          have h1' : ((s[a + k].toNat : Int) < 128) := by omega
          clear hbk h1
          go_wp2_with fail
          go_ret2
          exact ⟨by rw [HR.out]; rfl, Below.refl _ _⟩
        have h1' : ¬ ((s[a + k].toNat : Int) < 128) := by omega
        by_cases h2 : 192 ≤ s[a + k].toNat
        · have HR := Aside0.mk (next_bad (s := s) (a := a) hk1 (by rw [← HN.out]; exact hlt) (by rw [hbk]; omega))
          have h2' : ((192 : Int) ≤ (s[a + k].toNat : Int)) := by omega
          clear hbk h1 h2
          go_wp2_with fail
          go_ret2
          exact ⟨by rw [HR.out]; rfl, Below.refl _ _⟩
        have h2' : ¬ ((192 : Int) ≤ (s[a + k].toNat : Int)) := by omega
        have hcs : codR s a k = 64 * c + byteR s (a + k) - 128 := by
          obtain ⟨j, rfl⟩ : ∃ j, k = j + 1 := ⟨k - 1, by omega⟩
          rw [HC.out]; rfl
        have hgs : goesR s a k := by
          obtain ⟨j, rfl⟩ : ∃ j, k = j + 1 := ⟨k - 1, by omega⟩
          exact goesR_succ HG.out (by rw [hbk]; omega)
        have hbd2 := codR_small s a k (by omega) hgs
        rw [hbk] at hcs
        have h3 : (s[a + k].toNat : Int) < 192 := by omega
        have h4 : (128 : Int) ≤ (s[a + k].toNat : Int) := by omega
        have HG2 := Aside0.mk hgs
        have HCS := Aside0.mk hcs
        rw [hcs] at hbd2
        clear hbk h1 h2 hcs hgs
        go_wp2_with fail
        go_round
        case rel => exact ⟨k + 1, _, by omega, by omega, by go_num, rfl, hbd2.1, hbd2.2, ⟨HCS.out.symm⟩, HG2⟩
        case measure => simp [intOf] <;> omega
      · obtain rfl : k = n := by omega
        have HR := Aside0.mk (next_good HN.out.symm hk1 han HG.out)
        clear hlt
        rw [← HC.out] at HR
        clear HC HG HL HC0 hne hgt HN HB hbd han
        rcases (show k = 1 ∨ k = 2 ∨ k = 3 ∨ k = 4 by omega) with rfl | rfl | rfl | rfl
        · have hL : leastR 1 = 0 := rfl
          by_cases b1 : c < 0
          · first
              | (exfalso; omega)
              | (have HR2 := Aside0.mk (show nextR ((bs s).drop a) = (0, 0) by rw [HR.out, if_pos (by rw [badR_eq, hL]; simp [b1])]); clear HR hL; go_wp2_with fail; go_ret2; exact ⟨by rw [HR2.out]; rfl, (Grew.refl w).alloc _ |>.below⟩)
          by_cases b2 : 1114111 < c
          · first
              | (exfalso; omega)
              | (have HR2 := Aside0.mk (show nextR ((bs s).drop a) = (0, 0) by rw [HR.out, if_pos (by rw [badR_eq, hL]; simp [b2])]); clear HR hL; go_wp2_with fail; go_ret2; exact ⟨by rw [HR2.out]; rfl, (Grew.refl w).alloc _ |>.below⟩)
          by_cases b3 : 55296 ≤ c
          · by_cases b4 : c < 57344
            · first
                | (exfalso; omega)
                | (have HR2 := Aside0.mk (show nextR ((bs s).drop a) = (0, 0) by rw [HR.out, if_pos (by rw [badR_eq, hL]; simp [b3, b4])]); clear HR hL; go_wp2_with fail; go_ret2; exact ⟨by rw [HR2.out]; rfl, (Grew.refl w).alloc _ |>.below⟩)
            · first
                | (exfalso; omega)
                | (have HR2 := Aside0.mk (show nextR ((bs s).drop a) = (c, 1) by rw [HR.out, if_neg (by rw [badR_eq, hL]; simp [b1, b2, b4])]; rfl); clear HR hL; go_wp2_with fail; go_ret2; exact ⟨by rw [HR2.out]; rfl, (Grew.refl w).alloc _ |>.below⟩)
          · first
              | (exfalso; omega)
              | (have HR2 := Aside0.mk (show nextR ((bs s).drop a) = (c, 1) by rw [HR.out, if_neg (by rw [badR_eq, hL]; simp [b1, b2, b3])]; rfl); clear HR hL; go_wp2_with fail; go_ret2; exact ⟨by rw [HR2.out]; rfl, (Grew.refl w).alloc _ |>.below⟩)
        · have hL : leastR 2 = 128 := rfl
          by_cases b1 : c < 128
          · first
              | (exfalso; omega)
              | (have HR2 := Aside0.mk (show nextR ((bs s).drop a) = (0, 0) by rw [HR.out, if_pos (by rw [badR_eq, hL]; simp [b1])]); clear HR hL; go_wp2_with fail; go_ret2; exact ⟨by rw [HR2.out]; rfl, (Grew.refl w).alloc _ |>.below⟩)
          by_cases b2 : 1114111 < c
          · first
              | (exfalso; omega)
              | (have HR2 := Aside0.mk (show nextR ((bs s).drop a) = (0, 0) by rw [HR.out, if_pos (by rw [badR_eq, hL]; simp [b2])]); clear HR hL; go_wp2_with fail; go_ret2; exact ⟨by rw [HR2.out]; rfl, (Grew.refl w).alloc _ |>.below⟩)
          by_cases b3 : 55296 ≤ c
          · by_cases b4 : c < 57344
            · first
                | (exfalso; omega)
                | (have HR2 := Aside0.mk (show nextR ((bs s).drop a) = (0, 0) by rw [HR.out, if_pos (by rw [badR_eq, hL]; simp [b3, b4])]); clear HR hL; go_wp2_with fail; go_ret2; exact ⟨by rw [HR2.out]; rfl, (Grew.refl w).alloc _ |>.below⟩)
            · first
                | (exfalso; omega)
                | (have HR2 := Aside0.mk (show nextR ((bs s).drop a) = (c, 2) by rw [HR.out, if_neg (by rw [badR_eq, hL]; simp [b1, b2, b4])]; rfl); clear HR hL; go_wp2_with fail; go_ret2; exact ⟨by rw [HR2.out]; rfl, (Grew.refl w).alloc _ |>.below⟩)
          · first
              | (exfalso; omega)
              | (have HR2 := Aside0.mk (show nextR ((bs s).drop a) = (c, 2) by rw [HR.out, if_neg (by rw [badR_eq, hL]; simp [b1, b2, b3])]; rfl); clear HR hL; go_wp2_with fail; go_ret2; exact ⟨by rw [HR2.out]; rfl, (Grew.refl w).alloc _ |>.below⟩)
        · have hL : leastR 3 = 2048 := rfl
          by_cases b1 : c < 2048
          · first
              | (exfalso; omega)
              | (have HR2 := Aside0.mk (show nextR ((bs s).drop a) = (0, 0) by rw [HR.out, if_pos (by rw [badR_eq, hL]; simp [b1])]); clear HR hL; go_wp2_with fail; go_ret2; exact ⟨by rw [HR2.out]; rfl, (Grew.refl w).alloc _ |>.below⟩)
          by_cases b2 : 1114111 < c
          · first
              | (exfalso; omega)
              | (have HR2 := Aside0.mk (show nextR ((bs s).drop a) = (0, 0) by rw [HR.out, if_pos (by rw [badR_eq, hL]; simp [b2])]); clear HR hL; go_wp2_with fail; go_ret2; exact ⟨by rw [HR2.out]; rfl, (Grew.refl w).alloc _ |>.below⟩)
          by_cases b3 : 55296 ≤ c
          · by_cases b4 : c < 57344
            · first
                | (exfalso; omega)
                | (have HR2 := Aside0.mk (show nextR ((bs s).drop a) = (0, 0) by rw [HR.out, if_pos (by rw [badR_eq, hL]; simp [b3, b4])]); clear HR hL; go_wp2_with fail; go_ret2; exact ⟨by rw [HR2.out]; rfl, (Grew.refl w).alloc _ |>.below⟩)
            · first
                | (exfalso; omega)
                | (have HR2 := Aside0.mk (show nextR ((bs s).drop a) = (c, 3) by rw [HR.out, if_neg (by rw [badR_eq, hL]; simp [b1, b2, b4])]; rfl); clear HR hL; go_wp2_with fail; go_ret2; exact ⟨by rw [HR2.out]; rfl, (Grew.refl w).alloc _ |>.below⟩)
          · first
              | (exfalso; omega)
              | (have HR2 := Aside0.mk (show nextR ((bs s).drop a) = (c, 3) by rw [HR.out, if_neg (by rw [badR_eq, hL]; simp [b1, b2, b3])]; rfl); clear HR hL; go_wp2_with fail; go_ret2; exact ⟨by rw [HR2.out]; rfl, (Grew.refl w).alloc _ |>.below⟩)
        · have hL : leastR 4 = 65536 := rfl
          by_cases b1 : c < 65536
          · first
              | (exfalso; omega)
              | (have HR2 := Aside0.mk (show nextR ((bs s).drop a) = (0, 0) by rw [HR.out, if_pos (by rw [badR_eq, hL]; simp [b1])]); clear HR hL; go_wp2_with fail; go_ret2; exact ⟨by rw [HR2.out]; rfl, (Grew.refl w).alloc _ |>.below⟩)
          by_cases b2 : 1114111 < c
          · first
              | (exfalso; omega)
              | (have HR2 := Aside0.mk (show nextR ((bs s).drop a) = (0, 0) by rw [HR.out, if_pos (by rw [badR_eq, hL]; simp [b2])]); clear HR hL; go_wp2_with fail; go_ret2; exact ⟨by rw [HR2.out]; rfl, (Grew.refl w).alloc _ |>.below⟩)
          by_cases b3 : 55296 ≤ c
          · by_cases b4 : c < 57344
            · first
                | (exfalso; omega)
                | (have HR2 := Aside0.mk (show nextR ((bs s).drop a) = (0, 0) by rw [HR.out, if_pos (by rw [badR_eq, hL]; simp [b3, b4])]); clear HR hL; go_wp2_with fail; go_ret2; exact ⟨by rw [HR2.out]; rfl, (Grew.refl w).alloc _ |>.below⟩)
            · first
                | (exfalso; omega)
                | (have HR2 := Aside0.mk (show nextR ((bs s).drop a) = (c, 4) by rw [HR.out, if_neg (by rw [badR_eq, hL]; simp [b1, b2, b4])]; rfl); clear HR hL; go_wp2_with fail; go_ret2; exact ⟨by rw [HR2.out]; rfl, (Grew.refl w).alloc _ |>.below⟩)
          · first
              | (exfalso; omega)
              | (have HR2 := Aside0.mk (show nextR ((bs s).drop a) = (c, 4) by rw [HR.out, if_neg (by rw [badR_eq, hL]; simp [b1, b2, b3])]; rfl); clear HR hL; go_wp2_with fail; go_ret2; exact ⟨by rw [HR2.out]; rfl, (Grew.refl w).alloc _ |>.below⟩)

end Go.Proofs.YtbkbpdpegiekhaaGreatDoor
