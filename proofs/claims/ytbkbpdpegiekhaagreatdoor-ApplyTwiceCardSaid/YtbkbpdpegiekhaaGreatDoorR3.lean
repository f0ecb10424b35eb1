/- route: Check. -/
import Derived.Test.YtbkbpdpegiekhaaGreatDoorB0
import Derived.Test.YtbkbpdpegiekhaaGreatDoorShelf
import Derived.Outline
import Derived.WalkLawsBesides
import Derived.WalkSpells
/- route: Parts, Parent, Base, Join, Under. -/
set_option linter.unusedVariables false
set_option linter.unusedSimpArgs false
namespace Go.Proofs.YtbkbpdpegiekhaaGreatDoor
open Go.RowKit Go.Proofs.YtbkbpdpegiekhaaGreatDoorW.PrintWords Mo

/-- A new block of strings. -/
theorem R_strs (w : World) (xs : List S) (h : xs.length ≤ 9223372036854775807) :
    Kd.R Kd.string 9 (w.alloc (.cells (xs.map Value.string).toArray 9)) w.heap.size (fun _ => True) (.slice (some ⟨w.heap.size, 0, none⟩) xs.length xs.length) xs :=
  Kd.R_of_own (own_lit_of (enc := Value.string) w w.heap.size 9 xs (Nat.le_refl _) h) (fun _ _ => trivial)

set_option maxHeartbeats 400000 in
theorem route_Parts (s : S) (w : World) (hE : Env w) (hs : s.size < 4294967281) :
    Calls Tryz.prog 172 #[.string s] w fun e w' => ∃ v, e = .returned v ∧ Kd.R Kd.string 9 w' w.heap.size (fun _ => True) v (pParts s) ∧ Grew w w' := by
  obtain ⟨m, hm⟩ := hE.max
  have hc := pCount_len s ⟨#[47]⟩ rfl
  have hp := pSplit_eq s ⟨#[47]⟩ rfl
  have hl : (pSplit s).length ≤ 4294967281 := by
    rw [← hc]
    have := Lib.countB_le ⟨#[47]⟩ (by decide) s.size s (Nat.le_refl _)
    omega
  by_cases h0 : s.toList = []
  · have e : pParts s = [] := by
      have : s = ⟨#[]⟩ := by
        rw [Lib.toList_data] at h0
        cases s; simp at h0; simp [h0]
      subst this; rfl
    rw [e]
    have h0b : s.toList.isEmpty = true := by simpa using h0
    clear hc hp hl e h0
    go_enter Tryz.func172, Tryz.ntmps172
    go_wp2_with fail
    go_ret
    exact ⟨_, rfl, Kd.R_nil _ _ _ _ _, Grew.refl _⟩
  · have e : pParts s = pSplit s := by
      unfold pParts pSplit
      rw [parts_ne]
      rw [Lib.toList_data] at h0
      exact h0
    rw [e]
    have h0b : s.toList.isEmpty = false := by simpa using h0
    have hR := R_strs w (pSplit s) (by omega)
    have H1 := Aside0.mk hc
    have H2 := Aside0.mk hp
    have H3 := Aside0.mk hR
    clear hc hp hR e
    go_enter Tryz.func172, Tryz.ntmps172
    go_wp2_with (go_at_call 217; refine (Tryz.strings_Split _ _ m _ hs hm (by decide)).mono ?_; rintro e w' ⟨rfl, rfl⟩)
    go_ret
    rw [H1.out, H2.out]
    exact ⟨_, rfl, H3.out, (Grew.refl _).alloc _⟩

set_option maxHeartbeats 400000 in
theorem route_Parent_none (s : S) (w : World) (hs : s.size < 4611686018427387904) (h : pParent s = none) :
    Calls Tryz.prog 116 #[.string s] w fun e w' => e = .returned (.tuple #[.string ⟨#[]⟩, .bool false]) ∧ w = w' := by
  rcases pParent_cases s with ⟨h1, _, _⟩ | ⟨k, _, _, h1, _⟩
  · have hn : Lib.lastIndex s.data.toList [47] < 0 := by omega
    clear h1 h
    go_enter Tryz.func116, Tryz.ntmps116
    go_wp2_with (go_at_call 176; refine (Tryz.strings_LastIndex _ _ hs _).mono ?_; rintro e w' ⟨rfl, rfl⟩)
    go_ret2
    exact ⟨rfl, rfl⟩
  · rw [h] at h1; cases h1

set_option maxHeartbeats 400000 in
theorem route_Parent_some (s d : S) (w : World) (hs : s.size < 4611686018427387904) (h : pParent s = some d) :
    Calls Tryz.prog 116 #[.string s] w fun e w' => e = .returned (.tuple #[.string d, .bool true]) ∧ w = w' := by
  rcases pParent_cases s with ⟨_, h1, _⟩ | ⟨k, hk, hlt, h1, _⟩
  · rw [h] at h1; cases h1
  · rw [h] at h1
    obtain rfl := Option.some.inj h1
    clear h1 h
    go_enter Tryz.func116, Tryz.ntmps116
    go_wp2_with (go_at_call 176; refine (Tryz.strings_LastIndex _ _ hs _).mono ?_; rintro e w' ⟨rfl, rfl⟩)
    go_ret2
    exact ⟨by simp, rfl⟩

set_option maxHeartbeats 400000 in
theorem route_Base (s : S) (w : World) (hs : s.size < 4611686018427387904) :
    Calls Tryz.prog 235 #[.string s] w fun e w' => e = .returned (.string (pBase s)) ∧ w = w' := by
  rcases pParent_cases s with ⟨hk, _, h1⟩ | ⟨k, hk, hlt, _, h1⟩
  · rw [h1]
    go_enter Tryz.func235, Tryz.ntmps235
    go_wp2_with (go_at_call 176; refine (Tryz.strings_LastIndex _ _ hs _).mono ?_; rintro e w' ⟨rfl, rfl⟩)
    go_ret
    exact ⟨by simp, rfl⟩
  · rw [h1]
    go_enter Tryz.func235, Tryz.ntmps235
    go_wp2_with (go_at_call 176; refine (Tryz.strings_LastIndex _ _ hs _).mono ?_; rintro e w' ⟨rfl, rfl⟩)
    go_ret
    exact ⟨by simp, rfl⟩

set_option maxHeartbeats 400000 in
theorem route_Join (d n : S) (w : World) (h : d.size + n.size < 4294967281) :
    Calls Tryz.prog 238 #[.string d, .string n] w fun e w' => e = .returned (.string (pJoin d n)) ∧ w = w' := by
  by_cases h0 : d.toList = []
  · have e : pJoin d n = n := by
      unfold pJoin join
      rw [Lib.toList_data] at h0
      rw [if_pos (show bs d = [] from h0), mk_bs]
    rw [e]
    have h0b : d.toList.isEmpty = true := by simpa using h0
    go_enter Tryz.func238, Tryz.ntmps238
    go_wp2
    go_ret
    exact ⟨rfl, rfl⟩
  · have e : pJoin d n = d ++ ⟨#[47]⟩ ++ n := by
      unfold pJoin join
      rw [Lib.toList_data] at h0
      rw [if_neg (show ¬ bs d = [] from h0)]
      apply bs_inj
      rw [bs_mk]
      simp [bs, ByteArray.data_append]
    have h0b : d.toList.isEmpty = false := by simpa using h0
    have He := Aside0.mk e
    clear e
    go_enter Tryz.func238, Tryz.ntmps238
    go_wp2
    all_goals (go_ret; exact ⟨by rw [He.out]; rfl, rfl⟩)

set_option maxHeartbeats 400000 in
theorem route_Under (p d : S) (w : World) (hd : d.size < 4294967281) :
    Calls Tryz.prog 129 #[.string p, .string d] w fun e w' => e = .returned (.bool (pUnder p d)) ∧ w = w' := by
  by_cases h0 : d.toList = []
  · have h0b : d.toList.isEmpty = true := by simpa using h0
    have e : pUnder p d = !p.toList.isEmpty := by
      unfold pUnder under
      rw [Lib.toList_data] at h0
      rw [if_pos (show bs d = [] from h0), Lib.toList_data]
      rfl
    rw [e]
    clear e
    go_enter Tryz.func129, Tryz.ntmps129
    go_wp2
    go_ret
    exact ⟨by simp, rfl⟩
  · have h0b : d.toList.isEmpty = false := by simpa using h0
    have e := pUnder_prefix p d (by rw [← Lib.toList_data]; exact h0) (d ++ ⟨#[47]⟩) (by simp [ByteArray.data_append])
    have He := Aside0.mk e
    clear e
    go_enter Tryz.func129, Tryz.ntmps129
    go_wp2_with (go_at_call 183; refine (Tryz.strings_HasPrefix _ _ _).mono ?_; rintro e w' ⟨rfl, rfl⟩)
    go_ret
    exact ⟨by rw [← He.out]; rfl, rfl⟩

end Go.Proofs.YtbkbpdpegiekhaaGreatDoor

/- route: Compare, over cmp.Compare and slices.Compare at strings. -/
set_option linter.unusedVariables false
set_option linter.unusedSimpArgs false
namespace Mo
theorem bytesLess_iff (a b : B) : Go.Op.bytesLess a b = decide (cmpB a b < 0) := by
  induction a generalizing b with
  | nil => cases b <;> simp [Go.Op.bytesLess, cmpB]
  | cons x t ih =>
    cases b with
    | nil => simp [Go.Op.bytesLess, cmpB]
    | cons y u =>
      unfold Go.Op.bytesLess cmpB
      rw [ih]
      rcases u8_tri x y with h | h | h
      · simp [h]
      · subst h; simp [UInt8.lt_irrefl]
      · have h2 : ¬ x < y := fun h' => by have := UInt8.lt_iff_toNat_lt.1 h; have := UInt8.lt_iff_toNat_lt.1 h'; omega
        have h3 : x ≠ y := fun e => by subst e; exact UInt8.lt_irrefl _ h
        simp [h, h2, h3]

def cmpS (x y : S) : Int := cmpB (bs x) (bs y)
def cmpLS (xs ys : List S) : Int := cmpL (xs.map bs) (ys.map bs)

theorem cmpLS_end1 (xs ys : List S) (k : Nat) (h1 : k < xs.length) (h2 : ¬ k < ys.length) : cmpLS (xs.drop k) (ys.drop k) = 1 := by
  rw [List.drop_eq_getElem_cons h1, List.drop_of_length_le (l := ys) (by omega)]
  rfl
theorem cmpLS_step (xs ys : List S) (k : Nat) (h1 : k < xs.length) (h2 : k < ys.length) :
    cmpLS (xs.drop k) (ys.drop k) = if cmpS (xs.getD k ⟨#[]⟩) (ys.getD k ⟨#[]⟩) = 0 then cmpLS (xs.drop (k + 1)) (ys.drop (k + 1)) else cmpS (xs.getD k ⟨#[]⟩) (ys.getD k ⟨#[]⟩) := by
  rw [List.drop_eq_getElem_cons h1, List.drop_eq_getElem_cons h2]
  simp only [List.getD_eq_getElem?_getD, List.getElem?_eq_getElem h1, List.getElem?_eq_getElem h2, Option.getD_some]
  rfl
theorem cmpLS_end (xs ys : List S) (k : Nat) (h1 : k = xs.length) (h2 : k ≤ ys.length) : cmpLS (xs.drop k) (ys.drop k) = if xs.length < ys.length then -1 else 0 := by
  rw [List.drop_of_length_le (l := xs) (by omega)]
  split
  · rw [List.drop_eq_getElem_cons (l := ys) (by omega)]; rfl
  · rw [List.drop_of_length_le (l := ys) (by omega)]; rfl
theorem cmpS_range (x y : S) : cmpS x y = -1 ∨ cmpS x y = 0 ∨ cmpS x y = 1 := cmpB_range _ _
theorem cmpLS_parts (p q : S) : cmpLS (pParts p) (pParts q) = pCmp p q := by
  unfold cmpLS pParts pCmp compare
  simp [List.map_map, Function.comp_def]
end Mo
namespace Go.Proofs.YtbkbpdpegiekhaaGreatDoor
open Go.RowKit Go.Proofs.YtbkbpdpegiekhaaGreatDoorW.PrintWords Mo

theorem ret_int {k : IntKind} {a b : Int} (h : a = b) : Ending.returned (.int k a) = .returned (.int k b) := by rw [h]

set_option maxHeartbeats 400000 in
theorem cmp_str (x y : S) (w : World) : Calls Tryz.prog 256 #[.string x, .string y] w fun e w' => e = .returned (.int .i64 (cmpS x y)) ∧ w = w' := by
  have h1 : Op.bytesLess x.toList y.toList = decide (cmpS x y < 0) := by rw [Lib.toList_data, Lib.toList_data]; exact bytesLess_iff _ _
  have h2 : Op.bytesLess y.toList x.toList = decide (0 < cmpS x y) := by
    rw [Lib.toList_data, Lib.toList_data]
    refine (bytesLess_iff _ _).trans ?_
    rw [cmpB_neg]
    have : (-cmpB x.data.toList y.data.toList < 0) = (0 < cmpS x y) := propext ⟨fun h => by unfold cmpS bs; omega, fun h => by unfold cmpS bs at h; omega⟩
    simp only [this]
  have h3 : (x.toList == y.toList) = decide (cmpS x y = 0) := by
    rw [Lib.toList_data, Lib.toList_data, Bool.eq_iff_iff]
    simp only [beq_iff_eq, decide_eq_true_eq]
    exact cmpB_eq.symm
  have hr := cmpS_range x y
  obtain ⟨c, hc⟩ : ∃ c, c = cmpS x y := ⟨_, rfl⟩
  rw [← hc] at h1 h2 h3 hr ⊢
  clear hc
  rcases hr with rfl | rfl | rfl
  · have h1' : Op.bytesLess x.toList y.toList = true := by rw [h1]; rfl
    have h2' : Op.bytesLess y.toList x.toList = false := by rw [h2]; rfl
    have h3' : (x.toList == y.toList) = false := by rw [h3]; rfl
    clear h1 h2 h3
    go_enter Tryz.func256, Tryz.ntmps256
    go_wp2
    go_ret
    exact ⟨rfl, rfl⟩
  · have h1' : Op.bytesLess x.toList y.toList = false := by rw [h1]; rfl
    have h2' : Op.bytesLess y.toList x.toList = false := by rw [h2]; rfl
    have h3' : (x.toList == y.toList) = true := by rw [h3]; rfl
    clear h1 h2 h3
    go_enter Tryz.func256, Tryz.ntmps256
    go_wp2
    go_ret
    exact ⟨rfl, rfl⟩
  · have h1' : Op.bytesLess x.toList y.toList = false := by rw [h1]; rfl
    have h2' : Op.bytesLess y.toList x.toList = true := by rw [h2]; rfl
    have h3' : (x.toList == y.toList) = false := by rw [h3]; rfl
    clear h1 h2 h3
    go_enter Tryz.func256, Tryz.ntmps256
    go_wp2
    go_ret
    exact ⟨rfl, rfl⟩

set_option maxHeartbeats 400000 in
theorem compare_strs (xs ys : List S) (v1 v2 : Value) (w : World) (h1 : Rd Kd.string w v1 xs) (h2 : Rd Kd.string w v2 ys) :
    Calls Tryz.prog 199 #[v1, v2] w fun e w' => e = .returned (.int .i64 (cmpLS xs ys)) ∧ w = w' := by
  obtain ⟨A1, c1, rfl, l1, r1⟩ := h1
  obtain ⟨A2, c2, rfl, l2, r2⟩ := h2
  have m1 := Kd.C_max r1
  have m2 := Kd.C_max r2
  have R1 := Aside0.mk r1
  have R2 := Aside0.mk r2
  clear r1 r2
  go_enter Tryz.func199, Tryz.ntmps199
  go_wp2
  go_loop [11] (fun i => ∃ k : Nat, k ≤ xs.length ∧ k ≤ ys.length ∧ i = .int .i64 k ∧ Aside0 (cmpLS (xs.drop k) (ys.drop k) = cmpLS xs ys)) (fun i => xs.length - (intOf i).toNat)
  case atStart => exact ⟨0, Nat.zero_le _, Nat.zero_le _, rfl, ⟨by simp⟩⟩
  case round =>
    obtain ⟨k, hk, hk2, rfl, HC⟩ := hrel
    by_cases hlt : k < xs.length
    · obtain ⟨a1, rfl, hc1⟩ := Kd.at_string R1.out k (by omega) (by omega)
      by_cases hlt2 : k < ys.length
      · obtain ⟨a2, rfl, hc2⟩ := Kd.at_string R2.out k (by omega) (by omega)
        simp only [Int.toNat_natCast] at hc1 hc2
        have hstep := cmpLS_step xs ys k hlt hlt2
        obtain ⟨x, hx⟩ : ∃ x, x = rdOf ByteArray.empty xs k := ⟨_, rfl⟩
        obtain ⟨y, hy⟩ : ∃ y, y = rdOf ByteArray.empty ys k := ⟨_, rfl⟩
        rw [← hx] at hc1
        rw [← hy] at hc2
        have hx' : xs.getD k ⟨#[]⟩ = x := by rw [hx]; rfl
        have hy' : ys.getD k ⟨#[]⟩ = y := by rw [hy]; rfl
        rw [hx', hy'] at hstep
        clear hx hy hx' hy'
        by_cases h0 : cmpS x y = 0
        · rw [if_pos h0] at hstep
          have hb : (cmpS x y != 0) = false := by simpa using h0
          have HS := Aside0.mk hstep
          clear hstep h0
          go_wp2_with (go_at_call 256; refine (cmp_str _ _ _).mono ?_; rintro e w' ⟨rfl, rfl⟩)
          go_round
          case rel => exact ⟨k + 1, by omega, by omega, by go_num, ⟨by rw [← HS.out]; exact HC.out⟩⟩
          case measure => simp [intOf]; omega
        · rw [if_neg h0] at hstep
          have hb : (cmpS x y != 0) = true := by simpa using h0
          have HS := Aside0.mk (hstep.symm.trans HC.out)
          clear hstep h0 HC
          go_wp2_with (go_at_call 256; refine (cmp_str _ _ _).mono ?_; rintro e w' ⟨rfl, rfl⟩)
          go_ret
          exact ⟨ret_int HS.out, rfl⟩
      · have HS := Aside0.mk ((cmpLS_end1 xs ys k hlt hlt2).symm.trans HC.out)
        simp only [Int.toNat_natCast] at hc1
        clear HC
        go_wp2
        go_ret
        exact ⟨ret_int HS.out, rfl⟩
    · have HS := Aside0.mk ((cmpLS_end xs ys k (by omega) hk2).symm.trans HC.out)
      clear HC
      have hk3 : xs.length ≤ ys.length := by omega
      by_cases hl : xs.length < ys.length
      · go_wp2
        go_ret
        exact ⟨ret_int (by have := HS.out; rw [if_pos hl] at this; exact this), rfl⟩
      · go_wp2
        go_ret
        exact ⟨ret_int (by have := HS.out; rw [if_neg hl] at this; exact this), rfl⟩

set_option maxHeartbeats 400000 in
theorem route_Compare (p q : S) (w : World) (hE : Env w) (hp : p.size < 4294967281) (hq : q.size < 4294967281) :
    Calls Tryz.prog 149 #[.string p, .string q] w fun e w' => e = .returned (.int .i64 (pCmp p q)) ∧ Grew w w' := by
  have HE := Aside0.mk hE
  clear hE
  go_enter Tryz.func149, Tryz.ntmps149
  go_wp2_with fail
  refine (route_Parts _ _ HE.out hp).mono ?_
  rintro e w1 ⟨v1, rfl, hr1, hb1⟩
  have HR1 := Aside0.mk hr1
  have HB1 := Aside0.mk hb1
  clear hr1 hb1
  obtain ⟨A1, c1, rfl⟩ := Kd.R_slice HR1.out
  go_wp2_with fail
  refine (route_Parts _ _ (HE.out.below HB1.out.below) hq).mono ?_
  rintro e w2 ⟨v2, rfl, hr2, hb2⟩
  have HR2 := Aside0.mk hr2
  have HB2 := Aside0.mk hb2
  clear hr2 hb2
  obtain ⟨A2, c2, rfl⟩ := Kd.R_slice HR2.out
  go_wp2_with fail
  refine (compare_strs _ _ _ _ _ ((Rd.of_R HR1.out).below HB2.out.below) (Rd.of_R HR2.out)).mono ?_
  rintro e w3 ⟨rfl, rfl⟩
  go_wp2
  go_ret
  exact ⟨ret_int (cmpLS_parts p q), HB1.out.trans HB2.out⟩

end Go.Proofs.YtbkbpdpegiekhaaGreatDoor

set_option linter.unusedVariables false
set_option linter.unusedSimpArgs false
namespace Mo
def okPart (s : S) : Bool := !s.toList.isEmpty && decide (s.size ≤ 255) && !(s.toList == [46]) && !(s.toList == [46, 46])
def never (c : Nat) : Bool := decide (c < 32) || decide (c = 127) || decide (c = 92)
def pRunes (s : S) : Bool := Go.Lib.validD s.data.toList && !decide (0 ≤ Go.Lib.idxFunc never true s)
/-- 0, or an error. -/
def okE (c : Bool) (n : Int) : Int := if c = true then 0 else n
def pRight (s : S) : Bool := !s.toList.isEmpty && decide (s.size ≤ 1024) && pRunes s && decide ((pParts s).length ≤ 32) && !(pParts s).any fun x => !okPart x
end Mo
namespace Go.Proofs.YtbkbpdpegiekhaaGreatDoor
open Go.RowKit Go.Proofs.YtbkbpdpegiekhaaGreatDoorW.PrintWords Mo

theorem never_pays (w : World) : PredAt Tryz.prog 267 #[] encR never w := by
  intro W r _
  unfold FnGives encR
  by_cases h1 : r < 32
  · have e : never r = true := by simp [never, h1]
    rw [e]
    go_enter Tryz.func267, Tryz.ntmps267
    go_wp2
    go_ret
    exact ⟨rfl, 0, rfl⟩
  · by_cases h2 : r = 127
    · subst h2
      have e : never 127 = true := rfl
      rw [e]
      go_enter Tryz.func267, Tryz.ntmps267
      go_wp2
      go_ret
      exact ⟨rfl, 0, rfl⟩
    · have e : never r = decide (r = 92) := by simp [never, h1, h2]
      rw [e]
      have h2b : ((r : Int) == 127) = false := by rw [beq_eq_false_iff_ne]; omega
      have h3b : ((r : Int) == 92) = decide (r = 92) := by rw [Bool.eq_iff_iff]; simp; omega
      have H3 := Aside0.mk h3b
      have h1b : decide ((r : Int) < 32) = false := by simp; omega
      clear h2 h3b e h1
      go_enter Tryz.func267, Tryz.ntmps267
      go_wp2
      go_ret
      exact ⟨by rw [← H3.out]; simp [h1b], 0, rfl⟩

theorem part_any (s : S) (w : World) : Calls Tryz.prog 269 #[.string s] w fun e w' => e = .returned (.bool (okPart s)) ∧ w = w' := by
  unfold okPart
  cases h1 : s.toList.isEmpty
  · by_cases h2 : s.size ≤ 255
    · cases h3 : s.toList == [46]
      · have h2' : decide (s.size ≤ 255) = true := decide_eq_true h2
        rw [h2']
        obtain ⟨c, hc⟩ : ∃ c, c = (s.toList == [46, 46]) := ⟨_, rfl⟩
        rw [← hc]
        have H := Aside0.mk hc
        clear hc h2'
        go_enter Tryz.func269, Tryz.ntmps269
        go_wp2
        go_ret
        exact ⟨by rw [H.out]; simp, rfl⟩
      · go_enter Tryz.func269, Tryz.ntmps269
        go_wp2
        go_ret
        exact ⟨by simp, rfl⟩
    · go_enter Tryz.func269, Tryz.ntmps269
      go_wp2
      go_ret
      exact ⟨by simp, rfl⟩
  · go_enter Tryz.func269, Tryz.ntmps269
    go_wp2
    go_ret
    exact ⟨by simp, rfl⟩

theorem noPart_pays (w : World) : PredAt Tryz.prog 268 #[] Value.string (fun s => !okPart s) w := by
  intro W s _
  unfold FnGives
  go_enter Tryz.func268, Tryz.ntmps268
  go_wp2_with (go_at_call 269; refine (part_any _ _).mono ?_; rintro e w' ⟨rfl, rfl⟩)
  go_ret
  exact ⟨rfl, 0, rfl⟩

theorem any_parts (xs : List S) (v : Value) (w : World) (h : Rd Kd.string w v xs) (p : S → Bool) (g : Nat) (lb : Array Value)
    (eg : ∀ args w, (callFunc g args).run Tryz.prog w = .ok (.enter g args) w) (hp : PredAt Tryz.prog g lb Value.string p w) :
    Calls Tryz.prog 127 #[v, .func (.func g) #[] lb] w fun e w' => e = .returned (.bool (xs.any p)) ∧ Grew w w' := by
  obtain ⟨A, c, rfl, hl, hc⟩ := h
  rcases C_strs hc with rfl | ⟨b, off, rfl, _, hcell⟩
  · exact (Tryz.slices_ContainsFunc_empty (α := Nat) A c _ w).mono fun e w' ⟨he, hw⟩ => ⟨he, by rw [hw]; exact Grew.refl _⟩
  · refine (Tryz.slices_ContainsFunc Value.string p g lb eg b off xs.length c xs w hp (Nat.le_refl _) (Kd.C_max hc) (fun j hj => ?_)).mono fun e w' ⟨he, q, hw⟩ => ⟨by rw [he, List.take_length], by rw [hw]; exact (Grew.refl _).drewN q⟩
    rw [getElem!_pos _ j hj]
    exact hcell j hj

set_option maxHeartbeats 1000000 in
theorem route_Check (s : S) (w : World) (hE : Env w) (hs : s.size < 4294967281) :
    Calls Tryz.prog 205 #[.string s] w fun e w' => e = .returned (.int .i64 (okE (pRight s) 5)) ∧ Below w.heap.size w w' := by
  have HE := Aside0.mk hE
  clear hE
  cases h1 : s.toList.isEmpty
  rotate_left
  · have e : pRight s = false := by simp [pRight, h1]
    rw [e]
    go_enter Tryz.func205, Tryz.ntmps205
    go_wp2_with fail
    go_ret
    exact ⟨rfl, Below.refl _ _⟩
  by_cases h2 : s.size ≤ 1024
  rotate_left
  · have e : pRight s = false := by simp [pRight, h2]
    rw [e]
    have h2b : decide (1024 < s.size) = true := by simp; omega
    go_enter Tryz.func205, Tryz.ntmps205
    go_wp2_with fail
    go_ret
    exact ⟨rfl, Below.refl _ _⟩
  cases h3 : Lib.validD s.data.toList
  · have e : pRight s = false := by simp [pRight, pRunes, h3]
    rw [e]
    go_enter Tryz.func205, Tryz.ntmps205
    go_wp2_with fail
    refine (Any.utf8_ValidString Tryz.laysValid s _ (by omega) HE.out.tabs).mono ?_
    rintro e w1 ⟨rfl, hb⟩
    rw [h3]
    go_wp2_with fail
    go_ret
    exact ⟨rfl, hb⟩
  cases h4 : decide (0 ≤ Lib.idxFunc never true s)
  rotate_left
  · have e : pRight s = false := by simp only [pRight, pRunes, h4]; simp
    rw [e]
    go_enter Tryz.func205, Tryz.ntmps205
    go_wp2_with fail
    refine (Any.utf8_ValidString Tryz.laysValid s _ (by omega) HE.out.tabs).mono ?_
    rintro e w1 ⟨rfl, hb⟩
    rw [h3]
    go_wp2_with fail
    refine (Tryz.strings_ContainsFunc 267 #[] (enters_of Tryz.func267 (by kernel_rfl) rfl) never s _ (never_pays _)).mono ?_
    rintro e w2 ⟨rfl, hb2⟩
    rw [h4]
    go_wp2_with fail
    go_ret
    exact ⟨rfl, below_then hb hb.size hb2⟩
  obtain ⟨c, hc⟩ : ∃ c, c = (decide ((pParts s).length ≤ 32) && !(pParts s).any fun x => !okPart x) := ⟨_, rfl⟩
  have e : pRight s = c := by
    rw [hc]
    simp only [pRight, pRunes, h1, h3, h4, decide_eq_true h2]
    simp
  rw [e]
  clear e
  have HC := Aside0.mk hc
  clear hc
  go_enter Tryz.func205, Tryz.ntmps205
  go_wp2_with fail
  refine (Any.utf8_ValidString Tryz.laysValid s _ (by omega) HE.out.tabs).mono ?_
  rintro e w1 ⟨rfl, hb⟩
  have HB1 := Aside0.mk hb
  clear hb
  rw [h3]
  go_wp2_with fail
  refine (Tryz.strings_ContainsFunc 267 #[] (enters_of Tryz.func267 (by kernel_rfl) rfl) never s _ (never_pays _)).mono ?_
  rintro e w2 ⟨rfl, hb⟩
  have HB2 := Aside0.mk (below_then HB1.out HB1.out.size hb)
  clear hb HB1
  rw [h4]
  go_wp2_with fail
  refine (route_Parts s _ (HE.out.below HB2.out) hs).mono ?_
  rintro e w3 ⟨v3, rfl, hr, hg⟩
  have HB3 := Aside0.mk (below_then HB2.out HB2.out.size hg.below)
  have HR := Aside0.mk (Rd.of_R hr)
  clear hg hr HB2
  obtain ⟨A3, c3, rfl, _, _⟩ := HR.out
  by_cases h5 : (pParts s).length ≤ 32
  · have HC2 := Aside0.mk (show c = !(pParts s).any fun x => !okPart x by rw [HC.out, decide_eq_true h5]; rfl)
    clear HC
    go_wp2_with fail
    refine (any_parts (pParts s) _ _ HR.out (fun s => !okPart s) 268 #[] (enters_of Tryz.func268 (by kernel_rfl) rfl) (noPart_pays _)).mono ?_
    rintro e w4 ⟨rfl, hg⟩
    have HB4 := Aside0.mk (below_then HB3.out HB3.out.size hg.below)
    clear hg HB3
    obtain ⟨d, hd⟩ : ∃ d, d = (pParts s).any fun x => !okPart x := ⟨_, rfl⟩
    rw [← hd] at HC2 ⊢
    clear hd
    cases d
    · have HC3 := Aside0.mk (show c = true from HC2.out)
      clear HC2
      go_wp2_with fail
      go_ret
      exact ⟨by rw [HC3.out]; rfl, HB4.out⟩
    · have HC3 := Aside0.mk (show c = false from HC2.out)
      clear HC2
      go_wp2_with fail
      go_ret
      exact ⟨by rw [HC3.out]; rfl, HB4.out⟩
  · have HC2 := Aside0.mk (show c = false by rw [HC.out, decide_eq_false h5]; rfl)
    clear HC
    go_wp2_with fail
    go_ret
    exact ⟨by rw [HC2.out]; rfl, HB3.out⟩

end Go.Proofs.YtbkbpdpegiekhaaGreatDoor
