/- The awakening of the squashing statements, plainly. -/
import Derived.Test.YtbkbpdpegiekhaaGreatDoorF14
set_option linter.unusedVariables false
set_option linter.unusedSimpArgs false
namespace Go.Proofs.YtbkbpdpegiekhaaGreatDoor
open Go.RowKit Go.Proofs.YtbkbpdpegiekhaaGreatDoorW.PrintWords Mo

def pA : S := ⟨#[97]⟩
def pAB : S := ⟨#[97, 47, 98]⟩
def ndOf (p : S) : Nd := ⟨p, false, ⟨#[]⟩, 0, 0⟩
def lyOf (p : S) : Ly := ⟨[ndOf p], [], []⟩
theorem right_of {p : S} (h : (!p.data.toList.isEmpty && decide (p.size ≤ 1024) && pRunes p && decide ((pParts p).length ≤ 32) && !(pParts p).any fun x => !(!x.data.toList.isEmpty && decide (x.size ≤ 255) && !(x.data.toList == [46]) && !(x.data.toList == [46, 46]))) = true) : pRight p = true := by
  rw [pRight_eq, Lib.toList_data]
  have e : (fun x => !okPart x) = fun x : S => !(!x.data.toList.isEmpty && decide (x.size ≤ 255) && !(x.data.toList == [46]) && !(x.data.toList == [46, 46])) := by
    funext x
    unfold okPart
    rw [Lib.toList_data]
  rw [e]
  exact h
theorem right_A : pRight pA = true := right_of (by decide)
theorem right_AB : pRight pAB = true := right_of (by decide)
theorem right_whA : pRight ⟨#[46, 119, 104, 46, 97]⟩ = true := right_of (by decide)
theorem add_one (p : S) (h : pRight p = true) (hb : (pParts p).any begins = false) : addE (ndOf p) ⟨#[]⟩ [] = 0 := by
  rw [addE_ref, if_neg (by rw [show (ndOf p).path = p from rfl, h]; decide), if_neg (by rw [show okRest (ndOf p) = true from rfl]; decide), if_neg (by rw [show (ndOf p).path = p from rfl, hb]; decide), if_neg (by rw [show pastE ⟨#[]⟩ (ndOf p).path = false from rfl]; decide), if_neg (fun h => by cases h)]
theorem adds_one (p : S) (h : pRight p = true) (hb : (pParts p).any begins = false) : addsE ⟨#[]⟩ [] [ndOf p] = 0 := by
  show (if _ then _ else _) = _
  rw [if_pos (add_one p h hb)]
  rfl
theorem check_of {l : Ly} (h1 : ¬ 4096 < l.adds.length + l.whites.length + l.opaques.length) (h2 : addsE ⟨#[]⟩ [] l.adds = 0) (h3 : markersE 1 none l.whites = 0) (h4 : markersE 2 none l.opaques = 0) (h5 : filesB l = true) (h6 : ¬ 4194304 < bytesN l.adds) : checkL l = 0 := by
  have he : entsE l = 0 := by unfold entsE orE; rw [h2, h3, h4]; rfl
  unfold checkL
  rw [if_neg h1, he, if_pos rfl, h5, if_pos rfl, if_neg h6]
theorem files_one {l : Ly} {p : S} (ha : l.adds = [ndOf p]) (hp : p ≠ ⟨#[]⟩) (hb : belowB l p = false) : filesB l = true := by
  unfold filesB
  rw [ha]
  simp only [List.any_cons, List.any_nil, Bool.or_false]
  unfold blockB
  rw [show (ndOf p).path = p from rfl, ens_below hp, hb]
  rfl
theorem check_A : checkL (lyOf pA) = 0 := check_of (by decide) (adds_one pA right_A (by decide)) rfl rfl (files_one rfl (bytes_nil right_A) (by decide)) (by decide)
theorem check_AB : checkL (lyOf pAB) = 0 := check_of (by decide) (adds_one pAB right_AB (by decide)) rfl rfl (files_one rfl (bytes_nil right_AB) (by decide)) (by decide)
def lyAB : Ly := ⟨[ndOf pAB], [pA], []⟩
theorem dir_A : isDirB (lyOf pAB) pA = true := by
  have : isDirB (lyOf pAB) pA = decide (pA ∈ ensL (lyOf pAB)) := by
    unfold isDirB
    rw [show lastAt (lyOf pAB).adds pA = none from by decide]
  rw [this, ens_below (bytes_nil right_A)]
  decide
theorem join_AB : joinL (lyOf pA) (lyOf pAB) = lyAB := by
  have hov : overB (lyOf pAB) pA = false := by decide
  have hg : goneB (lyOf pAB) (ndOf pA) = true := by
    unfold goneB
    rw [show (ndOf pA).path = pA from rfl, hov, dir_A]; rfl
  have hk : keepB (lyOf pAB) (ndOf pA) = false := by
    unfold keepB
    rw [show (ndOf pA).path = pA from rfl, hov, dir_A]; rfl
  have e1 : bothN (lyOf pAB) (lyOf pA).adds = [ndOf pAB] := by
    unfold bothN
    rw [show (lyOf pA).adds = [ndOf pA] from rfl, List.filter_cons, hk]; rfl
  have e2 : goneS (lyOf pAB) (lyOf pA).adds = [pA] := by
    unfold goneS
    rw [show (lyOf pA).adds = [ndOf pA] from rfl, List.filter_cons, hg]; rfl
  unfold joinL
  rw [e1, e2, sortNd_self (List.pairwise_singleton _ _)]
  have w1 : ((lyOf pA).whites.filter (whiteB (lyOf pAB)) ++ [pA]) ++ (lyOf pAB).whites = [pA] := rfl
  have w2 : (lyOf pA).opaques.filter (opaqueB (lyOf pAB)) ++ (lyOf pAB).opaques = [] := rfl
  rw [w1, w2, tidy_self (List.pairwise_singleton _ _), tidy_self List.Pairwise.nil]
  rfl
theorem mark_A : markersE 1 none [pA] = 0 := by
  have hm : mPath 1 pA = ⟨#[46, 119, 104, 46, 97]⟩ := by decide
  have hp : (pPath 1 pA).2 = 0 := by
    unfold pPath
    rw [if_neg (not_or.2 ⟨fun h => by rw [right_A] at h; exact absurd h.1 (by decide), by rw [hm, right_whA]; decide⟩), if_neg (by decide), if_neg (by decide)]
  show (if markE 1 none pA = 0 then _ else _) = _
  have : markE 1 none pA = 0 := by unfold markE; rw [if_pos hp]; rfl
  rw [if_pos this]
  rfl
theorem check_join : checkL lyAB = 0 := check_of (by decide) (adds_one pAB right_AB (by decide)) mark_A rfl (files_one rfl (bytes_nil right_AB) (by decide)) (by decide)
theorem squash_awake : squashL (lyOf pA) (lyOf pAB) = (lyAB, 0) := by
  unfold squashL
  rw [if_pos ⟨check_A, check_AB⟩, join_AB, if_pos check_join]
theorem lsm_of (p : S) (h : p.size ≤ 60) : Lsm (lyOf p) :=
  ⟨show 1 ≤ 1000 by decide, show 0 ≤ 3000 by decide, show 0 ≤ 1000 by decide, fun n hn => by rw [List.mem_singleton.1 hn]; show p.size ≤ _; omega, fun n hn => (by cases hn), fun n hn => (by cases hn), fun n hn => by rw [List.mem_singleton.1 hn]; show 0 ≤ 1000000000; decide⟩
end Go.Proofs.YtbkbpdpegiekhaaGreatDoor
