/- The awakening of the squashing statements, walked. -/
import Derived.Test.YtbkbpdpegiekhaaGreatDoorL1
import Derived.Test.YtbkbpdpegiekhaaGreatDoorR30
import Derived.Test.YtbkbpdpegiekhaaGreatDoorF16
set_option linter.unusedVariables false
set_option linter.unusedSimpArgs false
namespace Go.Proofs.YtbkbpdpegiekhaaGreatDoor
open Go.RowKit Go.Proofs.YtbkbpdpegiekhaaGreatDoorW.PrintWords Mo

theorem rd_one (p : S) (w : World) : RdL (w.alloc (.cells #[.string p, .bool false, .string ⟨#[]⟩, .int .i64 0, .int .i64 0] 46)) (.slice (some ⟨w.heap.size, 0, none⟩) 1 1) (.slice none 0 0) (.slice none 0 0) (lyOf p) :=
  ⟨⟨_, 1, rfl, Nat.le_refl _, C_lit flat_node w 46 (ndOf p) _ (kN_mk w (ndOf p)) _ rfl⟩, (Ow.nil Kd.string 9 _ 0).rd, (Ow.nil Kd.string 9 _ 0).rd⟩

theorem squash_to {x y z : Ly} {c : Int} (h : squashL x y = (z, c)) (xa xw xo ya yw yo : Value) (w : World) (hE : Env w) (hrx : RdL w xa xw xo x) (hry : RdL w ya yw yo y) (hx : Lsm x) (hy : Lsm y) :
    Calls Tryz.prog 23 #[.agg #[xa, xw, xo], .agg #[ya, yw, yo]] w fun e w' => ∃ va vw vo, e = .returned (.tuple #[.agg #[va, vw, vo], .int .i64 c]) ∧ RdL w' va vw vo z ∧ Below w.heap.size w w' := by
  have := squash_Squash x y xa xw xo ya yw yo w hE hrx hry hx hy
  rw [h] at this
  exact this
set_option maxHeartbeats 8000000 in
set_option maxRecDepth 100000 in
theorem squash_awakens (w : World) (hE : Env w) : Calls Tryz.prog 21 #[] w fun e w' => e = .returned (.bool true) ∧ Below w.heap.size w w' := by
  have HE := Aside0.mk (fun W (hb : Below w.heap.size w W) => hE.below hb)
  have h1 := rd_one pA w
  have h2 := rd_one pAB (w.alloc (.cells #[.string pA, .bool false, .string ⟨#[]⟩, .int .i64 0, .int .i64 0] 46))
  rw [show (w.alloc (.cells #[.string pA, .bool false, .string ⟨#[]⟩, .int .i64 0, .int .i64 0] 46)).heap.size = w.heap.size + 1 from by simp] at h2
  have H1 := Aside0.mk (h1.below ((Grew.refl _).alloc (.cells #[.string pAB, .bool false, .string ⟨#[]⟩, .int .i64 0, .int .i64 0] 46)).below)
  have H2 := Aside0.mk h2
  have HB := Aside0.mk ((((Grew.refl w).alloc (.cells #[.string pA, .bool false, .string ⟨#[]⟩, .int .i64 0, .int .i64 0] 46)).alloc (.cells #[.string pAB, .bool false, .string ⟨#[]⟩, .int .i64 0, .int .i64 0] 46)).below)
  clear h1 h2 hE
  go_enter Tryz.func21, Tryz.ntmps21
  go_wp2_with fail
  refine (squash_to squash_awake _ _ _ _ _ _ _ (HE.out _ HB.out) H1.out H2.out (lsm_of pA (by decide)) (lsm_of pAB (by decide))).mono ?_
  rintro e1 w1 ⟨va, vw, vo, rfl, hrl, hb1⟩
  have HB1 := Aside0.mk (below_then HB.out HB.out.size hb1)
  obtain ⟨⟨Aa, ca, rfl, la, hCa⟩, ⟨Aw, cw, rfl, lw, hCw⟩, hro⟩ := hrl
  obtain ⟨Ao, no, co, rfl⟩ := hro.sl
  rcases C_nodes hCa with h0 | ⟨ba, oa, rfl, _, hca⟩
  · cases h0
  rcases C_strs hCw with h0 | ⟨bw, ow, rfl, _, hcw⟩
  · cases h0
  have q0 : w1.cell? ⟨ba, oa + 0 * 5, none⟩ = some (.string ⟨#[97, 47, 98]⟩) := (hca 0 (show 0 < 1 by decide)).1
  have q1 : w1.cell? ⟨bw, ow + 0, none⟩ = some (.string ⟨#[97]⟩) := hcw 0 (show 0 < 1 by decide)
  have la' : lyAB.adds.length = 1 := rfl
  have lw' : lyAB.whites.length = 1 := rfl
  rw [la', lw']
  rw [la'] at la
  rw [lw'] at lw
  have hb2 := ((Grew.refl w1).alloc (.cells #[.slice (some ⟨ba, oa, none⟩) 1 ca, .slice (some ⟨bw, ow, none⟩) 1 cw, .slice Ao no co] 25)).below
  have q0 := pw_cell_below hb2 q0
  have q1 := pw_cell_below hb2 q1
  have HB2 := Aside0.mk (below_then HB1.out HB1.out.size hb2)
  simp only [Nat.zero_mul, Nat.add_zero] at q0 q1
  clear hb1 hb2 hCa hCw hro hca hcw la' lw' H1 H2 HB HE HB1
  go_wp2_with fail
  go_ret
  exact ⟨rfl, HB2.out⟩
end Go.Proofs.YtbkbpdpegiekhaaGreatDoor
