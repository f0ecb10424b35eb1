/- From a row's condition to the walks' words: a package variable's cells, a datum's own kind; the wrap and its witness. -/
import Derived.Test.YtbkbpdpegiekhaaGreatDoorR15
import Derived.Test.YtbkbpdpegiekhaaGreatDoorRows
import Derived.LaidMore
import Derived.ProofKit
import Derived.Carry
import Derived.Deep.Slices
import Derived.Deep.Strs
import Derived.Lib.LaidU8T
import Derived.PinnedBridge
import Derived.HandedShaped
import Derived.LaidLaws
import Derived.LaidHandle
set_option linter.unusedVariables false
namespace Go.Proofs.YtbkbpdpegiekhaaGreatDoor
open Go.RowKit Go.Proofs.YtbkbpdpegiekhaaGreatDoorW.PrintWords Go.ChangeShapes Go.WideShapes Go.ChangeAt Go.WideElems Go.WideMaps Mo

theorem own : ownKnob Tryz.prog.godebug = none := by kernel_rfl
theorem laidOut : laidOutB Tryz.prog = true := by kernel_rfl

/-! ### the wrap -/
theorem lift_of {H : Type} {enc : TypeId × Value → H} {C : Checked} {os : Os} {f : FuncId} {fn : Func} {s : ChangeSpec} {apart fresh handsOn again : Bool} {X : World → Prop}
    (hX : ∀ (w w' : World), w.heap = w'.heap → X w → X w')
    (own : ownKnob C.prog.godebug = none) (started : os.Started) (noInit : C.prog.inits.idxOf? f = none) (hfn : C.prog.funcs[f]? = some fn)
    (witness : ∃ (w : World) (tape : Tape) (i : Input), w.os = os ∧ (w.forCall tape i).Shaped C.prog ∧ i.vars = [] ∧ Input.okWide C.prog (w.forCall tape i) .any w.heap.size f i ∧
      ((s.pre enc C.prog fn [] apart (w.forCall tape i).memory i.args ∧ X (w.forCall tape i).memory) ∧ sizedMet enc C.prog fn (OpenSpec.ofChange s) apart (w.forCall tape i).memory i.args) ∧ Assume.holds {} C.prog (lone (Frame.enter C.prog f i.args .normal) [] (w.forCall tape i)))
    (contract : ∀ (W : World) (base : Nat) (args : Array Value) (ds gs : List (DataW H)) (before : List MemPlace),
      (∀ (j : Nat) t v, fn.params[j]? = some t → args[j]? = some v → Value.okWide C.prog W .any base t v) →
      DataW.Whole enc C.prog fn.params.toList s.vars apart W args.toList ds gs before → W.ShapedOpen C.prog → X W →
      Calls C.prog f args W fun e W' => ∃ v, e = .returned v ∧ s.post enc C.prog fn apart fresh handsOn again W args v W') :
    ReturnsInHanded {} C os f .any (fun w args => (s.pre enc C.prog fn [] apart w args ∧ X w) ∧ sizedMet enc C.prog fn (OpenSpec.ofChange s) apart w args) (s.post enc C.prog fn apart fresh handsOn again) := by
  refine returnsInHanded_of_calls own started noInit witness ?_
  intro w tape i _ hsh _ hok hpre hholds
  obtain ⟨_, _, _, fn', hfn', _, _, _, _, hval⟩ := hok
  have e : fn' = fn := Option.some.inj (hfn'.symm.trans hfn)
  subst e
  obtain ⟨⟨⟨ds, gs, before, hw, hc⟩, hx⟩, hz⟩ := hpre
  have hw' := DataW.Whole.of_heap (w' := w.forCall tape i) (by rfl) hw
  refine (contract (w.forCall tape i) w.heap.size i.args ds gs before hval hw' hsh (hX _ _ (by rfl) hx)).mono fun e W' ⟨v, he, hp⟩ => ?_
  subst he
  exact ChangeSpec.post_blind hp

/-! ### what is laid -/
def laid2 : List (String × DataW Unit) := [("unicode/utf8.acceptRanges", Rows.laid_unicode_utf8_acceptRanges), ("unicode/utf8.first", Rows.laid_unicode_utf8_first)]
theorem acc_eq : Rows.laid_unicode_utf8_acceptRanges = Lib.acceptData := by kernel_rfl
theorem fst_eq : Rows.laid_unicode_utf8_first = Lib.firstData := by kernel_rfl
def ren2 : Go.Shelf.Ren := ⟨fun n => n, fun | 5 => 5 | 119 => 318 | 138 => 320 | 139 => 321 | n => n, fun | 3 => 1 | 4 => 2 | n => n⟩
theorem laid_plain : laid2.filter (fun x => x.2.handleName?.isSome) = [] := by kernel_rfl
theorem u8types : U8Types Tryz.prog ren2 := ⟨by kernel_rfl, by kernel_rfl, by kernel_rfl, by kernel_rfl⟩
theorem u8extra : U8Extra Tryz.prog ren2 := ⟨by kernel_rfl, by kernel_rfl, by kernel_rfl, by kernel_rfl, by kernel_rfl, by kernel_rfl, by kernel_rfl⟩
theorem Env.of {W : World} (h : laidMetH Tryz.prog laid2 W) (hs : W.ShapedOpen Tryz.prog) : Env W := by
  unfold laidMetH at h
  rw [laid_plain] at h
  have h : laidMet Tryz.prog laid2 W := h
  refine ⟨utf8Tabs_of_readsT u8types u8extra ?_ ?_, ?_⟩
  · rw [← fst_eq]; exact Lib.laidMet.reads h (.tail _ (.head _))
  · rw [← acc_eq]; exact Lib.laidMet.reads h (.head _)
  · exact cell_of_shapedOpen_int (t := 3) (zero := #[.int .i64 0]) hs (of_decide_eq_true (by kernel_rfl)) (by kernel_rfl) rfl (by kernel_rfl) (by kernel_rfl) (by kernel_rfl)

/-! ### the witness: both tables laid in their variables -/
noncomputable def doorWorld (os : Os) : World :=
  let put (h : Array Obj) (g : Nat) (cs : Array Value) : Array Obj := h.modify g fun
    | .cells _ t frozen => .cells cs t frozen
    | o => o
  let w0 := World.holding Tryz.prog os ⟨#[], #[], []⟩
  let h1 := put w0.heap 1 (Lib.firstTab.map fun z => Value.int .u8 z).toArray
  let h2 := put h1 2 ((List.range 16).flatMap fun i => [Value.int .u8 (Lib.accLo i), Value.int .u8 (Lib.accHi i)]).toArray
  { w0 with heap := h2 }
set_option maxRecDepth 100000 in
theorem door_met (os : Os) (args : Array Value) : laidMetH Tryz.prog laid2 ((doorWorld os).forCall (fun _ _ => 0) ⟨#[], args, []⟩).memory := by
  unfold laidMetH
  rw [laid_plain]
  exact laidMet_of_run' 8 (by kernel_rfl) (by kernel_rfl)
theorem door_shaped (os : Os) (args : Array Value) : ((doorWorld os).forCall (fun _ _ => 0) ⟨#[], args, []⟩).Shaped Tryz.prog := World.shaped_of_RefB (by kernel_rfl) (by kernel_rfl)

/-! ### a datum's kind -/
theorem list_of {α : Type} {p : Nat → α → Prop} : ∀ n, (∀ i, i < n → ∃ y, p i y) → ∃ xs : List α, xs.length = n ∧ ∀ i y, xs[i]? = some y → p i y
  | 0, _ => ⟨[], rfl, fun i y h => by simp at h⟩
  | n + 1, h => by
    obtain ⟨xs, hl, hx⟩ := list_of n (fun i hi => h i (by omega))
    obtain ⟨y, hy⟩ := h n (by omega)
    refine ⟨xs ++ [y], by simp [hl], fun i z hz => ?_⟩
    rcases Nat.lt_or_ge i xs.length with hi | hi
    · rw [List.getElem?_append_left hi] at hz; exact hx i z hz
    · rw [List.getElem?_append_right hi] at hz
      have hi0 : i - xs.length = 0 := by
        rcases Nat.eq_zero_or_pos (i - xs.length) with h0 | h0
        · exact h0
        · rw [List.getElem?_eq_none (by simp; omega)] at hz; cases hz
      rw [hi0] at hz
      obtain rfl : y = z := by simpa using hz
      obtain rfl : i = n := by omega
      exact hy

theorem list5 {α : Type} {cs : List α} (h : cs.length = 5) : ∃ a b c d e, cs = [a, b, c, d, e] := by
  match cs, h with
  | [a, b, c, d, e], _ => exact ⟨a, b, c, d, e, rfl⟩
theorem list3 {α : Type} {cs : List α} (h : cs.length = 3) : ∃ a b c, cs = [a, b, c] := by
  match cs, h with
  | [a, b, c], _ => exact ⟨a, b, c, rfl⟩
theorem one_inj {a b : Value} (h : [a] = [b]) : a = b := by simpa using h
/-- Whatever reads at the type is of the kind. -/
def Opens {α : Type} (d : Kd α) (t : TypeId) : Prop := ∀ {H : Type} (enc : TypeId × Value → H) (W : World) (base : Nat) (sp : Nat → Bool) (held : Bool) (fuel : Nat) (cs : List Value) (x : DataW H × List MemPlace),
  DataW.trod enc Tryz.prog W base sp held fuel t cs = some x → ∃ y, d.K W y cs

theorem Opens.string {t : TypeId} (ht : Tryz.prog.underlying t = some .string) : Opens Kd.string t := fun enc W base sp held fuel cs x h => by
  obtain ⟨s, rfl, _⟩ := DataW.trod_string ht h
  exact ⟨s, rfl⟩
theorem Opens.int {t : TypeId} {k : IntKind} (ht : Tryz.prog.underlying t = some (.int k)) : Opens (Kd.int k) t := fun enc W base sp held fuel cs x h => by
  obtain ⟨s, rfl, _⟩ := DataW.trod_int ht h
  exact ⟨s, rfl⟩
theorem Opens.bool {t : TypeId} (ht : Tryz.prog.underlying t = some .bool) : Opens Kd.bool t := fun enc W base sp held fuel cs x h => by
  obtain ⟨s, rfl, _⟩ := DataW.trod_bool ht h
  exact ⟨s, rfl⟩
theorem Opens.slice {α : Type} {d : Kd α} {t e : TypeId} (ht : Tryz.prog.underlying t = some (.slice e)) (hc : Tryz.prog.cellsOf e = d.sz) (hd : Opens d e) : Opens (Kd.slice e d) t := fun enc W base sp held fuel cs x h => by
  rcases Go.Deep.open_slice ht h with ⟨rfl, _⟩ | ⟨a, len, cap, m, n, D, Pl, rfl, hb, hl, hm, hmm, hx, hel⟩
  · exact ⟨[], none, 0, rfl, Nat.le_refl _, rfl, Nat.zero_le _, fun h => by simp at h⟩
  · obtain ⟨xs, hxl, hxs⟩ := list_of (p := fun i y => ∃ c, c.length = d.sz ∧ d.K W y c ∧ ∀ j u, c[j]? = some u → W.cell? (a.add (i * d.sz + j)) = some u) len (fun i hi => by
      obtain ⟨cs', h1, h2⟩ := hel i (by rw [hmm]; split <;> omega)
      obtain ⟨y, hy⟩ := hd enc W base sp held n cs' _ h2
      obtain ⟨_, hlen, hcell⟩ := World.cells?_some h1
      rw [hc] at hlen hcell
      refine ⟨y, cs', hlen, hy, fun j u hu => ?_⟩
      have hj : j < d.sz := by rw [← hlen]; exact (List.getElem?_eq_some_iff.1 hu).1
      have := hcell j hj
      rw [← Go.Deep.add_add]
      rw [this]
      exact hu)
    subst hxl
    refine ⟨xs, some a, cap, rfl, hl, rfl, ?_, fun _ => ⟨a, rfl, fun j p hj => hxs j p hj⟩⟩
    have : maxLen ≤ 9223372036854775807 := by decide
    omega

theorem und46 : ∃ f0 f1 f2 f3 f4 : Field, Tryz.prog.underlying 46 = some (.struct #[f0, f1, f2, f3, f4]) ∧ (f0.type, f0.offset, f1.type, f1.offset, f2.type, f2.offset, f3.type, f3.offset, f4.type, f4.offset) = (9, 0, 4, 1, 9, 2, 3, 3, 3, 4) := ⟨_, _, _, _, _, Tryz.underlying46, by kernel_rfl⟩
theorem Opens.node : Opens kN 46 := fun enc W base sp held fuel cs x h => by
  obtain ⟨f0, f1, f2, f3, f4, hu, hf⟩ := und46
  simp only [Prod.mk.injEq] at hf
  obtain ⟨t0, o0, t1, o1, t2, o2, t3, o3, t4, o4⟩ := hf
  obtain ⟨xs, n, _, _, hl, hlen, hx⟩ := DataW.trod_struct hu h
  have c46 : Tryz.prog.cellsOf 46 = 5 := by kernel_rfl
  rw [c46] at hl
  have c9 : Tryz.prog.cellsOf 9 = 1 := by kernel_rfl
  have c4 : Tryz.prog.cellsOf 4 = 1 := by kernel_rfl
  have c3 : Tryz.prog.cellsOf 3 = 1 := by kernel_rfl
  obtain ⟨v0, v1, v2, v3, v4, rfl⟩ := list5 hl
  obtain ⟨y0, y1, y2, y3, y4, rfl⟩ := list5 hlen
  have h0 := hx 0 f0 rfl
  have h1 := hx 1 f1 rfl
  have h2 := hx 2 f2 rfl
  have h3 := hx 3 f3 rfl
  have h4 := hx 4 f4 rfl
  rw [t0, o0, c9] at h0
  rw [t1, o1, c4] at h1
  rw [t2, o2, c9] at h2
  rw [t3, o3, c3] at h3
  rw [t4, o4, c3] at h4
  obtain ⟨s0, e0, _⟩ := DataW.trod_string Tryz.underlying9 h0
  obtain ⟨s1, e1, _⟩ := DataW.trod_bool Tryz.underlying4 h1
  obtain ⟨s2, e2, _⟩ := DataW.trod_string Tryz.underlying9 h2
  obtain ⟨s3, e3, _⟩ := DataW.trod_int Tryz.underlying3 h3
  obtain ⟨s4, e4, _⟩ := DataW.trod_int Tryz.underlying3 h4
  obtain rfl : v0 = _ := one_inj e0
  obtain rfl : v1 = _ := one_inj e1
  obtain rfl : v2 = _ := one_inj e2
  obtain rfl : v3 = _ := one_inj e3
  obtain rfl : v4 = _ := one_inj e4
  exact ⟨⟨s0, s1, s2, s3, s4⟩, kN_mk W ⟨s0, s1, s2, s3, s4⟩⟩
theorem Opens.nodes : Opens (Kd.slice 46 kN) 22 := Opens.slice Tryz.underlying22 (by kernel_rfl) Opens.node
theorem Opens.strs : Opens (Kd.slice 9 Kd.string) 23 := Opens.slice Tryz.underlying23 (by kernel_rfl) (Opens.string Tryz.underlying9)

set_option maxRecDepth 100000 in
theorem Opens.rd {α : Type} {d : Kd α} {t e : TypeId} (ht : Tryz.prog.underlying t = some (.slice e)) (ho : Opens (Kd.slice e d) t) {H : Type} {enc : TypeId × Value → H} {W : World} {r : Reach} {b base : Nat} {sp : Nat → Bool} {held : Bool} {v : Value} {dd : DataW H} {p : List MemPlace}
    (hv : Value.okWide Tryz.prog W r b t v) (h : DataW.Trod enc Tryz.prog W base sp held t v dd p) : ∃ xs, Rd d W v xs := by
  obtain ⟨A, n, c, rfl⟩ := okWide_slice ht hv
  obtain ⟨fuel, hf⟩ := h
  obtain ⟨xs, A', c', e, hl, hc⟩ := ho enc W base sp held fuel _ _ hf
  have e : Value.slice A n c = .slice A' xs.length c' := one_inj e
  injection e with e1 e2 e3
  subst e1; subst e2; subst e3
  exact ⟨xs, A, c, rfl, hl, hc⟩
theorem rd_of_K {α : Type} {d : Kd α} {e : Nat} {W : World} {v : Value} {xs : List α} (h : (Kd.slice e d).K W xs [v]) : Rd d W v xs := by
  obtain ⟨A, c, e, hl, hc⟩ := h
  obtain rfl : v = _ := one_inj e
  exact ⟨A, c, rfl, hl, hc⟩
theorem und25 : ∃ f0 f1 f2 : Field, Tryz.prog.underlying 25 = some (.struct #[f0, f1, f2]) ∧ (f0.type, f0.offset, f1.type, f1.offset, f2.type, f2.offset) = (22, 0, 23, 1, 23, 2) := ⟨_, _, _, Tryz.underlying25, by kernel_rfl⟩

set_option maxRecDepth 100000 in
theorem open_layer {H : Type} {enc : TypeId × Value → H} {W : World} {r : Reach} {b base : Nat} {sp : Nat → Bool} {held : Bool} {v : Value} {dd : DataW H} {p : List MemPlace}
    (hv : Value.okWide Tryz.prog W r b 25 v) (h : DataW.Trod enc Tryz.prog W base sp held 25 v dd p) : ∃ va vw vo l, v = .agg #[va, vw, vo] ∧ RdL W va vw vo l := by
  obtain ⟨f0, f1, f2, hu, hf⟩ := und25
  simp only [Prod.mk.injEq] at hf
  obtain ⟨t0, o0, t1, o1, t2, o2⟩ := hf
  obtain ⟨cs, rfl, hsz⟩ := okWide_struct hu hv
  have c25 : Tryz.prog.cellsOf 25 = 3 := by kernel_rfl
  have c22 : Tryz.prog.cellsOf 22 = 1 := by kernel_rfl
  have c23 : Tryz.prog.cellsOf 23 = 1 := by kernel_rfl
  rw [c25] at hsz
  obtain ⟨l⟩ := cs
  obtain ⟨fuel, hf⟩ := h
  obtain ⟨va, vw, vo, rfl⟩ := list3 hsz
  obtain ⟨y0, y1, y2, n, _, _, h0, h1, h2⟩ := Go.Deep.trod_struct3 hu hf
  rw [t0, o0, c22] at h0
  rw [t1, o1, c23] at h1
  rw [t2, o2, c23] at h2
  obtain ⟨xa, ka⟩ := Opens.nodes _ _ _ _ _ _ _ _ h0
  obtain ⟨xw, kw⟩ := Opens.strs _ _ _ _ _ _ _ _ h1
  obtain ⟨xo, ko⟩ := Opens.strs _ _ _ _ _ _ _ _ h2
  exact ⟨va, vw, vo, ⟨xa, xw, xo⟩, rfl, rd_of_K ka, rd_of_K kw, rd_of_K ko⟩

end Go.Proofs.YtbkbpdpegiekhaaGreatDoor
