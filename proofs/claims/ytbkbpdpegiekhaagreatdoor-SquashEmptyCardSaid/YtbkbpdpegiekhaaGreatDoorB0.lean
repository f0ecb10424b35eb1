/- The words of this seat's contracts: what the library reads, the structs' kinds, small movers. -/
import Derived.Test.YtbkbpdpegiekhaaGreatDoorMC
import Derived.Test.YtbkbpdpegiekhaaGreatDoorWWords
import Derived.Shelf.Unicode.DecodeSlow
import Derived.Sort.Grow
import Derived.Deep.DeepMust
import Derived.Test.YtbkbpdpegiekhaaGreatDoorProg
set_option linter.unusedVariables false
set_option linter.unusedSimpArgs false
namespace Go.Proofs.YtbkbpdpegiekhaaGreatDoor
open Go.RowKit Go.Proofs.YtbkbpdpegiekhaaGreatDoorW.PrintWords Mo

/-- What of the library's variables the code reads. -/
structure Env (w : World) : Prop where
  tabs : Lib.Utf8Tabs 1 2 w
  max : ∃ m, w.cell? ⟨0, 0, none⟩ = some (.int .i64 m)
theorem Env.below {w w' : World} (h : Env w) (hb : Below w.heap.size w w') : Env w' := by
  refine ⟨⟨fun c hc => pw_cell_below hb (h.tabs.1 c hc), fun i hi => ⟨pw_cell_below hb (h.tabs.2 i hi).1, pw_cell_below hb (h.tabs.2 i hi).2⟩⟩, ?_⟩
  obtain ⟨m, hm⟩ := h.max
  exact ⟨m, pw_cell_below hb hm⟩

/-- New blocks and draws, nothing else. -/
structure Grew (w w' : World) : Prop where
  below : Below w.heap.size w w'
  drawn : w.drawn ≤ w'.drawn
theorem Grew.refl (w : World) : Grew w w := ⟨Below.refl _ _, Nat.le_refl _⟩
theorem Grew.trans {a b c : World} (h : Grew a b) (k : Grew b c) : Grew a c := ⟨below_then h.below h.below.size k.below, Nat.le_trans h.drawn k.drawn⟩
theorem Grew.alloc {a w : World} (h : Grew a w) (o : Obj) : Grew a (w.alloc o) := ⟨h.below.alloc h.below.size o, h.drawn⟩
theorem Grew.drew {a w : World} (h : Grew a w) : Grew a w.drew := ⟨h.below.drew, Nat.le_trans h.drawn (Nat.le_succ _)⟩
theorem Grew.drewN {a w : World} (h : Grew a w) (n : Nat) : Grew a (w.drewN n) := ⟨pw_below_drewN h.below n, Nat.le_trans h.drawn (Nat.le_add_right _ _)⟩
theorem Grew.set {a w : World} (h : Grew a w) {p : Addr} (hp : a.heap.size ≤ p.block) (u : Value) : Grew a (w.setCell p u) := ⟨h.below.setCell hp u, h.drawn⟩
theorem Grew.eq {w w' : World} (h : Grew w w') : ∃ q os, w' = Sort.grow (w.drewN q) os := by
  refine ⟨w'.drawn - w.drawn, w'.heap.extract w.heap.size w'.heap.size, ?_⟩
  have h1 := h.below
  have h2 := h.drawn
  obtain ⟨hp, tp, dn, os, out⟩ := w'
  have e1 : tp = w.tape := h1.tape
  have e2 : os = w.os := h1.os
  have e3 : out = w.output := h1.output
  have e5 : dn = w.drawn + (dn - w.drawn) := by simp only at h2; omega
  have e4 : hp = w.heap ++ hp.extract w.heap.size hp.size := by
    have hs : w.heap.size ≤ hp.size := h1.size
    apply Array.ext_getElem?
    intro k
    rw [Array.getElem?_append]
    split
    · rename_i hk; exact h1.block k hk
    · rename_i hk
      rw [Array.getElem?_extract]
      split
      · congr 1; omega
      · rw [Array.getElem?_eq_none (by omega)]
  unfold Sort.grow World.drewN
  simp only [e1, e2, e3]
  rw [← e5, ← e4]

theorem info3 : (Tryz.prog.info? 3).map (fun i => (i.zero, i.size, i.bytes)) = some (some (.int .i64 0), 1, 8) := by kernel_rfl
theorem info9 : (Tryz.prog.info? 9).map (fun i => (i.zero, i.size, i.bytes)) = some (some (.string ⟨#[]⟩), 1, 16) := by kernel_rfl
theorem info46 : (Tryz.prog.info? 46).map (fun i => (i.zero, i.size, i.bytes)) = some (some (.agg #[(.string ⟨#[]⟩), (.bool false), (.string ⟨#[]⟩), (.int .i64 0), (.int .i64 0)]), 5, 56) := by kernel_rfl
theorem info137 : (Tryz.prog.info? 137).map (fun i => (i.zero, i.size, i.bytes)) = some (some (.agg #[(.bool false), (.string ⟨#[]⟩)]), 2, 24) := by kernel_rfl

/-! ### The structs -/
structure Nd where
  path : S
  dir : Bool
  data : S
  mode : Int
  time : Int
instance : DecidableEq Nd := fun a b => by
  cases a; cases b
  simp only [Nd.mk.injEq]
  infer_instance
def Nd.zero : Nd := ⟨⟨#[]⟩, false, ⟨#[]⟩, 0, 0⟩
abbrev vN (n : Nd) : Value := .agg #[.string n.path, .bool n.dir, .string n.data, .int .i64 n.mode, .int .i64 n.time]
def kN : Kd Nd := Kd.iso (Kd.pair Kd.string (Kd.pair Kd.bool (Kd.pair Kd.string (Kd.pair (Kd.int .i64) (Kd.int .i64))))) (fun x : Nd => (x.path, x.dir, x.data, x.mode, x.time))
abbrev cN (n : Nd) : List Value := [.string n.path, .bool n.dir, .string n.data, .int .i64 n.mode, .int .i64 n.time]
theorem kN_open {w : World} {x : Nd} {cs : List Value} (h : kN.K w x cs) : cs = cN x := by
  obtain ⟨_, _, rfl, rfl, ⟨_, _, rfl, rfl, ⟨_, _, rfl, rfl, ⟨_, _, rfl, rfl, rfl⟩⟩⟩⟩ := h
  exact rfl
theorem kN_openM {w : World} {base : Nat} {ok : Nat → Prop} {x : Nd} {cs : List Value} (h : kN.M w base ok x cs) : cs = cN x := by
  obtain ⟨_, _, rfl, rfl, ⟨_, _, rfl, rfl, ⟨_, _, rfl, rfl, ⟨_, _, rfl, rfl, rfl⟩⟩⟩⟩ := h
  exact rfl
theorem kN_mk (w : World) (x : Nd) : kN.K w x (cN x) := ⟨[.string x.path], [.bool x.dir, .string x.data, .int .i64 x.mode, .int .i64 x.time], rfl, rfl, ⟨[.bool x.dir], [.string x.data, .int .i64 x.mode, .int .i64 x.time], rfl, rfl, ⟨[.string x.data], [.int .i64 x.mode, .int .i64 x.time], rfl, rfl, ⟨[.int .i64 x.mode], [.int .i64 x.time], rfl, rfl, rfl⟩⟩⟩⟩
theorem kN_mkM (w : World) (base : Nat) (ok : Nat → Prop) (x : Nd) : kN.M w base ok x (cN x) := ⟨[.string x.path], [.bool x.dir, .string x.data, .int .i64 x.mode, .int .i64 x.time], rfl, rfl, ⟨[.bool x.dir], [.string x.data, .int .i64 x.mode, .int .i64 x.time], rfl, rfl, ⟨[.string x.data], [.int .i64 x.mode, .int .i64 x.time], rfl, rfl, ⟨[.int .i64 x.mode], [.int .i64 x.time], rfl, rfl, rfl⟩⟩⟩⟩

/-- A slice that is read. -/
def Rd {α : Type} (d : Kd α) (w : World) (v : Value) (xs : List α) : Prop := ∃ A c, v = .slice A xs.length c ∧ xs.length ≤ c ∧ d.C w A xs.length xs
theorem Rd.below {α : Type} {d : Kd α} {w w' : World} {v : Value} {xs : List α} (h : Rd d w v xs) (hb : Below w.heap.size w w') : Rd d w' v xs := by
  obtain ⟨A, c, rfl, hl, hc⟩ := h
  exact ⟨A, c, rfl, hl, Kd.C_below hc hb⟩
theorem Rd.of_R {α : Type} {d : Kd α} {e : Nat} {w : World} {base : Nat} {ok : Nat → Prop} {v : Value} {xs : List α} (h : d.R e w base ok v xs) : Rd d w v xs := Kd.R_reads h
theorem Rd.len {α : Type} {d : Kd α} {w : World} {v : Value} {xs : List α} (h : Rd d w v xs) : xs.length ≤ 9223372036854775807 := by
  obtain ⟨A, c, rfl, hl, hc⟩ := h
  exact hc.2.1

/-- The string at a place. -/
theorem C_str {w : World} {A : Option Addr} {n : Nat} {xs : List S} (h : Kd.string.C w A n xs) (i : Nat) (hi : i < n) : ∃ ad, A = some ad ∧ w.cell? (ad.add i) = some (.string (xs.getD i ⟨#[]⟩)) := by
  obtain ⟨ad, c, e, _, hK, hc⟩ := Kd.C_get h ⟨#[]⟩ i (by omega) (by omega)
  obtain rfl := hK
  refine ⟨ad, e, ?_⟩
  have := hc 0 _ rfl
  simpa [Kd.string, Kd.scalar] using this
theorem C_node {w : World} {A : Option Addr} {n : Nat} {xs : List Nd} (h : kN.C w A n xs) (i : Nat) (hi : i < n) : ∃ ad, A = some ad ∧
    w.cell? (ad.add (i * 5)) = some (.string (xs.getD i Nd.zero).path) ∧ w.cell? ⟨(ad.add (i * 5)).block, (ad.add (i * 5)).off + 1, none⟩ = some (.bool (xs.getD i Nd.zero).dir) ∧
    w.cell? ⟨(ad.add (i * 5)).block, (ad.add (i * 5)).off + 2, none⟩ = some (.string (xs.getD i Nd.zero).data) ∧ w.cell? ⟨(ad.add (i * 5)).block, (ad.add (i * 5)).off + 3, none⟩ = some (.int .i64 (xs.getD i Nd.zero).mode) ∧
    w.cell? ⟨(ad.add (i * 5)).block, (ad.add (i * 5)).off + 4, none⟩ = some (.int .i64 (xs.getD i Nd.zero).time) := by
  obtain ⟨ad, c, e, _, hK, hc⟩ := Kd.C_get h Nd.zero i (by omega) (by omega)
  have hc : ∀ j u, c[j]? = some u → w.cell? (ad.add (i * 5 + j)) = some u := hc
  obtain rfl := kN_open hK
  exact ⟨ad, e, hc 0 _ rfl, by rw [← add_field _ _ 1 (by omega)]; exact hc 1 _ rfl, by rw [← add_field _ _ 2 (by omega)]; exact hc 2 _ rfl, by rw [← add_field _ _ 3 (by omega)]; exact hc 3 _ rfl, by rw [← add_field _ _ 4 (by omega)]; exact hc 4 _ rfl⟩

theorem spot_none {w : World} {b o : Nat} {sp : Option Nat} {v : Value} (h : w.cell? ⟨b, o, sp⟩ = some v) : sp = none := by
  cases sp with
  | none => rfl
  | some x =>
    exfalso
    simp only [World.cell?, Option.isSome_some, if_true] at h
    split at h <;> cases h
theorem add_flat (b off j : Nat) : (⟨b, off, none⟩ : Addr).add j = ⟨b, off + j, none⟩ := by
  unfold Addr.add
  by_cases hj : j = 0
  · subst hj; simp
  · simp [hj]
/-- A slice that is read: nothing, or cells in a line. -/
theorem C_flat {α : Type} {d : Kd α} {w : World} {A : Option Addr} {xs : List α} (h : d.C w A xs.length xs) (hs : 0 < d.sz) : xs = [] ∨ ∃ b off, A = some ⟨b, off, none⟩ ∧ b < w.heap.size ∧
    ∀ j (hj : j < xs.length), ∃ c, c.length = d.sz ∧ d.K w xs[j] c ∧ ∀ i u, c[i]? = some u → w.cell? ⟨b, off + (j * d.sz + i), none⟩ = some u := by
  rcases Nat.eq_zero_or_pos xs.length with h0 | h0
  · exact .inl (List.eq_nil_of_length_eq_zero h0)
  · obtain ⟨ad, rfl, hcell⟩ := h.2.2 h0
    obtain ⟨b, off, sp⟩ := ad
    have h1 : ∃ v, w.cell? ⟨b, off, sp⟩ = some v := by
      obtain ⟨c', hl, hk, hh⟩ := hcell 0 xs[0] (by simp [h0])
      have hc0 : 0 < c'.length := by omega
      have := hh 0 _ (List.getElem?_eq_getElem hc0)
      rw [show (⟨b, off, sp⟩ : Addr).add (0 * d.sz + 0) = ⟨b, off, sp⟩ from by simp [Addr.add]] at this
      exact ⟨_, this⟩
    obtain ⟨v1, h1⟩ := h1
    obtain rfl := spot_none h1
    refine .inr ⟨b, off, rfl, World.block_lt_of_cell? w _ h1, fun j hj => ?_⟩
    obtain ⟨c', hl, hk, hh⟩ := hcell j xs[j] (by simp [hj])
    exact ⟨c', hl, hk, fun i u hu => by rw [← add_flat]; exact hh i u hu⟩
theorem C_strs {w : World} {A : Option Addr} {xs : List S} (h : Kd.string.C w A xs.length xs) : xs = [] ∨ ∃ b off, A = some ⟨b, off, none⟩ ∧ b < w.heap.size ∧
    ∀ j (hj : j < xs.length), w.cell? ⟨b, off + j, none⟩ = some (.string xs[j]) := by
  rcases C_flat h (by decide) with h | ⟨b, off, e, hb, hc⟩
  · exact .inl h
  · refine .inr ⟨b, off, e, hb, fun j hj => ?_⟩
    obtain ⟨c, _, hk, hh⟩ := hc j hj
    obtain rfl := hk
    have := hh 0 _ rfl
    simpa [Kd.string, Kd.scalar] using this

end Go.Proofs.YtbkbpdpegiekhaaGreatDoor
