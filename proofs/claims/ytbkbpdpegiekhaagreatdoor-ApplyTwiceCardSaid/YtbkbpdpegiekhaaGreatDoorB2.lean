/- Maps of the call's own: how often each text came; nodes by their paths. -/
import Derived.Test.YtbkbpdpegiekhaaGreatDoorB1
import Derived.Maps.OwnOps
import Derived.Maps.OwnSet
import Derived.Maps.Views
set_option linter.unusedVariables false
set_option linter.unusedSimpArgs false
namespace Go.Proofs.YtbkbpdpegiekhaaGreatDoor
open Go.RowKit Go.Proofs.YtbkbpdpegiekhaaGreatDoorW.PrintWords Mo

theorem law9 : Maps.Keyed Tryz.prog 9 := Maps.string_keyed Tryz.underlying9
abbrev keyS (s : S) : Lit := .string s.data.toList
theorem keyS_ne {s t : S} (h : s ≠ t) : keyS t ≠ keyS s := fun e => h (bs_inj (by unfold bs; injection e with e; exact e.symm))

/-- Block b: how often each text stands in xs. -/
def Cnt (w : World) (b : Nat) (xs : List S) : Prop := ∃ n D, n ≤ xs.length ∧ w.ownsMap (H := Unit) Tryz.prog 9 (plainElem Tryz.prog 3) b n D ∧
  ∀ s : S, D.atKey (keyS s) (.lit (.int .i64 0)) = .lit (.int .i64 (xs.count s : Nat))
theorem Cnt.made (w : World) : Cnt (w.alloc (.map #[] 0)) w.heap.size [] := ⟨0, _, Nat.le_refl _, World.ownsMap_made _ _ _ _, fun s => rfl⟩
theorem Cnt.lt {w : World} {b : Nat} {xs : List S} (h : Cnt w b xs) : b < w.heap.size := by
  obtain ⟨n, D, _, h, _⟩ := h
  exact h.lt
theorem Cnt.kept {w w' : World} {b : Nat} {xs : List S} {row : Option Nat} (h : Cnt w b xs) (hg : w.grownBy w' row) (hne : some b ≠ row) : Cnt w' b xs := by
  obtain ⟨n, D, hn, h, hd⟩ := h
  exact ⟨n, D, hn, h.kept hg hne, hd⟩
theorem Cnt.below {w w' : World} {b : Nat} {xs : List S} (h : Cnt w b xs) (hb : Below w.heap.size w w') : Cnt w' b xs := h.kept (grown_of_below hb none) (by simp)

section
variable {ops : Array Oper} {rest : List Oper} {o : Oper} {a : Act} {Q : Exit → Act → World → Prop}
theorem Cnt.look (w : World) (hg : o.guard = none) (m x : Operand) (hop : o.op = Op.lookup 50 m x false) (b : Nat) (xs : List S) (hm : a.eval m = .map (some b)) (h : Cnt w b xs) (s : S) (hs : s.size ≤ 9223372036854775807) (hx : a.eval x = .string s)
    (hK : wpList Tryz.prog ops Q rest (a.put o.dst (.int .i64 (xs.count s : Nat))) w) : wpList Tryz.prog ops Q (o :: rest) a w := by
  obtain ⟨n, D, hn, h, hd⟩ := h
  refine wpList_lookup_own_int w hg m x 50 hop 9 3 .i64 law9 Tryz.underlying50 Tryz.underlying3 (Tryz.zeroValue3 w) b n D hm h (.string s) (keyS s) hx (WideMaps.keyOf_string_mk Tryz.underlying9 (by simpa [maxLen] using hs)) fun c hc _ => ?_
  rw [hd s] at hc
  injection hc with hc
  injection hc with _ hc
  rw [← hc]
  exact hK
theorem Cnt.inc (w : World) (hg : o.guard = none) (m x v : Operand) (hop : o.op = Op.mapUpdate 50 m x v) (b : Nat) (xs : List S) (hm : a.eval m = .map (some b)) (h : Cnt w b xs) (hl : xs.length ≤ 1000000000000) (s : S) (hs : s.size ≤ 9223372036854775807) (hx : a.eval x = .string s)
    (hv : a.eval v = .int .i64 ((xs.count s : Nat) + 1))
    (hK : ∀ w', Cnt w' b (xs ++ [s]) → w.grownBy w' (some b) → wpList Tryz.prog ops Q rest (a.put o.dst undef) w') : wpList Tryz.prog ops Q (o :: rest) a w := by
  obtain ⟨n, D, hn, h, hd⟩ := h
  have hc : xs.count s ≤ 1000000000000 := Nat.le_trans List.count_le_length hl
  have hwf : (Lit.int .i64 ((xs.count s : Nat) + 1)).wf = true := WalkArith.wf_i64 (by omega)
  refine wpList_mapUpdate_own (H := Unit) w hg m x v 50 hop 9 3 law9 Tryz.underlying50 (plainElem Tryz.prog 3) b n D hm h (by unfold maxLen; omega) (.string s) _ (keyS s) hx hv (WideMaps.keyOf_string_mk Tryz.underlying9 (by simpa [maxLen] using hs)) _ _
    (plainElem_int Tryz.underlying3 hwf) fun w' h' hg' => hK w' ⟨n + 1, _, by simp; omega, h', fun t => ?_⟩ hg'
  by_cases e : s = t
  · subst e
    rw [Maps.atKey_put_same h.isMap (show WideAt.IsKeyLit (keyS _) from trivial)]
    simp [List.count_append, List.count_cons]
  · rw [Maps.atKey_put_other (keyS_ne e), hd t]
    have e2 : (s == t) = false := by simpa using e
    simp [List.count_append, List.count_cons, e2]
end

/-! ### Nodes -/
theorem vN_inj {n m : Nd} (h : vN n = vN m) : n = m := by
  cases n; cases m
  simp [vN] at h
  obtain ⟨h1, h2, h3, h4, h5⟩ := h
  subst h1 h2 h3 h4 h5
  rfl
noncomputable def nodeElem (v : Value) : Option (DataW Nd × List MemPlace) :=
  @dite _ (∃ n, v = vN n) (Classical.propDecidable _) (fun h => some (.held (Classical.choose h), [])) (fun _ => none)
theorem nodeElem_mk (n : Nd) : nodeElem (vN n) = some (.held n, []) := by
  unfold nodeElem
  have h : ∃ m, vN n = vN m := ⟨n, rfl⟩
  rw [dif_pos h, vN_inj (Classical.choose_spec h).symm]
theorem nodeElem_inv {v : Value} {z : DataW Nd × List MemPlace} (h : nodeElem v = some z) : ∃ n, v = vN n ∧ z = (.held n, []) := by
  unfold nodeElem at h
  by_cases hv : ∃ n, v = vN n
  · rw [dif_pos hv] at h
    exact ⟨_, Classical.choose_spec hv, (Option.some.inj h).symm⟩
  · rw [dif_neg hv] at h
    cases h

/-- The last node of a path. -/
def lastAt (xs : List Nd) (p : S) : Option Nd := xs.reverse.find? fun n => n.path == p
/-- Block b: the last node of each path. -/
def Nmap (w : World) (b : Nat) (xs : List Nd) : Prop := ∃ n D, n ≤ xs.length ∧ w.ownsMap (H := Nd) Tryz.prog 9 nodeElem b n D ∧
  ∀ s : S, Maps.has D (keyS s) = (lastAt xs s).isSome ∧ ∀ n, lastAt xs s = some n → D.atKey (keyS s) (.held Nd.zero) = .held n
theorem Nmap.made (w : World) : Nmap (w.alloc (.map #[] 0)) w.heap.size [] := ⟨0, _, Nat.le_refl _, World.ownsMap_made _ _ _ _, fun s => ⟨rfl, fun n h => by cases h⟩⟩
theorem Nmap.lt {w : World} {b : Nat} {xs : List Nd} (h : Nmap w b xs) : b < w.heap.size := by
  obtain ⟨n, D, _, h, _⟩ := h
  exact h.lt
theorem Nmap.kept {w w' : World} {b : Nat} {xs : List Nd} {row : Option Nat} (h : Nmap w b xs) (hg : w.grownBy w' row) (hne : some b ≠ row) : Nmap w' b xs := by
  obtain ⟨n, D, hn, h, hd⟩ := h
  exact ⟨n, D, hn, h.kept hg hne, hd⟩
theorem Nmap.below {w w' : World} {b : Nat} {xs : List Nd} (h : Nmap w b xs) (hb : Below w.heap.size w w') : Nmap w' b xs := h.kept (grown_of_below hb none) (by simp)
theorem lastAt_snoc (xs : List Nd) (n : Nd) (p : S) : lastAt (xs ++ [n]) p = if n.path = p then some n else lastAt xs p := by
  unfold lastAt
  rw [List.reverse_append]
  simp only [List.reverse_cons, List.reverse_nil, List.nil_append, List.singleton_append, List.find?_cons]
  by_cases h : n.path = p
  · simp [h]
  · rw [if_neg h, beq_eq_false_iff_ne.2 h]

/-- What a look-up of a path comes to. -/
theorem Nmap.run {w : World} {b : Nat} {xs : List Nd} (h : Nmap w b xs) (s : S) (hs : s.size ≤ 9223372036854775807) (c : Bool) :
    (Instr.lookup 123 (.map (some b)) (.string s) c).run Tryz.prog w = .ok (if c then .tuple #[vN ((lastAt xs s).getD Nd.zero), .bool (lastAt xs s).isSome] else vN ((lastAt xs s).getD Nd.zero)) w := by
  obtain ⟨n, D, hn, ⟨es, clock, hb, F, _, rfl⟩, hd⟩ := h
  obtain ⟨h1, h2⟩ := hd s
  have hz : (zeroValue 46).run Tryz.prog w = .ok (vN Nd.zero) w := Tryz.zeroValue46 w
  rcases Maps.fit_look (R := nodeElem) c law9 Tryz.underlying123 hz hb F (WideMaps.keyOf_string_mk Tryz.underlying9 (s := s) (by simpa [maxLen] using hs)) with ⟨hrun, _, hat⟩ | ⟨e0, y, _, _, hrun, hRv, hat, _⟩
  · have hf := Maps.has_false_of_atKey hat
    rw [hf] at h1
    have hn : lastAt xs s = none := by
      cases h : lastAt xs s with
      | none => rfl
      | some n => rw [h] at h1; cases h1
    rw [hrun, hn]
    rfl
  · have hf := Maps.has_true_of_atKey hat
    rw [hf] at h1
    cases hl : lastAt xs s with
    | none => rw [hl] at h1; cases h1
    | some n =>
      obtain ⟨n', hv, hy⟩ := nodeElem_inv hRv
      have h3 := h2 n hl
      rw [hat, hy] at h3
      have h4 : n' = n := DataW.held.inj h3
      rw [h4] at hv
      rw [hv] at hrun
      exact hrun

section
variable {ops : Array Oper} {rest : List Oper} {o : Oper} {a : Act} {Q : Exit → Act → World → Prop}
theorem Nmap.look (w : World) (hg : o.guard = none) (m x : Operand) (c : Bool) (hop : o.op = Op.lookup 123 m x c) (b : Nat) (xs : List Nd) (hm : a.eval m = .map (some b)) (h : Nmap w b xs) (s : S) (hs : s.size ≤ 9223372036854775807) (hx : a.eval x = .string s)
    (hK : wpList Tryz.prog ops Q rest (a.put o.dst (if c then .tuple #[vN ((lastAt xs s).getD Nd.zero), .bool (lastAt xs s).isSome] else vN ((lastAt xs s).getD Nd.zero))) w) : wpList Tryz.prog ops Q (o :: rest) a w := by
  refine wpList_plain hg fun K' hK' => ?_
  have hrun := h.run s hs c
  unfold Oper.wp
  simp only [execOp, hop, hm, hx, Sem.run_bind, hrun, Result.andThen_ok]
  exact hK' _ _ hK
theorem Nmap.set (w : World) (hg : o.guard = none) (m x v : Operand) (hop : o.op = Op.mapUpdate 123 m x v) (b : Nat) (xs : List Nd) (hm : a.eval m = .map (some b)) (h : Nmap w b xs) (hl : xs.length ≤ 1000000000000) (n : Nd) (hs : n.path.size ≤ 9223372036854775807) (hx : a.eval x = .string n.path)
    (hv : a.eval v = vN n)
    (hK : ∀ w', Nmap w' b (xs ++ [n]) → w.grownBy w' (some b) → wpList Tryz.prog ops Q rest (a.put o.dst undef) w') : wpList Tryz.prog ops Q (o :: rest) a w := by
  obtain ⟨k, D, hn, h, hd⟩ := h
  refine wpList_mapUpdate_own (H := Nd) w hg m x v 123 hop 9 46 law9 Tryz.underlying123 nodeElem b k D hm h (by unfold maxLen; omega) (.string n.path) _ (keyS n.path) hx hv (WideMaps.keyOf_string_mk Tryz.underlying9 (by simpa [maxLen] using hs)) _ _
    (nodeElem_mk n) fun w' h' hg' => hK w' ⟨k + 1, _, by simp; omega, h', fun t => ?_⟩ hg'
  rw [lastAt_snoc]
  by_cases e : n.path = t
  · subst e
    rw [if_pos rfl, Maps.has_put_same h.isMap (show WideAt.IsKeyLit (keyS _) from trivial), Maps.atKey_put_same h.isMap (show WideAt.IsKeyLit (keyS _) from trivial)]
    exact ⟨rfl, fun m hm => by rw [Option.some.inj hm]⟩
  · rw [if_neg e, Maps.has_put_other (keyS_ne e), Maps.atKey_put_other (keyS_ne e)]
    exact hd t
end

end Go.Proofs.YtbkbpdpegiekhaaGreatDoor
