/- From a row's reading of an argument to what the walks ask: []api.Post. -/
import Derived.Test.YtlmlanaobhfmbaaPostF
import Derived.Test.YtlmlanaobhfmbaaRowN
import Derived.Deep.SlicePairs
import Derived.ChangeArms
set_option linter.unusedSimpArgs false
set_option linter.unusedVariables false
namespace Go.Proofs.Ytlmlanaobhfmbaa
open Go.RowKit Go.Vb Go.ChangeShapes Go.WideShapes Go.Deep
section
variable {H : Type} {enc : TypeId × Value → H} {P : Program} {W : World} {base : Nat} {spare : Nat → Bool} {held : Bool}
theorem okWide_block {r : Reach} {t e : TypeId} {ao : Option Addr} {len cap : Nat} (ht : P.underlying t = some (.slice e)) (h : Value.okWide P W r base t (.slice ao len cap)) : ∀ k, (Value.slice ao len cap).ownBlock = some k → k < W.heap.size := by
  intro k hk
  simp only [Value.okWide, ht, Cell.okWide] at h
  cases ao with
  | none => cases hk
  | some a =>
    simp only [Cell.ok, ht] at h
    obtain ⟨_, _, row, cells, hs, _⟩ := h.2.2
    obtain rfl : a.block = k := by simpa [Value.ownBlock] using hk
    unfold World.shape? at hs
    cases hc : W.heap[a.block]? with
    | none => rw [hc] at hs; simp at hs
    | some o => exact (Array.getElem?_eq_some_iff.1 hc).1
theorem pairs_get (f g : Nat → Value) : ∀ (n i : Nat), i < n → ((List.range n).flatMap fun i => [f i, g i])[i * 2]? = some (f i) ∧ ((List.range n).flatMap fun i => [f i, g i])[i * 2 + 1]? = some (g i)
  | 0, i, h => by omega
  | n + 1, i, h => by
    have hl : ∀ m : Nat, ((List.range m).flatMap fun i => [f i, g i]).length = m * 2 := fun m => by
      induction m with
      | zero => rfl
      | succ m ih => rw [List.range_succ, List.flatMap_append, List.length_append, ih]; simp; omega
    rw [List.range_succ, List.flatMap_append]
    by_cases hi : i < n
    · rw [List.getElem?_append_left (by rw [hl]; omega), List.getElem?_append_left (by rw [hl]; omega)]
      exact pairs_get f g n i hi
    · have : i = n := by omega
      subst this
      rw [List.getElem?_append_right (by rw [hl]; omega), List.getElem?_append_right (by rw [hl]; omega), hl]
      simp
theorem pairs_len (f g : Nat → Value) (m : Nat) : ((List.range m).flatMap fun i => [f i, g i]).length = m * 2 := by
  induction m with
  | zero => rfl
  | succ m ih => rw [List.range_succ, List.flatMap_append, List.length_append, ih]; simp; omega
theorem pairs_back (f g : Nat → Value) (n k : Nat) (u : Value) (h : ((List.range n).flatMap fun i => [f i, g i])[k]? = some u) : k / 2 < n ∧ u = if k % 2 = 0 then f (k / 2) else g (k / 2) := by
  have hk := (List.getElem?_eq_some_iff.1 h).1
  rw [pairs_len] at hk
  have hd : k / 2 < n := by omega
  refine ⟨hd, ?_⟩
  obtain ⟨h1, h2⟩ := pairs_get f g n (k / 2) hd
  by_cases hm : k % 2 = 0
  · rw [if_pos hm]
    rw [show k / 2 * 2 = k by omega, h] at h1
    exact Option.some.inj h1
  · rw [if_neg hm]
    rw [show k / 2 * 2 + 1 = k by omega, h] at h2
    exact Option.some.inj h2
theorem i64_rng {n : Int} (h : (Lit.int .i64 n).wf = true) : -9223372036854775808 ≤ n ∧ n ≤ 9223372036854775807 := by
  simp only [Lit.wf, Bool.and_eq_true, decide_eq_true_eq] at h
  exact h
theorem open_spots_fuel {t : TypeId} {f0 f1 : Field} {e : TypeId} {v : Value} {fuel : Nat} {x : DataW H × List MemPlace} (ht : P.underlying t = some (.slice e)) (he : P.underlying e = some (.struct #[f0, f1]))
    (ce : P.cellsOf e = 2) (o0 : f0.offset = 0) (o1 : f1.offset = 1) (c0 : P.cellsOf f0.type = 1) (c1 : P.cellsOf f1.type = 1) (i0 : P.underlying f0.type = some (.int .i64)) (i1 : P.underlying f1.type = some (.int .i64))
    (h : DataW.trod enc P W base spare held fuel t [v] = some x) : ∃ s : List Spot, Sl W v 2 s.length (spotCells s) ∧ (∀ p ∈ s, p.1 ≤ 9223372036854775807 ∧ p.2 ≤ 9223372036854775807) ∧ (s.length = 0 ∨ ∃ es sp, x.1 = .slice es sp ∧ s.length ≤ es.length + sp.length) := by
  rcases open_slice_pairs ht he ce o0 o1 c0 c1 h with ⟨hcs, _⟩ | ⟨a, len, cap, m, n, V0, V1, D0, D1, P0, P1, hcs, hb, hl, hm, hmm, hx, hel⟩
  · injection hcs with hcs _
    exact ⟨[], by rw [hcs]; exact Sl.nil _ _, by simp, .inl rfl⟩
  · injection hcs with hcs _
    have hlm : len ≤ m := by rw [hmm]; split <;> omega
    obtain ⟨S, hS⟩ := choose_lt (α := Spot) (n := len) (p := fun i s => V0 i = .int .i64 s.1 ∧ V1 i = .int .i64 s.2 ∧ s.1 ≤ 9223372036854775807 ∧ s.2 ≤ 9223372036854775807) (fun i hi => by
      obtain ⟨_, _, h2, h3⟩ := hel i (by omega)
      obtain ⟨x, hx, _, w1⟩ := DataW.trod_int i0 h2
      obtain ⟨y, hy, _, w2⟩ := DataW.trod_int i1 h3
      injection hx with hx _
      injection hy with hy _
      exact ⟨(x, y), hx, hy, (i64_rng w1).2, (i64_rng w2).2⟩)
    have hL : ((List.range len).map S).length = len := by simp
    refine ⟨(List.range len).map S, ?_, ?_, .inr ⟨_, _, by rw [hx], by simp⟩⟩
    · rw [hL]
      refine ⟨by rw [spotCells_length, hL], some a, cap, hcs, hl, hm, (fun h => by cases h), fun ad had k u hu => ?_⟩
      obtain rfl := Option.some.inj had
      have hsc : spotCells ((List.range len).map S) = (List.range len).flatMap fun i => [.int .i64 (S i).1, .int .i64 (S i).2] := by unfold spotCells; rw [List.flatMap_map]
      rw [hsc] at hu
      obtain ⟨hi, rfl⟩ := pairs_back _ _ _ _ _ hu
      obtain ⟨h0, h1, _⟩ := hel (k / 2) (by omega)
      obtain ⟨s0, s1, _⟩ := hS (k / 2) hi
      by_cases hk : k % 2 = 0
      · rw [if_pos hk, ← s0, ← h0, show k / 2 * 2 = k by omega]
      · rw [if_neg hk, ← s1, ← h1, show k / 2 * 2 + 1 = k by omega]
    · intro p hp
      obtain ⟨i, hi, rfl⟩ := List.mem_map.1 hp
      exact (hS i (List.mem_range.1 hi)).2.2
theorem open_posts {t e : TypeId} {f0 f1 g0 g1 : Field} {b : TypeId} {v : Value} {d : DataW H} {ps : List MemPlace} {ts : List TypeId} {ds : List (DataW H)} {j : Nat} (hsz : (DataW.weightsEach P ts ds).all (· ≤ reachBytes) = true) (htj : ts[j]? = some t) (hdj : ds[j]? = some d)
    (ht : P.underlying t = some (.slice e)) (he : P.underlying e = some (.struct #[f0, f1])) (hs : P.underlying f1.type = some (.slice b)) (hb : P.underlying b = some (.struct #[g0, g1]))
    (ce : P.cellsOf e = 2) (o0 : f0.offset = 0) (o1 : f1.offset = 1) (c0 : P.cellsOf f0.type = 1) (c1 : P.cellsOf f1.type = 1) (cb : P.cellsOf b = 2) (q0 : g0.offset = 0) (q1 : g1.offset = 1) (k0 : P.cellsOf g0.type = 1) (k1 : P.cellsOf g1.type = 1)
    (i0 : P.underlying f0.type = some (.int .i64)) (j0 : P.underlying g0.type = some (.int .i64)) (j1 : P.underlying g1.type = some (.int .i64)) (hB : P.bytesOf e = 32) (hB2 : P.bytesOf b = 16) (h1 : v.cells.toList = [v])
    (h : DataW.Trod enc P W base spare held t v d ps) : ∃ L cs, Posts W v L cs ∧ (∀ i (h : i < L.length), (L[i]'h).2.length ≤ 8796093022208) ∧ (∀ p ∈ L, Rng p) := by
  obtain ⟨fuel, hf⟩ := h
  rw [h1] at hf
  rcases open_slice_pairs ht he ce o0 o1 c0 c1 hf with ⟨hcs, _⟩ | ⟨a, len, cap, m, n, V0, V1, D0, D1, P0, P1, hcs, hba, hl, hm, hmm, hx, hel⟩
  · injection hcs with hcs _
    exact ⟨[], [], ⟨by rw [hcs]; exact Sl.nil _ _, fun i hi => by simp at hi⟩, by simp, by simp⟩
  · injection hcs with hcs _
    have hlm : len ≤ m := by rw [hmm]; split <;> omega
    obtain rfl : d = .slice ((List.range len).map fun i => .agg [D0 i, D1 i]) ((List.range (m - len)).map fun j => .agg [D0 (len + j), D1 (len + j)]) := by injection hx
    have hw : ∀ i < len, ∀ es sp, D1 i = .slice es sp → (es.length + sp.length) * 16 ≤ 140737488351232 := by
      intro i hi es sp hD
      have hmem : ((es.length + sp.length) * P.bytesOf b) ∈ (DataW.slice (H := H) ((List.range len).map fun i => .agg [D0 i, D1 i]) ((List.range (m - len)).map fun j => .agg [D0 (len + j), D1 (len + j)])).weights P t := by
        have hall : ∀ (l : List (DataW H)) (y : DataW H) (k : Nat), y ∈ l → k ∈ y.weights P e → k ∈ DataW.weightsAll P e l := by
          intro l y k hy hk
          induction l with
          | nil => simp at hy
          | cons z r ih =>
            rw [DataW.weightsAll, List.mem_append]
            rcases List.mem_cons.1 hy with rfl | hy
            · exact .inl hk
            · exact .inr (ih hy)
        rw [DataW.weights, ht]
        refine List.mem_cons_of_mem _ (List.mem_append_left _ (hall _ (.agg [D0 i, D1 i]) _ (List.mem_map.2 ⟨i, List.mem_range.2 hi, rfl⟩) ?_))
        rw [DataW.weights, he]
        simp only [List.map_cons, List.map_nil, DataW.weightsEach, List.append_nil, List.mem_append]
        right
        rw [hD, DataW.weights, hs]
        exact List.mem_cons_self ..
      have := List.all_eq_true.1 hsz _ (DataW.weights_mem_each htj hdj _ hmem)
      rw [hB2] at this
      exact of_decide_eq_true this
    obtain ⟨S, hS⟩ := choose_lt (α := Post) (n := len) (p := fun i p => V0 i = .int .i64 p.1 ∧ Sl W (V1 i) 2 p.2.length (spotCells p.2) ∧ p.2.length ≤ 8796093022208 ∧ Rng p) (fun i hi => by
      obtain ⟨_, _, h2, h3⟩ := hel i (by omega)
      obtain ⟨x, hx, _, w1⟩ := DataW.trod_int i0 h2
      obtain ⟨s, hs', hr, hor⟩ := open_spots_fuel hs hb cb q0 q1 k0 k1 j0 j1 h3
      injection hx with hx _
      refine ⟨(x, s), hx, hs', ?_, ⟨fun q hq => (hr q hq).1, fun q hq => (hr q hq).2, i64_rng w1⟩⟩
      rcases hor with h0 | ⟨es, sp, he', hle⟩
      · show s.length ≤ _; omega
      · have := hw i hi es sp he'
        show s.length ≤ _; omega)
    have hL : ((List.range len).map S).length = len := by simp
    refine ⟨(List.range len).map S, (List.range len).flatMap fun i => [V0 i, V1 i], ⟨?_, fun i hi => ?_⟩, fun i hi => ?_, ?_⟩
    · rw [hL]
      refine ⟨pairs_len _ _ _, some a, cap, hcs, hl, hm, (fun h => by cases h), fun ad had k u hu => ?_⟩
      obtain rfl := Option.some.inj had
      obtain ⟨hi, rfl⟩ := pairs_back _ _ _ _ _ hu
      obtain ⟨h0, h1, _⟩ := hel (k / 2) (by omega)
      by_cases hk : k % 2 = 0
      · rw [if_pos hk, ← h0, show k / 2 * 2 = k by omega]
      · rw [if_neg hk, ← h1, show k / 2 * 2 + 1 = k by omega]
    · have hi' : i < len := by simpa using hi
      obtain ⟨p0, p1⟩ := pairs_get V0 V1 len i hi'
      obtain ⟨s0, s1, _⟩ := hS i hi'
      refine ⟨by rw [p0, s0]; simp, V1 i, p1, by simpa using s1⟩
    · have hi' : i < len := by simpa using hi
      simpa using (hS i hi').2.2.1
    · intro p hp
      obtain ⟨i, hi, rfl⟩ := List.mem_map.1 hp
      exact (hS i (List.mem_range.1 hi)).2.2.2
end
end Go.Proofs.Ytlmlanaobhfmbaa
