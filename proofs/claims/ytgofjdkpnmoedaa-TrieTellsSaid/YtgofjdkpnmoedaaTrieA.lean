/- The trie's places: (*places).add, slices.Clone, slices.Reverse, turned. -/
import Derived.Test.YtgofjdkpnmoedaaProg
import Derived.Test.YtgofjdkpnmoedaaMaps
set_option linter.unusedSimpArgs false
set_option linter.unusedVariables false
namespace Go.Proofs.Ytgofjdkpnmoedaa
open Go.RowKit Go.Vb

theorem info3 : (Try.prog.info? 3).map (fun i => (i.zero, i.size, i.bytes)) = some (some (.int .i64 0), 1, 8) := by kernel_rfl
theorem info5 : (Try.prog.info? 5).map (fun i => (i.zero, i.size, i.bytes)) = some (some (.int .u8 0), 1, 1) := by kernel_rfl

def addTo (xs : List Int) (i : Int) : List Int := if xs.getLast? = some i then xs else xs ++ [i]

theorem add_nil (base : Nat) (w : World) (a : Addr) (ao : Option Addr) (cap : Nat) (i : Int) (h : w.cell? a = some (.slice ao 0 cap)) (hf : w.frozen? a = false)
    (hown : w.ownsRow base 3 1 (.slice ao 0 cap) 0 []) (hbase : base ≤ w.heap.size) (hne : (Value.slice ao 0 cap).ownBlock ≠ some a.block) :
    Calls Try.prog 51 #[.pointer (some a), .int .i64 i] w fun e w' => e = .returned (.tuple #[]) ∧ ∃ v' w1, w.grownBy w1 (Value.slice ao 0 cap).ownBlock ∧ w1.ownsRow base 3 1 v' 1 [.int .i64 i] ∧ FreshRow w (.slice ao 0 cap) v' ∧ w1.cell? a = some (.slice ao 0 cap) ∧ w' = w1.setCell a v' := by
  obtain ⟨i0, hi, hz0, hz1, hz2⟩ := info_parts info3
  have hlt := World.block_lt_of_cell? w a h
  have hneb : some a.block ≠ (Value.slice ao 0 cap).ownBlock := fun e => hne e.symm
  go_enter Try.func51, Try.ntmps51
  go_wp2
  go_quiet (fail)
  rename_i nq
  have hkp : Keeps w ((w.drewN nq).alloc (.cells #[.int .i64 i] 3)) := (keeps_drewN w nq).trans ((Below.refl _ _).alloc (Nat.le_refl _) _)
  have hA : ((w.drewN nq).alloc (.cells #[.int .i64 i] 3)).cell? a = some (.slice ao 0 cap) := hkp.cell h
  have hFr : ((w.drewN nq).alloc (.cells #[.int .i64 i] 3)).frozen? a = false := (hkp.frozen hlt).trans hf
  go_wp2_with (at_builtin; refine wpList_append_sl _ rfl _ _ 56 rfl base 3 i0 (.int .i64 0) 1 8 Try.underlying56 hi hz0 hz1 hz2 rfl (by decide) _ 0 [] rfl ((show (w.drewN nq).ownsRow _ _ _ _ _ _ from hown).alloc _) _ 1 [.int .i64 i] rfl (sl_one _ _ _) (by simp [Value.oneCell']) (by unfold maxLen; omega) (by omega) (by simp; omega) ?_)
  intro v' w1 hown' hgrow hnil hfr
  have hc1 := hgrow.cell hA hneb
  have hf1 : w1.frozen? a = false := (World.frozen?_of_block (hgrow.block _ (by simp; omega) hneb)).trans hFr
  obtain ⟨ao', c', rfl⟩ := ownsRow_slice hown'
  go_wp2
  go_end0
  have hg1 : w.grownBy w1 (Value.slice ao 0 cap).ownBlock := ⟨hgrow.os, hgrow.tape, hgrow.output, by have := hgrow.size; simp at this; omega, fun k hk hn => (hgrow.block k (by simp; omega) hn).trans (Below.heap_alloc _ _ _ hk)⟩
  exact ⟨rfl, _, w1, hg1, hown', (by rcases hfr with h | ⟨g, h1, h2⟩; exact .inl h; exact .inr ⟨g, h1, by simp at h2; omega⟩), hc1, rfl⟩

theorem add_same (w : World) (a : Addr) (g cap n : Nat) (i : Int) (h : w.cell? a = some (.slice (some ⟨g, 0, none⟩) (n + 1) cap)) (hn : n + 1 ≤ 9223372036854775807) (hc : w.cell? ⟨g, n, none⟩ = some (.int .i64 i)) :
    Calls Try.prog 51 #[.pointer (some a), .int .i64 i] w fun e w' => e = .returned (.tuple #[]) ∧ ∃ k, w' = w.drewN k := by
  have h0 : ((n : Int) + 1 == 0) = false := beq_eq_false_iff_ne.2 (by omega)
  have h1 := wrapN n (by omega)
  go_enter Try.func51, Try.ntmps51
  go_wp2
  go_quiet (fail)
  go_wp2
  go_end0
  exact ⟨rfl, _, rfl⟩

theorem add_other (base : Nat) (w : World) (a : Addr) (g cap n : Nat) (xs : List Value) (i l : Int) (h : w.cell? a = some (.slice (some ⟨g, 0, none⟩) (n + 1) cap)) (hf : w.frozen? a = false) (hn : n + 1 ≤ 1099511627776)
    (hc : w.cell? ⟨g, n, none⟩ = some (.int .i64 l)) (hli : (l != i) = true) (hga : g ≠ a.block)
    (hown : w.ownsRow base 3 1 (.slice (some ⟨g, 0, none⟩) (n + 1) cap) (n + 1) xs) (hbase : base ≤ w.heap.size) :
    Calls Try.prog 51 #[.pointer (some a), .int .i64 i] w fun e w' => e = .returned (.tuple #[]) ∧ ∃ v' w1, w.grownBy w1 (some g) ∧ w1.ownsRow base 3 1 v' (n + 1 + 1) (xs ++ [.int .i64 i]) ∧ FreshRow w (.slice (some ⟨g, 0, none⟩) (n + 1) cap) v' ∧ w1.cell? a = some (.slice (some ⟨g, 0, none⟩) (n + 1) cap) ∧ w' = w1.setCell a v' := by
  obtain ⟨i0, hi, hz0, hz1, hz2⟩ := info_parts info3
  have h0 : ((n : Int) + 1 == 0) = false := beq_eq_false_iff_ne.2 (by omega)
  have h1 := wrapN n (by omega)
  have hlt := World.block_lt_of_cell? w a h
  have hneb : some a.block ≠ some g := fun e => hga (Option.some.inj e).symm
  go_enter Try.func51, Try.ntmps51
  go_wp2
  go_quiet (fail)
  rename_i nq
  have hkp : Keeps w ((w.drewN nq).alloc (.cells #[.int .i64 i] 3)) := (keeps_drewN w nq).trans ((Below.refl _ _).alloc (Nat.le_refl _) _)
  have hA : ((w.drewN nq).alloc (.cells #[.int .i64 i] 3)).cell? a = some (.slice (some ⟨g, 0, none⟩) (n + 1) cap) := hkp.cell h
  have hFr : ((w.drewN nq).alloc (.cells #[.int .i64 i] 3)).frozen? a = false := (hkp.frozen hlt).trans hf
  go_wp2_with (at_builtin; refine wpList_append_sl _ rfl _ _ 56 rfl base 3 i0 (.int .i64 0) 1 8 Try.underlying56 hi hz0 hz1 hz2 rfl (by decide) _ _ _ rfl ((show (w.drewN nq).ownsRow _ _ _ _ _ _ from hown).alloc _) _ 1 [.int .i64 i] rfl (sl_one _ _ _) (by simp [Value.oneCell']) (by unfold maxLen; omega) (by omega) (by simp; omega) ?_)
  intro v' w1 hown' hgrow hnil hfr
  have hc1 := hgrow.cell hA hneb
  have hf1 : w1.frozen? a = false := (World.frozen?_of_block (hgrow.block _ (by simp; omega) hneb)).trans hFr
  obtain ⟨ao', c', rfl⟩ := ownsRow_slice hown'
  go_wp2
  go_end0
  have hg1 : w.grownBy w1 (some g) := ⟨hgrow.os, hgrow.tape, hgrow.output, by have := hgrow.size; simp at this; omega, fun k hk hn => (hgrow.block k (by simp; omega) hn).trans (Below.heap_alloc _ _ _ hk)⟩
  exact ⟨rfl, _, w1, hg1, hown', (by rcases hfr with h | ⟨g, h1, h2⟩; exact .inl h; exact .inr ⟨g, h1, by simp at h2; omega⟩), hc1, rfl⟩

/-- (*places).add: one more, if it is not the last. -/
theorem add_any (base : Nat) (w : World) (a : Addr) (v : Value) (xs : List Int) (i : Int) (h : w.cell? a = some v) (hf : w.frozen? a = false)
    (hown : w.ownsRow base 3 1 v xs.length (ints .i64 xs)) (hbase : base ≤ w.heap.size) (hne : v.ownBlock ≠ some a.block) (hn : xs.length ≤ 1099511627776) :
    Calls Try.prog 51 #[.pointer (some a), .int .i64 i] w fun e w' => e = .returned (.tuple #[]) ∧ ∃ v' w1, w.grownBy w1 v.ownBlock ∧ w1.ownsRow base 3 1 v' (addTo xs i).length (ints .i64 (addTo xs i)) ∧ FreshRow w v v' ∧ w1.cell? a = some v ∧ w' = w1.setCell a v' := by
  have hxs : xs = [] ∨ ∃ ys l, xs = ys ++ [l] := by rcases List.eq_nil_or_concat xs with h | ⟨ys, l, h⟩; exact .inl h; exact .inr ⟨ys, l, by rw [h, List.concat_eq_append]⟩
  rcases hxs with rfl | ⟨ys, l, rfl⟩
  · obtain ⟨ao, c, rfl⟩ := ownsRow_slice hown
    refine (add_nil base w a ao c i h hf hown hbase hne).mono ?_
    rintro e w' ⟨rfl, v', w1, r1, r2, r3, r4, r5⟩
    exact ⟨rfl, v', w1, r1, r2, r3, r4, r5⟩
  · have hl : (ys ++ [l]).length = ys.length + 1 := by simp
    rw [hl] at hown
    obtain ⟨g, cap, rfl, _⟩ := ownsRow_pos hown (by omega)
    have hc : w.cell? ⟨g, ys.length, none⟩ = some (.int .i64 l) := by
      rw [hown.cellAt _ (by omega)]; simp [ints]
    have hga : g ≠ a.block := fun e => hne (by rw [e]; rfl)
    by_cases hli : l = i
    · subst hli
      refine (add_same w a g cap ys.length l h (by simp at hn; omega) hc).mono ?_
      rintro e w' ⟨rfl, k, rfl⟩
      have e1 : addTo (ys ++ [l]) l = ys ++ [l] := by simp [addTo]
      refine ⟨rfl, _, w.drewN k, ⟨rfl, rfl, rfl, Nat.le_refl _, fun _ _ _ => rfl⟩, ?_, .inl rfl, h, ?_⟩
      · rw [e1, hl]; exact hown
      · exact (setCell_self (w := w.drewN k) h).symm
    · have e1 : addTo (ys ++ [l]) i = ys ++ [l] ++ [i] := by simp [addTo, hli]
      refine (add_other base w a g cap ys.length _ i l h hf (by simp at hn; omega) hc (by simpa using hli) hga hown hbase).mono ?_
      rintro e w' ⟨rfl, v', w1, r1, r2, r3, r4, r5⟩
      refine ⟨rfl, v', w1, r1, ?_, r3, r4, r5⟩
      rw [e1, ints_append]
      simpa [ints] using r2

end Go.Proofs.Ytgofjdkpnmoedaa
