/- slices.Clone at []byte and []int, slices.Reverse at []byte, turned. -/
import Derived.Test.YtgofjdkpnmoedaaTrieA
set_option linter.unusedSimpArgs false
set_option linter.unusedVariables false
namespace Go.Proofs.Ytgofjdkpnmoedaa
open Go.RowKit Go.Vb

theorem eqlNil (t e : Nat) (h : Try.prog.underlying t = some (.slice e)) : ∀ (w : World) (a : Option Addr) (n c n' c' : Nat), (binOp .eql t (.slice a n c) (.slice none n' c')).run Try.prog w = .ok (.bool a.isNone) w :=
  fun w a n c n' c' => Lib.run_eql_slice_nil w _ _ a n c n' c' h

set_option maxHeartbeats 400000 in
theorem cloneB (w : World) (v : Value) (n : Nat) (xs : List Value) (hv : Sl w v 1 n xs) (h1 : ∀ u ∈ xs, u.oneCell' = true) (hn : n ≤ 140737488355328) :
    Calls Try.prog 52 #[v] w fun e w' => ∃ v', e = .returned v' ∧ w'.ownsRow w.heap.size 5 1 v' n xs ∧ Keeps w w' := by
  obtain ⟨i0, hi, hz0, hz1, hz2⟩ := info_parts info5
  have qT := eqlNil 23 5 Try.underlying23
  obtain ⟨ao, c, rfl, hnc, hcm, hno⟩ := hv.value
  cases ao with
  | none =>
    obtain ⟨rfl, rfl⟩ := hno rfl
    have : xs = [] := List.eq_nil_of_length_eq_zero (by simpa using hv.len)
    subst this
    go_enter Try.func52, Try.ntmps52
    go_wp2
    go_ret
    exact ⟨_, rfl, World.ownsRow_nil _ _ _ _, Below.refl _ _⟩
  | some ad =>
    have hkp : Keeps w (w.alloc (.cells #[] 5)) := (Below.refl _ _).alloc (Nat.le_refl _) _
    go_enter Try.func52, Try.ntmps52
    go_wp2_with (at_builtin; refine wpList_append_sl _ rfl _ _ 23 rfl w.heap.size 5 i0 (.int .u8 0) 1 1 Try.underlying23 hi hz0 hz1 hz2 rfl (by decide) _ 0 [] rfl (World.ownsRow_lit w #[] 0 (Nat.le_refl _) (by unfold maxLen; omega) rfl) _ n xs rfl (hv.keeps hkp) h1 (by unfold maxLen; omega) (by omega) (by simp) ?_)
    intro v' w1 hown hgrow _ _
    go_wp2
    go_ret
    exact ⟨_, rfl, by simpa using hown, hkp.grown hgrow (by simp) (fun k e => by simp [Value.ownBlock] at e; omega)⟩

set_option maxHeartbeats 400000 in
theorem cloneI (w : World) (v : Value) (n : Nat) (xs : List Value) (hv : Sl w v 1 n xs) (h1 : ∀ u ∈ xs, u.oneCell' = true) (hn : n * 8 ≤ 140737488355328) :
    Calls Try.prog 54 #[v] w fun e w' => ∃ v', e = .returned v' ∧ w'.ownsRow w.heap.size 3 1 v' n xs ∧ Keeps w w' := by
  obtain ⟨i0, hi, hz0, hz1, hz2⟩ := info_parts info3
  have qT := eqlNil 30 3 Try.underlying30
  obtain ⟨ao, c, rfl, hnc, hcm, hno⟩ := hv.value
  cases ao with
  | none =>
    obtain ⟨rfl, rfl⟩ := hno rfl
    have : xs = [] := List.eq_nil_of_length_eq_zero (by simpa using hv.len)
    subst this
    go_enter Try.func54, Try.ntmps54
    go_wp2
    go_ret
    exact ⟨_, rfl, World.ownsRow_nil _ _ _ _, Below.refl _ _⟩
  | some ad =>
    have hkp : Keeps w (w.alloc (.cells #[] 3)) := (Below.refl _ _).alloc (Nat.le_refl _) _
    go_enter Try.func54, Try.ntmps54
    go_wp2_with (at_builtin; refine wpList_append_sl _ rfl _ _ 30 rfl w.heap.size 3 i0 (.int .i64 0) 1 8 Try.underlying30 hi hz0 hz1 hz2 rfl (by decide) _ 0 [] rfl (World.ownsRow_lit w #[] 0 (Nat.le_refl _) (by unfold maxLen; omega) rfl) _ n xs rfl (hv.keeps hkp) h1 (by unfold maxLen; omega) (by omega) (by simp) ?_)
    intro v' w1 hown hgrow _ _
    go_wp2
    go_ret
    exact ⟨_, rfl, by simpa using hown, hkp.grown hgrow (by simp) (fun k e => by simp [Value.ownBlock] at e; omega)⟩

end Go.Proofs.Ytgofjdkpnmoedaa
