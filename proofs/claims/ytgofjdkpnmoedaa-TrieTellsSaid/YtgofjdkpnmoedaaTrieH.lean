/- [][]byte; slices.ContainsFunc with len(s) > 16. -/
import Derived.Test.YtgofjdkpnmoedaaTrieG
import Derived.Test.YtgofjdkpnmoedaaRow
set_option linter.unusedSimpArgs false
set_option linter.unusedVariables false
namespace Go.Proofs.Ytgofjdkpnmoedaa
open Go.RowKit Go.Vb

theorem Sl.size_le {w : World} {v : Value} {size n : Nat} {xs : List Value} (h : Sl w v size n xs) : n ≤ 9223372036854775807 := by
  obtain ⟨_, ao, c, _, h1, h2, _⟩ := h; unfold maxLen at h2; omega

theorem long_yes (w : World) (v : Value) (n : Nat) (xs : List Value) (hv : Sl w v 1 n xs) (h : 16 < n) : Calls Try.prog 37 #[v] w fun e w' => e = .returned (.bool true) ∧ w = w' := by
  obtain ⟨ao, c, rfl, _⟩ := hv.value
  have := Sl.size_le hv
  go_enter Try.func37, Try.ntmps37
  go_wp2
  go_ret
  exact ⟨by simp; omega, rfl⟩
theorem long_no (w : World) (v : Value) (n : Nat) (xs : List Value) (hv : Sl w v 1 n xs) (h : n ≤ 16) : Calls Try.prog 37 #[v] w fun e w' => e = .returned (.bool false) ∧ w = w' := by
  obtain ⟨ao, c, rfl, _⟩ := hv.value
  go_enter Try.func37, Try.ntmps37
  go_wp2
  go_ret
  exact ⟨by simp; omega, rfl⟩

set_option maxHeartbeats 400000 in
theorem indexLong (w : World) (v : Value) (L : List (List UInt8)) (vs : List Value) (hM : Mat w v L vs) :
    Calls Try.prog 50 #[v, .func (.func 37) #[] #[]] w fun e w' => (∃ r : Int, e = .returned (.int .i64 r) ∧ (0 ≤ r ↔ ∃ t ∈ L, 16 < t.length)) ∧ w = w' := by
  obtain ⟨ao, c, rfl, _⟩ := hM.outer.value
  have hsz := Sl.size_le hM.outer
  rcases hM.outer.none_or (by decide) with ⟨h0, _⟩ | ⟨hp, b, off, rfl, hb, hc⟩
  · have hL : L = [] := List.eq_nil_of_length_eq_zero h0
    subst hL
    go_enter Try.func50, Try.ntmps50
    go_wp2
    refine wp_loop_rounds 1 ?_
    rw [rounds_succ]
    go_wp2
    go_ret
    exact ⟨⟨_, rfl, by simp⟩, rfl⟩
  · go_enter Try.func50, Try.ntmps50
    go_wp2
    go_loop [8] (fun t => ∃ j : Nat, j ≤ L.length ∧ t = .int .i64 (j : Int) ∧ ∀ t ∈ L.take j, t.length ≤ 16) (fun t => L.length - (intOf t).toNat)
    case atStart => exact ⟨0, by omega, rfl, by simp⟩
    case round =>
      obtain ⟨j, hj, rfl, hall⟩ := hrel
      by_cases hlt : j < L.length
      · obtain ⟨u, hu, hs⟩ := hM.inner j hlt
        have hcell := hc j u hu
        obtain ⟨ao', c', rfl, _⟩ := hs.value
        by_cases hlong : 16 < (L[j]'hlt).length
        · have hcall := long_yes w _ _ _ hs hlong
          have HA := hid hall
          clear hall
          go_wp2_with (go_at_call 37; refine hcall.mono ?_; rintro e w' ⟨rfl, rfl⟩)
          go_ret
          exact ⟨⟨_, rfl, ⟨fun _ => ⟨L[j], List.getElem_mem _, hlong⟩, fun _ => by omega⟩⟩, rfl⟩
        · have hcall := long_no w _ _ _ hs (by omega)
          have HA := hid hall
          clear hall
          go_wp2_with (go_at_call 37; refine hcall.mono ?_; rintro e w' ⟨rfl, rfl⟩)
          go_round
          case rel => exact ⟨j + 1, by omega, by go_num, by rw [take_snoc L j hlt]; intro t ht; rcases List.mem_append.1 ht with h | h; exact HA.out t h; simp at h; subst h; omega⟩
          case measure => simp [intOf]; omega
      · have : j = L.length := by omega
        subst this
        have HA := hid hall
        clear hall
        go_wp2
        go_ret
        refine ⟨⟨_, rfl, ?_⟩, rfl⟩
        have h1 := HA.out
        rw [List.take_length] at h1
        constructor
        · intro h; omega
        · rintro ⟨t, ht, h⟩; have := h1 t ht; omega

theorem containsLong (w : World) (v : Value) (L : List (List UInt8)) (vs : List Value) (hM : Mat w v L vs) :
    Calls Try.prog 36 #[v, .func (.func 37) #[] #[]] w fun e w' => e = .returned (.bool (decide (∃ t ∈ L, 16 < t.length))) ∧ w = w' := by
  obtain ⟨ao, c, rfl, _⟩ := hM.outer.value
  go_enter Try.func36, Try.ntmps36
  go_wp2_with fail
  refine (indexLong w _ L vs hM).mono ?_
  rintro e w' ⟨⟨r, rfl, hr⟩, rfl⟩
  have HR := hid hr
  clear hr
  go_wp2
  go_ret
  exact ⟨by simp only [Int.not_lt, HR.out]; congr 2, rfl⟩
end Go.Proofs.Ytgofjdkpnmoedaa
