/- slices.Reverse at []byte, turned. -/
import Derived.Test.YtgofjdkpnmoedaaTrieB
import Derived.RegionTactic
import Derived.Deep.RegionWith
set_option linter.unusedSimpArgs false
set_option linter.unusedVariables false
namespace Go.Proofs.Ytgofjdkpnmoedaa
open Go.RowKit Go.Vb

/-- What stands in the row when k are exchanged at each end. -/
def revAt (xs : List Value) (k : Nat) : List Value := (List.range xs.length).map fun t => if t < k ∨ xs.length - k ≤ t then xs.getD (xs.length - 1 - t) undef else xs.getD t undef
theorem grown3 {a b c d : World} {r : Option Nat} (h : a.grownBy b r) (h1 : b.drew.grownBy c r) (h2 : c.grownBy d r) : a.grownBy d r :=
  ⟨h2.os.trans (h1.os.trans h.os), h2.tape.trans (h1.tape.trans h.tape), h2.output.trans (h1.output.trans h.output), Nat.le_trans h.size (Nat.le_trans h1.size h2.size), fun k hk hn => (h2.block k (Nat.lt_of_lt_of_le hk (Nat.le_trans h.size h1.size)) hn).trans ((h1.block k (Nat.lt_of_lt_of_le hk h.size) hn).trans (h.block k hk hn))⟩
theorem revAt_length (xs : List Value) (k : Nat) : (revAt xs k).length = xs.length := by simp [revAt]
theorem revAt_get (xs : List Value) (k t : Nat) (h : t < xs.length) : (revAt xs k)[t]? = some (if t < k ∨ xs.length - k ≤ t then xs.getD (xs.length - 1 - t) undef else xs.getD t undef) := by simp [revAt, h]
theorem revAt_zero (xs : List Value) : revAt xs 0 = xs := by
  apply List.ext_getElem?
  intro t
  by_cases h : t < xs.length
  · rw [revAt_get xs 0 t h]
    rw [if_neg (by omega)]
    simp [List.getD_eq_getElem?_getD, h]
  · rw [List.getElem?_eq_none (by rw [revAt_length]; omega), List.getElem?_eq_none (by omega)]
theorem revAt_end (xs : List Value) (k : Nat) (h : xs.length ≤ 2 * k + 1) : revAt xs k = xs.reverse := by
  apply List.ext_getElem?
  intro t
  by_cases ht : t < xs.length
  · rw [revAt_get xs k t ht, List.getElem?_reverse ht]
    rw [List.getElem?_eq_getElem (show xs.length - 1 - t < xs.length by omega)]
    congr 1
    split
    · simp [List.getD_eq_getElem?_getD, show xs.length - 1 - t < xs.length by omega]
    · have : xs.length - 1 - t = t := by omega
      simp [List.getD_eq_getElem?_getD, this, ht]
  · rw [List.getElem?_eq_none (by rw [revAt_length]; omega), List.getElem?_eq_none (by simp; omega)]
theorem revAt_succ (xs : List Value) (k : Nat) (h : 2 * k + 1 < xs.length) : ((revAt xs k).set k (xs.getD (xs.length - 1 - k) undef)).set (xs.length - 1 - k) (xs.getD k undef) = revAt xs (k + 1) := by
  apply List.ext_getElem?
  intro t
  by_cases ht : t < xs.length
  · rw [revAt_get xs (k + 1) t ht, List.getElem?_set, List.getElem?_set]
    have hl := revAt_length xs k
    by_cases h1 : xs.length - 1 - k = t
    · rw [if_pos h1]
      simp only [List.length_set, hl]
      rw [if_pos (by omega), if_pos (by omega)]
      congr 2; omega
    · rw [if_neg h1]
      by_cases h2 : k = t
      · rw [if_pos h2, hl, if_pos (by omega), if_pos (by omega), h2]
      · rw [if_neg h2, revAt_get xs k t ht]
        congr 1
        by_cases h3 : t < k ∨ xs.length - k ≤ t
        · rw [if_pos h3, if_pos (by omega)]
        · rw [if_neg h3, if_neg (by omega)]
  · rw [List.getElem?_eq_none (by simp [revAt_length]; omega), List.getElem?_eq_none (by rw [revAt_length]; omega)]

set_option maxHeartbeats 800000 in
theorem reverse_any (base : Nat) (w : World) (g cap N : Nat) (xs : List Value) (hby : ∀ u ∈ xs, ∃ c : Nat, u = .int .u8 c) (hown : w.ownsRow base 5 1 (.slice (some ⟨g, 0, none⟩) (N + 1) cap) (N + 1) xs) (hN : N + 1 ≤ 140737488355328) :
    Calls Try.prog 53 #[.slice (some ⟨g, 0, none⟩) (N + 1) cap] w fun e w' => e = .returned (.tuple #[]) ∧ w'.ownsRow base 5 1 (.slice (some ⟨g, 0, none⟩) (N + 1) cap) (N + 1) xs.reverse ∧ w.grownBy w' (some g) := by
  have hxl : xs.length = N + 1 := by simpa using hown.1
  go_enter Try.func53, Try.ntmps53
  go_wp2
  go_loopw [2, 3] (fun i j wr => ∃ k : Nat, k ≤ N ∧ 2 * k ≤ N + 1 ∧ i = .int .i64 (k : Int) ∧ j = .int .i64 ((N - k : Nat) : Int) ∧ wr.ownsRow base 5 1 (.slice (some ⟨g, 0, none⟩) (N + 1) cap) (N + 1) (revAt xs k) ∧ w.grownBy wr (some g)) (fun i _ _ => N + 1 - (intOf i).toNat)
  case atStart => exact ⟨0, by omega, by omega, rfl, by simp, by rw [revAt_zero]; exact hown, World.grownBy.refl _ _⟩
  case round =>
    obtain ⟨k, hk, hk2, rfl, rfl, ho, hg⟩ := hrel
    by_cases hlt : k < N - k
    · obtain ⟨m, hm⟩ : ∃ m : Nat, m = N - k := ⟨_, rfl⟩
      rw [← hm]
      have hel : ∀ t, t < N + 1 → ∃ c : Nat, wr.cell? ⟨g, t, none⟩ = some (.int .u8 c) ∧ (revAt xs k)[t]? = some (.int .u8 c) := by
        intro t ht
        have h1 := revAt_get xs k t (by omega)
        have h2 := ho.cellAt t (by omega)
        obtain ⟨c, hc⟩ : ∃ c : Nat, (if t < k ∨ xs.length - k ≤ t then xs.getD (xs.length - 1 - t) undef else xs.getD t undef) = .int .u8 c := by
          split
          · rw [List.getD_eq_getElem?_getD, List.getElem?_eq_getElem (by omega)]; exact hby _ (by simp)
          · rw [List.getD_eq_getElem?_getD, List.getElem?_eq_getElem (by omega)]; exact hby _ (by simp)
        rw [hc] at h1
        exact ⟨c, h2.trans h1, h1⟩
      obtain ⟨ck, hck, hvk⟩ := hel k (by omega)
      obtain ⟨cm, hcm, hvm⟩ := hel m (by omega)
      have hfk := ho.frozenAt k
      have hfm := ho.frozenAt m
      have hkm : (⟨g, k, none⟩ : Addr) ≠ ⟨g, m, none⟩ := by intro e; injection e with _ e; omega
      have e1 : xs.getD (xs.length - 1 - k) undef = .int .u8 cm := by
        have := revAt_get xs k m (by omega)
        rw [if_neg (by omega), hvm] at this
        rw [show xs.length - 1 - k = m by omega]
        exact (Option.some.inj this).symm
      have e2 : xs.getD k undef = .int .u8 ck := by
        have := revAt_get xs k k (by omega)
        rw [if_neg (by omega), hvk] at this
        exact (Option.some.inj this).symm
      have hs := revAt_succ xs k (by omega)
      rw [e1, e2, show xs.length - 1 - k = m by omega] at hs
      have HS := hid hs
      clear hs e1 e2 hel hvk hvm
      obtain ⟨hst1, hg1⟩ := (show wr.drew.ownsRow base 5 1 (.slice (some ⟨g, 0, none⟩) (N + 1) cap) (N + 1) (revAt xs k) from ho).stored k (.int .u8 cm)
      obtain ⟨hst2, hg2⟩ := hst1.stored m (.int .u8 ck)
      rw [HS.out] at hst2
      have HT := hid hst2
      have HG := hid hg1
      have HG2 := hid hg2
      have b1 : (m : Int) < (N : Int) + 1 := by omega
      have b2 : (k : Int) < (N : Int) + 1 := by omega
      have b3 : m ≤ N := by omega
      have b4 : k < m := by omega
      have HM := hid hm
      clear hst1 hst2 hg1 hg2 hm
      go_wp2
      go_region
      all_goals go_wp2
      go_roundw
      case rel => exact ⟨k + 1, by omega, by have := HM.out; omega, by go_num, by have := HM.out; rw [show ((N - (k + 1) : Nat) : Int) = (m : Int) - 1 by omega], HT.out, grown3 hg HG.out HG2.out⟩
      case measure => simp [intOf]; omega
    · go_wp2
      go_end0
      refine ⟨rfl, ?_, hg⟩
      rw [revAt_end xs k (by omega)] at ho
      exact ho

theorem reverse_none (w : World) (ao : Option Addr) (cap : Nat) : Calls Try.prog 53 #[.slice ao 0 cap] w fun e w' => e = .returned (.tuple #[]) ∧ w = w' := by
  go_enter Try.func53, Try.ntmps53
  go_wp2
  refine wp_loop_rounds 1 ?_
  rw [rounds_succ]
  go_wp2
  go_end0
  exact ⟨rfl, rfl⟩

/-- turned: the bytes from the last one on. -/
theorem turned_any (w : World) (v : Value) (n : Nat) (xs : List UInt8) (hv : Sl w v 1 n (bys xs)) (hn : n ≤ 140737488355328) :
    Calls Try.prog 39 #[v] w fun e w' => ∃ v', e = .returned v' ∧ w'.ownsRow w.heap.size 5 1 v' n (bys xs.reverse) ∧ Keeps w w' := by
  obtain ⟨ao, c, rfl, _⟩ := hv.value
  go_enter Try.func39, Try.ntmps39
  go_wp2_with fail
  refine (cloneB w _ n (bys xs) hv (bys_one xs) hn).mono ?_
  rintro e w1 ⟨v', rfl, hown, hk⟩
  obtain ⟨ao', c', rfl⟩ := ownsRow_slice hown
  go_wp2_with fail
  rcases Nat.eq_zero_or_pos n with rfl | hp
  · have hx : xs = [] := by have := hv.len; simp [bys] at this; exact this
    subst hx
    refine (reverse_none w1 ao' c').mono ?_
    rintro e w2 ⟨rfl, rfl⟩
    go_wp2
    go_ret
    exact ⟨_, rfl, hown, hk⟩
  · obtain ⟨N, rfl⟩ : ∃ N, n = N + 1 := ⟨n - 1, by omega⟩
    obtain ⟨g, cap, he, hg, _⟩ := ownsRow_pos hown hp
    injection he with e1 _ e2
    subst e1; subst e2
    refine (reverse_any w.heap.size w1 g c' N (bys xs) (by intro u hu; simp only [bys, List.mem_map] at hu; obtain ⟨x, _, rfl⟩ := hu; exact ⟨_, rfl⟩) hown hn).mono ?_
    rintro e w2 ⟨rfl, hown2, hgr⟩
    go_wp2
    go_ret
    exact ⟨_, rfl, (by rw [show bys xs.reverse = (bys xs).reverse by simp [bys]]; exact hown2), hk.grown hgr (by have := hk.size; omega) (fun k e => by injection e with e; omega)⟩
end Go.Proofs.Ytgofjdkpnmoedaa
