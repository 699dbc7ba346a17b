/- leb: what is put is got, and what is got was put: plain words. -/
import Derived.Test.YtlmlanaobhfmbaaLebB
set_option linter.unusedSimpArgs false
set_option linter.unusedVariables false
namespace Go.Proofs.Ytlmlanaobhfmbaa
open Go.RowKit Go.Vb

theorem getFrom_put : ∀ (f n i a : Nat) (r : List UInt8), n < 128 ^ (f + 1) → n < 2 * 128 ^ (9 - i) → i ≤ 9 → (0 < i → 0 < n) → getFrom i a (lebOf n ++ r) = (a + n * 128 ^ i, i + (lebOf n).length, 0)
  | f, n, i, a, r, hf, hn, hi, hp => by
    by_cases h : n ≤ 127
    · rw [lebOf_end n h, List.cons_append, List.nil_append, getFrom_cons]
      have hc : (UInt8.ofNat n).toNat = n := by rw [UInt8.toNat_ofNat']; omega
      rw [hc, if_neg, if_pos (by omega)]
      · rfl
      · rintro (⟨h9, h1⟩ | ⟨h0, h1⟩)
        · subst h9; simp at hn; omega
        · have := hp h0; omega
    · rw [lebOf_more n (by omega), List.cons_append, getFrom_cons]
      have hc : (UInt8.ofNat (n % 128 + 128)).toNat = n % 128 + 128 := by rw [UInt8.toNat_ofNat']; omega
      have hi9 : i < 9 := by
        rcases Nat.lt_or_ge i 9 with h | h
        · exact h
        · obtain rfl : i = 9 := by omega
          simp at hn; omega
      rw [hc, if_neg (by omega), if_neg (by omega)]
      cases f with
      | zero => omega
      | succ f =>
        have hq : n / 128 < 2 * 128 ^ (9 - (i + 1)) := by
          have : 9 - i = (9 - (i + 1)) + 1 := by omega
          rw [this, Nat.pow_succ] at hn
          omega
        rw [getFrom_put f (n / 128) (i + 1) _ r (by rw [Nat.pow_succ] at hf; omega) hq (by omega) (by omega)]
        have e1 : a + (n % 128 + 128 - 128) * 128 ^ i + n / 128 * 128 ^ (i + 1) = a + n * 128 ^ i := by
          have : n = 128 * (n / 128) + n % 128 := by omega
          rw [Nat.pow_succ]
          generalize 128 ^ i = p at *
          generalize n / 128 = q at *
          rw [show n % 128 + 128 - 128 = n % 128 by omega]
          generalize n % 128 = t at *
          subst this
          rw [Nat.add_mul, Nat.mul_comm p 128, ← Nat.mul_assoc, Nat.mul_comm q 128]
          omega
        rw [e1]
        simp only [List.length_cons]
        congr 2
        omega
theorem getFrom_ok : ∀ (s : List UInt8) (i a n k : Nat), i ≤ 9 → getFrom i a s = (n, k, 0) → ∃ m r, s = lebOf m ++ r ∧ n = a + m * 128 ^ i ∧ k = i + (lebOf m).length ∧ (0 < i → 0 < m) ∧ m < 2 * 128 ^ (9 - i)
  | [], i, a, n, k, hi, h => by simp [getFrom] at h
  | c :: r, i, a, n, k, hi, h => by
    have hc := UInt8.toNat_lt c
    rw [getFrom_cons] at h
    split at h
    · injection h with _ h; injection h with _ h; simp at h
    · rename_i hno
      split at h
      · rename_i h128
        injection h with h1 h2
        injection h2 with h2 _
        have hb : 2 * 128 ^ (9 - i) ≥ 2 := by have := Nat.one_le_two_pow (n := 0); have : 0 < 128 ^ (9 - i) := Nat.pow_pos (by omega); omega
        refine ⟨c.toNat, r, ?_, h1.symm, ?_, by omega, ?_⟩
        · rw [lebOf_end _ (by omega)]; simp
        · rw [lebOf_end _ (by omega), ← h2]; rfl
        · rcases Nat.lt_or_ge i 9 with h9 | h9
          · have : 9 - i = (8 - i) + 1 := by omega
            rw [this, Nat.pow_succ]
            have : 0 < 128 ^ (8 - i) := Nat.pow_pos (by omega)
            omega
          · obtain rfl : i = 9 := by omega
            simp; omega
      · rename_i h128
        have hi9 : i < 9 := by
          rcases Nat.lt_or_ge i 9 with h | h
          · exact h
          · omega
        obtain ⟨m, r', hs, hn, hk, hp, hm⟩ := getFrom_ok r (i + 1) _ n k (by omega) h
        have hp' := hp (by omega)
        have e2 : (m * 128 + (c.toNat - 128)) % 128 = c.toNat - 128 := by omega
        have e3 : (m * 128 + (c.toNat - 128)) / 128 = m := by omega
        refine ⟨m * 128 + (c.toNat - 128), r', ?_, ?_, ?_, by omega, ?_⟩
        · rw [lebOf_more _ (by omega), e2, e3, List.cons_append, ← hs, show c.toNat - 128 + 128 = c.toNat by omega]; simp
        · rw [hn, Nat.pow_succ, Nat.add_mul, Nat.mul_assoc m 128, Nat.mul_comm 128 (128 ^ i)]; omega
        · rw [lebOf_more _ (by omega), e3, hk]; simp; omega
        · have : 9 - i = (9 - (i + 1)) + 1 := by omega
          rw [this, Nat.pow_succ]
          omega
theorem get_put (n : Nat) (r : List UInt8) (hn : n ≤ 18446744073709551615) : getFrom 0 0 (lebOf n ++ r) = (n, (lebOf n).length, 0) := by
  have h := getFrom_put 9 n 0 0 r (by omega) (by omega) (by omega) (by omega)
  simpa using h
theorem get_ok (s : List UInt8) (n k : Nat) (h : getFrom 0 0 s = (n, k, 0)) : ∃ r, s = lebOf n ++ r ∧ k = (lebOf n).length ∧ n ≤ 18446744073709551615 := by
  obtain ⟨m, r, h1, h2, h3, _, h5⟩ := getFrom_ok s 0 0 n k (by omega) h
  have : n = m := by simpa using h2
  subst this
  exact ⟨r, h1, by omega, by omega⟩
theorem leb_inj (n m : Nat) (r t : List UInt8) (hn : n ≤ 18446744073709551615) (hm : m ≤ 18446744073709551615) (h : lebOf n ++ r = lebOf m ++ t) : n = m ∧ r = t := by
  have h1 := get_put n r hn
  rw [h, get_put m t hm] at h1
  injection h1 with h1 _
  subst h1
  exact ⟨rfl, List.append_cancel_left h⟩
theorem getFrom_err : ∀ (s : List UInt8) (i a : Nat), (getFrom i a s).2.2 = 0 ∨ (getFrom i a s).2.2 = 31 ∨ (getFrom i a s).2.2 = 32
  | [], _, _ => .inr (.inl rfl)
  | c :: r, i, a => by
    rw [getFrom_cons]
    split
    · exact .inr (.inr rfl)
    · split
      · exact .inl rfl
      · exact getFrom_err r _ _
end Go.Proofs.Ytlmlanaobhfmbaa
