/- Plain words on which texts are met. -/
import Derived.Test.YtgofjdkpnmoedaaTrieL
set_option linter.unusedSimpArgs false
set_option linter.unusedVariables false
namespace Go.Proofs.Ytgofjdkpnmoedaa
open Go.RowKit Go.Vb

theorem mem_idsTo (k : Nat) (L : List (List UInt8)) (q : List UInt8) (n : Nat) (x : Int) : x ∈ idsTo k L q n ↔ ∃ j, j < n ∧ x = (j : Int) ∧ hit k (L.getD j []) q = true := by
  induction n with
  | zero => simp [idsTo]
  | succ n ih =>
    simp only [idsTo, List.mem_append, ih]
    constructor
    · rintro (⟨j, h1, h2, h3⟩ | h)
      · exact ⟨j, by omega, h2, h3⟩
      · split at h
        · rename_i hh; exact ⟨n, by omega, by simpa using h, hh⟩
        · simp at h
    · rintro ⟨j, h1, h2, h3⟩
      by_cases he : j = n
      · subst he; right; rw [if_pos h3]; simp [h2]
      · exact .inl ⟨j, by omega, h2, h3⟩
theorem hit0 (t q : List UInt8) : hit 0 t q = true ↔ q <+: t := isPrefix_iff q t
theorem hit1 (t q : List UInt8) : hit 1 t q.reverse = true ↔ q <:+ t := by
  unfold hit; rw [if_neg (by decide), if_pos rfl, isPrefix_iff]; exact List.reverse_prefix
theorem hit2 (t q : List UInt8) : hit 2 t q = true ↔ q <:+: t := by
  unfold hit
  rw [if_neg (by decide), if_neg (by decide)]
  simp only [List.any_eq_true, List.mem_range, isPrefix_iff]
  constructor
  · rintro ⟨j, _, h⟩; exact h.isInfix.trans (List.drop_suffix j t).isInfix
  · rintro ⟨a, b, rfl⟩
    exact ⟨a.length, by simp; omega, by simp⟩
theorem mem_ans0 (L : List (List UInt8)) (q : List UInt8) (x : Int) : x ∈ ans 0 L q ↔ ∃ j, j < L.length ∧ x = (j : Int) ∧ q <+: L.getD j [] := by
  unfold ans; rw [if_neg (by decide), mem_idsTo]; simp only [hit0]
theorem mem_ans1 (L : List (List UInt8)) (q : List UInt8) (x : Int) : x ∈ ans 1 L q ↔ ∃ j, j < L.length ∧ x = (j : Int) ∧ q <:+ L.getD j [] := by
  unfold ans; rw [if_pos rfl, mem_idsTo]; simp only [hit1]
theorem mem_ans2 (L : List (List UInt8)) (q : List UInt8) (x : Int) : x ∈ ans 2 L q ↔ ∃ j, j < L.length ∧ x = (j : Int) ∧ q <:+: L.getD j [] := by
  unfold ans; rw [if_neg (by decide), mem_idsTo]; simp only [hit2]
theorem idsTo_all (k : Nat) (L : List (List UInt8)) (q : List UInt8) (h : ∀ t, hit k t q = true) (n : Nat) : (idsTo k L q n).length = n := by
  induction n with
  | zero => rfl
  | succ n ih => simp [idsTo, h, ih]
theorem ans_nil (k : Nat) (hk : k < 3) (L : List (List UInt8)) : (ans k L []).length = L.length := by
  have : k = 0 ∨ k = 1 ∨ k = 2 := by omega
  rcases this with rfl | rfl | rfl
  · exact idsTo_all _ _ _ (fun t => (hit0 t []).2 List.nil_prefix) _
  · exact idsTo_all _ _ _ (fun t => (hit1 t []).2 List.nil_suffix) _
  · exact idsTo_all _ _ _ (fun t => (hit2 t []).2 List.nil_infix) _
theorem ans_length (k : Nat) (L : List (List UInt8)) (q : List UInt8) : (ans k L q).length ≤ L.length := idsTo_length _ _ _ _
theorem ans0_more (L : List (List UInt8)) (s m : List UInt8) (x : Int) (h : x ∈ ans 0 L (s ++ m)) : x ∈ ans 0 L s := by
  rw [mem_ans0] at h ⊢
  obtain ⟨j, h1, h2, h3⟩ := h
  exact ⟨j, h1, h2, (List.prefix_append s m).trans h3⟩
theorem ans1_more (L : List (List UInt8)) (s m : List UInt8) (x : Int) (h : x ∈ ans 1 L (s ++ m)) : x ∈ ans 1 L m := by
  rw [mem_ans1] at h ⊢
  obtain ⟨j, h1, h2, h3⟩ := h
  exact ⟨j, h1, h2, (List.suffix_append s m).trans h3⟩
theorem ans2_more (L : List (List UInt8)) (s m : List UInt8) (x : Int) (h : x ∈ ans 2 L (s ++ m)) : x ∈ ans 2 L s := by
  rw [mem_ans2] at h ⊢
  obtain ⟨j, h1, h2, h3⟩ := h
  exact ⟨j, h1, h2, (List.prefix_append s m).isInfix.trans h3⟩
/-- answers rise. -/
theorem idsTo_rise (k : Nat) (L : List (List UInt8)) (q : List UInt8) (n : Nat) : (idsTo k L q n).Pairwise (· < ·) := by
  induction n with
  | zero => exact List.Pairwise.nil
  | succ n ih =>
    simp only [idsTo]
    split
    · rw [List.pairwise_append]
      exact ⟨ih, by simp, fun a ha b hb => by have := idsTo_lt k L q n a ha; simp at hb; omega⟩
    · simpa using ih
end Go.Proofs.Ytgofjdkpnmoedaa
