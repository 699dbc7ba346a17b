/- A posting list's bytes, one posting behind the other. -/
import Derived.Test.YtlmlanaobhfmbaaGetC
set_option linter.unusedSimpArgs false
set_option linter.unusedVariables false
namespace Go.Proofs.Ytlmlanaobhfmbaa
open Go.RowKit Go.Vb
def head4 (last : Int) (ps : List Post) : List UInt8 := lebOf (u64Of (lastOf last (ps.take 4) - last - 1)) ++ lebOf (postsOf last (ps.take 4)).length
def head16 (last : Int) (ps : List Post) : List UInt8 := lebOf (u64Of (lastOf last (ps.take 16) - last - 1)) ++ lebOf (partsOf postsOf 4 last (ps.take 16)).length
def h4 (i : Nat) (last : Int) (ps : List Post) : List UInt8 := if i % 4 = 0 then head4 last ps else []
def h16 (i : Nat) (last : Int) (ps : List Post) : List UInt8 := if i % 16 = 0 then head16 last ps else []
def flatB : Nat → Int → List Post → List UInt8
  | _, _, [] => []
  | i, last, p :: t => h4 i last (p :: t) ++ (postOf last p ++ flatB (i + 1) p.1 t)
def flat : Nat → Int → List Post → List UInt8
  | _, _, [] => []
  | i, last, p :: t => h16 i last (p :: t) ++ (h4 i last (p :: t) ++ (postOf last p ++ flat (i + 1) p.1 t))
theorem flatB_run : ∀ (c r : List Post) (i : Nat) (last : Int), (i % 4 ≠ 0 ∨ c = []) → i % 4 + c.length ≤ 4 → flatB i last (c ++ r) = postsOf last c ++ flatB (i + c.length) (lastOf last c) r
  | [], r, i, last, _, _ => by simp [postsOf, lastOf]
  | p :: t, r, i, last, h1, h2 => by
    simp only [List.length_cons] at h2
    have h1' : i % 4 ≠ 0 := by rcases h1 with h | h; exact h; cases h
    have ih := flatB_run t r (i + 1) p.1 (by
      by_cases ht : t = []
      · exact .inr ht
      · have := List.length_pos_iff.2 ht; left; omega) (by omega)
    rw [List.cons_append, flatB, ih, postsOf, lastOf_cons, List.length_cons]
    unfold h4
    rw [if_neg h1']
    simp only [List.nil_append, List.append_assoc]
    rw [show i + 1 + t.length = i + (t.length + 1) by omega]
theorem chunkAt_drop (L : List Post) (size j : Nat) : chunkAt L size (j + 1) = chunkAt (L.drop size) size j := by
  unfold chunkAt; rw [List.drop_drop, Nat.succ_mul, Nat.add_comm]
theorem chunksTo_cons (L : List Post) (size k : Nat) : chunksTo L size (k + 1) = L.take size :: chunksTo (L.drop size) size k := by
  unfold chunksTo
  rw [List.range_succ_eq_map, List.map_cons, List.map_map]
  congr 1
  · unfold chunkAt; simp
  · apply List.map_congr_left
    intro j _
    exact chunkAt_drop L size j
theorem partsOf_nil (E : Int → List Post → List UInt8) (size : Nat) (hs : 0 < size) (last : Int) : partsOf E size last [] = [] := by
  unfold partsOf manyOf
  rw [Nat.div_eq_of_lt (by simp; omega)]
  rfl
theorem partsOf_step (E : Int → List Post → List UInt8) (size : Nat) (hs : 0 < size) (last : Int) (L : List Post) (hL : L ≠ []) :
    partsOf E size last L = headOf last (L.take size) (E last (L.take size)) ++ partsOf E size (lastOf last (L.take size)) (L.drop size) := by
  have hpos := List.length_pos_iff.2 hL
  have h : manyOf L.length size = manyOf (L.drop size).length size + 1 := by
    unfold manyOf
    rw [List.length_drop]
    by_cases h : L.length ≤ size
    · rw [show L.length - size = 0 by omega, Nat.div_eq_of_lt (show 0 + size - 1 < size by omega)]
      have : (L.length + size - 1) / size = 1 := by
        apply Nat.div_eq_of_lt_le <;> omega
      omega
    · have : L.length + size - 1 = (L.length - size + size - 1) + size := by omega
      rw [this, Nat.add_div_right _ hs]
  unfold partsOf
  rw [h, chunksTo_cons, encC]
theorem flatB_parts : ∀ (n : Nat) (L : List Post) (i : Nat) (last : Int), L.length ≤ n → i % 4 = 0 → partsOf postsOf 4 last L = flatB i last L
  | 0, L, i, last, hn, hi => by
    obtain rfl := List.eq_nil_of_length_eq_zero (Nat.le_zero.1 hn)
    rw [partsOf_nil _ _ (by omega)]; rfl
  | n + 1, [], i, last, hn, hi => by rw [partsOf_nil _ _ (by omega)]; rfl
  | n + 1, p :: T, i, last, hn, hi => by
    simp only [List.length_cons] at hn
    rw [partsOf_step _ _ (by omega) _ _ (by simp)]
    have hT : T = T.take 3 ++ T.drop 3 := (List.take_append_drop 3 T).symm
    have hr := flatB_run (T.take 3) (T.drop 3) (i + 1) p.1 (.inl (by omega)) (by simp; omega)
    rw [← hT] at hr
    rw [flatB, hr]
    have ht : (p :: T).take 4 = p :: T.take 3 := rfl
    have hd : (p :: T).drop 4 = T.drop 3 := rfl
    have hrest : partsOf postsOf 4 (lastOf last (p :: T.take 3)) (T.drop 3) = flatB (i + 1 + (T.take 3).length) (lastOf p.1 (T.take 3)) (T.drop 3) := by
      rw [lastOf_cons]
      by_cases h3 : 3 ≤ T.length
      · exact flatB_parts n _ _ _ (by simp; omega) (by simp; omega)
      · rw [List.drop_eq_nil_of_le (by omega), partsOf_nil _ _ (by omega)]; rfl
    rw [ht, hd, hrest]
    unfold headOf h4 head4
    rw [if_pos hi, ht, postsOf]
    simp only [List.append_assoc]
theorem take_same (c r : List Post) (k : Nat) (h : k ≤ c.length ∨ r = []) : (c ++ r).take k = c.take k := by
  rcases h with h | h
  · rw [List.take_append, show k - c.length = 0 by omega]; simp
  · rw [h, List.append_nil]
theorem flat_run : ∀ (c r : List Post) (i : Nat) (last : Int), (i % 16 ≠ 0 ∨ c = []) → i % 16 + c.length ≤ 16 → (i % 16 + c.length = 16 ∨ r = [] ∨ c = []) → flat i last (c ++ r) = flatB i last c ++ flat (i + c.length) (lastOf last c) r
  | [], r, i, last, _, _, _ => by simp [flatB, lastOf]
  | p :: t, r, i, last, h1, h2, h3 => by
    simp only [List.length_cons] at h2 h3
    have h1' : i % 16 ≠ 0 := by rcases h1 with h | h; exact h; cases h
    have ih := flat_run t r (i + 1) p.1 (by
      by_cases ht : t = []
      · exact .inr ht
      · have := List.length_pos_iff.2 ht; left; omega) (by omega) (by
      by_cases ht : t = []
      · exact .inr (.inr ht)
      · have := List.length_pos_iff.2 ht
        rcases h3 with h | h | h
        · left; omega
        · exact .inr (.inl h)
        · cases h)
    have e4 : h4 i last (p :: (t ++ r)) = h4 i last (p :: t) := by
      unfold h4
      split
      · rename_i h0
        unfold head4
        have : (p :: (t ++ r)).take 4 = (p :: t).take 4 := by
          have := take_same (p :: t) r 4 (by
            rcases h3 with h | h | h
            · left; simp only [List.length_cons]; omega
            · exact .inr h
            · cases h)
          exact this
        rw [this]
      · rfl
    rw [List.cons_append, flat, ih, flatB, lastOf_cons, List.length_cons, e4]
    unfold h16
    rw [if_neg h1']
    simp only [List.nil_append, List.append_assoc]
    rw [show i + 1 + t.length = i + (t.length + 1) by omega]
theorem flat_parts : ∀ (n : Nat) (L : List Post) (i : Nat) (last : Int), L.length ≤ n → i % 16 = 0 → partsOf (partsOf postsOf 4) 16 last L = flat i last L
  | 0, L, i, last, hn, hi => by
    obtain rfl := List.eq_nil_of_length_eq_zero (Nat.le_zero.1 hn)
    rw [partsOf_nil _ _ (by omega)]; rfl
  | n + 1, [], i, last, hn, hi => by rw [partsOf_nil _ _ (by omega)]; rfl
  | n + 1, p :: T, i, last, hn, hi => by
    simp only [List.length_cons] at hn
    rw [partsOf_step _ _ (by omega) _ _ (by simp)]
    have hT : T = T.take 15 ++ T.drop 15 := (List.take_append_drop 15 T).symm
    have hr := flat_run (T.take 15) (T.drop 15) (i + 1) p.1 (.inl (by omega)) (by simp; omega) (by
      by_cases h : 15 ≤ T.length
      · left; simp; omega
      · right; left; exact List.drop_eq_nil_of_le (by omega))
    rw [← hT] at hr
    rw [flat, hr]
    have ht : (p :: T).take 16 = p :: T.take 15 := rfl
    have hd : (p :: T).drop 16 = T.drop 15 := rfl
    have hrest : partsOf (partsOf postsOf 4) 16 (lastOf last (p :: T.take 15)) (T.drop 15) = flat (i + 1 + (T.take 15).length) (lastOf p.1 (T.take 15)) (T.drop 15) := by
      rw [lastOf_cons]
      by_cases h3 : 15 ≤ T.length
      · exact flat_parts n _ _ _ (by simp; omega) (by simp; omega)
      · rw [List.drop_eq_nil_of_le (by omega), partsOf_nil _ _ (by omega)]; rfl
    have hB : partsOf postsOf 4 last (p :: T.take 15) = h4 i last (p :: T) ++ (postOf last p ++ flatB (i + 1) p.1 (T.take 15)) := by
      rw [flatB_parts _ _ i last (Nat.le_refl _) (by omega), flatB]
      have : h4 i last (p :: T.take 15) = h4 i last (p :: T) := by
        unfold h4 head4
        have e : (p :: T.take 15).take 4 = (p :: T).take 4 := by simp [List.take_take]
        rw [e]
      rw [this]
    rw [ht, hd, hrest]
    unfold headOf h16 head16
    rw [if_pos hi, ht, hB]
    simp only [List.append_assoc]
theorem putOf_flat (L : List Post) : putOf L = lebOf L.length ++ flat 0 (-1) L := by
  unfold putOf; rw [flat_parts _ L 0 (-1) (Nat.le_refl _) (by omega)]
/-- postings that have bytes. -/
structure GoodP (L : List Post) : Prop where
  ok : checkE L = 0
  rng : ∀ p ∈ L, Rng p
theorem okFrom_at : ∀ (L : List Post) (last : Int) (i : Nat) (h : i < L.length), okFrom last L = true → okPost (lastOf last (L.take i)) (L[i]'h) = true
  | p :: t, last, 0, h, ho => by
    simp only [okFrom, Bool.and_eq_true] at ho
    simpa [lastOf] using ho.1
  | p :: t, last, i + 1, h, ho => by
    simp only [okFrom, Bool.and_eq_true] at ho
    have := okFrom_at t p.1 i (by simpa using h) ho.2
    simpa [List.take_succ_cons, lastOf_cons] using this
theorem GoodP.at_ {L : List Post} (h : GoodP L) (i : Nat) (hi : i < L.length) : OkP (lastOf (-1) (L.take i)) (L[i]'hi) := by
  have h0 := okFrom_at L (-1) i hi (checkE_zero h.ok).2.2
  simp only [okPost, Bool.and_eq_true, decide_eq_true_eq] at h0
  exact ⟨checkE_fine h.ok h.rng _ (List.getElem_mem hi), h0.1.1.1.1, h0.1.1.1.2, h0.1.2, h0.2⟩
theorem okFrom_docs : ∀ (L : List Post) (last : Int), okFrom last L = true → docsOk last L
  | [], _, _ => trivial
  | p :: t, last, h => by
    simp only [okFrom, okPost, Bool.and_eq_true, decide_eq_true_eq] at h
    exact ⟨h.1.1.1.1.1, h.1.1.1.1.2, okFrom_docs t p.1 h.2⟩
theorem okFrom_drop : ∀ (L : List Post) (last : Int) (i : Nat), okFrom last L = true → okFrom (lastOf last (L.take i)) (L.drop i) = true
  | [], last, i, h => by simp [lastOf, okFrom]
  | p :: t, last, 0, h => by simpa [lastOf] using h
  | p :: t, last, i + 1, h => by
    simp only [okFrom, Bool.and_eq_true] at h
    have := okFrom_drop t p.1 i h.2
    simpa [List.take_succ_cons, lastOf_cons] using this
theorem docsOk_take : ∀ (L : List Post) (last : Int) (k : Nat), docsOk last L → docsOk last (L.take k)
  | [], _, k, _ => by simp [docsOk]
  | p :: t, last, 0, _ => by simp [docsOk]
  | p :: t, last, k + 1, h => by simpa [docsOk] using ⟨h.1, h.2.1, docsOk_take t p.1 k h.2.2⟩
theorem lead_small (last : Int) (ps : List Post) (hd : docsOk last ps) (hne : ps ≠ []) (h1 : -1 ≤ last) : u64Of (lastOf last ps - last - 1) ≤ 4294967296 := by
  match ps, hne, hd with
  | p :: t, _, hd =>
    rw [lastOf_cons]
    have a := docsOk_last t p.1 hd.2.2
    have b := docsOk_lastle t p.1 hd.2.1 hd.2.2
    have c := hd.1
    unfold u64Of
    omega
end Go.Proofs.Ytlmlanaobhfmbaa
