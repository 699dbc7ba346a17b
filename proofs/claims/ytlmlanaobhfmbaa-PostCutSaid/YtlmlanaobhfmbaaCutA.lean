/- Postings' bytes: no beginning of others, longer with one more. -/
import Derived.Test.YtlmlanaobhfmbaaFlatA
set_option linter.unusedSimpArgs false
set_option linter.unusedVariables false
namespace Go.Proofs.Ytlmlanaobhfmbaa
open Go.RowKit Go.Vb
theorem gaps_rest : ∀ (xs ys : List Int) (a b : Int) (r s : List UInt8), xs.length = ys.length → risesL a xs = true → risesL b ys = true → -1 ≤ a → -1 ≤ b → (∀ x ∈ xs, x ≤ 9223372036854775807) → (∀ x ∈ ys, x ≤ 9223372036854775807) → gapsOf a xs ++ r = gapsOf b ys ++ s → r = s
  | [], [], _, _, _, _, _, _, _, _, _, _, _, h => by simpa [gapsOf] using h
  | x :: t, y :: u, a, b, r, s, hl, h1, h2, ha, hb, hx, hy, h => by
    simp only [risesL, Bool.and_eq_true, decide_eq_true_eq] at h1 h2
    rw [gapsOf, gapsOf, List.append_assoc, List.append_assoc] at h
    have hx0 := hx x (by simp)
    have hy0 := hy y (by simp)
    obtain ⟨_, h⟩ := leb_inj _ _ _ _ (by omega) (by omega) h
    exact gaps_rest t u x y r s (by simpa using hl) h1.2 h2.2 (by omega) (by omega) (fun z hz => hx z (by simp [hz])) (fun z hz => hy z (by simp [hz])) h
  | [], _ :: _, _, _, _, _, hl, _, _, _, _, _, _, _ => by simp at hl
  | _ :: _, [], _, _, _, _, hl, _, _, _, _, _, _, _ => by simp at hl
theorem row_rest (sel : Spot → Int) (l m : List Spot) (r s : List UInt8) (h1 : risesB sel (-1) l = true) (h2 : risesB sel (-1) m = true) (n1 : l.length ≤ 4096) (n2 : m.length ≤ 4096) (hx : ∀ x ∈ l, sel x ≤ 9223372036854775807) (hy : ∀ x ∈ m, sel x ≤ 9223372036854775807)
    (h : rowOf (l.map sel) ++ r = rowOf (m.map sel) ++ s) : r = s := by
  rw [← risesL_map] at h1 h2
  unfold rowOf at h
  rw [if_pos h1, if_pos h2, List.append_assoc, List.append_assoc, List.length_map, List.length_map] at h
  obtain ⟨hn, h⟩ := leb_inj _ _ _ _ (by omega) (by omega) h
  refine gaps_rest _ _ (-1) (-1) r s (by simpa using hn) h1 h2 (by omega) (by omega) (fun x hx' => ?_) (fun x hx' => ?_) h
  · obtain ⟨q, hq, rfl⟩ := List.mem_map.1 hx'; exact hx q hq
  · obtain ⟨q, hq, rfl⟩ := List.mem_map.1 hx'; exact hy q hq
theorem post_rest (p q : Post) (a b : Int) (r s : List UInt8) (hp : okPost a p = true) (hq : okPost b q = true) (fp : Fine p) (fq : Fine q) (h : postOf a p ++ r = postOf b q ++ s) : r = s := by
  simp only [okPost, Bool.and_eq_true, decide_eq_true_eq] at hp hq
  unfold postOf at h
  simp only [List.append_assoc] at h
  obtain ⟨_, h⟩ := leb_inj _ _ _ _ (u64Of_lt _) (u64Of_lt _) h
  exact row_rest _ _ _ r s hp.2 hq.2 fp.few fq.few fp.atM fq.atM (row_rest _ _ _ _ _ hp.1.2 hq.1.2 fp.few fq.few fp.posM fq.posM h)
theorem head4_rest (ps qs : List Post) (a b : Int) (r s : List UInt8) (fp : ∀ p ∈ ps, Fine p) (fq : ∀ p ∈ qs, Fine p) (h : head4 a ps ++ r = head4 b qs ++ s) : r = s := by
  unfold head4 at h
  simp only [List.append_assoc] at h
  obtain ⟨_, h⟩ := leb_inj _ _ _ _ (u64Of_lt _) (u64Of_lt _) h
  have h1 := posts_len (ps.take 4) a (fun p hp => fp p (List.mem_of_mem_take hp))
  have h2 := posts_len (qs.take 4) b (fun p hp => fq p (List.mem_of_mem_take hp))
  have h3 : (ps.take 4).length ≤ 4 := List.length_take_le ..
  have h4 : (qs.take 4).length ≤ 4 := List.length_take_le ..
  exact (leb_inj _ _ _ _ (by omega) (by omega) h).2
theorem head16_rest (ps qs : List Post) (a b : Int) (r s : List UInt8) (fp : ∀ p ∈ ps, Fine p) (fq : ∀ p ∈ qs, Fine p) (h : head16 a ps ++ r = head16 b qs ++ s) : r = s := by
  unfold head16 at h
  simp only [List.append_assoc] at h
  obtain ⟨_, h⟩ := leb_inj _ _ _ _ (u64Of_lt _) (u64Of_lt _) h
  have h1 := group_enc.len a (ps.take 16) (fun p hp => fp p (List.mem_of_mem_take hp)) (List.length_take_le ..)
  have h2 := group_enc.len b (qs.take 16) (fun p hp => fq p (List.mem_of_mem_take hp)) (List.length_take_le ..)
  exact (leb_inj _ _ _ _ (by omega) (by omega) h).2
theorem flat_rest : ∀ (ps qs : List Post) (i : Nat) (a b : Int) (r s : List UInt8), ps.length = qs.length → okFrom a ps = true → okFrom b qs = true → (∀ p ∈ ps, Fine p) → (∀ p ∈ qs, Fine p) → flat i a ps ++ r = flat i b qs ++ s → r = s
  | [], [], _, _, _, _, _, _, _, _, _, _, h => by simpa [flat] using h
  | p :: t, q :: u, i, a, b, r, s, hl, h1, h2, fp, fq, h => by
    simp only [okFrom, Bool.and_eq_true] at h1 h2
    rw [flat, flat] at h
    simp only [List.append_assoc] at h
    have e1 : h4 i a (p :: t) ++ (postOf a p ++ (flat (i + 1) p.1 t ++ r)) = h4 i b (q :: u) ++ (postOf b q ++ (flat (i + 1) q.1 u ++ s)) := by
      unfold h16 at h
      by_cases hi : i % 16 = 0
      · rw [if_pos hi, if_pos hi] at h; exact head16_rest _ _ _ _ _ _ fp fq h
      · rw [if_neg hi, if_neg hi] at h; simpa using h
    have e2 : postOf a p ++ (flat (i + 1) p.1 t ++ r) = postOf b q ++ (flat (i + 1) q.1 u ++ s) := by
      unfold h4 at e1
      by_cases hi : i % 4 = 0
      · rw [if_pos hi, if_pos hi] at e1; exact head4_rest _ _ _ _ _ _ fp fq e1
      · rw [if_neg hi, if_neg hi] at e1; simpa using e1
    have e3 := post_rest p q a b _ _ h1.1 h2.1 (fp p (by simp)) (fq q (by simp)) e2
    exact flat_rest t u (i + 1) p.1 q.1 r s (by simpa using hl) h1.2 h2.2 (fun z hz => fp z (by simp [hz])) (fun z hz => fq z (by simp [hz])) e3
  | [], _ :: _, _, _, _, _, _, hl, _, _, _, _, _ => by simp at hl
  | _ :: _, [], _, _, _, _, _, hl, _, _, _, _, _ => by simp at hl
theorem GoodP.fine {L : List Post} (h : GoodP L) : ∀ p ∈ L, Fine p := checkE_fine h.ok h.rng
/-- no posting list's bytes are the beginning of another's. -/
theorem putOf_rest {L M : List Post} (hL : GoodP L) (hM : GoodP M) (r s : List UInt8) (h : putOf L ++ r = putOf M ++ s) : r = s := by
  rw [putOf_flat, putOf_flat, List.append_assoc, List.append_assoc] at h
  obtain ⟨_, lL, oL⟩ := checkE_zero hL.ok
  obtain ⟨_, lM, oM⟩ := checkE_zero hM.ok
  obtain ⟨hn, h⟩ := leb_inj _ _ _ _ (by omega) (by omega) h
  exact flat_rest L M 0 (-1) (-1) r s hn oL oM hL.fine hM.fine h
theorem not_cut {L : List Post} (hL : GoodP L) (j : Nat) (hj : j < (putOf L).length) : ∀ M, GoodP M → (putOf L).take j ≠ putOf M := by
  intro M hM e
  have := putOf_rest hM hL ((putOf L).drop j) [] (by rw [← e, List.take_append_drop, List.append_nil])
  have h2 := congrArg List.length this
  simp at h2
  omega
theorem not_more {L : List Post} (hL : GoodP L) (x : UInt8) : ∀ M, GoodP M → putOf L ++ [x] ≠ putOf M := by
  intro M hM e
  have := putOf_rest hL hM [x] [] (by rw [e, List.append_nil])
  cases this
theorem okFrom_take : ∀ (L : List Post) (last : Int) (i : Nat), okFrom last L = true → okFrom last (L.take i) = true
  | [], last, i, _ => by simp [okFrom]
  | p :: t, last, 0, _ => by simp [okFrom]
  | p :: t, last, i + 1, h => by
    simp only [okFrom, Bool.and_eq_true] at h
    rw [List.take_succ_cons, okFrom, Bool.and_eq_true]
    exact ⟨h.1, okFrom_take t p.1 i h.2⟩
theorem checkE_intro {L : List Post} (h1 : anyBig L = false) (h2 : L.length ≤ 4096) (h3 : okFrom (-1) L = true) : checkE L = 0 := by
  unfold checkE
  rw [if_neg (by simp [h1]; omega), if_pos h3]
theorem anyBig_sub {L M : List Post} (h : anyBig L = false) (hs : ∀ p ∈ M, p ∈ L) : anyBig M = false := by
  unfold anyBig at *
  rw [List.any_eq_false] at *
  exact fun p hp => h p (hs p hp)
theorem checkE_take {L : List Post} (h : checkE L = 0) (i : Nat) : checkE (L.take i) = 0 := by
  obtain ⟨h1, h2, h3⟩ := checkE_zero h
  exact checkE_intro (anyBig_sub h1 fun p hp => List.mem_of_mem_take hp) (by rw [List.length_take]; omega) (okFrom_take _ _ _ h3)
theorem GoodP.take {L : List Post} (h : GoodP L) (i : Nat) : GoodP (L.take i) := ⟨checkE_take h.ok i, fun p hp => h.rng p (List.mem_of_mem_take hp)⟩
theorem lebOf_le : ∀ (m n : Nat), n ≤ m → (lebOf n).length ≤ (lebOf m).length := by
  intro m
  induction m using Nat.strongRecOn with
  | _ m ih =>
    intro n h
    by_cases hm : m ≤ 127
    · rw [lebOf_end n (by omega), lebOf_end m hm]; simp
    · by_cases hn : n ≤ 127
      · rw [lebOf_end n hn]; have := lebOf_pos m; simp; omega
      · rw [lebOf_more n (by omega), lebOf_more m (by omega)]
        have := ih (m / 128) (by omega) (n / 128) (by omega)
        simpa using this
theorem take_snoc (ps : List Post) (p : Post) (k : Nat) : (ps ++ [p]).take k = ps.take k ∨ ((ps ++ [p]).take k = ps ++ [p] ∧ ps.take k = ps) := by
  by_cases h : k ≤ ps.length
  · left; rw [List.take_append_of_le_length h]
  · right
    exact ⟨List.take_of_length_le (by simp; omega), List.take_of_length_le (by omega)⟩
theorem lead_le (last : Int) (ps : List Post) (p : Post) (hne : ps ≠ []) (h1 : -1 ≤ last) (hd : docsOk last (ps ++ [p])) : u64Of (lastOf last ps - last - 1) ≤ u64Of (lastOf last (ps ++ [p]) - last - 1) := by
  obtain ⟨d1, d2, d3, _⟩ := (docsOk_append ps [p] last).1 hd
  rw [lastOf_snoc]
  match ps, hne, d1, d2, d3 with
  | q :: t, _, d1, d2, d3 =>
    rw [lastOf_cons] at d2 ⊢
    have a := docsOk_last t q.1 d1.2.2
    have c := d1.1
    unfold u64Of
    omega
theorem posts_snoc (last : Int) (ps : List Post) (p : Post) : (postsOf last ps).length ≤ (postsOf last (ps ++ [p])).length := by
  rw [postsOf_append, List.length_append]; omega
theorem head4_le (last : Int) (ps : List Post) (p : Post) (hne : ps ≠ []) (h1 : -1 ≤ last) (hd : docsOk last (ps ++ [p])) : (head4 last ps).length ≤ (head4 last (ps ++ [p])).length := by
  unfold head4
  rcases take_snoc ps p 4 with h | ⟨h, h'⟩
  · rw [h]; omega
  · rw [h, h', List.length_append, List.length_append]
    exact Nat.add_le_add (lebOf_le _ _ (lead_le last ps p hne h1 hd)) (lebOf_le _ _ (posts_snoc last ps p))
theorem flatB_snoc : ∀ (ps : List Post) (p : Post) (i : Nat) (last : Int), -1 ≤ last → docsOk last (ps ++ [p]) → (flatB i last ps).length ≤ (flatB i last (ps ++ [p])).length
  | [], p, i, last, _, _ => by simp [flatB]
  | q :: t, p, i, last, h1, hd => by
    have hc : q :: t ++ [p] = q :: (t ++ [p]) := rfl
    rw [hc, flatB, flatB, List.length_append, List.length_append, List.length_append, List.length_append, ← hc]
    have hd' : last < q.1 ∧ q.1 ≤ 4294967296 ∧ docsOk q.1 (t ++ [p]) := hd
    have e := flatB_snoc t p (i + 1) q.1 (by omega) hd'.2.2
    have e2 : (h4 i last (q :: t)).length ≤ (h4 i last (q :: t ++ [p])).length := by
      unfold h4
      split
      · exact head4_le last _ p (by simp) h1 hd
      · simp
    omega
theorem head16_le (last : Int) (ps : List Post) (p : Post) (hne : ps ≠ []) (h1 : -1 ≤ last) (hd : docsOk last (ps ++ [p])) : (head16 last ps).length ≤ (head16 last (ps ++ [p])).length := by
  unfold head16
  rcases take_snoc ps p 16 with h | ⟨h, h'⟩
  · rw [h]; omega
  · rw [h, h', List.length_append, List.length_append]
    refine Nat.add_le_add (lebOf_le _ _ (lead_le last ps p hne h1 hd)) (lebOf_le _ _ ?_)
    rw [flatB_parts _ ps 0 last (Nat.le_refl _) (by omega), flatB_parts _ (ps ++ [p]) 0 last (Nat.le_refl _) (by omega)]
    exact flatB_snoc ps p 0 last h1 hd
theorem flat_snoc : ∀ (ps : List Post) (p : Post) (i : Nat) (last : Int), -1 ≤ last → docsOk last (ps ++ [p]) → (flat i last ps).length < (flat i last (ps ++ [p])).length
  | [], p, i, last, _, _ => by
    rw [List.nil_append, flat, flat, flat, List.length_append, List.length_append, List.length_append]
    have : 0 < (postOf last p).length := by unfold postOf; rw [List.length_append]; have := lebOf_pos (u64Of (p.1 - last - 1)); omega
    simp
    omega
  | q :: t, p, i, last, h1, hd => by
    have hc : q :: t ++ [p] = q :: (t ++ [p]) := rfl
    rw [hc, flat, flat]
    simp only [List.length_append]
    rw [← hc]
    have hd' : last < q.1 ∧ q.1 ≤ 4294967296 ∧ docsOk q.1 (t ++ [p]) := hd
    have e := flat_snoc t p (i + 1) q.1 (by omega) hd'.2.2
    have e2 : (h4 i last (q :: t)).length ≤ (h4 i last (q :: t ++ [p])).length := by
      unfold h4
      split
      · exact head4_le last _ p (by simp) h1 hd
      · simp
    have e3 : (h16 i last (q :: t)).length ≤ (h16 i last (q :: t ++ [p])).length := by
      unfold h16
      split
      · exact head16_le last _ p (by simp) h1 hd
      · simp
    omega
theorem putOf_less {L : List Post} (hL : GoodP L) (hn : 0 < L.length) : (putOf (L.take (L.length - 1))).length < (putOf L).length := by
  obtain ⟨M, p, rfl⟩ : ∃ M p, L = M ++ [p] := ⟨L.dropLast, L.getLast (by intro h; simp [h] at hn), (List.dropLast_concat_getLast _).symm⟩
  have e : (M ++ [p]).take ((M ++ [p]).length - 1) = M := by simp
  rw [e, putOf_flat, putOf_flat, List.length_append, List.length_append]
  have h1 := flat_snoc M p 0 (-1) (by omega) (okFrom_docs _ _ (checkE_zero hL.ok).2.2)
  have h2 := lebOf_le (M ++ [p]).length M.length (by simp)
  omega
end Go.Proofs.Ytlmlanaobhfmbaa
