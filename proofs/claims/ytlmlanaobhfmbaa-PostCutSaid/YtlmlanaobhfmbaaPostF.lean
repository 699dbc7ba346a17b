/- post.Put. -/
import Derived.Test.YtlmlanaobhfmbaaPartsA
import Derived.Test.YtlmlanaobhfmbaaPostC
set_option linter.unusedSimpArgs false
set_option linter.unusedVariables false
namespace Go.Proofs.Ytlmlanaobhfmbaa
open Go.RowKit Go.Vb
theorem block_enc : IsEnc 62 postsOf 4 328000 where
  enters := enters_of Try.func62 (by kernel_rfl) rfl
  call := fun w v L cs last hP _ hf hl hr => block_any w v L cs last hP hf (by omega) hr
  len := fun last L hf hl => Nat.le_trans (posts_len L last hf) (by omega)
theorem encC_len (E : Int → List Post → List UInt8) (size M : Nat) (hE : ∀ last L, (∀ p ∈ L, Fine p) → L.length ≤ size → (E last L).length ≤ M) (hM : M ≤ 1000000000) : ∀ (cs : List (List Post)) (last : Int), (∀ c ∈ cs, (∀ p ∈ c, Fine p) ∧ c.length ≤ size) → (encC E last cs).length ≤ (M + 20) * cs.length
  | [], _, _ => by simp [encC]
  | c :: t, last, h => by
    have h1 := hE last c (h c (by simp)).1 (h c (by simp)).2
    have h2 := encC_len E size M hE hM t (lastOf last c) (fun d hd => h d (by simp [hd]))
    have h3 := lebOf_len 9 (u64Of (lastOf last c - last - 1)) (by have := u64Of_lt (lastOf last c - last - 1); omega)
    have h4 := lebOf_len 9 (E last c).length (by omega)
    simp only [encC, headOf, List.length_append, List.length_cons, Nat.mul_add]
    omega
theorem chunksTo_mem (L : List Post) (size k : Nat) : ∀ c ∈ chunksTo L size k, (∀ p ∈ c, p ∈ L) ∧ c.length ≤ size := by
  intro c hc
  unfold chunksTo at hc
  obtain ⟨j, _, rfl⟩ := List.mem_map.1 hc
  unfold chunkAt
  exact ⟨fun p hp => List.mem_of_mem_drop (List.mem_of_mem_take hp), by simp; omega⟩
theorem partsOf_len (E : Int → List Post → List UInt8) (size M : Nat) (hE : ∀ last L, (∀ p ∈ L, Fine p) → L.length ≤ size → (E last L).length ≤ M) (hM : M ≤ 1000000000) (last : Int) (L : List Post) (hf : ∀ p ∈ L, Fine p) : (partsOf E size last L).length ≤ (M + 20) * manyOf L.length size := by
  unfold partsOf
  refine Nat.le_trans (encC_len E size M hE hM _ _ fun c hc => ?_) (by simp [chunksTo])
  obtain ⟨h1, h2⟩ := chunksTo_mem L size _ c hc
  exact ⟨fun p hp => hf p (h1 p hp), h2⟩
set_option maxRecDepth 100000 in
theorem group_enc : IsEnc 61 (partsOf postsOf 4) 16 1312080 where
  enters := enters_of Try.func61 (by kernel_rfl) rfl
  call := fun w v L cs last hP hne hf hl hr => by
    have hp := parts_any 62 postsOf 4 328000 block_enc (by omega) (by omega) (by omega) w v L cs last hP hf (by omega) hr
    obtain ⟨ao, c, rfl, _⟩ := hP.outer.value
    go_enter Try.func61, Try.ntmps61
    go_wp2_with fail
    refine hp.mono ?_
    rintro e w1 ⟨v1, rfl, o1, k1⟩
    obtain ⟨a1, c1, rfl⟩ := ownsRow_slice o1
    go_wp2
    go_ret
    exact ⟨_, rfl, o1, k1⟩
  len := fun last L hf hl => by
    refine Nat.le_trans (partsOf_len postsOf 4 328000 block_enc.len (by omega) last L hf) ?_
    have : manyOf L.length 4 ≤ 4 := by unfold manyOf; omega
    exact Nat.mul_le_mul_left 328020 this
def putOf (L : List Post) : List UInt8 := lebOf L.length ++ partsOf (partsOf postsOf 4) 16 (-1) L
theorem putOf_len (L : List Post) (hf : ∀ p ∈ L, Fine p) (hl : L.length ≤ 4096) : (putOf L).length ≤ 400000000 := by
  have h1 := partsOf_len (partsOf postsOf 4) 16 1312080 group_enc.len (by omega) (-1) L hf
  have h2 : manyOf L.length 16 ≤ 256 := by unfold manyOf; omega
  have h3 := Nat.mul_le_mul_left (1312080 + 20) h2
  have h4 := lebOf_len 9 L.length (by omega)
  unfold putOf
  rw [List.length_append]
  omega
structure Rng (p : Post) : Prop where
  posM : ∀ s ∈ p.2, s.1 ≤ 9223372036854775807
  atM : ∀ s ∈ p.2, s.2 ≤ 9223372036854775807
  doc : -9223372036854775808 ≤ p.1 ∧ p.1 ≤ 9223372036854775807
theorem anyBig_no {L : List Post} (h : anyBig L = false) : ∀ p ∈ L, p.2.length ≤ 4096 := by
  intro p hp
  by_cases hh : 4096 < p.2.length
  · have : anyBig L = true := by unfold anyBig; rw [List.any_eq_true]; exact ⟨p, hp, by simpa using hh⟩
    rw [h] at this; cases this
  · omega
theorem checkE_zero {L : List Post} (h : checkE L = 0) : anyBig L = false ∧ L.length ≤ 4096 ∧ okFrom (-1) L = true := by
  unfold checkE at h
  split at h
  · cases h
  · rename_i h1
    split at h
    · rename_i h2
      refine ⟨?_, by omega, h2⟩
      cases hb : anyBig L with
      | false => rfl
      | true => exact absurd (.inl hb) h1
    · cases h
theorem checkE_fine {L : List Post} (h : checkE L = 0) (hr : ∀ p ∈ L, Rng p) : ∀ p ∈ L, Fine p := fun p hp =>
  ⟨anyBig_no (checkE_zero h).1 p hp, (hr p hp).posM, (hr p hp).atM, (hr p hp).doc⟩
set_option maxRecDepth 100000 in
theorem put_any (w : World) (v : Value) (L : List Post) (cs : List Value) (hP : Posts w v L cs) (hr : ∀ p ∈ L, Rng p) :
    Calls Try.prog 19 #[v] w fun e w' => ∃ v', e = .returned (.tuple #[v', .int .i64 (checkE L : Int)]) ∧ (checkE L = 0 → w'.ownsRow w.heap.size 5 1 v' (putOf L).length (bys (putOf L))) ∧ (checkE L ≠ 0 → v' = .slice none 0 0) ∧ Keeps w w' := by
  obtain ⟨i0, hi, hz0, hz1, hz2⟩ := info_parts infoByte
  have hch := check_any w v L cs hP
  obtain ⟨ao, c, rfl, hc1, hc2, _⟩ := hP.outer.value
  by_cases h0 : checkE L = 0
  · have hf := checkE_fine h0 hr
    have hl := (checkE_zero h0).2.1
    have hpl := putOf_len L hf hl
    have hpa := fun wx (kx : Keeps w wx) => parts_any 61 (partsOf postsOf 4) 16 1312080 group_enc (by omega) (by omega) (by omega) wx (.slice ao L.length c) L cs (-1) (hP.keeps kx) hf hl (by omega)
    obtain ⟨g, hg⟩ : ∃ g, g = partsOf (partsOf postsOf 4) 16 (-1) L := ⟨_, rfl⟩
    rw [← hg] at hpa
    have hpu : putOf L = lebOf L.length ++ g := by rw [hg]; rfl
    have hgl : g.length ≤ 400000000 := by rw [hpu, List.length_append] at hpl; omega
    rw [h0] at hch ⊢
    have hll := lebOf_len 9 L.length (by omega)
    have HPU := hid hpu
    have HPA := hid hpa
    clear hpu hpa hg h0 hf hr hpl
    go_enter Try.func19, Try.ntmps19
    go_wp2_with fail
    refine hch.mono ?_
    rintro e w1 ⟨rfl, k1⟩
    go_wp2_with fail
    refine (HPA.out w1 k1).mono ?_
    rintro e w2 ⟨v2, rfl, o2, k2⟩
    have hsg := ownsRow_sl o2
    have hnum := num_int w2 L.length (by omega)
    obtain ⟨a2, c2, rfl⟩ := ownsRow_slice o2
    go_wp2_with fail
    refine hnum.mono ?_
    rintro e w3 ⟨v3, rfl, o3, k3⟩
    have hsg3 := hsg.keeps k3
    have hs3 := k3.size
    obtain ⟨a3, c3, rfl⟩ := ownsRow_slice o3
    go_wp2_with (at_builtin; refine wpList_append_sl _ rfl _ _ 23 rfl w2.heap.size 5 i0 (.int .u8 0) 1 1 Try.underlying23 hi hz0 hz1 hz2 rfl (by decide) _ _ _ rfl o3 _ g.length (bys g) rfl hsg3 (bys_one _) (by unfold maxLen; omega) (by omega) hs3 ?_)
    intro v4 w4 o4 hg4 _ _
    have k4 : Keeps w2 w4 := k3.grown hg4 hs3 (fun k e => (ownsRow_base o3 e).1)
    obtain ⟨a4, c4, rfl⟩ := ownsRow_slice o4
    have hk := k1.trans k2
    go_wp2
    go_ret2
    refine ⟨_, rfl, fun _ => ?_, fun h => absurd rfl h, hk.trans k4⟩
    rw [HPU.out, List.length_append, bys_append]
    exact Go.World.ownsRow.mono o4 hk.size
  · have h0' : (checkE L : Int) ≠ 0 := by omega
    have H0 := hid h0
    generalize checkE L = E at *
    clear h0
    go_enter Try.func19, Try.ntmps19
    go_wp2_with fail
    refine hch.mono ?_
    rintro e w1 ⟨rfl, k1⟩
    go_wp2
    go_ret2
    exact ⟨_, rfl, fun h => absurd h H0.out, fun _ => rfl, k1⟩
end Go.Proofs.Ytlmlanaobhfmbaa
