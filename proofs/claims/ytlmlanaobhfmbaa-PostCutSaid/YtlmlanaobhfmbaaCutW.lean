/- The law PostCut, walked. -/
import Derived.Test.YtlmlanaobhfmbaaPostHeadW
import Derived.Test.YtlmlanaobhfmbaaCutA
set_option linter.unusedSimpArgs false
set_option linter.unusedVariables false
namespace Go.Proofs.Ytlmlanaobhfmbaa
open Go.RowKit Go.Vb
theorem Posts.take {w : World} {ao : Option Addr} {n c : Nat} {L : List Post} {cs : List Value} (h : Posts w (.slice ao n c) L cs) (j : Nat) (hj : j ≤ L.length) : Posts w (.slice ao j c) (L.take j) (cs.take (j * 2)) := by
  have hn : n = L.length := by obtain ⟨_, _, e, _⟩ := h.outer.value; injection e
  subst hn
  have hl : (L.take j).length = j := by simp; omega
  refine ⟨by rw [hl]; exact h.outer.take j hj, fun i hi => ?_⟩
  rw [hl] at hi
  obtain ⟨h1, u, h2, h3⟩ := h.inner i (by omega)
  have e : (L.take j)[i]'(by rw [hl]; exact hi) = L[i]'(by omega) := by rw [List.getElem_take]
  rw [e, List.getElem?_take_of_lt (by omega), List.getElem?_take_of_lt (by omega)]
  exact ⟨h1, u, h2, h3⟩
theorem bys_take' (s : List UInt8) (j : Nat) : bys (s.take j) = (bys s).take (j * 1) := by unfold bys; rw [Nat.mul_one, List.map_take]
theorem tmod_nat (k n : Nat) : (k : Int).tmod (n : Int) = ((k % n : Nat) : Int) := by rw [Int.tmod_eq_emod_of_nonneg (by omega)]; rfl
theorem wrap64N (y : Nat) (h : y ≤ 9223372036854775807) : wrap64 (y : Int) = (y : Int) := by unfold wrap64; omega
set_option maxRecDepth 100000 in
set_option maxHeartbeats 2000000 in
theorem cut_walk (w : World) (v : Value) (k x : Int) (L : List Post) (cs : List Value) (hP : Posts w v L cs) (hB : ∀ i (h : i < L.length), (L[i]'h).2.length ≤ 8796093022208) (hr : ∀ p ∈ L, Rng p)
    (hk : (Lit.int .u16 k).wf = true) (hx : (Lit.int .u8 x).wf = true) :
    Calls Try.prog 6 #[v, .int .u16 k, .int .u8 x] w fun e w' => e = .returned (.bool true) ∧ Keeps w w' := by
  obtain ⟨ao, c, rfl, hLc, hcm, _⟩ := hP.outer.value
  have hx2 := u8_back x hx
  have hLm : L.length ≤ 9223372036854775807 := by unfold maxLen at hcm; omega
  have hk2 : 0 ≤ k ∧ k ≤ 65535 := by
    simp only [Lit.wf, Bool.and_eq_true, decide_eq_true_eq] at hk
    exact hk
  obtain ⟨k, rfl⟩ := Int.eq_ofNat_of_zero_le hk2.1
  obtain ⟨i0, hi, hz0, hz1, hz2⟩ := info_parts infoByte
  generalize UInt8.ofNat x.toNat = xb at hx2
  subst hx2
  clear hk hx
  go_enter Try.func6, Try.ntmps6
  go_wp2_with fail
  refine (head_any w).mono ?_
  rintro e w1 ⟨rfl, k1⟩
  have hP1 := hP.keeps k1
  have hgr := great_any w1 _ L cs hP1 hB
  go_wp2_with fail
  refine hgr.mono ?_
  rintro e w1 ⟨g, rfl, hg, rfl⟩
  cases g
  · clear hg hgr
    go_wp2_with fail
    refine (put_any _ _ L cs hP1 hr).mono ?_
    rintro e w2 ⟨vx, rfl, hz, hnz, k2⟩
    by_cases hc : checkE L = 0
    · have o2 := hz hc
      have hL : GoodP L := ⟨hc, hr⟩
      have hb4 := putOf_len L hL.fine (checkE_zero hc).2.1
      have hb0 : 0 < (putOf L).length := by rw [putOf_flat, List.length_append]; have := lebOf_pos L.length; omega
      have hcut := not_cut hL
      have hmore := not_more hL xb
      have hless := fun h => putOf_less hL h
      have hnil : L.length = 0 → (putOf L).length = 1 := fun h => by rw [List.eq_nil_of_length_eq_zero h, putOf_nil]; rfl
      obtain ⟨n, hn⟩ : ∃ n, n = (putOf L).length := ⟨_, rfl⟩
      rw [← hn] at o2 hb4 hb0
      have hj : (k : Int).tmod (n : Int) = ((k % n : Nat) : Int) := tmod_nat k n
      have hjn : k % n < n := Nat.mod_lt _ hb0
      generalize k % n = j at hj hjn
      have hci : (checkE L : Int) = 0 := by omega
      obtain ⟨g2, c2, rfl, hg2, hnc, _⟩ := ownsRow_pos o2 hb0
      have s2 := ownsRow_sl o2
      have hb2 := (ownsRow_base o2 (b := g2) rfl).2
      have t2 := s2.take j (by omega)
      rw [← bys_take'] at t2
      have htl : ((putOf L).take j).length = j := by rw [List.length_take]; omega
      have hget := post_Get w2 (.slice (some ⟨g2, 0, none⟩) j c2) ((putOf L).take j) (by rw [htl]; exact t2) (by rw [htl]; omega) (fun b hb => by simp [Value.ownBlock] at hb; omega)
      have hn0 : ¬ (n : Int) = 0 := by omega
      have hji : (j : Int) ≤ (n : Int) := by omega
      have hnci : (n : Int) ≤ (c2 : Int) := by omega
      rw [hci]
      have HN := hid hn
      have HL := hid hL
      have HLESS := hid hless
      have HNIL := hid hnil
      clear hz hnz hc hci t2 htl hn hL hless hnil
      go_wp2_with fail
      refine hget.mono ?_
      rintro e w3 ⟨hres, k3⟩
      rcases hres with ⟨M, _, _, hgM, heM, _⟩ | ⟨_, rfl⟩
      · exact absurd heM (hcut j (by rw [← HN.out]; exact hjn) M hgM)
      · clear hget hcut
        have ka : Keeps w3 (w3.alloc (.cells #[] 5)) := (Below.refl _ _).alloc (Nat.le_refl _) _
        have s3 := (s2.keeps k3).keeps ka
        rw [HN.out] at s3
        go_wp2_with (at_builtin; refine wpList_append_sl _ rfl _ _ 23 rfl w3.heap.size 5 i0 (.int .u8 0) 1 1 Try.underlying23 hi hz0 hz1 hz2 rfl (by decide) _ 0 [] rfl (World.ownsRow_lit w3 #[] 0 (Nat.le_refl _) (by unfold maxLen; omega) rfl) _ (putOf L).length (bys (putOf L)) (by rw [← HN.out]; rfl) s3 (bys_one _) (by unfold maxLen; rw [← HN.out]; omega) (by rw [← HN.out]; omega) (by simp) ?_)
        intro v4 w4 ho4 hg4 hnil4 _
        have k4 : Keeps w3 w4 := ka.grown hg4 (by simp) (fun k e => by simp [Value.ownBlock] at e; omega)
        rw [← HN.out] at ho4
        obtain ⟨a4, c4, rfl⟩ := ownsRow_slice ho4
        have kb : Keeps w4 (w4.alloc (.cells #[.int .u8 (xb.toNat : Int)] 5)) := (Below.refl _ _).alloc (Nat.le_refl _) _
        go_wp2_with (at_builtin; refine wpList_append_sl _ rfl _ _ 23 rfl w3.heap.size 5 i0 (.int .u8 0) 1 1 Try.underlying23 hi hz0 hz1 hz2 rfl (by decide) _ _ _ rfl (ho4.alloc _) _ 1 [.int .u8 (xb.toNat : Int)] rfl (sl_one _ _ _) (by simp [Value.oneCell']) (by unfold maxLen; omega) (by omega) (by have := k4.size; simp; omega) ?_)
        intro v5 w5 ho5 hg5 hnil5 _
        have k5 : Keeps w3 w5 := (k4.trans kb).grown hg5 (k4.trans kb).size (fun k e => (ownsRow_base ho4 e).1)
        have s5 := ownsRow_sl ho5
        have e5 : bys (putOf L) ++ [.int .u8 (xb.toNat : Int)] = bys (putOf L ++ [xb]) := by rw [bys_append]; rfl
        have l5 : n + 1 = (putOf L ++ [xb]).length := by rw [List.length_append, ← HN.out]; rfl
        rw [e5, l5] at s5
        have hget2 := post_Get w5 v5 (putOf L ++ [xb]) s5 (by rw [← l5]; omega) (fun b hb => (ownsRow_base ho5 hb).2)
        clear e5 l5
        obtain ⟨a5, c5, rfl⟩ := ownsRow_slice ho5
        go_wp2_with fail
        refine hget2.mono ?_
        rintro e w6 ⟨hres, k6⟩
        rcases hres with ⟨M, _, _, hgM, heM, _⟩ | ⟨_, rfl⟩
        · exact absurd heM (hmore M hgM)
        · clear hget2 hmore ho5 s5 ho4 hg4 hg5 s3
          have K6 := ((k1.trans k2).trans k3).trans (k5.trans k6)
          obtain ⟨m, hm⟩ : ∃ m, m = L.length := ⟨_, rfl⟩
          by_cases hm0 : m = 0
          · have h1 := HNIL.out (by omega)
            rw [← HN.out] at h1
            subst h1
            rw [← hm] at *
            subst hm0
            go_wp2
            go_ret
            exact ⟨rfl, K6⟩
          · obtain ⟨y, hmy⟩ : ∃ y, m = y + 1 := ⟨m - 1, by omega⟩
            have hLy : L.length = y + 1 := by rw [← hm, hmy]
            have hP6 := (hP.keeps K6).take y (by rw [hLy]; exact Nat.le_succ _)
            have hput7 := put_any w6 _ (L.take y) _ hP6 (fun p hp => hr p (List.mem_of_mem_take hp))
            have hc7 : checkE (L.take y) = 0 := checkE_take HL.out.ok _
            have hlt := HLESS.out (by rw [hLy]; exact Nat.succ_pos _)
            rw [hLy, Nat.add_sub_cancel, ← HN.out] at hlt
            have hym : y ≤ 9223372036854775807 := Nat.le_of_succ_le (by rw [← Nat.succ_eq_add_one] at hLy; rw [← hLy]; exact hLm)
            rw [hc7] at hput7
            have hyc : (y : Int) ≤ (c : Int) := Int.ofNat_le.2 (Nat.le_trans (Nat.le_succ y) (by rw [← Nat.succ_eq_add_one] at hLy; rw [← hLy]; exact hLc))
            have hwy : wrap64 (y : Int) = (y : Int) := wrap64N y hym
            have hwy2 : IntKind.i64.wrap (y : Int) = (y : Int) := wrapN y hym
            have HLT := hid hlt
            have HC7 := hid hc7
            rw [hLy]
            clear hwy hLy hmy hlt hc7 hP6 hm0 hm
            clear m
            have hcast : ((y + 1 : Nat) : Int) = (y : Int) + 1 := rfl
            go_wp2_with fail
            refine hput7.mono ?_
            rintro e w7 ⟨v7, rfl, hz7, _, k7⟩
            have o7 := hz7 trivial
            obtain ⟨q, hq⟩ : ∃ q, q = (putOf (L.take y)).length := ⟨_, rfl⟩
            have hlt := HLT.out
            rw [← hq] at o7 hlt
            obtain ⟨a7, c7, rfl⟩ := ownsRow_slice o7
            clear hput7 hz7 hq
            have hqn : (q : Int) < (n : Int) := by omega
            go_wp2
            go_ret
            exact ⟨by simp [hqn], K6.trans k7⟩
    · have hci : ¬ (checkE L : Int) = 0 := by omega
      obtain ⟨ce, hce⟩ : ∃ ce : Int, ce = (checkE L : Int) := ⟨_, rfl⟩
      rw [← hce] at hci ⊢
      clear hce hz hnz
      go_wp2
      go_ret
      exact ⟨by simp [hci], k1.trans k2⟩
  · go_wp2
    go_ret
    exact ⟨rfl, k1⟩
end Go.Proofs.Ytlmlanaobhfmbaa
