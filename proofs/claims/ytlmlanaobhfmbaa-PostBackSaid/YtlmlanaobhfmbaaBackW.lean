/- The law PostBack, walked. -/
import Derived.Test.YtlmlanaobhfmbaaPostHeadW
import Derived.Test.YtlmlanaobhfmbaaSameA
set_option linter.unusedSimpArgs false
set_option linter.unusedVariables false
namespace Go.Proofs.Ytlmlanaobhfmbaa
open Go.RowKit Go.Vb
set_option maxRecDepth 100000 in
set_option maxHeartbeats 2000000 in
theorem back_walk (w : World) (v vb : Value) (L : List Post) (cs : List Value) (b : List UInt8) (hP : Posts w v L cs) (hB : ∀ i (h : i < L.length), (L[i]'h).2.length ≤ 8796093022208) (hr : ∀ p ∈ L, Rng p)
    (hb : Sl w vb 1 b.length (bys b)) (hbl : b.length ≤ 140737488351232) (hbw : ∀ k, vb.ownBlock = some k → k < w.heap.size) :
    Calls Try.prog 4 #[v, vb] w fun e w' => e = .returned (.bool true) ∧ Keeps w w' := by
  obtain ⟨ao, c, rfl, _⟩ := hP.outer.value
  obtain ⟨bo, d, rfl, _⟩ := hb.value
  go_enter Try.func4, Try.ntmps4
  go_wp2_with fail
  refine (head_any w).mono ?_
  rintro e w1 ⟨rfl, k1⟩
  have hP1 := hP.keeps k1
  have hgr := great_any w1 _ L cs hP1 hB
  go_wp2_with fail
  refine hgr.mono ?_
  rintro e w1 ⟨g, rfl, hg, rfl⟩
  cases g
  · by_cases hbb : b.length ≤ 60000
    · have hbb' : ¬ (60000 : Int) < (b.length : Int) := by omega
      go_wp2_with fail
      refine (put_any _ _ L cs hP1 hr).mono ?_
      rintro e w2 ⟨vx, rfl, hz, hnz, k2⟩
      by_cases hc : checkE L = 0
      · have o2 := hz hc
        have hL : GoodP L := ⟨hc, hr⟩
        have s2 := ownsRow_sl o2
        have hb2 := fun k hk => (ownsRow_base o2 (b := k) hk).2
        have hget := post_Get w2 _ (putOf L) s2 (Nat.le_trans (putOf_len L (checkE_fine hc hr) (checkE_zero hc).2.1) (by decide)) hb2
        have hci : (checkE L : Int) = 0 := by omega
        obtain ⟨ax, cx, rfl⟩ := ownsRow_slice o2
        rw [hci]
        clear hz hnz hc o2 s2 hb2 hci
        go_wp2_with fail
        refine hget.mono ?_
        rintro e w3 ⟨hres, k3⟩
        rcases hres with ⟨L', v3, cs3, hg3, he3, rfl, own, huniq⟩ | ⟨hno, rfl⟩
        · obtain rfl : L' = L := huniq L hL rfl
          have hP3 := own.posts
          have hsame := same_any w3 v3 (.slice ao L'.length c) L' L' cs3 cs hP3 (hP1.keeps (k2.trans k3))
          obtain ⟨a3, c3, rfl⟩ := ownsRow_slice own.row
          clear hget huniq he3 own
          go_wp2_with fail
          refine hsame.mono ?_
          rintro e w4 ⟨rfl, n4, rfl⟩
          have K4 : Keeps w (w3.drewN n4) := ((k1.trans k2).trans k3).trans (keeps_drewN _ _)
          clear hsame hP3 hL hg3
          generalize w3.drewN n4 = w4 at *
          go_wp2_with fail
          refine (post_Get w4 _ b (hb.keeps K4) (by omega) (fun k hk => Nat.lt_of_lt_of_le (hbw k hk) K4.size)).mono ?_
          rintro e w5 ⟨hres, k5⟩
          rcases hres with ⟨M, v5, cs5, hg5, he5, rfl, own5, _⟩ | ⟨_, rfl⟩
          · have hP5 := own5.posts
            obtain ⟨a5, c5, rfl⟩ := ownsRow_slice own5.row
            have hput5 := put_any _ _ M _ hP5 hg5.rng
            have hc5 : (checkE M : Int) = 0 := by have := hg5.ok; omega
            have h05 := hg5.ok
            rw [hc5] at hput5
            clear hc5 own5
            go_wp2_with fail
            refine hput5.mono ?_
            rintro e w6 ⟨v6, rfl, hz6, _, k6⟩
            have o6 := hz6 h05
            have s6 := ownsRow_sl o6
            obtain ⟨a6, c6, rfl⟩ := ownsRow_slice o6
            rw [← he5] at s6
            have K6 := (K4.trans k5).trans k6
            have cv1 := conv9 s6
            have cv2 := conv9 (hb.keeps K6)
            rw [← he5]
            clear hput5 hz6 o6 s6 hP5 h05 he5
            go_wp2
            go_ret
            exact ⟨by simp, K6⟩
          · go_wp2
            go_ret
            exact ⟨rfl, K4.trans k5⟩
        · exact absurd rfl (hno L hL)
      · have hnn := hnz hc
        subst hnn
        have K4 : Keeps w w2 := k1.trans k2
        have hci : ¬ (checkE L : Int) = 0 := by omega
        clear hz hnz
        obtain ⟨ce, hce⟩ : ∃ ce : Int, ce = (checkE L : Int) := ⟨_, rfl⟩
        rw [← hce] at hci ⊢
        clear hce
        generalize w2 = w4 at *
        go_wp2_with fail
        refine (post_Get w4 _ b (hb.keeps K4) (by omega) (fun k hk => Nat.lt_of_lt_of_le (hbw k hk) K4.size)).mono ?_
        rintro e w5 ⟨hres, k5⟩
        rcases hres with ⟨M, v5, cs5, hg5, he5, rfl, own5, _⟩ | ⟨_, rfl⟩
        · have hP5 := own5.posts
          obtain ⟨a5, c5, rfl⟩ := ownsRow_slice own5.row
          have hput5 := put_any _ _ M _ hP5 hg5.rng
          have hc5 : (checkE M : Int) = 0 := by have := hg5.ok; omega
          have h05 := hg5.ok
          rw [hc5] at hput5
          clear hc5 own5
          go_wp2_with fail
          refine hput5.mono ?_
          rintro e w6 ⟨v6, rfl, hz6, _, k6⟩
          have o6 := hz6 h05
          have s6 := ownsRow_sl o6
          obtain ⟨a6, c6, rfl⟩ := ownsRow_slice o6
          rw [← he5] at s6
          have K6 := (K4.trans k5).trans k6
          have cv1 := conv9 s6
          have cv2 := conv9 (hb.keeps K6)
          rw [← he5]
          clear hput5 hz6 o6 s6 hP5 h05 he5
          go_wp2
          go_ret
          exact ⟨by simp, K6⟩
        · go_wp2
          go_ret
          exact ⟨rfl, K4.trans k5⟩
    · have hbb' : (60000 : Int) < (b.length : Int) := by omega
      go_wp2
      go_ret
      exact ⟨rfl, k1⟩
  · go_wp2
    go_ret
    exact ⟨rfl, k1⟩
end Go.Proofs.Ytlmlanaobhfmbaa
