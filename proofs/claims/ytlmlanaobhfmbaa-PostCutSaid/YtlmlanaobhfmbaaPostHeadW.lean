/- The live question of the laws of post, walked. -/
import Derived.Test.YtlmlanaobhfmbaaPostHead
set_option linter.unusedSimpArgs false
set_option linter.unusedVariables false
namespace Go.Proofs.Ytlmlanaobhfmbaa
open Go.RowKit Go.Vb
theorem conv9 {w : World} {v : Value} {s : List UInt8} (h : Sl w v 1 s.length (bys s)) : (convert 23 9 v).run Try.prog w = .ok (.string ⟨s.toArray⟩) w := conv_bytes Try.underlying23 Try.underlying5 Try.underlying9 h
theorem posts_nil (w : World) : Posts w (.slice none 0 0) [] [] := ⟨Sl.nil w 2, fun i h => by simp at h⟩
theorem posts_one (w : World) (d : Int) (u : Value) (l : List Spot) (hu : Sl w u 2 l.length (spotCells l)) : Posts (w.alloc (.cells #[.int .i64 d, u] 36)) (.slice (some ⟨w.heap.size, 0, none⟩) 1 1) [(d, l)] [.int .i64 d, u] := by
  have ka : Keeps w (w.alloc (.cells #[.int .i64 d, u] 36)) := (Below.refl _ _).alloc (Nat.le_refl _) _
  refine ⟨sl_pair w _ _ _, fun i hi => ?_⟩
  have : i = 0 := by simp at hi; omega
  subst this
  exact ⟨rfl, u, rfl, hu.keeps ka⟩
set_option maxRecDepth 100000 in
set_option maxHeartbeats 2000000 in
theorem head_any (w : World) : Calls Try.prog 17 #[] w fun e w' => e = .returned (.bool true) ∧ Keeps w w' := by
  go_enter Try.func17, Try.ntmps17
  go_wp2_with fail
  refine (put_any w _ [] [] (posts_nil w) (by simp)).mono ?_
  rintro e w1 ⟨v1, rfl, hz, _, k1⟩
  have o1 := hz (by decide)
  rw [putOf_nil] at o1
  have s1 := ownsRow_sl o1
  have hc0 : (checkE [] : Int) = 0 := by decide
  obtain ⟨a1, c1, rfl⟩ := ownsRow_slice o1
  clear hz o1
  rw [hc0]
  have hsp : Sl (w1.alloc (.cells #[.int .i64 2, .int .i64 5] 87)) (.slice (some ⟨w1.heap.size, 0, none⟩) 1 1) 2 1 [.int .i64 2, .int .i64 5] := sl_pair w1 _ _ _
  have kb : Keeps w1 (w1.alloc (.cells #[.int .i64 2, .int .i64 5] 87)) := (Below.refl _ _).alloc (Nat.le_refl _) _
  have hpo := posts_one _ 3 _ [(2, 5)] hsp
  rw [World.size_alloc] at hpo
  have kc : Keeps (w1.alloc (.cells #[.int .i64 2, .int .i64 5] 87)) ((w1.alloc (.cells #[.int .i64 2, .int .i64 5] 87)).alloc (.cells #[.int .i64 3, .slice (some ⟨w1.heap.size, 0, none⟩) 1 1] 36)) := (Below.refl _ _).alloc (Nat.le_refl _) _
  have hput := put_any _ _ hL _ hpo good_hL.rng
  have hc1 : (checkE hL : Int) = 0 := by decide
  clear hsp hpo
  go_wp2_with fail
  refine hput.mono ?_
  rintro e w2 ⟨v2, rfl, hz, _, k2⟩
  have o2 := hz (by decide)
  have s2 := ownsRow_sl o2
  have hb2 := fun b hb => (ownsRow_base o2 (b := b) hb).2
  rw [hc1]
  have hget := post_Get w2 v2 (putOf hL) s2 (by rw [putOf_hL]; decide) hb2
  rw [putOf_hL] at s2
  have hlen : (putOf hL).length = 10 := by rw [putOf_hL]; rfl
  obtain ⟨a2, c2, rfl⟩ := ownsRow_slice o2
  clear hz o2 hput
  rw [hlen] at hget s2 ⊢
  have K12 := (kb.trans kc).trans k2
  have K2 := k1.trans K12
  clear kb kc k2
  go_wp2_with fail
  refine hget.mono ?_
  rintro e w3 ⟨hres, k3⟩
  rcases hres with ⟨L, v3, cs, hg, he, rfl, own, huniq⟩ | ⟨hno, rfl⟩
  · have hL2 := huniq hL good_hL rfl
    subst hL2
    have hp3 := own.posts
    obtain ⟨a3, c3, e3⟩ := ownsRow_slice own.row
    subst e3
    have hone : Sl (w3.alloc (.cells #[.int .u8 1] 5)) (.slice (some ⟨w3.heap.size, 0, none⟩) 1 1) 1 1 (bys [1]) := sl_one w3 _ _
    have kd : Keeps w3 (w3.alloc (.cells #[.int .u8 1] 5)) := (Below.refl _ _).alloc (Nat.le_refl _) _
    have hget2 := post_Get _ _ [1] hone (by decide) (fun b hb => by simp [Value.ownBlock] at hb; simp; omega)
    clear hget huniq he hg
    go_wp2_with fail
    refine hget2.mono ?_
    rintro e w4 ⟨hres, k4⟩
    rcases hres with ⟨L, _, _, hg, he, _⟩ | ⟨_, rfl⟩
    · exact absurd he (not_one L hg)
    · have K4 := ((k3.trans kd).trans k4)
      have cv1 : (convert 23 9 (.slice a1 1 c1)).run Try.prog w4 = .ok (.string ⟨#[0]⟩) w4 := conv9 ((s1.keeps K12).keeps K4)
      have cv2 : (convert 23 9 (.slice a2 10 c2)).run Try.prog w4 = .ok (.string ⟨#[1, 3, 7, 3, 5, 3, 1, 2, 1, 5]⟩) w4 := conv9 (s2.keeps K4)
      obtain ⟨b, off, e5, _, hcc⟩ := (hp3.keeps (kd.trans k4)).open (by decide)
      subst e5
      obtain ⟨cd, _⟩ := hcc 0 (by decide)
      have cd' : w4.cell? ⟨b, off, none⟩ = some (.int .i64 3) := cd
      have hll : hL.length = 1 := rfl
      clear hget2 hcc cd kd s1 s2 hone hp3 own
      rw [hll]
      go_wp2
      go_ret
      exact ⟨rfl, K2.trans K4⟩
  · exact absurd rfl (hno hL good_hL)
end Go.Proofs.Ytlmlanaobhfmbaa
