/- The document's Get of layer 4, walked. -/
import Derived.Test.YtegonlmhaobgcaaRefFrameB
set_option linter.unusedSimpArgs false
set_option linter.unusedVariables false
namespace Go.Proofs.Ytegonlmhaobgcaa
open Go.RowKit Go.Vb
set_option maxRecDepth 100000 in
set_option maxHeartbeats 1000000 in
theorem ref_frameGet (w : World) (v : Value) (s : List UInt8) (hv : Sl w v 1 s.length (bys s)) (hsl : s.length ≤ 70368744177664) :
    Calls Try.prog 50 #[v] w fun e w' => FrameRes s w.heap.size e w' ∧ Keeps w w' := by
  obtain ⟨i0, hi, hz0, hz1, hz2⟩ := info_parts infoByte
  have hget := ref_Get w v s hv
  have herr := getFrom_err s 0 0
  obtain ⟨ao, c, rfl, h1, h2, _⟩ := hv.value
  rcases hg : getFrom 0 0 s with ⟨n, k, ec⟩
  rw [hg] at hget herr
  simp only at hget herr
  have hnot : ec ≠ 0 → ¬ IsFrame s := by
    rintro h0 ⟨p, r, hs, hp⟩
    rw [hs, frame_eq, get_put _ _ (by omega)] at hg
    injection hg with _ hg
    injection hg with _ hg
    exact h0 hg.symm
  have HNOT := hid hnot
  have HGG := hid hg
  clear hnot hg
  go_enter Try.func50, Try.ntmps50
  go_wp2_with fail
  refine hget.mono ?_
  rintro e w1 ⟨rfl, rfl⟩
  rcases herr with rfl | rfl | rfl
  · obtain ⟨t, hs, hk, hn⟩ := get_ok s n k HGG.out
    have hlen : s.length = k + t.length := by rw [hs, hk]; simp
    by_cases hbig : 262144 < n
    · have hbig' : (262144 : Int) < (n : Int) := by omega
      have hno : ¬ IsFrame s := by
        rintro ⟨p, r, h, hp⟩
        have := frame_uniq p r n t hp hn (h.symm.trans hs)
        omega
      have HNO := hid hno
      clear hs hno hlen hk
      go_wp2
      go_ret3
      exact ⟨.inr ⟨HNO.out, 32, by omega, rfl⟩, Below.refl _ _⟩
    · have hbig' : (n : Int) ≤ 262144 := by omega
      have HS := hid hs
      have HLEN := hid hlen
      have HK := hid hk
      have hks : k ≤ s.length := by omega
      obtain ⟨m, hm⟩ : ∃ m, m = k + 4 + n := ⟨_, rfl⟩
      have hm' : (k : Int) + 4 + (n : Int) = (m : Int) := by omega
      have hin : IntKind.i64.wrap (n : Int) = (n : Int) := wrapN n (by omega)
      by_cases hshort : s.length < m
      · have hshort' : (s.length : Int) < (m : Int) := by omega
        have hno : ¬ IsFrame s := by
          rintro ⟨p, r, h, hp⟩
          have h2 := frame_uniq p r n t hp hn (h.symm.trans HS.out)
          have h3 := congrArg List.length h2.2
          simp [four_length] at h3
          omega
        have HNO := hid hno
        clear hno hs hlen hk hm
        go_wp2
        go_ret3
        exact ⟨.inr ⟨HNO.out, 31, by omega, rfl⟩, Below.refl _ _⟩
      · have hlong : (m : Int) ≤ (s.length : Int) := by omega
        have hwm : IntKind.i64.wrap (m : Int) = (m : Int) := wrapN m (by omega)
        have S64 : ∀ w, (sizeOf 5).run Try.prog w = .ok 1 w := fun w => by kernel_rfl
        obtain ⟨X5, s51, s52, r5, _⟩ := slice_two (P := Try.prog) (t := 30) (e := 5) (size := 1) Try.underlying30 S64 ao s.length c (k + 4) m (by omega) (by omega) h1
        obtain ⟨p, ep⟩ : ∃ p, p = (s.take m).drop (k + 4) := ⟨_, rfl⟩
        obtain ⟨h4, eh4⟩ : ∃ h4, h4 = t.take 4 := ⟨_, rfl⟩
        have hpl : p.length = n := by rw [ep]; simp; omega
        have h4l : h4.length = 4 := by rw [eh4]; simp; omega
        have hts : t = h4 ++ (p ++ s.drop m) := by
          have e1 : p = (t.take (4 + n)).drop 4 := by
            rw [ep, hs, hm, hk]
            have : (lebOf n ++ t).take ((lebOf n).length + 4 + n) = lebOf n ++ t.take (4 + n) := by
              rw [List.take_append, List.take_of_length_le (by omega)]
              congr 2
              omega
            rw [this, List.drop_append, List.drop_eq_nil_of_le (by omega)]
            simp
          have e2 : s.drop m = t.drop (4 + n) := by
            rw [hs, hm, hk, List.drop_append, List.drop_eq_nil_of_le (by omega)]
            simp
            congr 1
            omega
          rw [e2, e1, eh4]
          have e3 : t.take (4 + n) = t.take 4 ++ (t.take (4 + n)).drop 4 := by
            have := (List.take_append_drop 4 (t.take (4 + n))).symm
            rw [List.take_take, Nat.min_eq_left (by omega)] at this
            exact this
          rw [← List.append_assoc, ← e3, List.take_append_drop]
        have R5 : Sl w1 (.slice X5 n (c - (k + 4))) 1 n (bys p) := by
          have := r5 _ _ hv
          have e : bys p = ((bys s).take (m * 1)).drop ((k + 4) * 1) := by rw [ep]; simp [bys]
          rw [e]
          rw [show m - (k + 4) = n by omega] at this
          exact this
        rw [show m - (k + 4) = n by omega] at s51 s52
        have s52' : ∀ w, (Instr.slice 30 (.slice ao s.length c) (some (.int .i64 ((k : Int) + 4))) (some (.int .i64 (m : Int))) none).run Try.prog w = .ok (.slice X5 n (c - (k + 4))) w := s52
        have s51' : ∀ w, (Instr.sliceAt 30 (.slice ao s.length c) (some (.int .i64 ((k : Int) + 4))) (some (.int .i64 (m : Int))) none).run Try.prog w = .ok (.slice X5 n (c - (k + 4))) w := s51
        obtain ⟨b, off, rfl, hb, hc⟩ := hv.open (by rw [bys_length]; omega)
        have gets : ∀ j, j < 4 → (bys s)[k + j]? = some (.int .u8 ((h4.getD j 0).toNat : Int)) := by
          intro j hj
          have e : s[k + j]? = some (h4.getD j 0) := by
            rw [hs, hk, List.getElem?_append_right (by omega), Nat.add_sub_cancel_left, eh4]
            rw [List.getD_eq_getElem?_getD, List.getElem?_take_of_lt hj]
            rw [List.getElem?_eq_getElem (by omega)]
            rfl
          unfold bys
          rw [List.getElem?_map, e]
          rfl
        obtain ⟨d0, hd0⟩ : ∃ d, d = (h4.getD 0 0).toNat := ⟨_, rfl⟩
        obtain ⟨d1, hd1⟩ : ∃ d, d = (h4.getD 1 0).toNat := ⟨_, rfl⟩
        obtain ⟨d2, hd2⟩ : ∃ d, d = (h4.getD 2 0).toNat := ⟨_, rfl⟩
        obtain ⟨d3, hd3⟩ : ∃ d, d = (h4.getD 3 0).toNat := ⟨_, rfl⟩
        have g0 := gets 0 (by omega)
        have g1 := gets 1 (by omega)
        have g2 := gets 2 (by omega)
        have g3 := gets 3 (by omega)
        rw [← hd0] at g0
        rw [← hd1] at g1
        rw [← hd2] at g2
        rw [← hd3] at g3
        have hn4 : num4 h4 = d0 + d1 * 256 + d2 * 65536 + d3 * 16777216 := by unfold num4; rw [hd0, hd1, hd2, hd3]
        have l0 : d0 < 256 := by rw [hd0]; exact UInt8.toNat_lt _
        have l1 : d1 < 256 := by rw [hd1]; exact UInt8.toNat_lt _
        have l2 : d2 < 256 := by rw [hd2]; exact UInt8.toNat_lt _
        have l3 : d3 < 256 := by rw [hd3]; exact UInt8.toNat_lt _
        obtain ⟨k1, hk1⟩ : ∃ x, x = k + 1 := ⟨_, rfl⟩
        obtain ⟨k2, hk2⟩ : ∃ x, x = k + 2 := ⟨_, rfl⟩
        obtain ⟨k3, hk3⟩ : ∃ x, x = k + 3 := ⟨_, rfl⟩
        rw [Nat.add_zero] at g0
        rw [← hk1] at g1
        rw [← hk2] at g2
        rw [← hk3] at g3
        have c0 := hc _ _ g0
        have c1 := hc _ _ g1
        have c2 := hc _ _ g2
        have c3 := hc _ _ g3
        have i1 : (k : Int) + 1 = (k1 : Int) := by omega
        have i2 : (k : Int) + 2 = (k2 : Int) := by omega
        have i3 : (k : Int) + 3 = (k3 : Int) := by omega
        have b0 : (k : Int) < (s.length : Int) := by omega
        have b1 : (k1 : Int) < (s.length : Int) := by omega
        have b2 : (k2 : Int) < (s.length : Int) := by omega
        have b3 : (k3 : Int) < (s.length : Int) := by omega
        have wk1 : IntKind.i64.wrap (k1 : Int) = (k1 : Int) := wrapN k1 (by omega)
        have wk2 : IntKind.i64.wrap (k2 : Int) = (k2 : Int) := wrapN k2 (by omega)
        have wk3 : IntKind.i64.wrap (k3 : Int) = (k3 : Int) := wrapN k3 (by omega)
        have HM := hid hm
        have HN4 := hid hn4
        have HTS := hid hts
        have HPL := hid hpl
        have H4 := hid h4l
        have HD := hid (And.intro hd0 (And.intro hd1 (And.intro hd2 hd3)))
        clear hs hlen hk hm hk1 hk2 hk3 hn4 hts hpl h4l ep eh4 gets hd0 hd1 hd2 hd3 g0 g1 g2 g3 hc s51 s52 r5
        have u0 : IntKind.u32.wrap (d0 : Int) = (d0 : Int) := IntWalk.u32_in _ (by omega)
        have u1 : IntKind.u32.wrap (d1 : Int) = (d1 : Int) := IntWalk.u32_in _ (by omega)
        have u2 : IntKind.u32.wrap (d2 : Int) = (d2 : Int) := IntWalk.u32_in _ (by omega)
        have u3 : IntKind.u32.wrap (d3 : Int) = (d3 : Int) := IntWalk.u32_in _ (by omega)
        obtain ⟨q, hq⟩ : ∃ q, q = num4 h4 := ⟨_, rfl⟩
        have hor : bits .or .u32 (bits .or .u32 (bits .or .u32 (d0 : Int) ((d1 : Int) * 256)) ((d2 : Int) * 65536)) ((d3 : Int) * 16777216) = (q : Int) := by
          rw [show (d1 : Int) * 256 = ((d1 * 2 ^ 8 : Nat) : Int) by omega, or32 _ _ (by omega) (by omega), or_low _ _ 8 (by omega)]
          rw [show (d2 : Int) * 65536 = ((d2 * 2 ^ 16 : Nat) : Int) by omega, or32 _ _ (by omega) (by omega), or_low _ _ 16 (by omega)]
          rw [show (d3 : Int) * 16777216 = ((d3 * 2 ^ 24 : Nat) : Int) by omega, or32 _ _ (by omega) (by omega), or_low _ _ 24 (by omega)]
          rw [hq, HN4.out]
        have HQ := hid hq
        have hq32 : q ≤ 4294967295 := by rw [hq, HN4.out]; omega
        clear hq
        go_wp2_with fail
        go_quiet (fail)
        go_wp2_with (at_builtin; refine wpList_append_sl _ rfl _ _ 30 rfl w1.heap.size 5 i0 (.int .u8 0) 1 1 Try.underlying30 hi hz0 hz1 hz2 rfl (by decide) _ 0 [] rfl (World.ownsRow_lit (w1.drewN nq) #[] 0 (by simp [World.drewN]) (by unfold maxLen; omega) rfl) _ n (bys p) rfl (R5.keeps ((keeps_drewN w1 nq).trans ((Below.refl _ _).alloc (Nat.le_refl _) _))) (bys_one _) (by unfold maxLen; omega) (by omega) (by simp) ?_)
        intro v3 w3 o3 hg3 _ _
        have k3' : Keeps w1 w3 := ((keeps_drewN w1 nq).trans ((Below.refl _ _).alloc (Nat.le_refl _) _)).grown hg3 (by simp [World.drewN]) (fun k e => by simp [Value.ownBlock] at e; omega)
        have s3 : Sl w3 v3 1 p.length (bys p) := by rw [HPL.out]; exact ownsRow_sl o3
        obtain ⟨a3, c3', rfl⟩ := ownsRow_slice o3
        have hsum := ref_Sum w3 _ p s3
        have hcr := crcOf_range 0 p
        obtain ⟨cn, hcn⟩ := Int.eq_ofNat_of_zero_le hcr.1
        rw [hcn] at hsum
        have hcn2 : cn ≤ 4294967295 := by omega
        have HCN := hid hcn
        clear hcn hcr
        go_wp2_with fail
        refine hsum.mono ?_
        rintro e w4 ⟨rfl, rfl⟩
        have hfour : fourOf (crcOf 0 p) = h4 ↔ cn = q := by
          rw [HCN.out, HQ.out]
          constructor
          · intro e; rw [← e, num4_four cn (by omega)]
          · intro e; exact num4_inj _ _ rfl H4.out (by rw [num4_four cn (by omega), e])
        by_cases hcq : cn = q
        · have e4 : fourOf (crcOf 0 p) = h4 := hfour.2 hcq
          have hyes : s = frameOf p ++ s.drop m := by
            rw [frame_eq, HPL.out, e4, ← HTS.out]; exact HS.out
          have hfl : (frameOf p).length = m := by
            have := HPL.out
            have h6 := HK.out
            unfold frameOf
            rw [HPL.out, List.length_append, List.length_append, four_length, ← h6, HPL.out, HM.out]
            omega
          have HY := hid hyes
          have HFL := hid hfl
          have hcq' : (cn : Int) = (q : Int) := by omega
          clear hyes hfl hcq hfour e4
          go_wp2
          go_ret3
          refine ⟨.inl ⟨p, s.drop m, .slice a3 n c3', HY.out, by have := HPL.out; omega, ?_, ?_⟩, k3'⟩
          · rw [HFL.out]; rfl
          · rw [HPL.out]; exact o3
        · have hcq' : (cn : Int) ≠ (q : Int) := by omega
          have hno : ¬ IsFrame s := by
            rintro ⟨p', r', h, hp'⟩
            obtain ⟨e1, e2⟩ := frame_uniq p' r' n t hp' hn (h.symm.trans HS.out)
            rw [HTS.out] at e2
            have h3 := List.append_inj e2 (by rw [H4.out, four_length])
            have h5 := List.append_inj h3.2 (by rw [HPL.out, e1])
            rw [← h5.1] at h3
            exact hcq (hfour.1 h3.1.symm)
          have HNO := hid hno
          clear hno hfour hcq
          go_wp2
          go_ret3
          exact ⟨.inr ⟨HNO.out, 41, by omega, rfl⟩, k3'⟩
  · have HNO := HNOT.out (by omega)
    clear HGG
    go_wp2
    go_ret3
    exact ⟨.inr ⟨HNO, 31, by omega, rfl⟩, Below.refl _ _⟩
  · have HNO := HNOT.out (by omega)
    clear HGG
    go_wp2
    go_ret3
    exact ⟨.inr ⟨HNO, 32, by omega, rfl⟩, Below.refl _ _⟩
end Go.Proofs.Ytegonlmhaobgcaa
