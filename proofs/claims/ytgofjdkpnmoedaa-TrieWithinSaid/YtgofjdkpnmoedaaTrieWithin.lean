/- The law TrieWithin, walked. -/
import Derived.Test.YtgofjdkpnmoedaaTrieM
set_option linter.unusedSimpArgs false
set_option linter.unusedVariables false
namespace Go.Proofs.Ytgofjdkpnmoedaa
open Go.RowKit Go.Vb

theorem ans_rise (k : Nat) (L : List (List UInt8)) (q : List UInt8) (j : Nat) (h : j + 1 < (ans k L q).length) : (ans k L q)[j]'(by omega) < (ans k L q)[j + 1]'h := by
  have h1 : (ans k L q).Pairwise (· < ·) := idsTo_rise k L _ _
  exact List.pairwise_iff_getElem.1 h1 j (j + 1) (by omega) h (by omega)
theorem ans0_in (L : List (List UInt8)) (s : List UInt8) (x : Int) (h : x ∈ ans 0 L s) : x ∈ ans 2 L s := by
  rw [mem_ans0] at h; rw [mem_ans2]
  obtain ⟨j, h1, h2, h3⟩ := h
  exact ⟨j, h1, h2, h3.isInfix⟩
theorem ans1_in (L : List (List UInt8)) (s : List UInt8) (x : Int) (h : x ∈ ans 1 L s) : x ∈ ans 2 L s := by
  rw [mem_ans1] at h; rw [mem_ans2]
  obtain ⟨j, h1, h2, h3⟩ := h
  exact ⟨j, h1, h2, h3.isInfix⟩

set_option maxHeartbeats 4000000 in
set_option maxRecDepth 100000 in
theorem within_walk (w : World) (v sv : Value) (a b d : Int) (L : List (List UInt8)) (vs : List Value) (s : List UInt8) (hM : Mat w v L vs) (_hLl : L.length * 24 ≤ 140737488351232) (hs : Sl w sv 1 s.length (bys s)) (hsl : s.length ≤ 140737488351232)
    (hwa : (Lit.int .u8 a).wf = true) (hwb : (Lit.int .u8 b).wf = true) (hwd : (Lit.int .u8 d).wf = true) :
    Calls Try.prog 4 #[v, sv, .int .u8 a, .int .u8 b, .int .u8 d] w fun e w' => e = .returned (.bool true) ∧ Keeps w w' := by
  have hLs := Sl.size_le hM.outer
  simp only [Lit.wf, Bool.and_eq_true, decide_eq_true_eq] at hwa hwb hwd
  have ha : 0 ≤ a ∧ a ≤ 255 := hwa
  have hb : 0 ≤ b ∧ b ≤ 255 := hwb
  have hd : 0 ≤ d ∧ d ≤ 255 := hwd
  clear hwa hwb hwd
  obtain ⟨a, rfl⟩ := Int.eq_ofNat_of_zero_le ha.1
  obtain ⟨b, rfl⟩ := Int.eq_ofNat_of_zero_le hb.1
  obtain ⟨d, rfl⟩ := Int.eq_ofNat_of_zero_le hd.1
  obtain ⟨aos, cs, rfl, _⟩ := hs.value
  go_enter Try.func4, Try.ntmps4
  go_wp2_with fail
  refine (head_any w).mono ?_
  rintro e w1 ⟨rfl, k1⟩
  have hM1 := hM.keeps k1
  go_wp2_with fail
  by_cases hR : L.length ≤ 512 ∧ ∀ t ∈ L, t.length ≤ 16
  · refine (new_any w1 v L vs hM1 hR.1 hR.2).mono ?_
    rintro e w2 ⟨T, N, rfl, TA, k2⟩
    have hM2 := hM1.keeps k2
    go_wp2_with fail
    refine (great_any w2 v _ L vs _ _ hM2 ((hs.keeps k1).keeps k2)).mono ?_
    rintro e w3 ⟨⟨bb, rfl⟩, rfl⟩
    obtain ⟨ao, c, rfl, _⟩ := hM.outer.value
    cases bb with
    | true =>
      go_wp2
      go_ret
      exact ⟨rfl, k1.trans k2⟩
    | false =>
      rcases Nat.eq_zero_or_pos L.length with h0 | hpos
      · have h0' : ((L.length : Int) == 0) = true := by rw [h0]; rfl
        go_wp2
        go_ret
        exact ⟨rfl, k1.trans k2⟩
      · have h0' : ((L.length : Int) == 0) = false := by rw [beq_eq_false_iff_ne]; omega
        have h512 := hR.1
        have h16 := hid hR.2
        clear hR
        have hs2 := (hs.keeps k1).keeps k2
        go_wp2_with fail
        refine (prefix_any TA h512 _ s hs2 (by omega)).mono ?_
        rintro e w4 ⟨va, rfl, oa, k4⟩
        go_wp2_with fail
        refine (suffix_any (TA.keeps k4) h512 _ s (hs2.keeps k4) (by omega)).mono ?_
        rintro e w5 ⟨vb, B, rfl, ob, _, k5⟩
        have k45 := k4.trans k5
        go_wp2_with fail
        refine (infix_any (TA.keeps k45) h512 _ s (hs2.keeps k45) (by omega)).mono ?_
        rintro e w6 ⟨vc, rfl, oc, k6⟩
        have k26 := k45.trans k6
        have sa := (ownsRow_sl oa).keeps (k5.trans k6)
        have sb := (ownsRow_sl ob).keeps k6
        have sc := ownsRow_sl oc
        obtain ⟨A0, C0, rfl⟩ := ownsRow_slice oa
        obtain ⟨A1, C1, rfl⟩ := ownsRow_slice ob
        obtain ⟨A2, C2, rfl⟩ := ownsRow_slice oc
        have hM6 := hM2.keeps k26
        have TA6 := TA.keeps k26
        have K6 := (k1.trans k2).trans k26
        have l0 := ans_length 0 L s
        have l1 := ans_length 1 L s
        clear hs2 oa ob oc k4 k5 k45 k6 k26 k1 k2 hM1 hM2 TA
        go_wp2_with fail
        go_loopw [16] (fun q wr => ∃ (j : Nat), j ≤ (ans 0 L s).length ∧ q = .int .i64 (j : Int) ∧ Keeps w6 wr) (fun q _ => (ans 0 L s).length - (intOf q).toNat)
        case atStart => exact ⟨0, by omega, rfl, Below.refl _ _⟩
        case round =>
          obtain ⟨j, hj, rfl, hk⟩ := hrel
          by_cases hlt : j < (ans 0 L s).length
          · have sar := sa.keeps hk
            have scr := sc.keeps hk
            obtain ⟨g, off, e', _, hc⟩ := sar.open (by rw [ints_length]; omega)
            subst e'
            have hcell := hc j _ (ints_get _ _ j hlt)
            have Y := hid (fun m => (has_yes _ _ _ _ (scr.keeps (keeps_drewN wr m)) (ans0_in L s _ (List.getElem_mem hlt))).mono (R' := fun e w' => e = .returned (.bool true) ∧ w' = wr.drewN m) fun _ _ ⟨x, y⟩ => ⟨x, y.symm⟩)
            rcases Nat.eq_zero_or_pos j with h0 | hp
            · subst h0
              simp only [Nat.add_zero] at hcell
              clear hc
              go_wp2_with fail
              go_quiet ((go_at_call 24; exact Calls.quiet_of_same (Y.out _)))
              go_wp2
              go_roundw
              case rel => exact ⟨1, by omega, rfl, hk.trans (keeps_drewN _ _)⟩
              case measure => simp [intOf]; omega
            · obtain ⟨i, rfl⟩ : ∃ i, j = i + 1 := ⟨j - 1, by omega⟩
              have hcell' := hc i _ (ints_get _ _ i (by omega))
              have hwr := wrapN i (by omega)
              have hlt2 := ans_rise 0 L s i hlt
              clear hc
              go_wp2_with fail
              go_quiet ((go_at_call 24; exact Calls.quiet_of_same (Y.out _)))
              go_wp2
              go_roundw
              case rel => exact ⟨i + 1 + 1, by omega, by go_num, hk.trans (keeps_drewN _ _)⟩
              case measure => simp [intOf]; omega
          · go_wp2_with fail
            go_loopw [17] (fun q wr => ∃ (j : Nat), j ≤ (ans 1 L s).length ∧ q = .int .i64 (j : Int) ∧ Keeps w6 wr) (fun q _ => (ans 1 L s).length - (intOf q).toNat)
            case atStart => exact ⟨0, by omega, rfl, hk⟩
            case round =>
              obtain ⟨j, hj, rfl, hk⟩ := hrel
              by_cases hlt : j < (ans 1 L s).length
              · have sar := sb.keeps hk
                have scr := sc.keeps hk
                obtain ⟨g, off, e', _, hc⟩ := sar.open (by rw [ints_length]; omega)
                subst e'
                have hcell := hc j _ (ints_get _ _ j hlt)
                have Y := hid (fun m => (has_yes _ _ _ _ (scr.keeps (keeps_drewN wr m)) (ans1_in L s _ (List.getElem_mem hlt))).mono (R' := fun e w' => e = .returned (.bool true) ∧ w' = wr.drewN m) fun _ _ ⟨x, y⟩ => ⟨x, y.symm⟩)
                rcases Nat.eq_zero_or_pos j with h0 | hp
                · subst h0
                  simp only [Nat.add_zero] at hcell
                  clear hc
                  go_wp2_with fail
                  go_quiet ((go_at_call 24; exact Calls.quiet_of_same (Y.out _)))
                  go_wp2
                  go_roundw
                  case rel => exact ⟨1, by omega, rfl, hk.trans (keeps_drewN _ _)⟩
                  case measure => simp [intOf]; omega
                · obtain ⟨i, rfl⟩ : ∃ i, j = i + 1 := ⟨j - 1, by omega⟩
                  have hcell' := hc i _ (ints_get _ _ i (by omega))
                  have hwr := wrapN i (by omega)
                  have hlt2 := ans_rise 1 L s i hlt
                  clear hc
                  go_wp2_with fail
                  go_quiet ((go_at_call 24; exact Calls.quiet_of_same (Y.out _)))
                  go_wp2
                  go_roundw
                  case rel => exact ⟨i + 1 + 1, by omega, by go_num, hk.trans (keeps_drewN _ _)⟩
                  case measure => simp [intOf]; omega
              · go_wp2_with fail
                have hM7 := hM6.keeps hk
                have TA7 := TA6.keeps hk
                have K7 := K6.trans hk
                have hlt : a % L.length < L.length := Nat.mod_lt _ hpos
                obtain ⟨p, hp⟩ : ∃ p, p = a % L.length := ⟨_, rfl⟩
                rw [← hp] at hlt
                have hpp : (a : Int) % (L.length : Int) = (p : Int) := by rw [hp]; simp
                obtain ⟨g, off, rfl, _, hc⟩ := hM7.outer.open (by rw [hM7.outer.len]; omega)
                obtain ⟨u, hu, hsx⟩ := hM7.inner p hlt
                have hcell := hc _ u hu
                obtain ⟨aox, cx, rfl, hxc, hxm, _⟩ := hsx.value
                have hx16 : (L[p]'hlt).length ≤ 16 := h16.out _ (List.getElem_mem _)
                have hget : L.getD p [] = L[p]'hlt := by simp [hlt]
                generalize L[p]'hlt = x at *
                obtain ⟨i, hi⟩ : ∃ i, i = b % (x.length + 1) := ⟨_, rfl⟩
                have hii : (b : Int) % ((x.length : Int) + 1) = (i : Int) := by rw [hi]; simp
                have hil : i ≤ x.length := by have := Nat.mod_lt b (show 0 < x.length + 1 by omega); omega
                obtain ⟨q, hq⟩ : ∃ q, q = d % (x.length - i + 1) := ⟨_, rfl⟩
                have hqq : (d : Int) % ((x.length : Int) - (i : Int) + 1) = (q : Int) := by
                  rw [hq, show (x.length : Int) - (i : Int) + 1 = ((x.length - i + 1 : Nat) : Int) from by omega]; simp
                have hql : q ≤ x.length - i := by have := Nat.mod_lt d (show 0 < x.length - i + 1 by omega); omega
                obtain ⟨j, hj⟩ : ∃ j, j = i + q := ⟨_, rfl⟩
                have hjj : (i : Int) + (q : Int) = (j : Int) := by omega
                have hjl : j ≤ x.length := by omega
                have hij : i ≤ j := by omega
                have hpos' : (0 : Int) < (L.length : Int) := by omega
                have hpos2 : (0 : Int) < (x.length : Int) + 1 := by omega
                have hpos3 : (0 : Int) < (x.length : Int) - (i : Int) + 1 := by omega
                have S64 : ∀ w, (sizeOf 5).run Try.prog w = .ok 1 w := fun w => by kernel_rfl
                obtain ⟨X1, s11, s12, r1, _⟩ := slice_two (P := Try.prog) (t := 23) (e := 5) (size := 1) Try.underlying23 S64 aox x.length cx i j hij hjl hxc
                obtain ⟨X2, s21, s22, r2, _⟩ := slice_high (P := Try.prog) (t := 23) (e := 5) (size := 1) Try.underlying23 S64 aox x.length cx j hjl hxc
                obtain ⟨X3, s31, s32, r3, _⟩ := slice_low (P := Try.prog) (t := 23) (e := 5) (size := 1) Try.underlying23 S64 aox x.length cx i hil
                have R1 := hid (r1 _ _ hsx)
                have R2 := hid (r2 _ _ hsx)
                have R3 := hid (r3 _ _ hsx)
                have HG := hid hget
                have HJ := hid (And.intro hj (And.intro hi hq))
                clear r1 r2 r3 hc hu hget hj hi hq hp
                go_wp2_with fail
                rw [hpp]
                go_simp
                go_wp2_with fail
                have hx1 : bys ((x.take j).drop i) = ((bys x).take (j * 1)).drop (i * 1) := by simp [bys]
                have hx2 : bys (x.take j) = (bys x).take (j * 1) := by simp [bys]
                have hx3 : bys (x.drop i) = (bys x).drop (i * 1) := by simp [bys]
                have n1 : ((x.take j).drop i).length = j - i := by simp; omega
                have n2 : (x.take j).length = j := by simp; omega
                have n3 : (x.drop i).length = x.length - i := by simp
                have m1 : (p : Int) ∈ ans 2 L ((x.take j).drop i) := (mem_ans2 _ _ _).2 ⟨p, hlt, rfl, by rw [HG.out]; exact (List.drop_suffix _ _).isInfix.trans (List.take_prefix _ _).isInfix⟩
                have m2 : (p : Int) ∈ ans 0 L (x.take j) := (mem_ans0 _ _ _).2 ⟨p, hlt, rfl, by rw [HG.out]; exact List.take_prefix _ _⟩
                have m3 : (p : Int) ∈ ans 1 L (x.drop i) := (mem_ans1 _ _ _).2 ⟨p, hlt, rfl, by rw [HG.out]; exact List.drop_suffix _ _⟩
                have q1 := infix_any TA7 h512 (.slice X1 (j - i) (cx - i)) ((x.take j).drop i) (by rw [hx1, n1]; exact R1.out) (by rw [n1]; omega)
                have q2 := fun wx (k : Keeps wr wx) => prefix_any (TA7.keeps k) h512 (.slice X2 j cx) (x.take j) (by rw [hx2, n2]; exact R2.out.keeps k) (by rw [n2]; omega)
                have q3 := fun wx (k : Keeps wr wx) => suffix_any (TA7.keeps k) h512 (.slice X3 (x.length - i) (cx - i)) (x.drop i) (by rw [hx3, n3]; exact R3.out.keeps k) (by rw [n3]; omega)
                have Q2 := hid q2
                have Q3 := hid q3
                have M1 := hid m1
                have M2 := hid m2
                have M3 := hid m3
                clear hx1 hx2 hx3 n1 n2 n3 m1 m2 m3 q2 q3
                refine q1.mono ?_
                rintro e w8 ⟨vp, rfl, op, k8⟩
                go_wp2_with fail
                refine (has_yes w8 _ _ _ (ownsRow_sl op) M1.out).mono ?_
                rintro e w9 ⟨rfl, rfl⟩
                go_wp2_with fail
                refine (Q2.out w8 k8).mono ?_
                rintro e w9 ⟨vq, rfl, oq, k9⟩
                go_wp2_with fail
                refine (has_yes w9 _ _ _ (ownsRow_sl oq) M2.out).mono ?_
                rintro e w10 ⟨rfl, rfl⟩
                go_wp2_with fail
                refine (Q3.out w9 (k8.trans k9)).mono ?_
                rintro e w10 ⟨vr, B10, rfl, or, _, k10⟩
                go_wp2_with fail
                refine (has_yes w10 _ _ _ (ownsRow_sl or) M3.out).mono ?_
                rintro e w11 ⟨rfl, rfl⟩
                go_wp2
                go_ret
                exact ⟨rfl, ((K7.trans k8).trans k9).trans k10⟩
  · refine (new_long w1 v L vs hM1 hR).mono ?_
    rintro e w2 ⟨rfl, rfl⟩
    go_wp2
    go_ret
    exact ⟨rfl, k1⟩
end Go.Proofs.Ytgofjdkpnmoedaa
