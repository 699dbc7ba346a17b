/- The law DelsBack, walked. -/
import Derived.Test.YtegonlmhaobgcaaDelsD
import Derived.Test.YtegonlmhaobgcaaDelsStay
import Derived.Deep.RegionHeld
set_option linter.unusedSimpArgs false
set_option linter.unusedVariables false
namespace Go.Proofs.Ytegonlmhaobgcaa
open Go.RowKit Go.Vb

/-- SameNums, of like lists. -/
theorem same_nums (w : World) (v u : Value) (xs : List Int) (hv : Sl w v 1 xs.length (ints .i64 xs)) (hu : Sl w u 1 xs.length (ints .i64 xs)) :
    Calls Try.prog 17 #[v, u] w fun e w' => e = .returned (.bool true) ∧ Keeps w w' := by
  obtain ⟨ao, c, rfl, h1, h2, _⟩ := hv.value
  have hsz : xs.length ≤ 9223372036854775807 := by unfold maxLen at h2; omega
  obtain ⟨ao2, c2, rfl, _⟩ := hu.value
  go_enter Try.func17, Try.ntmps17
  go_wp2_with fail
  go_loopw [5] (fun t wr => ∃ j : Nat, j ≤ xs.length ∧ t = .int .i64 (j : Int) ∧ Keeps w wr) (fun t _ => xs.length - (intOf t).toNat)
  case atStart => exact ⟨0, by omega, rfl, Below.refl _ _⟩
  case round =>
    obtain ⟨j, hj, rfl, hk⟩ := hrel
    by_cases hlt : j < xs.length
    · obtain ⟨b, off, rfl, hb, hc⟩ := (hv.keeps hk).open (by rw [ints_length]; omega)
      obtain ⟨b2, off2, rfl, hb2, hc2⟩ := (hu.keeps hk).open (by rw [ints_length]; omega)
      have hcell := hc j _ (ints_get _ xs j hlt)
      have hcell2 := hc2 j _ (ints_get _ xs j hlt)
      clear hc hc2
      go_wp2_with fail
      go_quiet (fail)
      go_wp2
      go_roundw
      case rel => exact ⟨j + 1, by omega, by go_num, hk.trans (keeps_drewN _ _)⟩
      case measure => simp [intOf]; omega
    · go_wp2
      go_ret
      exact ⟨rfl, hk⟩

set_option maxRecDepth 100000 in
set_option maxHeartbeats 1500000 in
theorem back_walk (w : World) (a : Int) (xv bv : Value) (l : List Int) (s : List UInt8) (ha : (Lit.int .u8 a).wf = true) (hx : Sl w xv 1 l.length (ints .i64 l)) (hxl : l.length ≤ 140737488351232) (hb : Sl w bv 1 s.length (bys s)) (hbl : s.length ≤ 140737488351232) :
    Calls Try.prog 6 #[.int .u8 a, xv, bv] w fun e w' => e = .returned (.bool true) ∧ Keeps w w' := by
  simp only [Lit.wf, Bool.and_eq_true, decide_eq_true_eq] at ha
  have ha2 : 0 ≤ a ∧ a ≤ 255 := ha
  clear ha
  obtain ⟨n, rfl⟩ := Int.eq_ofNat_of_zero_le ha2.1
  obtain ⟨aox, cx, rfl, _⟩ := hx.value
  obtain ⟨aob, cb, rfl, _⟩ := hb.value
  go_enter Try.func6, Try.ntmps6
  go_wp2_with fail
  refine (head_any w).mono ?_
  rintro e w1 ⟨rfl, k1⟩
  have hx1 := hx.keeps k1
  have hb1 := hb.keeps k1
  clear hx hb
  go_wp2_with fail
  by_cases hn64 : n ≤ 64
  · refine (new_at w1 n hn64).mono ?_
    rintro e w2 ⟨D, rfl, d2, hD, k2⟩
    by_cases hl5 : 500 < l.length
    · have hl5' : (500 : Int) < (l.length : Int) := by omega
      go_wp2
      go_ret
      exact ⟨rfl, k1.trans k2⟩
    · have hl5' : (l.length : Int) ≤ 500 := by omega
      by_cases hs5 : 5000 < s.length
      · have hs5' : (5000 : Int) < (s.length : Int) := by omega
        go_wp2
        go_ret
        exact ⟨rfl, k1.trans k2⟩
      · have hs5' : (s.length : Int) ≤ 5000 := by omega
        go_wp2_with fail
        go_loopw [9] (fun q wr => ∃ (j : Nat) (S : Nat → Bool), j ≤ l.length ∧ q = .int .i64 (j : Int) ∧ DelsAt wr D n S ∧ Keeps w1 wr) (fun q _ => l.length - (intOf q).toNat)
        case atStart => exact ⟨0, _, by omega, rfl, d2, k2⟩
        case round =>
          obtain ⟨j, S, hj, rfl, hd, hk⟩ := hrel
          by_cases hlt : j < l.length
          · obtain ⟨b, off, rfl, _, hc⟩ := (hx1.keeps hk).open (by rw [ints_length]; omega)
            have hcell := hc j _ (ints_get _ l j hlt)
            clear hc
            go_wp2_with fail
            refine (add_any hd (l[j]'hlt)).mono ?_
            rintro e w3 ⟨rfl, hd3, hm3⟩
            have k3 := keeps_new hk hm3 (fun b hb => by omega)
            go_wp2
            go_roundw
            case rel => exact ⟨j + 1, _, by omega, by go_num, hd3, k3⟩
            case measure => simp [intOf]; omega
          · have hval : Valid n S := ⟨hn64, hd.out⟩
            have hpl := putOf_length n S hn64
            clear hx1 k2 d2
            go_wp2_with fail
            refine (put_any hd).mono ?_
            rintro e w3 ⟨v3, rfl, o3, k3⟩
            have s3 := ownsRow_sl o3
            have hd3 := hd.keeps k3
            obtain ⟨a3, c3, rfl⟩ := ownsRow_slice o3
            have hfl : (frameOf (putOf n S)).length ≤ 100 := by
              have h := lebOf_len 0 (putOf n S).length (by omega)
              unfold frameOf
              simp only [List.length_append, four_length]
              omega
            have hG := dels_Get w3 _ _ s3 (by omega)
            have HV := hid hval
            clear hpl hfl s3 o3 hval
            go_wp2_with fail
            refine hG.mono ?_
            rintro e w4 ⟨hres, k4⟩
            rcases hres with ⟨n', S', D', hv', he, hd', _, rfl⟩ | ⟨hno, rfl⟩
            · obtain ⟨rfl, rfl⟩ := dels_inj _ _ _ _ HV.out hv' he
              have hd4 := hd3.keeps k4
              have hk4 := (hk.trans k3).trans k4
              clear he hG hd3 hd
              go_wp2_with fail
              refine (size_any hd').mono ?_
              rintro e w5 ⟨rfl, rfl⟩
              go_wp2_with fail
              refine (size_any hd4).mono ?_
              rintro e w6 ⟨rfl, rfl⟩
              go_wp2_with fail
              refine (many_any hd').mono ?_
              rintro e w7 ⟨rfl, k7⟩
              go_wp2_with fail
              refine (many_any (hd4.keeps k7)).mono ?_
              rintro e w8 ⟨rfl, k8⟩
              go_wp2_with fail
              refine (live_any ((hd'.keeps k7).keeps k8)).mono ?_
              rintro e w9 ⟨v9, rfl, o9, k9⟩
              obtain ⟨a9, c9, rfl⟩ := ownsRow_slice o9
              go_wp2_with fail
              refine (live_any (((hd4.keeps k7).keeps k8).keeps k9)).mono ?_
              rintro e w10 ⟨v10, rfl, o10, k10⟩
              obtain ⟨a10, c10, rfl⟩ := ownsRow_slice o10
              go_wp2_with fail
              refine (same_nums w10 _ _ _ ((ownsRow_sl o9).keeps k10) (ownsRow_sl o10)).mono ?_
              rintro e w11 ⟨rfl, k11⟩
              have K11 := (((hk4.trans k7).trans k8).trans (k9.trans k10)).trans k11
              have hb11 := hb1.keeps K11
              have hG2 := dels_Get w11 _ s hb11 (by omega)
              clear o9 o10
              go_wp2_with fail
              refine hG2.mono ?_
              rintro e w12 ⟨hres2, k12⟩
              rcases hres2 with ⟨m, T, E, hvT, heT, hdT, _, rfl⟩ | ⟨hno2, rfl⟩
              · have hp12 := put_any (hdT.keeps (show Keeps w12 w12.drew from keeps_drewN w12 1))
                rw [← heT] at hp12
                have hb12 := (hb11.keeps k12).keeps (show Keeps w12 w12.drew from keeps_drewN w12 1)
                have HET := hid heT
                clear heT hG2 hb11
                have hself : (s == s) = true := by simp
                go_wp2_with fail
                have S0c := conv_bytes Try.underlying30 Try.underlying5 Try.underlying9 hb12
                go_region_held (fun w' => (convert 30 9 (.slice aob s.length cb)).run Try.prog w' = .ok (.string ⟨s.toArray⟩) w') (first | exact cv2 | exact S0c | go_keep)
                  ((go_at_call 13; refine hp12.mono ?_; rintro e w13 ⟨v13, rfl, o13, k13⟩; have cv1 := conv_bytes Try.underlying30 Try.underlying5 Try.underlying9 (ownsRow_sl o13); have cv2 := conv_bytes Try.underlying30 Try.underlying5 Try.underlying9 (hb12.keeps k13); obtain ⟨a13, c13, rfl⟩ := ownsRow_slice o13))
                all_goals (go_wp2; go_ret; exact ⟨rfl, (k1.trans K11).trans (k12.trans ((show Keeps w12 w12.drew from keeps_drewN w12 1).trans k13))⟩)
              · go_wp2
                go_ret
                exact ⟨rfl, (k1.trans K11).trans k12⟩
            · exact absurd ⟨n, S, HV.out, rfl⟩ hno
  · refine (new_out w1 n (by omega)).mono ?_
    rintro e w2 ⟨rfl, rfl⟩
    have hbig : (64 : Int) < (n : Int) := by omega
    by_cases hl5 : 500 < l.length
    · have hl5' : (500 : Int) < (l.length : Int) := by omega
      go_wp2
      go_ret
      exact ⟨rfl, k1⟩
    · have hl5' : (l.length : Int) ≤ 500 := by omega
      by_cases hs5 : 5000 < s.length
      · have hs5' : (5000 : Int) < (s.length : Int) := by omega
        go_wp2
        go_ret
        exact ⟨rfl, k1⟩
      · have hs5' : (s.length : Int) ≤ 5000 := by omega
        go_wp2
        go_ret
        exact ⟨rfl, k1⟩
end Go.Proofs.Ytegonlmhaobgcaa
