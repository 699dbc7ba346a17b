/- The document's Get of layer 3. -/
import Derived.Test.YtegonlmhaobgcaaRefLeb
set_option linter.unusedSimpArgs false
set_option linter.unusedVariables false
namespace Go.Proofs.Ytegonlmhaobgcaa
open Go.RowKit Go.Vb
theorem and_127' (x : Nat) (h : x < 256) : bits .and .u8 (x : Int) 127 = ((x % 128 : Nat) : Int) := by
  have hh : ∀ y : Fin 256, bits .and .u8 ((y.val : Nat) : Int) 127 = ((y.val % 128 : Nat) : Int) := by decide +kernel
  exact hh ⟨x, h⟩
set_option maxRecDepth 100000 in
set_option maxHeartbeats 1000000 in
theorem ref_Get (w : World) (v : Value) (s : List UInt8) (hv : Sl w v 1 s.length (bys s)) : Calls Try.prog 51 #[v] w fun e w' => e = .returned (.tuple #[.int .u64 ((getFrom 0 0 s).1 : Int), .int .i64 ((getFrom 0 0 s).2.1 : Int), .int .i64 ((getFrom 0 0 s).2.2 : Int)]) ∧ w' = w := by
  obtain ⟨ao, c, rfl, h1, h2, _⟩ := hv.value
  have hsz : s.length ≤ 9223372036854775807 := by unfold maxLen at h2; omega
  go_enter Try.func51, Try.ntmps51
  go_wp2_with fail
  go_loopw [5, 6] (fun a i wr => ∃ (j m : Nat), j ≤ s.length ∧ j ≤ 9 ∧ i = .int .i64 (j : Int) ∧ a = .int .u64 (m : Int) ∧ m < 128 ^ j ∧ getFrom j m (s.drop j) = getFrom 0 0 s ∧ wr = w) (fun _ i _ => 10 - (intOf i).toNat)
  case atStart => exact ⟨0, 0, by omega, by omega, rfl, rfl, by omega, rfl, rfl⟩
  case round =>
    obtain ⟨j, m, hj, hj9, rfl, rfl, hm, hg, rfl⟩ := hrel
    have HG := hid hg
    have hj10 : (j : Int) < 10 := by omega
    clear hg
    by_cases hlt : j < s.length
    · have hlt' : (j : Int) < (s.length : Int) := by omega
      obtain ⟨b, off, rfl, hb, hcl⟩ := hv.open (by rw [bys_length]; omega)
      have hcell : wr.cell? ⟨b, off + j, none⟩ = some (.int .u8 (((s[j]'hlt).toNat : Nat) : Int)) := hcl j _ (by simp [bys, hlt])
      have hx := UInt8.toNat_lt (s[j]'hlt)
      have HD := hid (List.drop_eq_getElem_cons hlt)
      clear hcl
      generalize s[j]'hlt = ch at *
      obtain ⟨x, ex⟩ : ∃ x, ch.toNat = x := ⟨_, rfl⟩
      have HX := hid ex
      have hx255 : x < 256 := by rw [← ex]; exact hx
      simp only [ex] at hcell
      clear ex hx
      by_cases hj9' : j = 9
      · subst hj9'
        by_cases hx1 : 1 < x
        · have hx1' : (1 : Int) < (x : Int) := by omega
          have hr : getFrom 0 0 s = (0, 0, 32) := by rw [← HG.out, HD.out]; rw [getFrom_cons]; rw [if_pos (by rw [HX.out]; omega)]
          have HRR := hid hr
          clear hr
          go_wp2
          go_ret3
          exact ⟨by rw [HRR.out]; rfl, rfl⟩
        · have hx1' : (x : Int) ≤ 1 := by omega
          by_cases hx0 : x = 0
          · subst hx0
            have hr : getFrom 0 0 s = (0, 0, 32) := by rw [← HG.out, HD.out]; rw [getFrom_cons]; rw [if_pos (by rw [HX.out]; omega)]
            have HRR := hid hr
            clear hr
            go_wp2
            go_ret3
            exact ⟨by rw [HRR.out]; rfl, rfl⟩
          · obtain rfl : x = 1 := by omega
            have hr : getFrom 0 0 s = (m + 1 * 128 ^ 9, 9 + 1, 0) := by rw [← HG.out, HD.out]; rw [getFrom_cons]; rw [if_neg (by rw [HX.out]; omega), if_pos (by rw [HX.out]; omega), HX.out]
            have hor0 := or_leb m 1 9 hm (by omega) (leb_small m 9 hm (by omega))
            have hor : bits .or .u64 (m : Int) 9223372036854775808 = ((m + 1 * 128 ^ 9 : Nat) : Int) := by
              rw [← hor0]; congr 1
            have hand : bits .and .u8 1 127 = 1 := by decide +kernel
            have HRR := hid hr
            clear hr hor0
            go_wp2_with fail
            go_ret3
            exact ⟨by rw [HRR.out]; simp, rfl⟩
      · have hj9b : ((j : Int) == 9) = false := by rw [beq_eq_false_iff_ne]; omega
        by_cases hj0 : 0 < j
        · have hj0' : (0 : Int) < (j : Int) := by omega
          by_cases hx0 : x = 0
          · subst hx0
            have hr : getFrom 0 0 s = (0, 0, 32) := by rw [← HG.out, HD.out]; rw [getFrom_cons]; rw [if_pos (by rw [HX.out]; omega)]
            have HRR := hid hr
            clear hr
            go_wp2
            go_ret3
            exact ⟨by rw [HRR.out]; rfl, rfl⟩
          · have hx0' : ((x : Int) == 0) = false := by rw [beq_eq_false_iff_ne]; omega
            by_cases hx128 : x < 128
            · have hx128' : (x : Int) < 128 := by omega
              have hr : getFrom 0 0 s = (m + x * 128 ^ j, j + 1, 0) := by rw [← HG.out, HD.out]; rw [getFrom_cons]; rw [if_neg (by rw [HX.out]; omega), if_pos (by rw [HX.out]; omega), HX.out]
              have hor := or_leb m x j hm (leb_fit x j (by omega) (by omega)) (leb_small m j hm (by omega))
              have hand := and_127' x (by omega)
              rw [Nat.mod_eq_of_lt hx128] at hand
              have HRR := hid hr
              clear hr
              go_wp2_with fail
              go_ret3
              exact ⟨by rw [HRR.out]; simp, rfl⟩
            · have hx128' : (128 : Int) ≤ (x : Int) := by omega
              have hr : getFrom (j + 1) (m + (x - 128) * 128 ^ j) (s.drop (j + 1)) = getFrom 0 0 s := by rw [← HG.out, HD.out]; rw [getFrom_cons]; rw [if_neg (by rw [HX.out]; omega), if_neg (by rw [HX.out]; omega), HX.out]
              have hor := or_leb m (x - 128) j hm (leb_fit _ j (by omega) (by omega)) (leb_small m j hm (by omega))
              have hand := and_127 x (by omega)
              have hmm := leb_grow m (x - 128) j hm (by omega)
              have HR := hid hr
              have HMM := hid hmm
              clear hr hmm
              go_wp2_with fail
              go_roundw
              case rel => exact ⟨j + 1, m + (x - 128) * 128 ^ j, by omega, by omega, by go_num, by simp, HMM.out, HR.out, trivial⟩
              case measure => simp [intOf]; omega
        · have hj0' : (j : Int) ≤ 0 := by omega
          by_cases hx128 : x < 128
          · have hx128' : (x : Int) < 128 := by omega
            by_cases hx0 : x = 0
            · subst hx0
              have hr : getFrom 0 0 s = (m + 0 * 128 ^ j, j + 1, 0) := by rw [← HG.out, HD.out]; rw [getFrom_cons]; rw [if_neg (by rw [HX.out]; omega), if_pos (by rw [HX.out]; omega), HX.out]
              have hor := or_leb m 0 j hm (by omega) (leb_small m j hm (by omega))
              have hw0 : IntKind.u64.wrap (((0 : Nat) : Int) * 2 ^ (7 * j)) = 0 := by simp; decide
              have hw1 : IntKind.u64.wrap 0 = 0 := by decide
              rw [hw0] at hor
              have hor2 : bits .or .u64 (m : Int) 0 = (m : Int) := by rw [hor]; simp
              have hand : bits .and .u8 0 127 = 0 := by decide +kernel
              have HRR := hid hr
              clear hr hor hw0
              go_wp2_with fail
              go_ret3
              exact ⟨by rw [HRR.out]; simp, rfl⟩
            · have hx0' : ((x : Int) == 0) = false := by rw [beq_eq_false_iff_ne]; omega
              have hr : getFrom 0 0 s = (m + x * 128 ^ j, j + 1, 0) := by rw [← HG.out, HD.out]; rw [getFrom_cons]; rw [if_neg (by rw [HX.out]; omega), if_pos (by rw [HX.out]; omega), HX.out]
              have hor := or_leb m x j hm (leb_fit x j (by omega) (by omega)) (leb_small m j hm (by omega))
              have hand := and_127' x (by omega)
              rw [Nat.mod_eq_of_lt hx128] at hand
              have HRR := hid hr
              clear hr
              go_wp2_with fail
              go_ret3
              exact ⟨by rw [HRR.out]; simp, rfl⟩
          · have hx128' : (128 : Int) ≤ (x : Int) := by omega
            have hx0' : ((x : Int) == 0) = false := by rw [beq_eq_false_iff_ne]; omega
            have hr : getFrom (j + 1) (m + (x - 128) * 128 ^ j) (s.drop (j + 1)) = getFrom 0 0 s := by rw [← HG.out, HD.out]; rw [getFrom_cons]; rw [if_neg (by rw [HX.out]; omega), if_neg (by rw [HX.out]; omega), HX.out]
            have hor := or_leb m (x - 128) j hm (leb_fit _ j (by omega) (by omega)) (leb_small m j hm (by omega))
            have hand := and_127 x (by omega)
            have hmm := leb_grow m (x - 128) j hm (by omega)
            have HR := hid hr
            have HMM := hid hmm
            clear hr hmm
            go_wp2_with fail
            go_roundw
            case rel => exact ⟨j + 1, m + (x - 128) * 128 ^ j, by omega, by omega, by go_num, by simp, HMM.out, HR.out, trivial⟩
            case measure => simp [intOf]; omega
    · have hr : getFrom 0 0 s = (0, 0, 31) := by rw [← HG.out, List.drop_of_length_le (by omega)]; rfl
      have hge : (s.length : Int) ≤ (j : Int) := by omega
      have HRR := hid hr
      clear hr
      go_wp2
      go_ret3
      exact ⟨by rw [HRR.out]; rfl, rfl⟩
end Go.Proofs.Ytegonlmhaobgcaa
