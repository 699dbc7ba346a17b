/- leb.Get: the number that bytes begin with. -/
import Derived.Test.YtlmlanaobhfmbaaLebA
import Derived.RegionTactic
import Derived.Deep.RegionWith
import Derived.OwnWalk
set_option linter.unusedSimpArgs false
set_option linter.unusedVariables false
namespace Go.Proofs.Ytlmlanaobhfmbaa
open Go.RowKit Go.Vb
def getFrom : Nat → Nat → List UInt8 → Nat × Nat × Nat
  | _, _, [] => (0, 0, 31)
  | i, a, c :: r => if (i = 9 ∧ 1 < c.toNat) ∨ (0 < i ∧ c.toNat = 0) then (0, 0, 32) else if c.toNat < 128 then (a + c.toNat * 128 ^ i, i + 1, 0) else getFrom (i + 1) (a + (c.toNat - 128) * 128 ^ i) r
theorem getFrom_cons (i a : Nat) (c : UInt8) (r : List UInt8) : getFrom i a (c :: r) = if (i = 9 ∧ 1 < c.toNat) ∨ (0 < i ∧ c.toNat = 0) then (0, 0, 32) else if c.toNat < 128 then (a + c.toNat * 128 ^ i, i + 1, 0) else getFrom (i + 1) (a + (c.toNat - 128) * 128 ^ i) r := rfl
theorem p128 (j : Nat) : (2 : Nat) ^ (7 * j) = 128 ^ j := by rw [Nat.pow_mul]
theorem or_nat (a b : Nat) (ha : a < 18446744073709551616) (hb : b < 18446744073709551616) : bits .or .u64 (a : Int) (b : Int) = ((a ||| b : Nat) : Int) := by
  have h : bits .or .u64 (a : Int) (b : Int) = IntKind.u64.wrap ((BitVec.ofInt 64 (a : Int) ||| BitVec.ofInt 64 (b : Int)).toNat : Int) := rfl
  have hc : a ||| b < 2 ^ 64 := Nat.or_lt_two_pow (by omega) (by omega)
  have e : ∀ x : Nat, x < 18446744073709551616 → (BitVec.ofInt 64 (x : Int)).toNat = x := fun x hx => by
    rw [BitVec.ofInt_natCast, BitVec.toNat_ofNat]; exact Nat.mod_eq_of_lt hx
  rw [h, BitVec.toNat_or, e a ha, e b hb]
  exact IntWalk.u64_in _ (by omega)
theorem or_leb (m x j : Nat) (hm : m < 128 ^ j) (hx : x * 128 ^ j < 18446744073709551616) (hm2 : m < 18446744073709551616) : bits .or .u64 (m : Int) (IntKind.u64.wrap ((x : Int) * 2 ^ (7 * j))) = ((m + x * 128 ^ j : Nat) : Int) := by
  have e1 : ((x : Int) * 2 ^ (7 * j)) = ((x * 128 ^ j : Nat) : Int) := by rw [← p128]; push_cast; rfl
  have e2 : IntKind.u64.wrap ((x * 128 ^ j : Nat) : Int) = ((x * 128 ^ j : Nat) : Int) := IntWalk.u64_in _ (by omega)
  rw [e1, e2, or_nat _ _ hm2 hx]
  have h := Nat.shiftLeft_add_eq_or_of_lt (i := 7 * j) (b := m) (by rw [p128]; exact hm) x
  rw [Nat.shiftLeft_eq, p128] at h
  rw [Nat.or_comm, ← h, Nat.add_comm]
theorem and_127 (x : Nat) (h : 128 ≤ x ∧ x < 256) : bits .and .u8 (x : Int) 127 = ((x - 128 : Nat) : Int) := by
  have hh : ∀ y : Fin 256, 128 ≤ y.val → bits .and .u8 ((y.val : Nat) : Int) 127 = ((y.val - 128 : Nat) : Int) := by decide +kernel
  exact hh ⟨x, h.2⟩ h.1
theorem leb_grow (m x j : Nat) (hm : m < 128 ^ j) (hx : x < 128) : m + x * 128 ^ j < 128 ^ (j + 1) := by
  rw [Nat.pow_succ]
  have : x * 128 ^ j ≤ 127 * 128 ^ j := Nat.mul_le_mul_right _ (by omega)
  omega
theorem leb_fit (x j : Nat) (hx : x < 128) (hj : j ≤ 8) : x * 128 ^ j < 18446744073709551616 := by
  have h1 : 128 ^ j ≤ 128 ^ 8 := Nat.pow_le_pow_right (by omega) hj
  have h2 : x * 128 ^ j ≤ 127 * 128 ^ 8 := Nat.mul_le_mul (by omega) h1
  omega

theorem leb_small (m j : Nat) (hm : m < 128 ^ j) (hj : j ≤ 9) : m < 18446744073709551616 := by
  have h1 : 128 ^ j ≤ 128 ^ 9 := Nat.pow_le_pow_right (by omega) hj
  omega
def GetTuple (r : Nat × Nat × Nat) : Value := .tuple #[.int .u64 (r.1 : Int), .int .i64 (r.2.1 : Int), .int .i64 (r.2.2 : Int)]
set_option maxRecDepth 100000 in
set_option maxHeartbeats 1000000 in
theorem leb_Get (w : World) (v : Value) (s : List UInt8) (hv : Sl w v 1 s.length (bys s)) : Calls Try.prog 109 #[v] w fun e w' => e = .returned (.tuple #[.int .u64 ((getFrom 0 0 s).1 : Int), .int .i64 ((getFrom 0 0 s).2.1 : Int), .int .i64 ((getFrom 0 0 s).2.2 : Int)]) ∧ w' = w := by
  obtain ⟨ao, c, rfl, h1, h2, _⟩ := hv.value
  have hsz : s.length ≤ 9223372036854775807 := by unfold maxLen at h2; omega
  go_enter Try.func109, Try.ntmps109
  go_wp2_with fail
  go_loopw [5, 10] (fun a i wr => ∃ (j m : Nat), j ≤ s.length ∧ j ≤ 9 ∧ i = .int .i64 (j : Int) ∧ a = .int .u64 (m : Int) ∧ m < 128 ^ j ∧ getFrom j m (s.drop j) = getFrom 0 0 s ∧ wr = w) (fun _ i _ => s.length - (intOf i).toNat)
  case atStart => exact ⟨0, 0, by omega, by omega, rfl, rfl, by omega, rfl, rfl⟩
  case round =>
    obtain ⟨j, m, hj, hj9, rfl, rfl, hm, hg, rfl⟩ := hrel
    have HG := hid hg
    clear hg
    by_cases hlt : j < s.length
    · obtain ⟨b, off, rfl, hb, hcl⟩ := hv.open (by rw [bys_length]; omega)
      have hcell : wr.cell? ⟨b, off + j, none⟩ = some (.int .u8 (((s[j]'hlt).toNat : Nat) : Int)) := hcl j _ (by simp [bys, hlt])
      have hx := UInt8.toNat_lt (s[j]'hlt)
      have HD := hid (List.drop_eq_getElem_cons hlt)
      clear hcl
      generalize s[j]'hlt = ch at *
      obtain ⟨x, ex⟩ : ∃ x, ch.toNat = x := ⟨_, rfl⟩
      have HX := hid ex
      have hx255 : x < 256 := by rw [← ex]; exact hx
      simp only [ex] at hcell
      clear ex hx
      by_cases hj9' : j = 9
      · subst hj9'
        by_cases hx1 : 1 < x
        · have hx1' : (1 : Int) < (x : Int) := by omega
          have hr : getFrom 0 0 s = (0, 0, 32) := by rw [← HG.out, HD.out]; rw [getFrom_cons]; rw [if_pos (by rw [HX.out]; omega)]
          have HRR := hid hr
          clear hr
          go_wp2
          go_ret3
          exact ⟨by rw [HRR.out]; rfl, rfl⟩
        · have hx1' : (x : Int) ≤ 1 := by omega
          by_cases hx0 : x = 0
          · subst hx0
            have hr : getFrom 0 0 s = (0, 0, 32) := by rw [← HG.out, HD.out]; rw [getFrom_cons]; rw [if_pos (by rw [HX.out]; omega)]
            have HRR := hid hr
            clear hr
            go_wp2
            go_ret3
            exact ⟨by rw [HRR.out]; rfl, rfl⟩
          · obtain rfl : x = 1 := by omega
            have hr : getFrom 0 0 s = (m + 1 * 128 ^ 9, 9 + 1, 0) := by rw [← HG.out, HD.out]; rw [getFrom_cons]; rw [if_neg (by rw [HX.out]; omega), if_pos (by rw [HX.out]; omega), HX.out]
            have hor0 := or_leb m 1 9 hm (by omega) (leb_small m 9 hm (by omega))
            have hor : bits .or .u64 (m : Int) 9223372036854775808 = ((m + 1 * 128 ^ 9 : Nat) : Int) := by
              rw [← hor0]; congr 1
            have HRR := hid hr
            clear hr hor0
            go_wp2_with fail
            go_ret3
            exact ⟨by rw [HRR.out]; simp, rfl⟩
      · have hj9b : ((j : Int) == 9) = false := by rw [beq_eq_false_iff_ne]; omega
        by_cases hj0 : 0 < j
        · have hj0' : (0 : Int) < (j : Int) := by omega
          by_cases hx0 : x = 0
          · subst hx0
            have hr : getFrom 0 0 s = (0, 0, 32) := by rw [← HG.out, HD.out]; rw [getFrom_cons]; rw [if_pos (by rw [HX.out]; omega)]
            have HRR := hid hr
            clear hr
            go_wp2
            go_ret3
            exact ⟨by rw [HRR.out]; rfl, rfl⟩
          · have hx0' : ((x : Int) == 0) = false := by rw [beq_eq_false_iff_ne]; omega
            by_cases hx128 : x < 128
            · have hx128' : (x : Int) < 128 := by omega
              have hr : getFrom 0 0 s = (m + x * 128 ^ j, j + 1, 0) := by rw [← HG.out, HD.out]; rw [getFrom_cons]; rw [if_neg (by rw [HX.out]; omega), if_pos (by rw [HX.out]; omega), HX.out]
              have hor := or_leb m x j hm (leb_fit _ j (by omega) (by omega)) (leb_small m j hm (by omega))
              have HRR := hid hr
              clear hr
              go_wp2_with fail
              go_ret3
              exact ⟨by rw [HRR.out]; simp, rfl⟩
            · have hx128' : (128 : Int) ≤ (x : Int) := by omega
              have hr : getFrom (j + 1) (m + (x - 128) * 128 ^ j) (s.drop (j + 1)) = getFrom 0 0 s := by rw [← HG.out, HD.out]; rw [getFrom_cons]; rw [if_neg (by rw [HX.out]; omega), if_neg (by rw [HX.out]; omega), HX.out]
              have hor := or_leb m (x - 128) j hm (leb_fit _ j (by omega) (by omega)) (leb_small m j hm (by omega))
              have hand := and_127 x (by omega)
              have hmm := leb_grow m (x - 128) j hm (by omega)
              have HR := hid hr
              have HMM := hid hmm
              clear hr hmm
              go_wp2_with fail
              go_roundw
              case rel => exact ⟨j + 1, m + (x - 128) * 128 ^ j, by omega, by omega, by go_num, by simp, HMM.out, HR.out, trivial⟩
              case measure => simp [intOf]; omega
        · have hj0' : (j : Int) ≤ 0 := by omega
          by_cases hx128 : x < 128
          · have hx128' : (x : Int) < 128 := by omega
            have hr : getFrom 0 0 s = (m + x * 128 ^ j, j + 1, 0) := by rw [← HG.out, HD.out]; rw [getFrom_cons]; rw [if_neg (by rw [HX.out]; omega), if_pos (by rw [HX.out]; omega), HX.out]
            have hor := or_leb m x j hm (leb_fit _ j (by omega) (by omega)) (leb_small m j hm (by omega))
            have HRR := hid hr
            clear hr
            go_wp2_with fail
            go_ret3
            exact ⟨by rw [HRR.out]; simp, rfl⟩
          · have hx128' : (128 : Int) ≤ (x : Int) := by omega
            have hr : getFrom (j + 1) (m + (x - 128) * 128 ^ j) (s.drop (j + 1)) = getFrom 0 0 s := by rw [← HG.out, HD.out]; rw [getFrom_cons]; rw [if_neg (by rw [HX.out]; omega), if_neg (by rw [HX.out]; omega), HX.out]
            have hor := or_leb m (x - 128) j hm (leb_fit _ j (by omega) (by omega)) (leb_small m j hm (by omega))
            have hand := and_127 x (by omega)
            have hmm := leb_grow m (x - 128) j hm (by omega)
            have HR := hid hr
            have HMM := hid hmm
            clear hr hmm
            go_wp2_with fail
            go_roundw
            case rel => exact ⟨j + 1, m + (x - 128) * 128 ^ j, by omega, by omega, by go_num, by simp, HMM.out, HR.out, trivial⟩
            case measure => simp [intOf]; omega
    · have hr : getFrom 0 0 s = (0, 0, 31) := by rw [← HG.out, List.drop_of_length_le (by omega)]; rfl
      have HRR := hid hr
      clear hr
      go_wp2
      go_ret3
      exact ⟨by rw [HRR.out]; rfl, rfl⟩
end Go.Proofs.Ytlmlanaobhfmbaa
