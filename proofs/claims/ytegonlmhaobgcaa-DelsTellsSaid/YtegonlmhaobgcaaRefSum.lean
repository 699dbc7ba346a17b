/- The document's sum, walked. -/
import Derived.Test.YtegonlmhaobgcaaRefCrc
set_option linter.unusedSimpArgs false
set_option linter.unusedVariables false
namespace Go.Proofs.Ytegonlmhaobgcaa
open Go.RowKit Go.Vb
theorem refSteps_range (k : Nat) (s : Int) (h : 0 ≤ s ∧ s < 4294967296) : 0 ≤ refSteps k s ∧ refSteps k s < 4294967296 := by
  induction k with
  | zero => exact h
  | succ k ih =>
    obtain ⟨n, hn⟩ := Int.eq_ofNat_of_zero_le ih.1
    show 0 ≤ refStep (refSteps k s) ∧ refStep (refSteps k s) < 4294967296
    rw [hn]
    exact (refStep_vec n (by omega)).2
set_option maxHeartbeats 1000000 in
set_option maxRecDepth 100000 in
theorem ref_More (w : World) (v : Value) (s : List UInt8) (c : Int) (hc : 0 ≤ c ∧ c ≤ 4294967295) (hv : Sl w v 1 s.length (bys s)) : Calls Try.prog 55 #[.int .u32 c, v] w fun e w' => e = .returned (.int .u32 (crcOf c s)) ∧ w' = w := by
  obtain ⟨ao, cp, rfl, h1, h2, _⟩ := hv.value
  have hsz : s.length ≤ 9223372036854775807 := by unfold maxLen at h2; omega
  go_enter Try.func55, Try.ntmps55
  go_wp2_with fail
  go_loopw [5, 6] (fun q i wr => ∃ j : Nat, j ≤ s.length ∧ i = .int .i64 (j : Int) ∧ q = .int .u32 (crcFrom (notU c) (s.take j)) ∧ wr = w) (fun _ i _ => s.length - (intOf i).toNat)
  case atStart => exact ⟨0, by omega, rfl, rfl, rfl⟩
  case round =>
    obtain ⟨j, hj, rfl, rfl, rfl⟩ := hrel
    by_cases hlt : j < s.length
    · have htk : s.take (j + 1) = s.take j ++ [s[j]'hlt] := by rw [List.take_add_one, List.getElem?_eq_getElem hlt]; rfl
      have hnext : crcFrom (notU c) (s.take (j + 1)) = crcByte (crcFrom (notU c) (s.take j)) (s[j]'hlt) := by rw [htk, crcFrom_snoc]
      have hrg := crcFrom_range (notU c) (s.take j) (xor32 _ _)
      obtain ⟨b, off, rfl, hb, hcl⟩ := hv.open (by rw [bys_length]; omega)
      have hcell : wr.cell? ⟨b, off + j, none⟩ = some (.int .u8 (((s[j]'hlt).toNat : Nat) : Int)) := hcl j _ (by simp [bys, hlt])
      have HN := hid hnext
      clear hnext htk hcl
      generalize s[j]'hlt = x at *
      generalize crcFrom (notU c) (s.take j) = g at *
      have hx := UInt8.toNat_lt x
      have hr0 := xor32 g (x.toNat : Int)
      have h8 := hid (byte_steps (bits .xor .u32 g (x.toNat : Int)) (by omega))
      go_wp2_with fail
      go_loopw [5, 7] (fun q i w3 => ∃ k : Nat, k ≤ 8 ∧ i = .int .i64 (k : Int) ∧ q = .int .u32 (refSteps k (bits .xor .u32 g (x.toNat : Int))) ∧ w3 = wr) (fun _ i _ => 8 - (intOf i).toNat)
      case atStart => exact ⟨0, by omega, rfl, rfl, rfl⟩
      case round =>
        obtain ⟨k, hk, rfl, rfl, rfl⟩ := hrel
        have hrk := refSteps_range k (bits .xor .u32 g (x.toNat : Int)) (by omega)
        have hs : refSteps (k + 1) (bits .xor .u32 g (x.toNat : Int)) = refStep (refSteps k (bits .xor .u32 g (x.toNat : Int))) := rfl
        have HS := hid hs
        clear hs
        by_cases hk2 : k < 8
        · generalize refSteps k (bits .xor .u32 g (x.toNat : Int)) = y at *
          have hk2' : (k : Int) < 8 := by omega
          by_cases hy : bits .and .u32 y 1 = 1
          · have hyb : (bits .and .u32 y 1 == 1) = true := by rw [beq_iff_eq]; exact hy
            have hst : refStep y = bits .xor .u32 (y / 2) 3988292384 := by unfold refStep; rw [if_pos hy]
            have HST := hid hst
            clear hy hst
            go_wp2_with fail
            go_roundw
            case rel => exact ⟨k + 1, by omega, by go_num, by rw [HS.out, HST.out], trivial⟩
            case measure => simp [intOf]; omega
          · have hyb : (bits .and .u32 y 1 == 1) = false := by rw [beq_eq_false_iff_ne]; exact hy
            have hst : refStep y = y / 2 := by unfold refStep; rw [if_neg hy]
            have HST := hid hst
            clear hy hst
            go_wp2_with fail
            go_roundw
            case rel => exact ⟨k + 1, by omega, by go_num, by rw [HS.out, HST.out], trivial⟩
            case measure => simp [intOf]; omega
        · obtain rfl : k = 8 := by omega
          go_wp2_with fail
          go_roundw
          case rel => exact ⟨j + 1, by omega, by go_num, by rw [HN.out]; unfold crcByte; rw [← h8.out], trivial⟩
          case measure => simp [intOf]; omega
    · obtain rfl : j = s.length := by omega
      have hrg := crcFrom_range (notU c) s (xor32 _ _)
      rw [List.take_length]
      go_wp2
      go_ret
      exact ⟨rfl, rfl⟩
theorem ref_Sum (w : World) (v : Value) (s : List UInt8) (hv : Sl w v 1 s.length (bys s)) : Calls Try.prog 52 #[v] w fun e w' => e = .returned (.int .u32 (crcOf 0 s)) ∧ w' = w := by
  have h := ref_More w v s 0 (by omega) hv
  obtain ⟨ao, cp, rfl, _⟩ := hv.value
  go_enter Try.func52, Try.ntmps52
  go_wp2_with fail
  refine h.mono ?_
  rintro e w1 ⟨rfl, rfl⟩
  go_wp2
  go_ret
  exact ⟨rfl, rfl⟩
end Go.Proofs.Ytegonlmhaobgcaa
