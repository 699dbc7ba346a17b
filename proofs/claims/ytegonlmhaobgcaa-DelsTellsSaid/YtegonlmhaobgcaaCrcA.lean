/- crc.Sum. -/
import Derived.Test.YtegonlmhaobgcaaProg
import Derived.Test.YtegonlmhaobgcaaBase
import Derived.RegionTactic
import Derived.Deep.RegionWith
import Derived.Deep.WholeRow
import Derived.Laws.Rows
set_option linter.unusedSimpArgs false
set_option linter.unusedVariables false
namespace Go.Proofs.Ytegonlmhaobgcaa
open Go.RowKit Go.Vb

def tabL : List Int := [0, 498536548, 997073096, 651767980, 1994146192, 1802195444, 1303535960, 1342533948, 3988292384, 4027552580, 3604390888, 3412177804, 2607071920, 2262029012, 2685067896, 3183342108]
def tabV : Array Value := (tabL.map fun x => Value.int .u32 x).toArray
theorem crc_table (w : World) : Calls Try.prog 56 #[] w fun e w' => e = .returned (.agg tabV) ∧ Keeps w w' := by
  go_enter Try.func56, Try.ntmps56
  go_wp2
  refine bodyPost_ret (results_cell_row rfl _ _ w.heap.size 83 tabV (0, 0) _ rfl (heap_alloc_new _ _) Try.underlying83 rfl (by kernel_rfl)) rfl ?_
  exact ⟨rfl, (Below.refl _ _).alloc (Nat.le_refl _) _⟩
def crcNib (s : Int) : Int := bits .xor .u32 (s / 16) (tabL.getD (bits .and .u32 s 15).toNat 0)
def crcNibs : Nat → Int → Int | 0, s => s | k + 1, s => crcNib (crcNibs k s)
def crcByte (s : Int) (c : UInt8) : Int := crcNibs 2 (bits .xor .u32 s (c.toNat : Int))
def crcFrom (s : Int) (l : List UInt8) : Int := l.foldl crcByte s
theorem crcFrom_snoc (s : Int) (l : List UInt8) (c : UInt8) : crcFrom s (l ++ [c]) = crcByte (crcFrom s l) c := by simp [crcFrom]
theorem and15 (s : Int) : 0 ≤ bits .and .u32 s 15 ∧ bits .and .u32 s 15 < 16 := by
  have h : bits .and .u32 s 15 = IntKind.u32.wrap ((BitVec.ofInt 32 s &&& BitVec.ofInt 32 15).toNat : Int) := rfl
  have h2 : (BitVec.ofInt 32 s &&& BitVec.ofInt 32 15).toNat ≤ 15 := by rw [BitVec.toNat_and]; exact Nat.and_le_right
  rw [h, IntKind.wrap_u32]
  omega
theorem xor32 (a b : Int) : 0 ≤ bits .xor .u32 a b ∧ bits .xor .u32 a b ≤ 4294967295 := by
  have h : bits .xor .u32 a b = IntKind.u32.wrap ((BitVec.ofInt 32 a ^^^ BitVec.ofInt 32 b).toNat : Int) := rfl
  rw [h, IntKind.wrap_u32]
  omega
theorem crcNibs_range (k : Nat) (s : Int) (h : 0 ≤ s ∧ s ≤ 4294967295) : 0 ≤ crcNibs k s ∧ crcNibs k s ≤ 4294967295 := by
  cases k with
  | zero => exact h
  | succ k => exact xor32 _ _
theorem crcFrom_range (s : Int) (l : List UInt8) (h : 0 ≤ s ∧ s ≤ 4294967295) : 0 ≤ crcFrom s l ∧ crcFrom s l ≤ 4294967295 := by
  induction l generalizing s with
  | nil => exact h
  | cons c l ih => exact ih _ (crcNibs_range _ _ (xor32 _ _))
theorem tabV_get (i : Nat) (h : i < 16) : tabV[i]? = some (.int .u32 (tabL.getD i 0)) := by
  have : i = 0 ∨ i = 1 ∨ i = 2 ∨ i = 3 ∨ i = 4 ∨ i = 5 ∨ i = 6 ∨ i = 7 ∨ i = 8 ∨ i = 9 ∨ i = 10 ∨ i = 11 ∨ i = 12 ∨ i = 13 ∨ i = 14 ∨ i = 15 := by omega
  rcases this with rfl | rfl | rfl | rfl | rfl | rfl | rfl | rfl | rfl | rfl | rfl | rfl | rfl | rfl | rfl | rfl <;> rfl

def notU (c : Int) : Int := bits .xor .u32 IntKind.u32.max c
def crcOf (c : Int) (s : List UInt8) : Int := notU (crcFrom (notU c) s)
theorem crcOf_range (c : Int) (s : List UInt8) : 0 ≤ crcOf c s ∧ crcOf c s ≤ 4294967295 := xor32 _ _
set_option maxHeartbeats 1000000 in
set_option maxRecDepth 100000 in
theorem crc_more (w : World) (v : Value) (s : List UInt8) (c : Int) (hc : 0 ≤ c ∧ c ≤ 4294967295) (hv : Sl w v 1 s.length (bys s)) : Calls Try.prog 54 #[.int .u32 c, v] w fun e w' => e = .returned (.int .u32 (crcOf c s)) ∧ Keeps w w' := by
  obtain ⟨ao, cp, rfl, h1, h2, _⟩ := hv.value
  have hsz : s.length ≤ 9223372036854775807 := by unfold maxLen at h2; omega
  go_enter Try.func54, Try.ntmps54
  go_wp2_with fail
  refine (crc_table w).mono ?_
  rintro e w1 ⟨rfl, k1⟩
  have htz : tabV.size = 16 := rfl
  have hst := run_storeCells_new (P := Try.prog) w1 83 #[.int .u32 0, .int .u32 0, .int .u32 0, .int .u32 0, .int .u32 0, .int .u32 0, .int .u32 0, .int .u32 0, .int .u32 0, .int .u32 0, .int .u32 0, .int .u32 0, .int .u32 0, .int .u32 0, .int .u32 0, .int .u32 0] tabV (by kernel_rfl) rfl (by kernel_rfl)
  have hA : (w1.alloc (.cells tabV 83)).heap[w1.heap.size]? = some (.cells tabV 83 (0, 0)) := heap_alloc_new _ _
  have k2 : Keeps w (w1.alloc (.cells tabV 83)) := k1.trans ((Below.refl _ _).alloc (Nat.le_refl _) _)
  obtain ⟨w2, e2⟩ : ∃ w2, w2 = w1.alloc (.cells tabV 83) := ⟨_, rfl⟩
  rw [← e2] at hA hst k2
  have hT : ∀ i, i < 16 → w2.cell? ⟨w1.heap.size, i, none⟩ = some (.int .u32 (tabL.getD i 0)) := fun i hi => by
    unfold World.cell?
    simp only [hA]
    exact tabV_get i hi
  have HT := hid hT
  have hv2 := hv.keeps k2
  clear hT hA k1 e2 hv
  go_wp2_with fail
  clear hst
  go_loopw [0, 7, 13] (fun q u i wr => ∃ j : Nat, j ≤ s.length ∧ i = .int .i64 (j : Int) ∧ q = .int .u32 (crcFrom (notU c) (s.take j)) ∧ wr = w2) (fun _ _ i _ => s.length - (intOf i).toNat)
  case atStart => exact ⟨0, by omega, rfl, rfl, rfl⟩
  case round =>
    obtain ⟨j, hj, rfl, rfl, rfl⟩ := hrel
    by_cases hlt : j < s.length
    · have htk : s.take (j + 1) = s.take j ++ [s[j]'hlt] := by rw [List.take_add_one, List.getElem?_eq_getElem hlt]; rfl
      have hnext : crcFrom (notU c) (s.take (j + 1)) = crcByte (crcFrom (notU c) (s.take j)) (s[j]'hlt) := by rw [htk, crcFrom_snoc]
      have hrg := crcFrom_range (notU c) (s.take j) (xor32 _ _)
      obtain ⟨b, off, rfl, hb, hcl⟩ := hv2.open (by rw [bys_length]; omega)
      have hcell : wr.cell? ⟨b, off + j, none⟩ = some (.int .u8 (((s[j]'hlt).toNat : Nat) : Int)) := hcl j _ (by simp [bys, hlt])
      have HN := hid hnext
      clear hnext htk hcl
      generalize s[j]'hlt = x at *
      generalize crcFrom (notU c) (s.take j) = g at *
      have hx := UInt8.toNat_lt x
      go_wp2_with fail
      go_loopw [0, 21] (fun q i w3 => ∃ k : Nat, k ≤ 2 ∧ i = .int .i64 (k : Int) ∧ q = .int .u32 (crcNibs k (bits .xor .u32 g (x.toNat : Int))) ∧ w3 = wr) (fun _ i _ => 2 - (intOf i).toNat)
      case atStart => exact ⟨0, by omega, rfl, rfl, rfl⟩
      case round =>
        obtain ⟨k, hk, rfl, rfl, rfl⟩ := hrel
        have hrk := crcNibs_range k (bits .xor .u32 g (x.toNat : Int)) (xor32 _ _)
        have hs : crcNibs (k + 1) (bits .xor .u32 g (x.toNat : Int)) = crcNib (crcNibs k (bits .xor .u32 g (x.toNat : Int))) := rfl
        have HS := hid hs
        clear hs
        by_cases hk2 : k < 2
        · generalize crcNibs k (bits .xor .u32 g (x.toNat : Int)) = y at *
          have ha := and15 y
          have hc2 := HT.out (bits .and .u32 y 15).toNat (by omega)
          go_wp2_with fail
          go_roundw
          case rel => exact ⟨k + 1, by omega, by go_num, by rw [HS.out]; unfold crcNib; rw [List.getD_eq_getElem?_getD], trivial⟩
          case measure => simp [intOf]; omega
        · obtain rfl : k = 2 := by omega
          go_wp2_with fail
          go_roundw
          case rel => exact ⟨j + 1, by omega, by go_num, by rw [HN.out]; rfl, trivial⟩
          case measure => simp [intOf]; omega
    · obtain rfl : j = s.length := by omega
      have hrg := crcFrom_range (notU c) s (xor32 _ _)
      rw [List.take_length]
      go_wp2
      go_ret
      exact ⟨rfl, k2⟩
theorem crc_sum (w : World) (v : Value) (s : List UInt8) (hv : Sl w v 1 s.length (bys s)) : Calls Try.prog 42 #[v] w fun e w' => e = .returned (.int .u32 (crcOf 0 s)) ∧ Keeps w w' := by
  have h := crc_more w v s 0 (by omega) hv
  obtain ⟨ao, cp, rfl, _⟩ := hv.value
  go_enter Try.func42, Try.ntmps42
  go_wp2_with fail
  refine h.mono ?_
  rintro e w1 ⟨rfl, k1⟩
  go_wp2
  go_ret
  exact ⟨rfl, k1⟩
end Go.Proofs.Ytegonlmhaobgcaa
