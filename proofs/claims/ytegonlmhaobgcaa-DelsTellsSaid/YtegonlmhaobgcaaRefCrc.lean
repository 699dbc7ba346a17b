/- The document's sum, bit by bit, is the table's. -/
import Derived.Test.YtegonlmhaobgcaaCrcA
set_option linter.unusedSimpArgs false
set_option linter.unusedVariables false
namespace Go.Proofs.Ytegonlmhaobgcaa
open Go.RowKit Go.Vb

def sel (b : Bool) : BitVec 32 := if b then 3988292384#32 else 0#32
def stepB (r : BitVec 32) : BitVec 32 := (r >>> 1) ^^^ sel (r.getLsbD 0)
def tabB (a b c d : Bool) : BitVec 32 := stepB (stepB (stepB (stepB (BitVec.ofNat 32 (a.toNat + 2 * b.toNat + 4 * c.toNat + 8 * d.toNat)))))
theorem stepB_xor (r t : BitVec 32) : stepB (r ^^^ t) = stepB r ^^^ stepB t := by
  unfold stepB
  rw [BitVec.ushiftRight_xor_distrib, BitVec.getLsbD_xor]
  have : ∀ a b : Bool, sel (a ^^ b) = sel a ^^^ sel b := by decide
  rw [this]
  generalize r >>> 1 = x
  generalize t >>> 1 = y
  generalize sel (r.getLsbD 0) = u
  generalize sel (t.getLsbD 0) = v
  rw [BitVec.xor_assoc, BitVec.xor_assoc]
  congr 1
  rw [← BitVec.xor_assoc, BitVec.xor_comm y u, BitVec.xor_assoc]
theorem stepB_even (r : BitVec 32) (h : r.getLsbD 0 = false) : stepB r = r >>> 1 := by
  unfold stepB; rw [h]; unfold sel; simp
theorem four_high (h : BitVec 32) : stepB (stepB (stepB (stepB (h <<< 4)))) = (h <<< 4) >>> 4 := by
  have e : ∀ k, k < 4 → ((h <<< 4) >>> k).getLsbD 0 = false := fun k hk => by
    rw [BitVec.getLsbD_ushiftRight, BitVec.getLsbD_shiftLeft]
    simp; omega
  have e0 := e 0 (by omega)
  rw [BitVec.ushiftRight_zero] at e0
  rw [stepB_even _ e0, stepB_even _ (e 1 (by omega)), ← BitVec.shiftRight_add, stepB_even _ (e 2 (by omega)), ← BitVec.shiftRight_add, stepB_even _ (e 3 (by omega)), ← BitVec.shiftRight_add]
theorem split (r : BitVec 32) : r = ((r >>> 4) <<< 4) ^^^ (r &&& 15#32) := by
  apply BitVec.eq_of_getLsbD_eq
  intro i hi
  rw [BitVec.getLsbD_xor, BitVec.getLsbD_shiftLeft, BitVec.getLsbD_ushiftRight, BitVec.getLsbD_and]
  have h15 : ∀ j : Fin 32, (15#32).getLsbD j.val = decide (j.val < 4) := by decide
  rw [h15 ⟨i, hi⟩]
  by_cases h4 : i < 4
  · simp [h4, hi]
  · simp [h4, hi, show 4 + (i - 4) = i by omega]
theorem four_steps (r : BitVec 32) : stepB (stepB (stepB (stepB r))) = (r >>> 4) ^^^ stepB (stepB (stepB (stepB (r &&& 15#32)))) := by
  have h : stepB (stepB (stepB (stepB r))) = stepB (stepB (stepB (stepB (((r >>> 4) <<< 4) ^^^ (r &&& 15#32))))) := by rw [← split r]
  rw [h, stepB_xor, stepB_xor, stepB_xor, stepB_xor, four_high]
  congr 1
  apply BitVec.eq_of_getLsbD_eq
  intro i hi
  rw [BitVec.getLsbD_ushiftRight, BitVec.getLsbD_shiftLeft, BitVec.getLsbD_ushiftRight, BitVec.getLsbD_ushiftRight]
  by_cases h28 : 4 + i < 32
  · simp [h28]
  · simp [h28]
    exact BitVec.getLsbD_of_ge r (4 + i) (by omega)
theorem tab_steps : ∀ k : Fin 16, stepB (stepB (stepB (stepB (BitVec.ofNat 32 k.val)))) = BitVec.ofInt 32 (tabL.getD k.val 0) := by decide +kernel
theorem ofInt_toNat (n : Nat) (h : n < 4294967296) : (BitVec.ofInt 32 (n : Int)).toNat = n := by
  rw [BitVec.ofInt_natCast, BitVec.toNat_ofNat]; exact Nat.mod_eq_of_lt h
theorem ofInt_xor (a b : Int) : BitVec.ofInt 32 (bits .xor .u32 a b) = BitVec.ofInt 32 a ^^^ BitVec.ofInt 32 b := by
  have h : bits .xor .u32 a b = IntKind.u32.wrap ((BitVec.ofInt 32 a ^^^ BitVec.ofInt 32 b).toNat : Int) := rfl
  rw [h, IntKind.wrap_u32]
  have hl := (BitVec.ofInt 32 a ^^^ BitVec.ofInt 32 b).isLt
  generalize BitVec.ofInt 32 a ^^^ BitVec.ofInt 32 b = x at *
  have e : ((x.toNat : Int) % 4294967296) = (x.toNat : Int) := by omega
  rw [e, BitVec.ofInt_natCast, BitVec.ofNat_toNat]; simp
theorem ofInt_shift (n k : Nat) (h : n < 4294967296) : BitVec.ofInt 32 ((n / 2 ^ k : Nat) : Int) = BitVec.ofInt 32 (n : Int) >>> k := by
  apply BitVec.eq_of_toNat_eq
  have hd : n / 2 ^ k ≤ n := Nat.div_le_self _ _
  rw [ofInt_toNat _ (by omega), BitVec.toNat_ushiftRight, ofInt_toNat _ h, Nat.shiftRight_eq_div_pow]
theorem and32 (n m : Nat) (h : n < 4294967296) (hm : m < 4294967296) : bits .and .u32 (n : Int) (m : Int) = ((n &&& m : Nat) : Int) := by
  have hh : bits .and .u32 (n : Int) (m : Int) = IntKind.u32.wrap ((BitVec.ofInt 32 (n : Int) &&& BitVec.ofInt 32 (m : Int)).toNat : Int) := rfl
  have hc : n &&& m ≤ n := Nat.and_le_left
  rw [hh, BitVec.toNat_and, ofInt_toNat n h, ofInt_toNat m hm, IntKind.wrap_u32]
  omega
def refStep (s : Int) : Int := if bits .and .u32 s 1 = 1 then bits .xor .u32 (s / 2) 3988292384 else s / 2
theorem refStep_vec (n : Nat) (h : n < 4294967296) : BitVec.ofInt 32 (refStep n) = stepB (BitVec.ofInt 32 (n : Int)) ∧ 0 ≤ refStep n ∧ refStep n < 4294967296 := by
  have ha : bits .and .u32 (n : Int) 1 = ((n % 2 : Nat) : Int) := by
    have := and32 n 1 h (by omega)
    rw [Nat.and_one_is_mod] at this
    exact this
  have hb : (BitVec.ofInt 32 (n : Int)).getLsbD 0 = decide (n % 2 = 1) := by
    rw [← BitVec.testBit_toNat, ofInt_toNat n h, Nat.testBit_zero]
  have hs := ofInt_shift n 1 h
  have e2 : ((n / 2 ^ 1 : Nat) : Int) = (n : Int) / 2 := by omega
  rw [e2] at hs
  unfold refStep stepB
  rw [ha, hb]
  by_cases h1 : n % 2 = 1
  · rw [if_pos (by omega), decide_eq_true h1, ofInt_xor, hs]
    have := xor32 ((n : Int) / 2) 3988292384
    exact ⟨rfl, this.1, by omega⟩
  · rw [if_neg (by omega), decide_eq_false h1, hs]
    exact ⟨by unfold sel; simp, by omega, by omega⟩
theorem crcNib_vec (n : Nat) (h : n < 4294967296) : BitVec.ofInt 32 (crcNib n) = stepB (stepB (stepB (stepB (BitVec.ofInt 32 (n : Int))))) := by
  have ha : bits .and .u32 (n : Int) 15 = ((n % 16 : Nat) : Int) := by
    have := and32 n 15 h (by omega)
    rw [show n &&& 15 = n % 16 from Nat.and_two_pow_sub_one_eq_mod n 4] at this
    exact this
  have hs := ofInt_shift n 4 h
  have e2 : ((n / 2 ^ 4 : Nat) : Int) = (n : Int) / 16 := by omega
  rw [e2] at hs
  have hb : BitVec.ofInt 32 (n : Int) &&& 15#32 = BitVec.ofNat 32 (n % 16) := by
    apply BitVec.eq_of_toNat_eq
    rw [BitVec.toNat_and, ofInt_toNat n h, BitVec.toNat_ofNat, BitVec.toNat_ofNat]
    show n &&& 15 = _
    rw [show n &&& 15 = n % 16 from Nat.and_two_pow_sub_one_eq_mod n 4]
    omega
  rw [four_steps, hb, tab_steps ⟨n % 16, Nat.mod_lt _ (by decide)⟩, ← hs]
  unfold crcNib
  rw [ofInt_xor, ha]
  rfl
theorem eq_of_vec (a b : Int) (h : BitVec.ofInt 32 a = BitVec.ofInt 32 b) (ha : 0 ≤ a ∧ a < 4294967296) (hb : 0 ≤ b ∧ b < 4294967296) : a = b := by
  obtain ⟨x, rfl⟩ := Int.eq_ofNat_of_zero_le ha.1
  obtain ⟨y, rfl⟩ := Int.eq_ofNat_of_zero_le hb.1
  have := congrArg BitVec.toNat h
  rw [ofInt_toNat x (by omega), ofInt_toNat y (by omega)] at this
  omega
theorem nib_steps (s : Int) (h : 0 ≤ s ∧ s < 4294967296) : crcNib s = refStep (refStep (refStep (refStep s))) ∧ 0 ≤ crcNib s ∧ crcNib s < 4294967296 := by
  obtain ⟨n, rfl⟩ := Int.eq_ofNat_of_zero_le h.1
  have hr := xor32 ((n : Int) / 16) (tabL.getD (bits .and .u32 (n : Int) 15).toNat 0)
  have hc : 0 ≤ crcNib n ∧ crcNib n < 4294967296 := ⟨hr.1, by unfold crcNib; omega⟩
  have st : ∀ s : Int, 0 ≤ s ∧ s < 4294967296 → BitVec.ofInt 32 (refStep s) = stepB (BitVec.ofInt 32 s) ∧ 0 ≤ refStep s ∧ refStep s < 4294967296 := fun s hs => by
    obtain ⟨n, rfl⟩ := Int.eq_ofNat_of_zero_le hs.1
    exact refStep_vec n (by omega)
  obtain ⟨a1, b1⟩ := st n h
  obtain ⟨a2, b2⟩ := st _ b1
  obtain ⟨a3, b3⟩ := st _ b2
  obtain ⟨a4, b4⟩ := st _ b3
  refine ⟨eq_of_vec _ _ ?_ hc b4, hc⟩
  rw [a4, a3, a2, a1]
  exact crcNib_vec n (by omega)
def refSteps : Nat → Int → Int | 0, s => s | k + 1, s => refStep (refSteps k s)
theorem byte_steps (s : Int) (h : 0 ≤ s ∧ s < 4294967296) : refSteps 8 s = crcNibs 2 s := by
  obtain ⟨e1, r1⟩ := nib_steps s h
  obtain ⟨e2, _⟩ := nib_steps (crcNib s) r1
  show _ = crcNib (crcNib s)
  rw [e2, e1]
  rfl
end Go.Proofs.Ytegonlmhaobgcaa
