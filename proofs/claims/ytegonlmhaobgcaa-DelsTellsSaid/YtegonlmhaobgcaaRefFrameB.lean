/- The document's Get of layer 4. -/
import Derived.Test.YtegonlmhaobgcaaRefFrame
set_option linter.unusedSimpArgs false
set_option linter.unusedVariables false
namespace Go.Proofs.Ytegonlmhaobgcaa
open Go.RowKit Go.Vb
theorem or32 (a b : Nat) (ha : a < 4294967296) (hb : b < 4294967296) : bits .or .u32 (a : Int) (b : Int) = ((a ||| b : Nat) : Int) := by
  have h : bits .or .u32 (a : Int) (b : Int) = IntKind.u32.wrap ((BitVec.ofInt 32 (a : Int) ||| BitVec.ofInt 32 (b : Int)).toNat : Int) := rfl
  have hc : a ||| b < 2 ^ 32 := Nat.or_lt_two_pow (by omega) (by omega)
  rw [h, BitVec.toNat_or, ofInt_toNat a ha, ofInt_toNat b hb, IntKind.wrap_u32]
  omega
theorem or_low (a x k : Nat) (h : a < 2 ^ k) : a ||| (x * 2 ^ k) = a + x * 2 ^ k := by
  have := Nat.shiftLeft_add_eq_or_of_lt (i := k) (b := a) h x
  rw [Nat.shiftLeft_eq] at this
  rw [Nat.or_comm, ← this, Nat.add_comm]
def num4 (h : List UInt8) : Nat := (h.getD 0 0).toNat + (h.getD 1 0).toNat * 256 + (h.getD 2 0).toNat * 65536 + (h.getD 3 0).toNat * 16777216
theorem num4_four (c : Nat) (hc : c < 4294967296) : num4 (fourOf c) = c := by
  have e : ∀ n : Int, 0 ≤ n ∧ n ≤ 255 → (UInt8.ofNat n.toNat).toNat = n.toNat := fun n h => by have := u8_nat n h; omega
  unfold num4 fourOf
  simp only [List.getD_cons_zero, List.getD_cons_succ]
  rw [e _ (by omega), e _ (by omega), e _ (by omega), e _ (by omega)]
  omega
theorem num4_inj (h g : List UInt8) (hl : h.length = 4) (gl : g.length = 4) (e : num4 h = num4 g) : h = g := by
  match h, g, hl, gl with
  | [a, b, c, d], [a', b', c', d'], _, _ =>
    have := UInt8.toNat_lt a; have := UInt8.toNat_lt b; have := UInt8.toNat_lt c; have := UInt8.toNat_lt d
    have := UInt8.toNat_lt a'; have := UInt8.toNat_lt b'; have := UInt8.toNat_lt c'; have := UInt8.toNat_lt d'
    simp only [num4, List.getD_cons_zero, List.getD_cons_succ] at e
    have h1 : a = a' := UInt8.toNat_inj.1 (by omega)
    have h2 : b = b' := UInt8.toNat_inj.1 (by omega)
    have h3 : c = c' := UInt8.toNat_inj.1 (by omega)
    have h4 : d = d' := UInt8.toNat_inj.1 (by omega)
    rw [h1, h2, h3, h4]
end Go.Proofs.Ytegonlmhaobgcaa
