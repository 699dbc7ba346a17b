/- slices of postings; slices.Chunk and its iterator. -/
import Derived.Test.YtlmlanaobhfmbaaPostE
import Derived.Test.YtlmlanaobhfmbaaRoundA
import Derived.RangeFuncNested
import Derived.RangeFuncBound
import Derived.RangeFuncLeaves
import Derived.TacticsInMore
import Derived.LoopNIn
import Derived.LoopIn
import Derived.OwnWalkIn
set_option linter.unusedSimpArgs false
set_option linter.unusedVariables false
namespace Go.Proofs.Ytlmlanaobhfmbaa
open Go.RowKit Go.Vb
/-- s[i:j:j]. -/
theorem slice_three {P : Program} {t e : TypeId} {size : Nat} (ht : P.underlying t = some (.slice e)) (hs : ∀ w, (sizeOf e).run P w = .ok size w) (ao : Option Addr) (n c i j : Nat) (hi : i < j) (hj : j ≤ n) (hn : n ≤ c) :
    ∃ A, (∀ w, (Instr.sliceAt t (.slice ao n c) (some (.int .i64 (i : Int))) (some (.int .i64 (j : Int))) (some (.int .i64 (j : Int)))).run P w = .ok (.slice A (j - i) (j - i)) w) ∧ (∀ w, (Instr.slice t (.slice ao n c) (some (.int .i64 (i : Int))) (some (.int .i64 (j : Int))) (some (.int .i64 (j : Int)))).run P w = .ok (.slice A (j - i) (j - i)) w) ∧
      (∀ w xs, Sl w (.slice ao n c) size n xs → Sl w (.slice A (j - i) (j - i)) size (j - i) ((xs.take (j * size)).drop (i * size))) := by
  have h1 : ∀ w, (Instr.slice t (.slice ao n c) (some (.int .i64 (i : Int))) (some (.int .i64 (j : Int))) (some (.int .i64 (j : Int)))).run P w = .ok (.slice (Option.map (fun x => x.add (i * size)) ao) (j - i) (j - i)) w := by
    intro w
    have h0 : (0 : Int) ≤ j := by omega
    have h2 : (j : Int) ≤ c := by omega
    have h3 : (0 : Int) ≤ i := by omega
    have h4 : (i : Int) ≤ j := by omega
    have h5 : j - i ≠ 0 := by omega
    have h6 : ¬ j = i := by omega
    simp [Instr.slice, run_underlying ht, Instr.sliceBounds, run_sliceBound, h0, h2, h3, h4, h5, h6, hi, hs, Result.andThen]
  refine ⟨_, fun w => ?_, h1, fun w xs h => ?_⟩
  · rw [← h1 w]; simp [Instr.sliceAt, run_underlying ht]
  · obtain ⟨hl, ao', c', hv, q1, q2, q3, q4⟩ := h
    injection hv with e1 _ e2
    subst e1; subst e2
    refine ⟨by rw [List.length_drop, List.length_take, hl, Nat.min_eq_left (Nat.mul_le_mul_right _ hj), Nat.sub_mul], _, _, rfl, Nat.le_refl _, by omega, fun e => ?_, fun ad had k u hu => ?_⟩
    · cases ao with
      | none => have := (q3 rfl).1; omega
      | some a => simp at e
    · cases ao with
      | none => simp at had
      | some a =>
        simp at had
        subst had
        rw [List.getElem?_drop] at hu
        have hu2 : xs[i * size + k]? = some u := by
          rw [List.getElem?_take] at hu
          split at hu
          · exact hu
          · cases hu
        rw [Addr.add_plus]
        exact q4 a rfl _ u hu2
theorem Posts.cut {w : World} {ao A : Option Addr} {n c i j : Nat} {L : List Post} {cs : List Value} (h : Posts w (.slice ao n c) L cs) (hn : n = L.length) (hij : i < j) (hj : j ≤ n)
    (hA : ∀ w xs, Sl w (.slice ao n c) 2 n xs → Sl w (.slice A (j - i) (j - i)) 2 (j - i) ((xs.take (j * 2)).drop (i * 2))) : Posts w (.slice A (j - i) (j - i)) ((L.take j).drop i) ((cs.take (j * 2)).drop (i * 2)) := by
  subst hn
  have hlen : ((L.take j).drop i).length = j - i := by simp; omega
  refine ⟨by rw [hlen]; exact hA _ _ h.outer, fun k hk => ?_⟩
  rw [hlen] at hk
  have hkL : i + k < L.length := by omega
  obtain ⟨h1, u, h2, h3⟩ := h.inner (i + k) hkL
  have e : ((L.take j).drop i)[k]'(by rw [hlen]; exact hk) = L[i + k]'hkL := by simp
  rw [e]
  refine ⟨?_, u, ?_, h3⟩
  · rw [List.getElem?_drop, List.getElem?_take_of_lt (by omega), show i * 2 + k * 2 = (i + k) * 2 by omega]; exact h1
  · rw [List.getElem?_drop, List.getElem?_take_of_lt (by omega), show i * 2 + (k * 2 + 1) = (i + k) * 2 + 1 by omega]; exact h2
/-- a chunk, as it is handed on. -/
def Chunk (w0 : World) (size : Nat) : Type := { x : Value × List Post // (∃ cs, Posts w0 x.1 x.2 cs) ∧ x.2 ≠ [] ∧ x.2.length ≤ size ∧ ∀ p ∈ x.2, Fine p }
def chunkAt (L : List Post) (size j : Nat) : List Post := (L.drop (j * size)).take size
def chunksTo (L : List Post) (size k : Nat) : List (List Post) := (List.range k).map (chunkAt L size)
theorem chunksTo_succ (L : List Post) (size k : Nat) : chunksTo L size (k + 1) = chunksTo L size k ++ [chunkAt L size k] := by simp [chunksTo, List.range_succ]
end Go.Proofs.Ytlmlanaobhfmbaa
