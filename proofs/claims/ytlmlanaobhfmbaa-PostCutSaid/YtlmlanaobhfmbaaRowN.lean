/- From a row's reading of an argument to what the walks ask: []int64, []int. -/
import Derived.Test.YtlmlanaobhfmbaaRow
set_option linter.unusedSimpArgs false
set_option linter.unusedVariables false
namespace Go.Vb
open Go.RowKit Go.ChangeShapes Go.WideShapes Go.Deep
section
variable {H : Type} {enc : TypeId × Value → H} {P : Program} {W : World} {base : Nat} {spare : Nat → Bool} {held : Bool}
theorem open_nums {t e : TypeId} {k : IntKind} {v : Value} {d : DataW H} {ps : List MemPlace} {ts : List TypeId} {ds : List (DataW H)} {j : Nat} (hsz : (DataW.weightsEach P ts ds).all (· ≤ reachBytes) = true) (htj : ts[j]? = some t) (hdj : ds[j]? = some d)
    (ht : P.underlying t = some (.slice e)) (he : P.underlying e = some (.int k)) (hc : P.cellsOf e = 1) (hB : P.bytesOf e = 8) (h1 : v.cells.toList = [v])
    (h : DataW.Trod enc P W base spare held t v d ps) : ∃ s : List Int, Sl W v 1 s.length (ints k s) ∧ s.length ≤ 140737488351232 ∧ ∀ n ∈ s, (Lit.int k n).wf = true := by
  obtain ⟨fuel, hf⟩ := h
  rw [h1] at hf
  rcases open_ints ht he hc hf with ⟨hcs, _⟩ | ⟨a, len, cap, zs, hcs, hb, hl, hm, hz, hx, hcell, hw⟩
  · injection hcs with hcs _
    exact ⟨[], by rw [hcs]; exact Sl.nil _ _, by simp, by simp⟩
  · injection hcs with hcs _
    have hlz : len ≤ zs.length := by rw [hz]; split <;> omega
    have hlen : (zs.take len).length = len := by simp; omega
    refine ⟨zs.take len, ⟨by rw [ints_length, Nat.mul_one], some a, cap, by rw [hlen]; exact hcs, by rw [hlen]; exact hl, hm, (fun h => by cases h), fun ad had j u hu => ?_⟩, ?_, fun n hn => hw n (List.mem_of_mem_take hn)⟩
    · obtain rfl := Option.some.inj had
      have hj : j < len := by
        have := (List.getElem?_eq_some_iff.1 hu).1
        rw [ints_length, hlen] at this
        exact this
      rw [hcell j (by omega), ← hu]
      have hg : zs.getD j 0 = zs[j]'(by omega) := by simp [List.getD, show j < zs.length by omega]
      rw [hg]
      unfold ints
      rw [List.getElem?_map, List.getElem?_take_of_lt hj, List.getElem?_eq_getElem (by omega)]
      rfl
    · obtain rfl : d = .slice (lits k (zs.take len)) (lits k (zs.drop len)) := by injection hx
      have z := sized_slice hsz htj hdj ht
      rw [hB] at z
      simp only [lits, List.length_map, List.length_take, List.length_drop] at z
      rw [hlen]
      have z' : (min len zs.length + (zs.length - len)) * 8 ≤ 140737488351232 := z
      omega
end
end Go.Vb
