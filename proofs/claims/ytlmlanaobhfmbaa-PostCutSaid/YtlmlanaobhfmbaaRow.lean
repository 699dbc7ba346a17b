/- From a row's reading of an argument to what the walks ask: []byte, [][]byte. -/
import Derived.Test.YtlmlanaobhfmbaaBase
import Derived.SizedLaws
import Derived.ChangeSlices
import Derived.Deep.Slices
set_option linter.unusedSimpArgs false
set_option linter.unusedVariables false
namespace Go.Vb
open Go.RowKit Go.ChangeShapes Go.WideShapes Go.Deep
section
variable {H : Type} {enc : TypeId × Value → H} {P : Program} {W : World} {base : Nat} {spare : Nat → Bool} {held : Bool}

theorem u8_back (n : Int) (h : (Lit.int .u8 n).wf = true) : ((UInt8.ofNat n.toNat).toNat : Int) = n := by
  have h2 : 0 ≤ n ∧ n ≤ 255 := by
    simp only [Lit.wf, Bool.and_eq_true, decide_eq_true_eq] at h
    exact h
  have h3 : n.toNat < 256 := by omega
  simp only [UInt8.toNat_ofNat']
  omega

theorem open_bytes_fuel {t e : TypeId} {v : Value} {fuel : Nat} {x : DataW H × List MemPlace} (ht : P.underlying t = some (.slice e)) (he : P.underlying e = some (.int .u8)) (hc : P.cellsOf e = 1)
    (h : DataW.trod enc P W base spare held fuel t [v] = some x) : ∃ s : List UInt8, Sl W v 1 s.length (bys s) ∧ ∃ m, s.length ≤ m ∧ (m = 0 ∨ ∃ es sp, x.1 = .slice es sp ∧ es.length + sp.length = m) := by
  rcases open_ints ht he hc h with ⟨hcs, _⟩ | ⟨a, len, cap, zs, hcs, hb, hl, hm, hz, hx, hcell, hw⟩
  · injection hcs with hcs _
    exact ⟨[], by rw [hcs]; exact Sl.nil _ _, 0, by simp, .inl rfl⟩
  · injection hcs with hcs _
    have hlz : len ≤ zs.length := by rw [hz]; split <;> omega
    have hlen : ((zs.take len).map fun n => UInt8.ofNat n.toNat).length = len := by simp; omega
    refine ⟨(zs.take len).map fun n => UInt8.ofNat n.toNat, ?_, zs.length, by rw [hlen]; exact hlz, .inr ⟨lits .u8 (zs.take len), lits .u8 (zs.drop len), by rw [hx], by simp [lits]; omega⟩⟩
    rw [hlen]
    refine ⟨by rw [bys_length, hlen, Nat.mul_one], some a, cap, hcs, hl, hm, (fun h => by cases h), fun ad had j u hu => ?_⟩
    obtain rfl := Option.some.inj had
    have hj : j < len := by
      have := (List.getElem?_eq_some_iff.1 hu).1
      rw [bys_length, hlen] at this
      exact this
    rw [hcell j (by omega), ← hu]
    have hg : zs.getD j 0 = zs[j]'(by omega) := by simp [List.getD, show j < zs.length by omega]
    rw [hg]
    have := u8_back (zs[j]'(by omega)) (hw _ (List.getElem_mem _))
    have h2 : (bys ((zs.take len).map fun n => UInt8.ofNat n.toNat))[j]? = some (.int .u8 ((UInt8.ofNat (zs[j]'(by omega)).toNat).toNat : Int)) := by
      unfold bys
      rw [List.getElem?_map, List.getElem?_map, List.getElem?_take_of_lt hj, List.getElem?_eq_getElem (by omega)]
      rfl
    rw [h2, this]

theorem open_bytes {t e : TypeId} {v : Value} {d : DataW H} {ps : List MemPlace} {ts : List TypeId} {ds : List (DataW H)} {j : Nat} (hsz : (DataW.weightsEach P ts ds).all (· ≤ reachBytes) = true) (htj : ts[j]? = some t) (hdj : ds[j]? = some d)
    (ht : P.underlying t = some (.slice e)) (he : P.underlying e = some (.int .u8)) (hc : P.cellsOf e = 1) (hB : P.bytesOf e = 1) (h1 : v.cells.toList = [v])
    (h : DataW.Trod enc P W base spare held t v d ps) : ∃ s : List UInt8, Sl W v 1 s.length (bys s) ∧ s.length ≤ 140737488351232 := by
  obtain ⟨fuel, hf⟩ := h
  rw [h1] at hf
  obtain ⟨s, hs, m, hm, hor⟩ := open_bytes_fuel ht he hc hf
  refine ⟨s, hs, ?_⟩
  rcases hor with rfl | ⟨es, sp, hx, hlen⟩
  · omega
  · obtain rfl : d = .slice es sp := hx
    have z := sized_slice hsz htj hdj ht
    rw [hB, hlen, Nat.mul_one] at z
    exact Nat.le_trans hm z

/-- v reads as these texts. -/
structure Mat (w : World) (v : Value) (L : List (List UInt8)) (vs : List Value) : Prop where
  outer : Sl w v 1 L.length vs
  inner : ∀ i (h : i < L.length), ∃ u, vs[i]? = some u ∧ Sl w u 1 (L[i]'h).length (bys (L[i]'h))
theorem Mat.keeps {w w' : World} {v : Value} {L : List (List UInt8)} {vs : List Value} (h : Mat w v L vs) (k : Keeps w w') : Mat w' v L vs :=
  ⟨h.outer.keeps k, fun i hi => by obtain ⟨u, h1, h2⟩ := h.inner i hi; exact ⟨u, h1, h2.keeps k⟩⟩

theorem open_mat {t e b : TypeId} {v : Value} {d : DataW H} {ps : List MemPlace} {ts : List TypeId} {ds : List (DataW H)} {j : Nat} (hsz : (DataW.weightsEach P ts ds).all (· ≤ reachBytes) = true) (htj : ts[j]? = some t) (hdj : ds[j]? = some d)
    (ht : P.underlying t = some (.slice e)) (he : P.underlying e = some (.slice b)) (hb : P.underlying b = some (.int .u8)) (hce : P.cellsOf e = 1) (hcb : P.cellsOf b = 1) (hB : P.bytesOf e = 24) (h1 : v.cells.toList = [v])
    (h : DataW.Trod enc P W base spare held t v d ps) : ∃ L vs, Mat W v L vs ∧ L.length * 24 ≤ 140737488351232 := by
  obtain ⟨fuel, hf⟩ := h
  rw [h1] at hf
  rcases open_slice1 ht hce hf with ⟨hcs, _⟩ | ⟨a, len, cap, m, n, V, D, Pl, hcs, hba, hl, hm, hmm, hx, hel⟩
  · injection hcs with hcs _
    exact ⟨[], [], ⟨by rw [hcs]; exact Sl.nil _ _, fun i hi => by simp at hi⟩, by simp⟩
  · injection hcs with hcs _
    have hlm : len ≤ m := by rw [hmm]; split <;> omega
    obtain ⟨S, hS⟩ := choose_lt (α := List UInt8) (n := len) (p := fun i s => Sl W (V i) 1 s.length (bys s)) (fun i hi => by
      obtain ⟨_, h2⟩ := hel i (by omega)
      obtain ⟨s, hs, _⟩ := open_bytes_fuel he hb hcb h2
      exact ⟨s, hs⟩)
    have hL : ((List.range len).map S).length = len := by simp
    refine ⟨(List.range len).map S, (List.range len).map V, ⟨?_, fun i hi => ?_⟩, ?_⟩
    · rw [hL]
      refine ⟨by simp, some a, cap, hcs, hl, hm, (fun h => by cases h), fun ad had i u hu => ?_⟩
      obtain rfl := Option.some.inj had
      have hi : i < len := by have := (List.getElem?_eq_some_iff.1 hu).1; simpa using this
      have : u = V i := by simp [hi] at hu; exact hu.symm
      rw [this]
      exact (hel i (by omega)).1
    · have hi' : i < len := by simpa using hi
      refine ⟨V i, by simp [hi'], ?_⟩
      simpa using hS i hi'
    · obtain rfl : d = .slice ((List.range len).map D) ((List.range (m - len)).map fun j => D (len + j)) := by injection hx
      have z := sized_slice hsz htj hdj ht
      rw [hB] at z
      simp only [List.length_map, List.length_range] at z
      rw [hL]
      exact Nat.le_trans (Nat.mul_le_mul_right 24 (by omega)) z
end
end Go.Vb
