/- Postings in memory; Great; pos, at, rises, check of package post. -/
import Derived.Test.YtlmlanaobhfmbaaProg
import Derived.Test.YtlmlanaobhfmbaaBase
import Derived.Test.YtlmlanaobhfmbaaReg
import Derived.Test.YtlmlanaobhfmbaaRow
import Derived.RegionTactic
import Derived.Deep.RegionWith
set_option linter.unusedSimpArgs false
set_option linter.unusedVariables false
namespace Go.Proofs.Ytlmlanaobhfmbaa
open Go.RowKit Go.Vb
abbrev Spot := Int × Int
abbrev Post := Int × List Spot
def spotCells (l : List Spot) : List Value := l.flatMap fun s => [.int .i64 s.1, .int .i64 s.2]
theorem spotCells_length (l : List Spot) : (spotCells l).length = l.length * 2 := by
  unfold spotCells; induction l with
  | nil => rfl
  | cons a t ih => simp only [List.flatMap_cons, List.length_append, ih, List.length_cons, List.length_nil]; omega
theorem spotCells_get (l : List Spot) (j : Nat) (h : j < l.length) : (spotCells l)[j * 2]? = some (.int .i64 (l[j]'h).1) ∧ (spotCells l)[j * 2 + 1]? = some (.int .i64 (l[j]'h).2) := by
  induction l generalizing j with
  | nil => simp at h
  | cons a t ih =>
    unfold spotCells
    rw [List.flatMap_cons]
    cases j with
    | zero => exact ⟨rfl, rfl⟩
    | succ j =>
      have := ih j (by simpa using h)
      unfold spotCells at this
      rw [show (j + 1) * 2 = j * 2 + 2 by omega, show j * 2 + 2 + 1 = j * 2 + 1 + 2 by omega]
      exact this
/-- v reads as these postings. -/
structure Posts (w : World) (v : Value) (L : List Post) (cs : List Value) : Prop where
  outer : Sl w v 2 L.length cs
  inner : ∀ i (h : i < L.length), cs[i * 2]? = some (.int .i64 (L[i]'h).1) ∧ ∃ u, cs[i * 2 + 1]? = some u ∧ Sl w u 2 (L[i]'h).2.length (spotCells (L[i]'h).2)
theorem Posts.keeps {w w' : World} {v : Value} {L : List Post} {cs : List Value} (h : Posts w v L cs) (k : Keeps w w') : Posts w' v L cs :=
  ⟨h.outer.keeps k, fun i hi => by obtain ⟨h1, u, h2, h3⟩ := h.inner i hi; exact ⟨h1, u, h2, h3.keeps k⟩⟩
theorem Posts.open {w : World} {ao : Option Addr} {n c : Nat} {L : List Post} {cs : List Value} (h : Posts w (.slice ao n c) L cs) (hp : 0 < L.length) :
    ∃ b off, ao = some ⟨b, off, none⟩ ∧ b < w.heap.size ∧ ∀ i (hi : i < L.length), w.cell? ⟨b, off + i * 2, none⟩ = some (.int .i64 (L[i]'hi).1) ∧ ∃ u, w.cell? ⟨b, off + i * 2 + 1, none⟩ = some u ∧ Sl w u 2 (L[i]'hi).2.length (spotCells (L[i]'hi).2) := by
  obtain ⟨ao', c', e, _⟩ := h.outer.value
  injection e with _ e2 _
  subst e2
  obtain ⟨b, off, e, hb, hc⟩ := h.outer.open (by rw [h.outer.len]; omega)
  refine ⟨b, off, e, hb, fun i hi => ?_⟩
  obtain ⟨h1, u, h2, h3⟩ := h.inner i hi
  exact ⟨hc _ _ h1, u, by rw [Nat.add_assoc]; exact hc _ _ h2, h3⟩
theorem spots_open {w : World} {ao : Option Addr} {c : Nat} {l : List Spot} (h : Sl w (.slice ao l.length c) 2 l.length (spotCells l)) (hp : 0 < l.length) :
    ∃ b off, ao = some ⟨b, off, none⟩ ∧ b < w.heap.size ∧ ∀ i (hi : i < l.length), w.cell? ⟨b, off + i * 2, none⟩ = some (.int .i64 (l[i]'hi).1) ∧ w.cell? ⟨b, off + i * 2 + 1, none⟩ = some (.int .i64 (l[i]'hi).2) := by
  obtain ⟨b, off, e, hb, hc⟩ := h.open (by rw [h.len]; omega)
  refine ⟨b, off, e, hb, fun i hi => ?_⟩
  obtain ⟨h1, h2⟩ := spotCells_get l i hi
  exact ⟨hc _ _ h1, by rw [Nat.add_assoc]; exact hc _ _ h2⟩
/-- how much it is in all. -/
def tot (L : List Post) : Nat := L.length + (L.map fun p => p.2.length).sum
def spotsTo (L : List Post) (j : Nat) : Nat := ((L.take j).map fun p => p.2.length).sum
theorem spotsTo_succ (L : List Post) (j : Nat) (h : j < L.length) : spotsTo L (j + 1) = spotsTo L j + (L[j]'h).2.length := by
  unfold spotsTo
  rw [List.take_add_one, List.getElem?_eq_getElem h, Option.toList_some, List.map_append, List.sum_append]
  simp
theorem spotsTo_all (L : List Post) : L.length + spotsTo L L.length = tot L := by unfold spotsTo tot; rw [List.take_length]
set_option maxRecDepth 100000 in
theorem great_any (w : World) (v : Value) (L : List Post) (cs : List Value) (hP : Posts w v L cs) (hB : ∀ i (h : i < L.length), (L[i]'h).2.length ≤ 8796093022208) :
    Calls Try.prog 18 #[v] w fun e w' => ∃ g : Bool, e = .returned (.bool g) ∧ (g = false → tot L < 20000) ∧ w' = w := by
  obtain ⟨ao, c, rfl, h1, h2, _⟩ := hP.outer.value
  have hLm : L.length ≤ 9223372036854775807 := by unfold maxLen at h2; omega
  have S36 : ∀ w, (sizeOf 36).run Try.prog w = .ok 2 w := fun w => by kernel_rfl
  have HB := hid hB
  clear hB
  go_enter Try.func18, Try.ntmps18
  go_wp2_with fail
  go_loopw [3, 4] (fun n i wr => ∃ j : Nat, j ≤ L.length ∧ i = .int .i64 (j : Int) ∧ n = .int .i64 ((L.length + spotsTo L j : Nat) : Int) ∧ L.length + spotsTo L j ≤ 9223372036854775807 ∧ wr = w) (fun _ i _ => L.length - (intOf i).toNat)
  case atStart => exact ⟨0, by omega, rfl, by simp [spotsTo], by simp [spotsTo]; omega, rfl⟩
  case round =>
    obtain ⟨j, hj, rfl, rfl, hmx, rfl⟩ := hrel
    have hall := spotsTo_all L
    obtain ⟨m, hm⟩ : ∃ m, m = L.length + spotsTo L j := ⟨_, rfl⟩
    rw [← hm] at hmx ⊢
    have HM := hid hm
    have HALL := hid hall
    clear hm hall
    by_cases hlt : j < L.length
    · by_cases hg : m < 20000
      · have hg' : (m : Int) < 20000 := by omega
        have hs := spotsTo_succ L j hlt
        obtain ⟨b, off, rfl, hb, hc⟩ := hP.open (by omega)
        obtain ⟨_, u, c1, g3⟩ := hc j hlt
        obtain ⟨au, cu, rfl, hu1, hu2, _⟩ := g3.value
        obtain ⟨d, hd⟩ : ∃ d, d = (L[j]'hlt).2.length := ⟨_, rfl⟩
        have hdB := HB.out j hlt
        rw [← hd] at c1 hs hu1 hdB
        have hcu : m + d ≤ 9223372036854775807 := by omega
        have HS := hid hs
        clear hc g3 hs hd
        go_wp2_with fail
        go_roundw
        case rel => exact ⟨j + 1, by omega, by go_num, by rw [HS.out, ← Nat.add_assoc, ← HM.out]; go_num, by rw [HS.out, ← Nat.add_assoc, ← HM.out]; exact hcu, trivial⟩
        case measure => simp [intOf]; omega
      · have hg' : (20000 : Int) ≤ (m : Int) := by omega
        go_wp2
        go_ret
        refine ⟨_, rfl, fun h => ?_, rfl⟩
        exact absurd h (by simp [hg'])
    · obtain rfl : j = L.length := by omega
      have hmt : m = tot L := HM.out.trans HALL.out
      have HMT := hid hmt
      clear hmt
      by_cases hg : m < 20000
      · have hg' : (m : Int) < 20000 := by omega
        go_wp2
        go_ret
        exact ⟨_, rfl, fun _ => by rw [← HMT.out]; exact hg, rfl⟩
      · have hg' : (20000 : Int) ≤ (m : Int) := by omega
        go_wp2
        go_ret
        refine ⟨_, rfl, fun h => ?_, rfl⟩
        exact absurd h (by simp [hg'])
end Go.Proofs.Ytlmlanaobhfmbaa
