/- The live question of the laws of dels. -/
import Derived.Test.YtegonlmhaobgcaaDelsB
set_option linter.unusedSimpArgs false
set_option linter.unusedVariables false
namespace Go.Proofs.Ytegonlmhaobgcaa
open Go.RowKit Go.Vb

def S0 : Nat → Bool := fun _ => false
def S2 : Nat → Bool := setS (setS S0 2) 0
theorem put_S2 : putOf 3 S2 = [3, 5] := by
  unfold putOf; rw [lebOf_end 3 (by omega)]; rfl
theorem frame_S2 : frameOf [3, 5] = [2] ++ (fourOf (crcOf 0 [3, 5]) ++ [3, 5]) := by
  unfold frameOf; rw [show ([3, 5] : List UInt8).length = 2 from rfl, lebOf_end 2 (by omega)]; rfl
theorem live_S2 : liveTo S2 3 = [1] := by decide
set_option maxRecDepth 100000 in
set_option maxHeartbeats 1000000 in
theorem head_any (w : World) : Calls Try.prog 7 #[] w fun e w' => e = .returned (.bool true) ∧ Keeps w w' := by
  go_enter Try.func7, Try.ntmps7
  go_wp2_with fail
  refine (new_in w 3 (by omega)).mono ?_
  rintro e w1 ⟨rfl, d1, k1⟩
  generalize hD : w.heap.size = D at *
  go_wp2_with fail
  refine (new_out w1 65 (by omega)).mono ?_
  rintro e w2 ⟨rfl, rfl⟩
  go_wp2_with fail
  refine (add_in d1 2 (by omega) rfl).mono ?_
  rintro e w3 ⟨rfl, d3, m3⟩
  go_wp2_with fail
  refine (add_in d3 0 (by omega) rfl).mono ?_
  rintro e w4 ⟨rfl, d4, m4⟩
  go_wp2_with fail
  refine (add_no d4 0 (.inr rfl)).mono ?_
  rintro e w5 ⟨rfl, rfl⟩
  go_wp2_with fail
  refine (add_no d4 3 (.inl (by omega))).mono ?_
  rintro e w6 ⟨rfl, rfl⟩
  have d5 : DelsAt w6 D 3 S2 := d4
  have k5 : Keeps w w6 := keeps_new k1 (m3.trans m4) (fun b hb => by omega)
  go_wp2_with fail
  refine (put_any d5).mono ?_
  rintro e w7 ⟨v7, rfl, o7, k7⟩
  have s7 := ownsRow_sl o7
  clear o7
  rw [put_S2, frame_S2] at s7
  have d7 := d5.keeps k7
  have s7' : Sl w7 v7 1 7 (bys ([2] ++ (fourOf (crcOf 0 [3, 5]) ++ [3, 5]))) := s7
  obtain ⟨ao7, c7, rfl, _⟩ := s7'.value
  obtain ⟨b7, off7, rfl, _, hc7⟩ := s7'.open (by simp [bys, fourOf])
  have cl5 := hc7 5 (.int .u8 3) rfl
  have cl6 := hc7 6 (.int .u8 5) rfl
  clear s7 hc7
  go_wp2_with fail
  refine (live_any d7).mono ?_
  rintro e w8 ⟨v8, rfl, o8, k8⟩
  rw [live_S2] at o8
  have s8 := ownsRow_sl o8
  obtain ⟨ao8, c8, rfl, _⟩ := s8.value
  obtain ⟨b8, off8, rfl, _, hc8⟩ := s8.open (by simp [ints])
  have cl8 := hc8 0 (.int .i64 1) rfl
  have cl5' := k8.cell cl5
  have cl6' := k8.cell cl6
  have d8 := d7.keeps k8
  have hl1 : ([1] : List Int).length = 1 := rfl
  simp only [Nat.add_zero] at cl8
  clear hc8 s7' s8 o8 cl5 cl6
  go_wp2_with fail
  refine (many_any d8).mono ?_
  rw [live_S2]
  rintro e w9 ⟨rfl, k9⟩
  go_wp2_with fail
  refine (size_any (d8.keeps k9)).mono ?_
  rintro e w10 ⟨rfl, rfl⟩
  go_wp2
  go_ret
  exact ⟨rfl, ((k5.trans k7).trans k8).trans k9⟩
end Go.Proofs.Ytegonlmhaobgcaa
