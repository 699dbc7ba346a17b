/- The document's Put of layer 4. -/
import Derived.Test.YtegonlmhaobgcaaRefSum
import Derived.Test.YtegonlmhaobgcaaRefLebB
import Derived.Test.YtegonlmhaobgcaaFrameB
set_option linter.unusedSimpArgs false
set_option linter.unusedVariables false
namespace Go.Proofs.Ytegonlmhaobgcaa
open Go.RowKit Go.Vb
theorem bys_four (c : Int) (hc : 0 ≤ c ∧ c ≤ 4294967295) : #[Value.int .u8 (c % 256), .int .u8 (c / 256 % 256), .int .u8 (c / 65536 % 256), .int .u8 (c / 16777216)] = (bys (fourOf c)).toArray := by
  simp only [fourOf, bys, List.map_cons, List.map_nil]
  rw [u8_nat _ (by omega), u8_nat _ (by omega), u8_nat _ (by omega), u8_nat _ (by omega)]
set_option maxRecDepth 100000 in
theorem ref_framePut (w : World) (v : Value) (s : List UInt8) (hv : Sl w v 1 s.length (bys s)) (hl : s.length ≤ 35184372088832) :
    Calls Try.prog 38 #[v] w fun e w' => ∃ v', e = .returned v' ∧ w'.ownsRow w.heap.size 5 1 v' (frameOf s).length (bys (frameOf s)) ∧ Keeps w w' := by
  obtain ⟨i0, hi, hz0, hz1, hz2⟩ := info_parts infoByte
  have hll := lebOf_len 9 s.length (by omega)
  have hsum := ref_Sum w v s hv
  have hput := ref_Put w s.length (by omega)
  have hcr := crcOf_range 0 s
  have hb4 := bys_four (crcOf 0 s) hcr
  have HB4 := hid hb4
  clear hb4
  obtain ⟨ao, c, rfl, _⟩ := hv.value
  have hfl : (frameOf s).length = (lebOf s.length).length + 4 + s.length := by unfold frameOf; simp [four_length]; omega
  have HFL := hid hfl
  clear hfl
  go_enter Try.func38, Try.ntmps38
  go_wp2_with fail
  refine hsum.mono ?_
  rintro e w1 ⟨rfl, rfl⟩
  go_wp2_with fail
  refine hput.mono ?_
  rintro e w2 ⟨v2, rfl, o2, k2⟩
  obtain ⟨a2, c2, rfl⟩ := ownsRow_slice o2
  have hf4 := sl_four w2 (fourOf (crcOf 0 s)) rfl
  rw [← HB4.out] at hf4
  have HF4 := hid hf4
  clear hf4
  go_wp2_with (at_builtin; refine wpList_append_sl _ rfl _ _ 30 rfl w1.heap.size 5 i0 (.int .u8 0) 1 1 Try.underlying30 hi hz0 hz1 hz2 rfl (by decide) _ _ _ rfl (o2.alloc _) _ 4 (bys (fourOf (crcOf 0 s))) rfl HF4.out (bys_one _) (by unfold maxLen; omega) (by omega) (by have := k2.size; simp; omega) ?_)
  intro v3 w3 o3 hg3 _ _
  have k3 : Keeps w1 w3 := (k2.trans ((Below.refl _ _).alloc (Nat.le_refl _) _)).grown hg3 (by have := k2.size; simp; omega) (fun k e => (ownsRow_base o2 e).1)
  have hv3 := hv.keeps k3
  obtain ⟨a3, c3, rfl⟩ := ownsRow_slice o3
  go_wp2_with (at_builtin; refine wpList_append_sl _ rfl _ _ 30 rfl w1.heap.size 5 i0 (.int .u8 0) 1 1 Try.underlying30 hi hz0 hz1 hz2 rfl (by decide) _ _ _ rfl o3 _ s.length (bys s) rfl hv3 (bys_one _) (by unfold maxLen; omega) (by omega) k3.size ?_)
  intro v4 w4 o4 hg4 _ _
  have k4 : Keeps w1 w4 := k3.grown hg4 k3.size (fun k e => (ownsRow_base o3 e).1)
  obtain ⟨a4, c4, rfl⟩ := ownsRow_slice o4
  go_wp2
  go_ret
  have e1 : bys (frameOf s) = bys (lebOf s.length) ++ bys (fourOf (crcOf 0 s)) ++ bys s := by unfold frameOf; rw [bys_append, bys_append, List.append_assoc]
  refine ⟨_, rfl, ?_, k4⟩
  rw [HFL.out, e1]
  simpa using o4
end Go.Proofs.Ytegonlmhaobgcaa
