/- The live question of layer 7 is answered with true. -/
import Derived.Test.YtgofjdkpnmoedaaTrieK
set_option linter.unusedSimpArgs false
set_option linter.unusedVariables false
namespace Go.Proofs.Ytgofjdkpnmoedaa
open Go.RowKit Go.Vb

theorem own_cell {w : World} {base n : Nat} {v : Value} {xs : List Int} (h : w.ownsRow base 3 1 v n (ints .i64 xs)) (hn : 0 < n) : ∃ g cap, v = .slice (some ⟨g, 0, none⟩) n cap ∧ ∀ j (hj : j < xs.length), w.cell? ⟨g, j, none⟩ = some (.int .i64 xs[j]) := by
  obtain ⟨g, cap, rfl, _⟩ := ownsRow_pos h hn
  refine ⟨g, cap, rfl, fun j hj => ?_⟩
  have hl := h.1
  rw [ints_length] at hl
  rw [h.cellAt j (by omega)]
  exact ints_get _ xs j hj

theorem zeros17 : bys (List.replicate 17 0) = [.int .u8 0, .int .u8 0, .int .u8 0, .int .u8 0, .int .u8 0, .int .u8 0, .int .u8 0, .int .u8 0, .int .u8 0, .int .u8 0, .int .u8 0, .int .u8 0, .int .u8 0, .int .u8 0, .int .u8 0, .int .u8 0, .int .u8 0] := rfl
def zeroCells17 : Array Value := #[.int .u8 0, .int .u8 0, .int .u8 0, .int .u8 0, .int .u8 0, .int .u8 0, .int .u8 0, .int .u8 0, .int .u8 0, .int .u8 0, .int .u8 0, .int .u8 0, .int .u8 0, .int .u8 0, .int .u8 0, .int .u8 0, .int .u8 0]
theorem make17 (w : World) : (Instr.makeSlice 23 (.int .i64 17) (.int .i64 17)).run Try.prog w = .ok (.slice (some ⟨w.heap.size, 0, none⟩) 17 17) (w.alloc (.cells zeroCells17 5)) := by kernel_rfl
theorem mat_17 (w : World) : Mat ((w.alloc (.cells zeroCells17 5)).alloc (.cells #[.slice (some ⟨w.heap.size, 0, none⟩) 17 17] 23)) (.slice (some ⟨w.heap.size + 1, 0, none⟩) 1 1) [List.replicate 17 0] [.slice (some ⟨w.heap.size, 0, none⟩) 17 17] := by
  have h1 := sl_lit w (List.replicate 17 0) (0, 0) (by decide)
  refine ⟨?_, fun i hi => ?_⟩
  · have := sl_one (w.alloc (.cells zeroCells17 5)) 23 (.slice (some ⟨w.heap.size, 0, none⟩) 17 17)
    simpa using this
  · have : i = 0 := by simp at hi; omega
    subst this
    exact ⟨_, rfl, h1.keeps (keeps_alloc _ _)⟩

set_option maxHeartbeats 2000000 in
set_option maxRecDepth 100000 in
theorem head_any (w : World) : Calls Try.prog 13 #[] w fun e w' => e = .returned (.bool true) ∧ Keeps w w' := by
  have kc : ∀ (w : World) (C : Array Value) (n c k : Nat), k = w.heap.size → (convert 23 23 (.slice (some ⟨k, 0, none⟩) n c)).run Try.prog (w.alloc (.cells C 5)) = .ok (.slice (some ⟨k, 0, none⟩) n c) (w.alloc (.cells C 5 (C.size, C.size + 1))) := fun w C n c k hk => by subst hk; exact Lib.run_convert_bytes_const (P := Try.prog) w 23 5 C n c Try.underlying23 Try.underlying5
  have hmk := make17
  go_enter Try.func13, Try.ntmps13
  go_wp2_with fail
  refine (new_any (headW w) _ headL _ (mat_head w) (by decide) (by decide)).mono ?_
  rintro e w2 ⟨T, N, rfl, TA, hk2⟩
  have hk2 := (keeps_headW w).trans hk2
  go_wp2_with fail
  refine (new_long _ _ _ _ (mat_17 w2) (by decide)).mono ?_
  rintro e w3 ⟨rfl, rfl⟩
  have hk3 : Keeps w2 ((w2.alloc (.cells zeroCells17 5)).alloc (.cells #[.slice (some ⟨w2.heap.size, 0, none⟩) 17 17] 23)) := (keeps_alloc _ _).trans (keeps_alloc _ _)
  have TA3 := TA.keeps hk3
  obtain ⟨w3, hw3⟩ : ∃ w3, w3 = ((w2.alloc (.cells zeroCells17 5)).alloc (.cells #[.slice (some ⟨w2.heap.size, 0, none⟩) 17 17] 23)) := ⟨_, rfl⟩
  rw [← hw3] at TA3 hk3 ⊢
  have hk3 := hk2.trans hk3
  clear hw3
  have sA := sl_lit w3 [98] (1, 2) (by decide)
  go_wp2_with fail
  refine (prefix_any (TA3.keeps (keeps_alloc _ _)) (by decide) _ [98] sA (by decide)).mono ?_
  rintro e w4 ⟨va, rfl, oa, hk4⟩
  have hk4' := (keeps_alloc _ _).trans hk4
  have TA4 := TA3.keeps hk4'
  have sB := sl_lit w4 [98] (1, 2) (by decide)
  go_wp2_with fail
  refine (suffix_any (TA4.keeps (keeps_alloc _ _)) (by decide) _ [98] sB (by decide)).mono ?_
  rintro e w5 ⟨vb, B, rfl, ob, hB, hk5⟩
  have hk5' := (keeps_alloc _ _).trans hk5
  have TA5 := TA4.keeps hk5'
  have sC := sl_lit w5 [98] (1, 2) (by decide)
  go_wp2_with fail
  refine (infix_any (TA5.keeps (keeps_alloc _ _)) (by decide) _ [98] sC (by decide)).mono ?_
  rintro e w6 ⟨vc, rfl, oc, hk6⟩
  have hk6' := (keeps_alloc _ _).trans hk6
  have TA6 := TA5.keeps hk6'
  have hK6 := ((hk3.trans hk4').trans hk5').trans hk6'
  have ea : ans 0 headL [98] = [1, 2] := by decide
  have eb : ans 1 headL [98] = [0, 2] := by decide
  have ec : ans 2 headL [98] = [0, 1, 2] := by decide
  rw [ea] at oa
  rw [eb] at ob
  rw [ec] at oc
  obtain ⟨ga, ca, rfl, hca⟩ := own_cell oa (by decide)
  obtain ⟨gb, cb, rfl, hcb⟩ := own_cell ob (by decide)
  obtain ⟨_, gc, rfl⟩ := ownsRow_slice oc
  have ha0 : w6.cell? ⟨ga, 0, none⟩ = some (.int .i64 1) := Keeps.cell (hk5'.trans hk6') (hca 0 (by decide))
  have hb0 : w6.cell? ⟨gb, 0, none⟩ = some (.int .i64 0) := Keeps.cell hk6' (hcb 0 (by decide))
  have sD := sl_lit w6 [98, 98] (2, 3) (by decide)
  have hI := infix_any (TA6.keeps (keeps_alloc _ _)) (by decide) _ [98, 98] sD (by decide)
  have ed : ans 2 headL [98, 98] = [] := by decide
  rw [ed] at hI
  have ee : ans 0 headL [] = [0, 1, 2] := by decide
  have HE := hid ee
  have HK := hid hK6
  have HT := hid TA6
  clear ee ed ea eb ec hca hcb oa ob oc hk2 hk3 hk4 hk5 hk6 hk4' hk5' hk6' TA TA3 TA4 TA5 TA6 hK6 sA sB sC sD
  go_wp2_with fail
  refine hI.mono ?_
  rintro e w7 ⟨vd, rfl, od, hk7⟩
  obtain ⟨_, _, rfl⟩ := ownsRow_slice od
  have hk7' := (keeps_alloc _ _).trans hk7
  go_wp2_with fail
  refine (prefix_any (HT.out.keeps hk7') (by decide) _ [] (Sl.nil _ _) (by decide)).mono ?_
  rintro e w8 ⟨ve, rfl, oe, hk8⟩
  rw [HE.out] at oe
  obtain ⟨_, _, rfl⟩ := ownsRow_slice oe
  have HK8 := hid ((HK.out.trans hk7').trans hk8)
  clear oe od hk8 hk7 hk7'
  go_wp2
  go_ret
  exact ⟨rfl, HK8.out⟩
end Go.Proofs.Ytgofjdkpnmoedaa
