/- slices.Concat of bytes. -/
import Derived.Test.YtlmlanaobhfmbaaLebA
import Derived.Test.YtlmlanaobhfmbaaRow
import Derived.Lib.AppendZerosOnto
import Derived.Lib.AppendZeros
import Derived.Deep.Onto
set_option linter.unusedSimpArgs false
set_option linter.unusedVariables false
namespace Go.Proofs.Ytlmlanaobhfmbaa
open Go.RowKit Go.Vb

set_option maxRecDepth 100000 in
theorem grow_nil (w : World) (n : Nat) (hn : 0 < n) (hb : n ≤ 140737488355328) :
    Calls Try.prog 119 #[.slice none 0 0, .int .i64 (n : Int)] w fun e w' => ∃ v', e = .returned v' ∧ w'.ownsRow w.heap.size 5 1 v' 0 [] ∧ Keeps w w' := by
  obtain ⟨i0, hi, hz0, hz1, hz2⟩ := info_parts infoByte
  have hold : (Builtin.firstCells i0.size 0 (.slice none 0 0)).run Try.prog w.drew = .ok ([] : List Value).toArray w.drew := run_firstCells_none w.drew i0.size 0 0 0
  have hrz : ∀ ty, (Builtin.append_ #[23, 3] ty #[.slice none 0 0, .int .i64 (n : Int)]).run Try.prog w = .ok (.slice (some ⟨w.heap.size, 0, none⟩) n (grownCap w n 0 5)) (w.drew.alloc (.cells (([] : List Value).toArray ++ Builtin.zeroCells (Value.int .u8 0).cells n ++ Builtin.zeroCells (Value.int .u8 0).cells (grownCap w n 0 5 - n)) 5)) := fun ty => by
    have h := Lib.run_append_grow_zeros w 23 3 ty 5 i0 (.int .u8 0) .i64 .i64 Try.underlying23 Try.underlying3 hi hz0 none 0 0 [] hold n (by omega) (by omega) (by omega) (by omega) (by rw [hz2]; omega) (by rw [Nat.zero_add]; exact growslice_fits hn (by rw [hz2]; omega))
    rw [Nat.zero_add] at h
    exact h
  have hge := grownCap_ge w n 0 5
  have hle := grownCap_le_maxLen w n 0 5 (by unfold maxLen; omega)
  have hsz : ∀ m, (Builtin.zeroCells (Value.int .u8 0).cells m).size = m := fun m => by simp [Builtin.zeroCells, Value.cells]
  obtain ⟨G, hG⟩ : ∃ G, G = grownCap w n 0 5 := ⟨_, rfl⟩
  rw [← hG] at hrz hge hle
  obtain ⟨C, hC⟩ : ∃ C, C = ([] : List Value).toArray ++ Builtin.zeroCells (Value.int .u8 0).cells n ++ Builtin.zeroCells (Value.int .u8 0).cells (G - n) := ⟨_, rfl⟩
  have hCs : C.size = G := by rw [hC]; simp only [Array.size_append, hsz]; simp; omega
  rw [← hC] at hrz
  have hG2 : G ≤ 9223372036854775807 := by unfold maxLen at hle; omega
  have HG := hid hG
  have HC := hid hC
  clear hG hC hold
  have hn' : (0 : Int) < (n : Int) := by omega
  have hown : (w.drew.alloc (.cells C 5)).ownsRow w.heap.size 5 1 (.slice (some ⟨w.heap.size, 0, none⟩) 0 G) 0 [] := World.ownsRow_made w.drew C G (Nat.le_refl _) hle (by omega)
  go_enter Try.func119, Try.ntmps119
  go_wp2_with (at_builtin; refine Lib.wpList_append_run _ rfl _ _ _ _ rfl _ _ rfl rfl _ _ (hrz _) ?_)
  go_ret
  exact ⟨_, rfl, hown, (keeps_drewN w 1).trans ((Below.refl _ _).alloc (Nat.le_refl _) _)⟩
theorem flat_succ (L : List (List UInt8)) (j : Nat) (h : j < L.length) : (L.take (j + 1)).flatten = (L.take j).flatten ++ L[j]'h := by
  rw [List.take_add_one, List.getElem?_eq_getElem h, Option.toList_some, List.flatten_append, List.flatten_singleton]
theorem flat_le (L : List (List UInt8)) (j : Nat) : (L.take j).flatten.length ≤ L.flatten.length := by
  have h : L.flatten = (L.take j).flatten ++ (L.drop j).flatten := by rw [← List.flatten_append, List.take_append_drop]
  rw [h]; simp
def flatLen (L : List (List UInt8)) (j : Nat) : Nat := (L.take j).flatten.length
theorem flatLen_all (L : List (List UInt8)) : flatLen L L.length = L.flatten.length := by unfold flatLen; rw [List.take_length]
theorem flatLen_succ (L : List (List UInt8)) (j : Nat) (h : j < L.length) : flatLen L (j + 1) = flatLen L j + (L[j]'h).length := by unfold flatLen; rw [flat_succ L j h, List.length_append]
theorem flatLen_le (L : List (List UInt8)) (j : Nat) : flatLen L j ≤ L.flatten.length := flat_le L j
set_option maxHeartbeats 1000000 in
set_option maxRecDepth 100000 in
theorem concat_any (w : World) (v : Value) (L : List (List UInt8)) (vs : List Value) (hM : Mat w v L vs) (h0 : 0 < L.flatten.length) (htot : L.flatten.length ≤ 70368744177664) :
    Calls Try.prog 101 #[v] w fun e w' => ∃ v', e = .returned v' ∧ w'.ownsRow w.heap.size 5 1 v' L.flatten.length (bys L.flatten) ∧ Keeps w w' := by
  obtain ⟨i0, hi, hz0, hz1, hz2⟩ := info_parts infoByte
  obtain ⟨ao, c, rfl, hc1, hc2, _⟩ := hM.outer.value
  have hLm : L.length ≤ 9223372036854775807 := by unfold maxLen at hc2; omega
  have hgr := fun w => grow_nil w L.flatten.length h0 (by omega)
  have HG := hid hgr
  clear hgr
  go_enter Try.func101, Try.ntmps101
  go_wp2_with fail
  go_loopw [3, 5, 11] (fun q u i wr => ∃ j : Nat, j ≤ L.length ∧ i = .int .i64 (j : Int) ∧ q = .int .i64 (flatLen L j : Int) ∧ wr = w) (fun _ _ i _ => L.length - (intOf i).toNat)
  case atStart => exact ⟨0, by omega, rfl, rfl, rfl⟩
  case round =>
    obtain ⟨j, hj, rfl, rfl, rfl⟩ := hrel
    by_cases hlt : j < L.length
    · have hfl := flatLen_succ L j hlt
      have hle := flatLen_le L (j + 1)
      rw [hfl] at hle
      obtain ⟨b, off, rfl, _, hcl⟩ := hM.outer.open (by have := hM.outer.len; omega)
      obtain ⟨u, hu, hst⟩ := hM.inner j hlt
      have hcell := hcl j u hu
      obtain ⟨ao3, c3, rfl, _⟩ := hst.value
      have HF := hid hfl
      have hle2 : flatLen L j + (L[j]'hlt).length ≤ 70368744177664 := Nat.le_trans hle htot
      clear hfl hcl hu hle
      generalize flatLen L j = a at *
      generalize (L[j]'hlt).length = d at *
      go_wp2_with fail
      go_roundw
      case rel => exact ⟨j + 1, by omega, by go_num, by rw [HF.out]; go_num, trivial⟩
      case measure => simp [intOf]; omega
    · obtain rfl : j = L.length := by omega
      rw [flatLen_all]
      obtain ⟨tot, et⟩ : ∃ tot, tot = L.flatten.length := ⟨_, rfl⟩
      rw [← et] at HG htot h0 ⊢
      have ET := hid et
      clear et
      go_wp2_with fail
      refine (HG.out wr).mono ?_
      rintro e w1 ⟨v1, rfl, ho1, k1⟩
      obtain ⟨ao1, c1, rfl⟩ := ownsRow_slice ho1
      have hM1 := hM.keeps k1
      go_wp2_with fail
      go_loopw [6, 8, 27] (fun o u i w2 => ∃ j : Nat, j ≤ L.length ∧ i = .int .i64 (j : Int) ∧ w2.ownsRow wr.heap.size 5 1 o (flatLen L j) (bys (L.take j).flatten) ∧ Keeps wr w2) (fun _ _ i _ => L.length - (intOf i).toNat)
      case atStart => exact ⟨0, by omega, rfl, ho1, k1⟩
      case round =>
        obtain ⟨j, hj, rfl, ho, hk⟩ := hrel
        by_cases hlt2 : j < L.length
        · have hf := flat_succ L j hlt2
          have hfl := flatLen_succ L j hlt2
          have hle := flatLen_le L (j + 1)
          rw [hfl, ← ET.out] at hle
          have hle2 := Nat.le_trans hle htot
          have HFL := hid hfl
          clear hfl hle
          have hMr := hM.keeps hk
          obtain ⟨b, off, rfl, _, hcl⟩ := hMr.outer.open (by have := hM.outer.len; omega)
          obtain ⟨u, hu, hst⟩ := hMr.inner j hlt2
          have hcell := hcl j u hu
          obtain ⟨ao3, c3, rfl, _⟩ := hst.value
          obtain ⟨oo, oc, rfl⟩ := ownsRow_slice ho
          have HF := hid hf
          have h1' := hst
          clear hf hcl hu
          go_wp2_with (at_builtin; refine wpList_append_sl _ rfl _ _ 23 rfl _ 5 i0 (.int .u8 0) 1 1 Try.underlying23 hi hz0 hz1 hz2 rfl (by decide) _ _ _ rfl ho _ _ (bys (L[j]'hlt2)) rfl h1' (bys_one _) (by unfold maxLen; omega) (by omega) (by have := hk.size; simp; omega) ?_)
          intro v3 w3 ho3 hg3 _ _
          have k3 := hk.grown hg3 hk.size (fun k e => (ownsRow_base ho e).1)
          go_wp2
          go_roundw
          case rel =>
            refine ⟨j + 1, by omega, by go_num, ?_, k3⟩
            rw [HF.out, bys_append, HFL.out]
            exact ho3
          case measure => simp [intOf]; omega
        · obtain rfl : j = L.length := by omega
          rw [List.take_length, flatLen_all, ← ET.out] at ho
          obtain ⟨oo, oc, rfl⟩ := ownsRow_slice ho
          go_wp2
          go_ret
          have e := ET.out
          subst e
          exact ⟨_, rfl, ho, hk⟩
end Go.Proofs.Ytlmlanaobhfmbaa
