/- slices.Concat of bytes; frame.four, frame.Put. -/
import Derived.Test.YtegonlmhaobgcaaLebA
import Derived.Test.YtegonlmhaobgcaaCrcA
import Derived.Test.YtegonlmhaobgcaaRow
import Derived.Lib.AppendZerosOnto
import Derived.Lib.AppendZeros
import Derived.Deep.Onto
set_option linter.unusedSimpArgs false
set_option linter.unusedVariables false
namespace Go.Proofs.Ytegonlmhaobgcaa
open Go.RowKit Go.Vb

theorem grow_nil (w : World) (n : Nat) (hn : 0 < n) (hb : n ≤ 140737488355328) :
    Calls Try.prog 53 #[.slice none 0 0, .int .i64 (n : Int)] w fun e w' => ∃ v', e = .returned v' ∧ w'.ownsRow w.heap.size 5 1 v' 0 [] ∧ Keeps w w' := by
  obtain ⟨i0, hi, hz0, hz1, hz2⟩ := info_parts infoByte
  have hold : (Builtin.firstCells i0.size 0 (.slice none 0 0)).run Try.prog w.drew = .ok ([] : List Value).toArray w.drew := run_firstCells_none w.drew i0.size 0 0 0
  have hrz : ∀ ty, (Builtin.append_ #[30, 3] ty #[.slice none 0 0, .int .i64 (n : Int)]).run Try.prog w = .ok (.slice (some ⟨w.heap.size, 0, none⟩) n (grownCap w n 0 5)) (w.drew.alloc (.cells (([] : List Value).toArray ++ Builtin.zeroCells (Value.int .u8 0).cells n ++ Builtin.zeroCells (Value.int .u8 0).cells (grownCap w n 0 5 - n)) 5)) := fun ty => by
    have h := Lib.run_append_grow_zeros w 30 3 ty 5 i0 (.int .u8 0) .i64 .i64 Try.underlying30 Try.underlying3 hi hz0 none 0 0 [] hold n (by omega) (by omega) (by omega) (by omega) (by rw [hz2]; omega) (by rw [Nat.zero_add]; exact growslice_fits hn (by rw [hz2]; omega))
    rw [Nat.zero_add] at h
    exact h
  have hge := grownCap_ge w n 0 5
  have hle := grownCap_le_maxLen w n 0 5 (by unfold maxLen; omega)
  have hsz : ∀ m, (Builtin.zeroCells (Value.int .u8 0).cells m).size = m := fun m => by simp [Builtin.zeroCells, Value.cells]
  obtain ⟨G, hG⟩ : ∃ G, G = grownCap w n 0 5 := ⟨_, rfl⟩
  rw [← hG] at hrz hge hle
  obtain ⟨C, hC⟩ : ∃ C, C = ([] : List Value).toArray ++ Builtin.zeroCells (Value.int .u8 0).cells n ++ Builtin.zeroCells (Value.int .u8 0).cells (G - n) := ⟨_, rfl⟩
  have hCs : C.size = G := by rw [hC]; simp only [Array.size_append, hsz]; simp; omega
  rw [← hC] at hrz
  have hG2 : G ≤ 9223372036854775807 := by unfold maxLen at hle; omega
  have HG := hid hG
  have HC := hid hC
  clear hG hC hold
  have hn' : (0 : Int) < (n : Int) := by omega
  have hown : (w.drew.alloc (.cells C 5)).ownsRow w.heap.size 5 1 (.slice (some ⟨w.heap.size, 0, none⟩) 0 G) 0 [] := World.ownsRow_made w.drew C G (Nat.le_refl _) hle (by omega)
  go_enter Try.func53, Try.ntmps53
  go_wp2_with (at_builtin; refine Lib.wpList_append_run _ rfl _ _ _ _ rfl _ _ rfl rfl _ _ (hrz _) ?_)
  go_ret
  exact ⟨_, rfl, hown, (keeps_drewN w 1).trans ((Below.refl _ _).alloc (Nat.le_refl _) _)⟩
theorem flat_succ (L : List (List UInt8)) (j : Nat) (h : j < L.length) : (L.take (j + 1)).flatten = (L.take j).flatten ++ L[j]'h := by
  rw [List.take_add_one, List.getElem?_eq_getElem h, Option.toList_some, List.flatten_append, List.flatten_singleton]
theorem flat_le (L : List (List UInt8)) (j : Nat) : (L.take j).flatten.length ≤ L.flatten.length := by
  have h : L.flatten = (L.take j).flatten ++ (L.drop j).flatten := by rw [← List.flatten_append, List.take_append_drop]
  rw [h]; simp
def flatLen (L : List (List UInt8)) (j : Nat) : Nat := (L.take j).flatten.length
theorem flatLen_all (L : List (List UInt8)) : flatLen L L.length = L.flatten.length := by unfold flatLen; rw [List.take_length]
theorem flatLen_succ (L : List (List UInt8)) (j : Nat) (h : j < L.length) : flatLen L (j + 1) = flatLen L j + (L[j]'h).length := by unfold flatLen; rw [flat_succ L j h, List.length_append]
theorem flatLen_le (L : List (List UInt8)) (j : Nat) : flatLen L j ≤ L.flatten.length := flat_le L j
set_option maxHeartbeats 1000000 in
set_option maxRecDepth 100000 in
theorem concat_any (w : World) (v : Value) (L : List (List UInt8)) (vs : List Value) (hM : Mat w v L vs) (h0 : 0 < L.flatten.length) (htot : L.flatten.length ≤ 70368744177664) :
    Calls Try.prog 40 #[v] w fun e w' => ∃ v', e = .returned v' ∧ w'.ownsRow w.heap.size 5 1 v' L.flatten.length (bys L.flatten) ∧ Keeps w w' := by
  obtain ⟨i0, hi, hz0, hz1, hz2⟩ := info_parts infoByte
  obtain ⟨ao, c, rfl, hc1, hc2, _⟩ := hM.outer.value
  have hLm : L.length ≤ 9223372036854775807 := by unfold maxLen at hc2; omega
  have hgr := fun w => grow_nil w L.flatten.length h0 (by omega)
  have HG := hid hgr
  clear hgr
  go_enter Try.func40, Try.ntmps40
  go_wp2_with fail
  go_loopw [3, 5, 11] (fun q u i wr => ∃ j : Nat, j ≤ L.length ∧ i = .int .i64 (j : Int) ∧ q = .int .i64 (flatLen L j : Int) ∧ wr = w) (fun _ _ i _ => L.length - (intOf i).toNat)
  case atStart => exact ⟨0, by omega, rfl, rfl, rfl⟩
  case round =>
    obtain ⟨j, hj, rfl, rfl, rfl⟩ := hrel
    by_cases hlt : j < L.length
    · have hfl := flatLen_succ L j hlt
      have hle := flatLen_le L (j + 1)
      rw [hfl] at hle
      obtain ⟨b, off, rfl, _, hcl⟩ := hM.outer.open (by have := hM.outer.len; omega)
      obtain ⟨u, hu, hst⟩ := hM.inner j hlt
      have hcell := hcl j u hu
      obtain ⟨ao3, c3, rfl, _⟩ := hst.value
      have HF := hid hfl
      have hle2 : flatLen L j + (L[j]'hlt).length ≤ 70368744177664 := Nat.le_trans hle htot
      clear hfl hcl hu hle
      generalize flatLen L j = a at *
      generalize (L[j]'hlt).length = d at *
      go_wp2_with fail
      go_roundw
      case rel => exact ⟨j + 1, by omega, by go_num, by rw [HF.out]; go_num, trivial⟩
      case measure => simp [intOf]; omega
    · obtain rfl : j = L.length := by omega
      rw [flatLen_all]
      obtain ⟨tot, et⟩ : ∃ tot, tot = L.flatten.length := ⟨_, rfl⟩
      rw [← et] at HG htot h0 ⊢
      have ET := hid et
      clear et
      go_wp2_with fail
      refine (HG.out wr).mono ?_
      rintro e w1 ⟨v1, rfl, ho1, k1⟩
      obtain ⟨ao1, c1, rfl⟩ := ownsRow_slice ho1
      have hM1 := hM.keeps k1
      go_wp2_with fail
      go_loopw [6, 8, 27] (fun o u i w2 => ∃ j : Nat, j ≤ L.length ∧ i = .int .i64 (j : Int) ∧ w2.ownsRow wr.heap.size 5 1 o (flatLen L j) (bys (L.take j).flatten) ∧ Keeps wr w2) (fun _ _ i _ => L.length - (intOf i).toNat)
      case atStart => exact ⟨0, by omega, rfl, ho1, k1⟩
      case round =>
        obtain ⟨j, hj, rfl, ho, hk⟩ := hrel
        by_cases hlt2 : j < L.length
        · have hf := flat_succ L j hlt2
          have hfl := flatLen_succ L j hlt2
          have hle := flatLen_le L (j + 1)
          rw [hfl, ← ET.out] at hle
          have hle2 := Nat.le_trans hle htot
          have HFL := hid hfl
          clear hfl hle
          have hMr := hM.keeps hk
          obtain ⟨b, off, rfl, _, hcl⟩ := hMr.outer.open (by have := hM.outer.len; omega)
          obtain ⟨u, hu, hst⟩ := hMr.inner j hlt2
          have hcell := hcl j u hu
          obtain ⟨ao3, c3, rfl, _⟩ := hst.value
          obtain ⟨oo, oc, rfl⟩ := ownsRow_slice ho
          have HF := hid hf
          have h1' := hst
          clear hf hcl hu
          go_wp2_with (at_builtin; refine wpList_append_sl _ rfl _ _ 30 rfl _ 5 i0 (.int .u8 0) 1 1 Try.underlying30 hi hz0 hz1 hz2 rfl (by decide) _ _ _ rfl ho _ _ (bys (L[j]'hlt2)) rfl h1' (bys_one _) (by unfold maxLen; omega) (by omega) (by have := hk.size; simp; omega) ?_)
          intro v3 w3 ho3 hg3 _ _
          have k3 := hk.grown hg3 hk.size (fun k e => (ownsRow_base ho e).1)
          go_wp2
          go_roundw
          case rel =>
            refine ⟨j + 1, by omega, by go_num, ?_, k3⟩
            rw [HF.out, bys_append, HFL.out]
            exact ho3
          case measure => simp [intOf]; omega
        · obtain rfl : j = L.length := by omega
          rw [List.take_length, flatLen_all, ← ET.out] at ho
          obtain ⟨oo, oc, rfl⟩ := ownsRow_slice ho
          go_wp2
          go_ret
          have e := ET.out
          subst e
          exact ⟨_, rfl, ho, hk⟩
theorem u8_nat (n : Int) (h : 0 ≤ n ∧ n ≤ 255) : (((UInt8.ofNat n.toNat).toNat : Nat) : Int) = n := by rw [UInt8.toNat_ofNat']; omega
def fourOf (c : Int) : List UInt8 := [UInt8.ofNat (c % 256).toNat, UInt8.ofNat (c / 256 % 256).toNat, UInt8.ofNat (c / 65536 % 256).toNat, UInt8.ofNat (c / 16777216).toNat]
theorem sl_four (w : World) (s : List UInt8) (hs : s.length = 4) : Sl (w.alloc (.cells (bys s).toArray 5)) (.slice (some ⟨w.heap.size, 0, none⟩) 4 4) 1 4 (bys s) := by
  have h := World.ownsRow_lit (e := 5) (size := 1) (base := w.heap.size) w (bys s).toArray 4 (Nat.le_refl _) (by unfold maxLen; omega) (by simp [bys, hs])
  simpa using ownsRow_sl h
set_option maxRecDepth 100000 in
theorem four_any (w : World) (c : Int) (hc : 0 ≤ c ∧ c ≤ 4294967295) :
    Calls Try.prog 41 #[.int .u32 c] w fun e w' => ∃ v', e = .returned v' ∧ Sl w' v' 1 4 (bys (fourOf c)) ∧ Keeps w w' := by
  go_enter Try.func41, Try.ntmps41
  go_wp2
  go_ret
  refine ⟨_, rfl, ?_, (Below.refl _ _).alloc (Nat.le_refl _) _⟩
  have e : #[Value.int .u8 (c % 256), .int .u8 (c / 256 % 256), .int .u8 (c / 65536 % 256), .int .u8 (c / 16777216)] = (bys (fourOf c)).toArray := by
    simp only [fourOf, bys, List.map_cons, List.map_nil]
    rw [u8_nat _ (by omega), u8_nat _ (by omega), u8_nat _ (by omega), u8_nat _ (by omega)]
  rw [e]
  exact sl_four w (fourOf c) rfl
/-- What stands in a frame's bytes. -/
def frameOf (b : List UInt8) : List UInt8 := lebOf b.length ++ (fourOf (crcOf 0 b) ++ b)
theorem sl_rows (w : World) (vs : List Value) (n : Nat) (hn : vs.length = n) (h : n ≤ 100) : Sl (w.alloc (.cells vs.toArray 30)) (.slice (some ⟨w.heap.size, 0, none⟩) n n) 1 n vs := by
  have h := World.ownsRow_lit (e := 30) (size := 1) (base := w.heap.size) w vs.toArray n (Nat.le_refl _) (by unfold maxLen; omega) (by simp [hn])
  simpa using ownsRow_sl h
set_option maxRecDepth 100000 in
theorem frame_put (w : World) (v : Value) (s : List UInt8) (hv : Sl w v 1 s.length (bys s)) (hl : s.length ≤ 35184372088832) :
    Calls Try.prog 24 #[v] w fun e w' => ∃ v', e = .returned v' ∧ w'.ownsRow w.heap.size 5 1 v' (frameOf s).length (bys (frameOf s)) ∧ Keeps w w' := by
  have hll := lebOf_len 9 s.length (by omega)
  obtain ⟨ao, c, rfl, _⟩ := hv.value
  have hleb := leb_Put w s.length (by omega)
  go_enter Try.func24, Try.ntmps24
  go_wp2_with fail
  refine hleb.mono ?_
  rintro e w1 ⟨v1, rfl, o1, k1⟩
  have s1 := ownsRow_sl o1
  obtain ⟨a1, c1, rfl⟩ := ownsRow_slice o1
  go_wp2_with fail
  refine (crc_sum w1 _ s (hv.keeps k1)).mono ?_
  rintro e w2 ⟨rfl, k2⟩
  have hcr := crcOf_range 0 s
  go_wp2_with fail
  refine (four_any w2 _ hcr).mono ?_
  rintro e w3 ⟨v3, rfl, s3, k3⟩
  obtain ⟨a3, c3, rfl, _⟩ := s3.value
  have k13 := (k1.trans k2).trans k3
  have k4 : Keeps w3 (w3.alloc (.cells #[.slice a1 (lebOf s.length).length c1, .slice a3 4 c3, .slice ao s.length c] 30)) := (Below.refl _ _).alloc (Nat.le_refl _) _
  have hM : Mat (w3.alloc (.cells #[.slice a1 (lebOf s.length).length c1, .slice a3 4 c3, .slice ao s.length c] 30)) (.slice (some ⟨w3.heap.size, 0, none⟩) 3 3) [lebOf s.length, fourOf (crcOf 0 s), s] [.slice a1 (lebOf s.length).length c1, .slice a3 4 c3, .slice ao s.length c] := by
    refine ⟨sl_rows w3 [.slice a1 (lebOf s.length).length c1, .slice a3 4 c3, .slice ao s.length c] 3 rfl (by omega), fun i hi => ?_⟩
    have : i = 0 ∨ i = 1 ∨ i = 2 := by simp at hi; omega
    rcases this with rfl | rfl | rfl
    · exact ⟨_, rfl, ((s1.keeps k2).keeps k3).keeps k4⟩
    · exact ⟨_, rfl, s3.keeps k4⟩
    · exact ⟨_, rfl, (hv.keeps k13).keeps k4⟩
  have hfl : [lebOf s.length, fourOf (crcOf 0 s), s].flatten = frameOf s := by simp [frameOf]
  have hfl2 : (frameOf s).length = (lebOf s.length).length + (4 + s.length) := by simp [frameOf, fourOf]; omega
  have hcat := concat_any _ _ _ _ hM (by rw [hfl, hfl2]; omega) (by rw [hfl, hfl2]; omega)
  rw [hfl] at hcat
  clear hfl hfl2 hM
  go_wp2_with fail
  refine hcat.mono ?_
  rintro e w5 ⟨v5, rfl, o5, k5⟩
  obtain ⟨a5, c5, rfl⟩ := ownsRow_slice o5
  go_wp2
  go_ret
  have k35 := (k13.trans k4)
  refine ⟨_, rfl, Go.World.ownsRow.mono o5 (k35.size), k35.trans k5⟩
end Go.Proofs.Ytegonlmhaobgcaa
