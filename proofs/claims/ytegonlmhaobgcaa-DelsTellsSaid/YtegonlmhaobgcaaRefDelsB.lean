/- The document's Dels: Put. -/
import Derived.Test.YtegonlmhaobgcaaRefDelsA
import Derived.Test.YtegonlmhaobgcaaRefAll
set_option linter.unusedSimpArgs false
set_option linter.unusedVariables false
namespace Go.Proofs.Ytegonlmhaobgcaa
open Go.RowKit Go.Vb
def sOf (l : List Int) : Nat → Bool := fun i => decide ((i : Int) ∈ l)
theorem Rel.sOf {S : Nat → Bool} {n : Nat} {l : List Int} (h : Rel S n l) : sOf l = S := by
  funext i
  have := h.mem (i : Int)
  rw [hasB_nat] at this
  exact this
theorem sOf_take (l : List Int) (j k : Nat) (h : j < l.length) (hk : l[j]'h = (k : Int)) : sOf (l.take (j + 1)) = setS (sOf (l.take j)) k := by
  funext i
  unfold sOf setS
  rw [List.take_add_one, List.getElem?_eq_getElem h]
  by_cases hi : i = k
  · subst hi; simp [hk]
  · have : ¬ (i : Int) = (k : Int) := by omega
    simp [hk, hi, this]
theorem bits_zero (q : Nat) : bys (bitsOf (fun _ => false) q) = List.replicate q (.int .u8 0) := by
  have e : ∀ k, byteOf (fun _ => false) k = 0 := fun k => rfl
  unfold bitsOf bys
  simp only [e, List.map_map]
  apply List.ext_getElem
  · simp
  · intro i h1 h2; simp
theorem bits_set (S : Nat → Bool) (q k : Nat) : (bys (bitsOf S q)).set (k / 8) (.int .u8 (byteOf (setS S k) (k / 8) : Nat)) = bys (bitsOf (setS S k) q) := by
  unfold bitsOf bys
  apply List.ext_getElem
  · simp
  · intro i h1 h2
    simp only [List.getElem_set, List.getElem_map, List.getElem_range]
    have e : ∀ S' : Nat → Bool, (UInt8.ofNat (byteOf S' i)).toNat = byteOf S' i := fun S' => by rw [UInt8.toNat_ofNat', Nat.mod_eq_of_lt (byteOf_lt S' i)]
    by_cases hi : k / 8 = i
    · rw [if_pos hi, e, hi]
    · rw [if_neg hi, e, e, add_bit_other S k i (fun h => hi h.symm)]
theorem bits_get (S : Nat → Bool) (q k : Nat) (h : k < q) : (bys (bitsOf S q))[k]? = some (.int .u8 (byteOf S k : Nat)) := by
  unfold bitsOf bys
  simp [h, UInt8.toNat_ofNat', Nat.mod_eq_of_lt (byteOf_lt S k)]
theorem makeBytes (w : World) (q : Nat) (hq : q ≤ 1000) : (Instr.makeSlice 30 (.int .i64 (q : Int)) (.int .i64 (q : Int))).run Try.prog w = .ok (.slice (some ⟨w.heap.size, 0, none⟩) q q) (w.alloc (.cells (madeCells #[.int .u8 0] q) 5)) := by
  obtain ⟨i0, hi, hz0, hz1, hz2⟩ := info_parts infoByte
  have := run_make (P := Try.prog) w 30 5 i0 (.int .u8 0) Try.underlying30 hi hz0 .i64 .i64 q q (by omega) (Int.le_refl _) (by rw [hz2]; omega) (by omega)
  rw [hz1, Int.toNat_natCast, Nat.mul_one] at this
  exact this
set_option maxRecDepth 100000 in
set_option maxHeartbeats 1000000 in
theorem rd_Put {w : World} {B D n : Nat} {v : Value} {l : List Int} {S : Nat → Bool} (h : RDAt w B D n v l) (hr : Rel S n l) :
    Calls Try.prog 22 #[.pointer (some ⟨D, 0, none⟩)] w fun e w' => ∃ v', e = .returned v' ∧ w'.ownsRow w.heap.size 5 1 v' (frameOf (putOf n S)).length (bys (frameOf (putOf n S))) ∧ Keeps w w' := by
  obtain ⟨i0, hi, hz0, hz1, hz2⟩ := info_parts infoByte
  have h0 := h.cell0
  have h1 := h.cell1
  have hn := hr.le
  have hml := hr.many
  have hs := ownsRow_sl h.row
  obtain ⟨ao, c, rfl⟩ := ownsRow_slice h.row
  have hmk := fun w => makeBytes w ((n + 7) / 8) (by omega)
  have hnq : n ≤ 8 * ((n + 7) / 8) := by omega
  have hq8 : (n + 7) / 8 ≤ 8 := by omega
  have HP : Hid (putOf n S = lebOf n ++ bitsOf S ((n + 7) / 8)) := rfl
  generalize hq : (n + 7) / 8 = q at *
  have HQ := hid hq
  clear hq
  have ka : Keeps w (w.alloc (.cells (madeCells #[.int .u8 0] q) 5)) := (Below.refl _ _).alloc (Nat.le_refl _) _
  have oa : (w.alloc (.cells (madeCells #[.int .u8 0] q) 5)).ownsRow w.heap.size 5 1 (.slice (some ⟨w.heap.size, 0, none⟩) q q) q (bys (bitsOf (fun _ => false) q)) := by
    have := World.ownsRow_lit (e := 5) (size := 1) w (madeCells #[.int .u8 0] q) q (Nat.le_refl _) (by unfold maxLen; omega) (by rw [size_madeCells, Nat.mul_one])
    rw [toList_madeCells_one, ← bits_zero] at this
    exact this
  have hqv : ((n : Int) + 7) / 8 = (q : Int) := by have := HQ.out; omega
  go_enter Try.func22, Try.ntmps22
  go_wp2_with fail
  go_loopw [4] (fun i wr => ∃ j : Nat, j ≤ l.length ∧ i = .int .i64 (j : Int) ∧ wr.ownsRow w.heap.size 5 1 (.slice (some ⟨w.heap.size, 0, none⟩) q q) q (bys (bitsOf (sOf (l.take j)) q)) ∧ Keeps w wr) (fun i _ => l.length - (intOf i).toNat)
  case atStart => exact ⟨0, by omega, rfl, by rw [show sOf (l.take 0) = (fun _ => false) from by funext i; simp [sOf]]; exact oa, ka⟩
  case round =>
    obtain ⟨j, hj, rfl, ho, hk⟩ := hrel
    have h1' := hk.cell h1
    by_cases hlt : j < l.length
    · have hin := hr.has (List.getElem_mem hlt)
      obtain ⟨k, hkk⟩ := Int.eq_ofNat_of_zero_le hin.1
      obtain ⟨b, off, rfl, hb, hc⟩ := (hs.keeps hk).open (by rw [ints_length]; omega)
      have hcell := hc j _ (ints_get _ l j hlt)
      have hst := sOf_take l j k hlt hkk
      rw [hkk] at hcell
      have hkn : k < n := by have := hin.2; rw [hkk] at this; omega
      have hkq : k / 8 < q := by omega
      have HST := hid hst
      clear hc hst hin hkk hr
      generalize hS : sOf (l.take j) = T at *
      have HS := hid hS
      have hrow : wr.cell? ⟨w.heap.size, k / 8, none⟩ = some (.int .u8 (byteOf T (k / 8) : Nat)) := by rw [ho.cellAt (k / 8) (by omega), bits_get T q _ hkq]
      have hfz := ho.frozenAt (k / 8)
      have hbit := add_bit T k
      clear hS
      go_wp2_with fail
      go_region
      have hst8 := (ho.stored (k / 8) (.int .u8 (byteOf (setS T k) (k / 8) : Nat)))
      rw [bits_set] at hst8
      have k8 := keeps_new hk ((Mods.setCell (fun b => b = w.heap.size) wr ⟨w.heap.size, k / 8, none⟩ (.int .u8 (byteOf (setS T k) (k / 8) : Nat)) (.inl rfl)).trans (Mods.drew _ _)) (fun b hb => by omega)
      go_wp2
      go_roundw
      case rel => exact ⟨j + 1, by omega, by go_num, by rw [HST.out]; exact hst8.1, k8⟩
      case measure => simp [intOf]; omega
    · obtain rfl : j = l.length := by omega
      rw [List.take_length, hr.sOf] at ho
      have hput := ref_Put wr n (by omega)
      have hll := lebOf_len 9 n (by omega)
      have hw64 : IntKind.u64.wrap (n : Int) = (n : Int) := IntWalk.u64_in _ (by omega)
      have hpl : (putOf n S).length = (lebOf n).length + q := by rw [HP.out, List.length_append, bitsOf_length]
      have h0' := hk.cell h0
      have HPL := hid hpl
      clear hpl
      go_wp2_with fail
      refine hput.mono ?_
      rintro e w2 ⟨v2, rfl, o2, k2⟩
      have s2 := (ownsRow_sl ho).keeps k2
      have hwk := hk.size
      have hwk2 := k2.size
      obtain ⟨a2, c2, rfl⟩ := ownsRow_slice o2
      go_wp2_with (at_builtin; refine wpList_append_sl _ rfl _ _ 30 rfl wr.heap.size 5 i0 (.int .u8 0) 1 1 Try.underlying30 hi hz0 hz1 hz2 rfl (by decide) _ _ _ rfl o2 _ q (bys (bitsOf S q)) rfl s2 (bys_one _) (by unfold maxLen; omega) (by omega) hwk2 ?_)
      intro v3 w3 o3 hg3 _ _
      have k3 : Keeps wr w3 := k2.grown hg3 hwk2 (fun k e => (ownsRow_base o2 e).1)
      have s3 : Sl w3 v3 1 (putOf n S).length (bys (putOf n S)) := by
        rw [HPL.out, HP.out, bys_append]; exact ownsRow_sl o3
      have hfp := ref_framePut w3 v3 (putOf n S) s3 (by rw [HPL.out]; omega)
      obtain ⟨a3, c3, rfl⟩ := ownsRow_slice o3
      have k03 := hk.trans k3
      go_wp2_with fail
      refine hfp.mono ?_
      rintro e w4 ⟨v4, rfl, o4, k4⟩
      have hsz := k03.size
      obtain ⟨a4, c4, rfl⟩ := ownsRow_slice o4
      go_wp2
      go_ret
      exact ⟨_, rfl, Go.World.ownsRow.mono o4 hsz, k03.trans k4⟩
end Go.Proofs.Ytegonlmhaobgcaa
