/- dels.Put. -/
import Derived.Test.YtegonlmhaobgcaaDelsA
import Derived.Test.YtegonlmhaobgcaaFrameA
import Derived.Test.YtegonlmhaobgcaaReg
set_option linter.unusedSimpArgs false
set_option linter.unusedVariables false
namespace Go.Proofs.Ytegonlmhaobgcaa
open Go.RowKit Go.Vb

theorem bytes_any (w : World) (n : Nat) (hn : n ≤ 64) : Calls Try.prog 26 #[.int .i64 (n : Int)] w fun e w' => e = .returned (.int .i64 (((n + 7) / 8 : Nat) : Int)) ∧ w' = w := by
  go_enter Try.func26, Try.ntmps26
  go_wp2
  go_ret
  exact ⟨rfl, rfl⟩
/-- the bits of n documents, in bytes. -/
def bitsOf (S : Nat → Bool) (m : Nat) : List UInt8 := (List.range m).map fun k => UInt8.ofNat (byteOf S k)
theorem bitsOf_length (S : Nat → Bool) (m : Nat) : (bitsOf S m).length = m := by simp [bitsOf]
theorem sl_bits {w : World} {D n : Nat} {S : Nat → Bool} (h : DelsAt w D n S) (m : Nat) (hm : m ≤ 8) : Sl w (.slice (some ⟨D, 1, none⟩) m 8) 1 m (bys (bitsOf S m)) := by
  refine ⟨by simp [bys, bitsOf], _, 8, rfl, hm, by unfold maxLen; omega, (fun h => by cases h), fun ad had j u hu => ?_⟩
  obtain rfl := Option.some.inj had
  have hj : j < m := by have := (List.getElem?_eq_some_iff.1 hu).1; simpa [bys, bitsOf] using this
  have : u = .int .u8 (byteOf S j : Nat) := by
    have h2 : (bys (bitsOf S m))[j]? = some (.int .u8 ((UInt8.ofNat (byteOf S j)).toNat : Nat)) := by simp [bys, bitsOf, hj]
    rw [h2] at hu
    rw [← Option.some.inj hu, UInt8.toNat_ofNat', Nat.mod_eq_of_lt (byteOf_lt S j)]
  rw [this, Addr.add_lit]
  exact h.byte j (by omega)
/-- what stands in the frame. -/
def putOf (n : Nat) (S : Nat → Bool) : List UInt8 := lebOf n ++ bitsOf S ((n + 7) / 8)
set_option maxRecDepth 100000 in
set_option maxHeartbeats 1000000 in
theorem put_any {w : World} {D n : Nat} {S : Nat → Bool} (h : DelsAt w D n S) :
    Calls Try.prog 13 #[.pointer (some ⟨D, 0, none⟩)] w fun e w' => ∃ v', e = .returned v' ∧ w'.ownsRow w.heap.size 5 1 v' (frameOf (putOf n S)).length (bys (frameOf (putOf n S))) ∧ Keeps w w' := by
  obtain ⟨i0, hi, hz0, hz1, hz2⟩ := info_parts infoByte
  have h0 := h.size
  have hn := h.le
  have hd : DelsAt w.drew D n S := h.keeps (keeps_drewN w 1)
  have hleb := leb_Put w.drew n (by omega)
  have hll := lebOf_len 9 n (by omega)
  have hby := fun w => bytes_any w n hn
  have hbl := bitsOf_length S ((n + 7) / 8)
  go_enter Try.func13, Try.ntmps13
  go_wp2_with fail
  have hw64 : IntKind.u64.wrap (n : Int) = (n : Int) := IntWalk.u64_in _ (by omega)
  have hcap : (0 : Int) ≤ (((n + 7) / 8 : Nat) : Int) := by omega
  have hcap2 : (((n + 7) / 8 : Nat) : Int) ≤ 8 := by omega
  have hpl : (putOf n S).length = (lebOf n).length + (n + 7) / 8 := by unfold putOf; rw [List.length_append, bitsOf_length]
  have HPL := hid hpl
  clear hpl
  generalize hq : (n + 7) / 8 = q at *
  go_region_law (first
    | (rw [if_pos (by simp [Region.wanted])]; go_simp; go_at_call 25; refine hleb.mono ?_; rintro e w1 ⟨v1, rfl, o1, k1⟩; have h1 := k1.cell (show w.drew.cell? ⟨D, 0, none⟩ = _ from h0); have d1 := hd.keeps k1; have hsz1 := k1.size)
    | (rw [if_pos (by simp [Region.wanted])]; go_simp; go_at_call 26; refine (hby _).mono ?_; rintro e w2 ⟨rfl, rfl⟩)
    | (refine step_append_sl rfl _ _ 30 rfl w.drew.heap.size 5 i0 (.int .u8 0) 1 1 Try.underlying30 hi hz0 hz1 hz2 rfl (by decide) _ _ _ rfl o1 _ q (bys (bitsOf S q)) rfl (sl_bits d1 q (by omega)) (bys_one _) (by unfold maxLen; omega) (by omega) hsz1 ?_; intro v3 w3 ho3 hg3 _ _)
    | (rw [if_pos (by simp [Region.wanted])]; go_simp; go_at_call 24; refine (frame_put w3 v3 (putOf n S) (by rw [HPL.out]; unfold putOf; rw [bys_append, hq]; exact ownsRow_sl ho3) (by rw [HPL.out]; omega)).mono ?_; rintro e w4 ⟨v4, rfl, o4, k4⟩))
  all_goals (have k13 := (keeps_drewN w 1).trans (k1.grown hg3 k1.size (fun k e => (ownsRow_base o1 e).1)); obtain ⟨a4, c4, rfl⟩ := ownsRow_slice o4; go_wp2; go_ret; exact ⟨_, rfl, Go.World.ownsRow.mono o4 k13.size, k13.trans k4⟩)
end Go.Proofs.Ytegonlmhaobgcaa
