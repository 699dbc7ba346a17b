/- The document's Put and Get of layer 3. -/
import Derived.Test.YtegonlmhaobgcaaLebC
import Derived.RegionTactic
import Derived.Deep.RegionWith
import Derived.OwnWalk
set_option linter.unusedSimpArgs false
set_option linter.unusedVariables false
namespace Go.Proofs.Ytegonlmhaobgcaa
open Go.RowKit Go.Vb

theorem and_nat (a b : Nat) (ha : a < 18446744073709551616) (hb : b < 18446744073709551616) : bits .and .u64 (a : Int) (b : Int) = ((a &&& b : Nat) : Int) := by
  have h : bits .and .u64 (a : Int) (b : Int) = IntKind.u64.wrap ((BitVec.ofInt 64 (a : Int) &&& BitVec.ofInt 64 (b : Int)).toNat : Int) := rfl
  have hc : a &&& b ≤ a := Nat.and_le_left
  have e : ∀ x : Nat, x < 18446744073709551616 → (BitVec.ofInt 64 (x : Int)).toNat = x := fun x hx => by
    rw [BitVec.ofInt_natCast, BitVec.toNat_ofNat]; exact Nat.mod_eq_of_lt hx
  rw [h, BitVec.toNat_and, e a ha, e b hb]
  exact IntWalk.u64_in _ (by omega)
theorem and127_64 (m : Nat) (h : m < 18446744073709551616) : bits .and .u64 (m : Int) 127 = ((m % 128 : Nat) : Int) := by
  have := and_nat m 127 h (by omega)
  rw [show m &&& 127 = m % 128 from Nat.and_two_pow_sub_one_eq_mod m 7] at this
  exact this
theorem or128_64 (m : Nat) : bits .or .u64 (((m % 128 : Nat)) : Int) 128 = (((m % 128 + 128 : Nat)) : Int) := by
  have := or_nat (m % 128) 128 (by omega) (by omega)
  have h2 : ∀ x : Fin 128, x.val ||| 128 = x.val + 128 := by decide +kernel
  rw [h2 ⟨m % 128, Nat.mod_lt _ (by decide)⟩] at this
  exact this

set_option maxRecDepth 100000 in
theorem ref_Put (w : World) (n : Nat) (hn : n ≤ 18446744073709551615) :
    Calls Try.prog 39 #[.int .u64 (n : Int)] w fun e w' => ∃ v', e = .returned v' ∧ w'.ownsRow w.heap.size 5 1 v' (lebOf n).length (bys (lebOf n)) ∧ Keeps w w' := by
  obtain ⟨i0, hi, hz0, hz1, hz2⟩ := info_parts infoByte
  have hlen := lebOf_len 9 n (by omega)
  go_enter Try.func39, Try.ntmps39
  go_wp2_with fail
  go_loopw [0, 3] (fun q b wr => ∃ (m : Nat) (ys : List UInt8), m ≤ n ∧ q = .int .u64 (m : Int) ∧ ys ++ lebOf m = lebOf n ∧ wr.ownsRow w.heap.size 5 1 b ys.length (bys ys) ∧ Keeps w wr) (fun q _ _ => (intOf q).toNat)
  case atStart => exact ⟨n, [], by omega, rfl, rfl, World.ownsRow_nil _ _ _ _, Below.refl _ _⟩
  case round =>
    obtain ⟨m, ys, hm, rfl, hys, ho, hb⟩ := hrel
    obtain ⟨ao, c, rfl⟩ := ownsRow_slice ho
    have hyl : ys.length + (lebOf m).length = (lebOf n).length := by rw [← hys]; simp
    have HY := hid hys
    have hbs := hb.size
    clear hys
    by_cases hgt : 127 < m
    · have hgt' : (128 : Int) ≤ (m : Int) := by omega
      have ha := and127_64 m (by omega)
      have hor := or128_64 m
      have hsp := lebOf_more m hgt
      have HSP := hid hsp
      have hml : (lebOf m).length = 1 + (lebOf (m / 128)).length := by rw [hsp]; simp; omega
      obtain ⟨b8, hb8⟩ : ∃ b8 : UInt8, b8 = UInt8.ofNat (m % 128 + 128) := ⟨_, rfl⟩
      have hbn : ((m % 128 + 128 : Nat) : Int) = ((b8.toNat : Nat) : Int) := by rw [hb8, UInt8.toNat_ofNat']; omega
      rw [hbn] at hor
      rw [← hb8] at HSP
      have hb255 := UInt8.toNat_lt b8
      have hcv : ((b8.toNat : Nat) : Int) % 256 = ((b8.toNat : Nat) : Int) := by omega
      clear hsp hb8 hbn
      generalize hr : ((m % 128 : Nat) : Int) = r at *
      clear hr
      go_wp2_with (at_builtin; refine wpList_append_sl _ rfl _ _ 30 rfl w.heap.size 5 i0 (.int .u8 0) 1 1 Try.underlying30 hi hz0 hz1 hz2 rfl (by decide) _ _ _ rfl (ho.alloc _) _ 1 [.int .u8 (b8.toNat : Nat)] rfl (sl_one _ _ _) (by simp [Value.oneCell']) (by unfold maxLen; omega) (by omega) (by simp; omega) ?_)
      intro v3 w3 ho3 hg3 _ _
      have hb3 : Keeps w w3 := (hb.alloc hbs _).grown hg3 (by simp; omega) (fun k e => (ownsRow_base ho e).1)
      go_wp2
      go_roundw
      case rel =>
        refine ⟨m / 128, ys ++ [b8], by omega, by go_num, by rw [← HY.out, HSP.out]; simp, ?_, hb3⟩
        have e4 : bys (ys ++ [b8]) = bys ys ++ [.int .u8 ((b8.toNat : Nat) : Int)] := by simp only [bys, List.map_append, List.map_cons, List.map_nil]
        rw [e4, List.length_append]
        exact ho3
      case measure => simp [intOf]; omega
    · have hgt' : (m : Int) < 128 := by omega
      have hsp := lebOf_end m (by omega)
      have HSP := hid hsp
      have he1 : (m : Int) = (((UInt8.ofNat m).toNat : Nat) : Int) := by rw [UInt8.toNat_ofNat']; congr 1; omega
      have E1 := hid he1
      clear hsp he1
      go_wp2_with (at_builtin; refine wpList_append_sl _ rfl _ _ 30 rfl w.heap.size 5 i0 (.int .u8 0) 1 1 Try.underlying30 hi hz0 hz1 hz2 rfl (by decide) _ _ _ rfl (ho.alloc _) _ 1 [.int .u8 (m : Int)] rfl (sl_one _ _ _) (by simp [Value.oneCell']) (by unfold maxLen; omega) (by omega) (by simp; omega) ?_)
      intro v3 w3 ho3 hg3 _ _
      have hb3 : Keeps w w3 := (hb.alloc hbs _).grown hg3 (by simp; omega) (fun k e => (ownsRow_base ho e).1)
      obtain ⟨a3, c3, rfl⟩ := ownsRow_slice ho3
      go_wp2
      go_ret
      refine ⟨_, rfl, ?_, hb3⟩
      have e3 : (lebOf n).length = ys.length + 1 := by rw [← HY.out, HSP.out]; simp
      have e4 : bys (lebOf n) = bys ys ++ [.int .u8 (m : Int)] := by
        rw [← HY.out, HSP.out]
        simp only [bys, List.map_append, List.map_cons, List.map_nil]
        rw [← E1.out]
      rw [e3, e4]
      exact ho3
end Go.Proofs.Ytegonlmhaobgcaa
