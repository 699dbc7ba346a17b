/- leb.put, leb.Put: a number's bytes. -/
import Derived.Test.YtlmlanaobhfmbaaProg
import Derived.Test.YtlmlanaobhfmbaaBase
set_option linter.unusedSimpArgs false
set_option linter.unusedVariables false
namespace Go.Proofs.Ytlmlanaobhfmbaa
open Go.RowKit Go.Vb

def lebOf (n : Nat) : List UInt8 := if h : n ≤ 127 then [UInt8.ofNat n] else UInt8.ofNat (n % 128 + 128) :: lebOf (n / 128)
termination_by n
decreasing_by omega
theorem lebOf_end (n : Nat) (h : n ≤ 127) : lebOf n = [UInt8.ofNat n] := by unfold lebOf; rw [dif_pos h]
theorem lebOf_more (n : Nat) (h : 127 < n) : lebOf n = UInt8.ofNat (n % 128 + 128) :: lebOf (n / 128) := by rw [lebOf]; rw [dif_neg (by omega)]
theorem lebOf_len : ∀ (k n : Nat), n < 128 ^ (k + 1) → (lebOf n).length ≤ k + 1
  | 0, n, h => by rw [lebOf_end n (by omega)]; simp
  | k + 1, n, h => by
    by_cases hn : n ≤ 127
    · rw [lebOf_end n hn]; simp
    · rw [lebOf_more n (by omega)]
      have := lebOf_len k (n / 128) (Nat.div_lt_of_lt_mul (by rw [Nat.pow_succ] at h; omega))
      simp; omega
theorem lebOf_pos (n : Nat) : 0 < (lebOf n).length := by unfold lebOf; split <;> simp
theorem infoByte : (Try.prog.info? 5).map (fun i => (i.zero, i.size, i.bytes)) = some (some (.int .u8 0), 1, 1) := by kernel_rfl

theorem bits_or128 : ∀ x : Fin 256, bits .or .u8 ((x.val : Nat) : Int) 128 = ((x.val % 128 + 128 : Nat) : Int) := by decide +kernel
theorem leb_or (m : Nat) : bits .or .u8 ((m : Int) % 256) 128 = (((UInt8.ofNat (m % 128 + 128)).toNat : Nat) : Int) := by
  have h := bits_or128 ⟨m % 256, Nat.mod_lt _ (by decide)⟩
  have e : ((m % 256 : Nat) : Int) = (m : Int) % 256 := by simp
  simp only at h
  rw [e] at h
  rw [h, UInt8.toNat_ofNat']
  congr 1
  omega
set_option maxRecDepth 100000 in
theorem leb_put (base : Nat) (w : World) (v : Value) (k : Nat) (xs : List Value) (n : Nat) (hown : w.ownsRow base 5 1 v k xs) (hbase : base ≤ w.heap.size) (hn : n ≤ 18446744073709551615) (hk : k ≤ 70368744177664) :
    Calls Try.prog 121 #[v, .int .u64 (n : Int)] w fun e w' => ∃ v', e = .returned v' ∧ w'.ownsRow base 5 1 v' (k + (lebOf n).length) (xs ++ bys (lebOf n)) ∧ Below base w w' := by
  obtain ⟨i0, hi, hz0, hz1, hz2⟩ := info_parts infoByte
  obtain ⟨ao, c, rfl⟩ := ownsRow_slice hown
  have hlen := lebOf_len 9 n (by omega)
  go_enter Try.func121, Try.ntmps121
  go_wp2_with fail
  go_loopw [0, 1] (fun b q wr => ∃ (m : Nat) (ys : List UInt8), m ≤ n ∧ q = .int .u64 (m : Int) ∧ ys ++ lebOf m = lebOf n ∧ wr.ownsRow base 5 1 b (k + ys.length) (xs ++ bys ys) ∧ Below base w wr) (fun _ q _ => (intOf q).toNat)
  case atStart => exact ⟨n, [], by omega, rfl, rfl, by simpa [bys] using hown, Below.refl _ _⟩
  case round =>
    obtain ⟨m, ys, hm, rfl, hys, ho, hb⟩ := hrel
    obtain ⟨ao, c, rfl⟩ := ownsRow_slice ho
    have hyl : ys.length + (lebOf m).length = (lebOf n).length := by rw [← hys]; simp
    have HY := hid hys
    clear hys
    by_cases hgt : 127 < m
    · have hgt' : (127 : Int) < (m : Int) := by omega
      have hor := leb_or m
      have hsp := lebOf_more m hgt
      have HSP := hid hsp
      have hml : (lebOf m).length = 1 + (lebOf (m / 128)).length := by rw [hsp]; simp; omega
      clear hsp
      go_wp2_with (at_builtin; refine wpList_append_sl _ rfl _ _ 23 rfl base 5 i0 (.int .u8 0) 1 1 Try.underlying23 hi hz0 hz1 hz2 rfl (by decide) _ _ _ rfl (ho.alloc _) _ 1 [.int .u8 ((UInt8.ofNat (m % 128 + 128)).toNat : Nat)] rfl (sl_one _ _ _) (by simp [Value.oneCell']) (by unfold maxLen; omega) (by omega) (by have := hb.size; simp; omega) ?_)
      intro v3 w3 ho3 hg3 _ _
      have hb3 : Below base w w3 := (hb.alloc (Nat.le_trans hbase hb.size) _).grown hg3 (by have := hb.size; simp; omega) (fun k e => (ownsRow_base ho e).1)
      go_wp2
      go_roundw
      case rel =>
        have e2 : ((m : Int) % 128 + 128) % 256 = (((UInt8.ofNat (m % 128 + 128)).toNat : Nat) : Int) := by rw [UInt8.toNat_ofNat']; omega
        refine ⟨m / 128, ys ++ [UInt8.ofNat (m % 128 + 128)], by omega, by go_num, by rw [← HY.out, HSP.out]; simp, ?_, hb3⟩
        rw [e2] at ho3
        have e3 : k + (ys ++ [UInt8.ofNat (m % 128 + 128)]).length = k + ys.length + 1 := by simp; omega
        have e4 : xs ++ bys (ys ++ [UInt8.ofNat (m % 128 + 128)]) = xs ++ (bys ys ++ [.int .u8 (((UInt8.ofNat (m % 128 + 128)).toNat : Nat) : Int)]) := by simp only [bys, List.map_append, List.map_cons, List.map_nil]
        rw [e3, e4]
        exact ho3
      case measure => simp [intOf]; omega
    · have hgt' : (m : Int) ≤ 127 := by omega
      have hsp := lebOf_end m (by omega)
      have HSP := hid hsp
      have he1 : (m : Int) = (((UInt8.ofNat m).toNat : Nat) : Int) := by rw [UInt8.toNat_ofNat']; congr 1; omega
      have E1 := hid he1
      clear hsp he1
      go_wp2_with (at_builtin; refine wpList_append_sl _ rfl _ _ 23 rfl base 5 i0 (.int .u8 0) 1 1 Try.underlying23 hi hz0 hz1 hz2 rfl (by decide) _ _ _ rfl (ho.alloc _) _ 1 [.int .u8 (m : Int)] rfl (sl_one _ _ _) (by simp [Value.oneCell']) (by unfold maxLen; omega) (by omega) (by have := hb.size; simp; omega) ?_)
      intro v3 w3 ho3 hg3 _ _
      have hb3 : Below base w w3 := (hb.alloc (Nat.le_trans hbase hb.size) _).grown hg3 (by have := hb.size; simp; omega) (fun k e => (ownsRow_base ho e).1)
      go_wp2
      go_ret
      refine ⟨_, rfl, ?_, hb3⟩
      have e3 : k + (lebOf n).length = k + ys.length + 1 := by rw [← HY.out, HSP.out]; simp; omega
      have e4 : xs ++ bys (lebOf n) = xs ++ (bys ys ++ [.int .u8 (m : Int)]) := by
        rw [← HY.out, HSP.out]
        simp only [bys, List.map_append, List.map_cons, List.map_nil]
        rw [← E1.out]
      rw [e3, e4]
      exact ho3
/-- leb.Put. -/
theorem leb_Put (w : World) (n : Nat) (hn : n ≤ 18446744073709551615) :
    Calls Try.prog 104 #[.int .u64 (n : Int)] w fun e w' => ∃ v', e = .returned v' ∧ w'.ownsRow w.heap.size 5 1 v' (lebOf n).length (bys (lebOf n)) ∧ Keeps w w' := by
  have h := leb_put w.heap.size w (.slice none 0 0) 0 [] n (World.ownsRow_nil _ _ _ _) (Nat.le_refl _) hn (by omega)
  go_enter Try.func104, Try.ntmps104
  go_wp2_with fail
  refine h.mono ?_
  rintro e w1 ⟨v1, rfl, ho, hk⟩
  rw [Nat.zero_add, List.nil_append] at ho
  obtain ⟨ao, c, rfl⟩ := ownsRow_slice ho
  go_wp2
  go_ret
  exact ⟨_, rfl, ho, hk⟩
end Go.Proofs.Ytlmlanaobhfmbaa
