/- The law DelsOne, walked. -/
import Derived.Test.YtegonlmhaobgcaaDelsStay
set_option linter.unusedSimpArgs false
set_option linter.unusedVariables false
namespace Go.Proofs.Ytegonlmhaobgcaa
open Go.RowKit Go.Vb

def popF : Nat → Nat → Nat | 0, _ => 0 | k + 1, x => x % 2 + popF k (x / 2)
theorem popF_zero (f : Nat) : popF f 0 = 0 := by
  induction f with
  | zero => rfl
  | succ f ih => simp [popF, ih]
theorem popF_le (f x : Nat) : popF f x ≤ f := by
  induction f generalizing x with
  | zero => simp [popF]
  | succ f ih => have := ih (x / 2); simp only [popF]; omega
theorem bits_xor (a b : Int) : 0 ≤ bits .xor .u8 a b ∧ bits .xor .u8 a b ≤ 255 := by
  have h : bits .xor .u8 a b = IntKind.u8.wrap ((BitVec.ofInt 8 a ^^^ BitVec.ofInt 8 b).toNat : Int) := rfl
  rw [h, IntKind.wrap_u8]
  omega
theorem bits_xor_self : ∀ x : Fin 256, bits .xor .u8 ((x.val : Nat) : Int) ((x.val : Nat) : Int) = 0 := by decide +kernel
def xo (P Q : List UInt8) (k : Nat) : Nat := (bits .xor .u8 ((P.getD k 0).toNat : Nat) ((Q.getD k 0).toNat : Nat)).toNat
theorem xo_spec (P Q : List UInt8) (k : Nat) : bits .xor .u8 ((P.getD k 0).toNat : Nat) ((Q.getD k 0).toNat : Nat) = (xo P Q k : Int) ∧ xo P Q k ≤ 255 := by
  have h := bits_xor ((P.getD k 0).toNat : Nat) ((Q.getD k 0).toNat : Nat)
  unfold xo
  omega
theorem xo_self (P : List UInt8) (k : Nat) : xo P P k = 0 := by
  have h := bits_xor_self ⟨(P.getD k 0).toNat, UInt8.toNat_lt _⟩
  simp only at h
  unfold xo; rw [h]; rfl
def cnt (P Q : List UInt8) : Nat → Nat | 0 => 0 | j + 1 => cnt P Q j + popF 8 (xo P Q (5 + j))
theorem cnt_le (P Q : List UInt8) (j : Nat) : cnt P Q j ≤ 8 * j := by
  induction j with
  | zero => simp [cnt]
  | succ j ih => have := popF_le 8 (xo P Q (5 + j)); simp only [cnt]; omega
theorem cnt_self (P : List UInt8) (j : Nat) : cnt P P j = 0 := by
  induction j with
  | zero => rfl
  | succ j ih => simp [cnt, ih, xo_self, popF_zero]
theorem put_shape (n : Nat) (S : Nat → Bool) (hn : n ≤ 64) : ∃ c1 c2 c3 c4, frameOf (putOf n S) = UInt8.ofNat (1 + (n + 7) / 8) :: c1 :: c2 :: c3 :: c4 :: UInt8.ofNat n :: bitsOf S ((n + 7) / 8) := by
  have h1 : putOf n S = UInt8.ofNat n :: bitsOf S ((n + 7) / 8) := by unfold putOf; rw [lebOf_end n (by omega)]; rfl
  have h2 : (putOf n S).length = 1 + (n + 7) / 8 := by rw [h1]; simp [bitsOf_length]; omega
  unfold frameOf fourOf
  rw [h2, lebOf_end _ (by omega)]
  generalize crcOf 0 (putOf n S) = cr
  rw [h1]
  exact ⟨_, _, _, _, rfl⟩
theorem put_len (n : Nat) (S : Nat → Bool) (hn : n ≤ 64) : (frameOf (putOf n S)).length = 6 + (n + 7) / 8 := by
  obtain ⟨c1, c2, c3, c4, h⟩ := put_shape n S hn
  rw [h]; simp [bitsOf_length]; omega
theorem put_bits (n : Nat) (S : Nat → Bool) (hn : n ≤ 64) (t : Nat) (ht : t < (n + 7) / 8) : (frameOf (putOf n S)).getD (6 + t) 0 = UInt8.ofNat (byteOf S t) := by
  obtain ⟨c1, c2, c3, c4, h⟩ := put_shape n S hn
  rw [h, show 6 + t = t + 1 + 1 + 1 + 1 + 1 + 1 by omega]
  simp only [List.getD_cons_succ]
  unfold bitsOf
  rw [List.getD_eq_getElem?_getD]
  simp [ht]
theorem put_n (n : Nat) (S : Nat → Bool) (hn : n ≤ 64) : (frameOf (putOf n S)).getD 5 0 = UInt8.ofNat n := by
  obtain ⟨c1, c2, c3, c4, h⟩ := put_shape n S hn
  rw [h]; rfl
theorem xor_bit : ∀ a b c d e f g h : Bool, ∀ r : Fin 8, nth8 a b c d e f g h r.val = false → popF 8 (bits .xor .u8 ((eight a b c d e f g h : Nat) : Int) ((eight (a || r.val == 0) (b || r.val == 1) (c || r.val == 2) (d || r.val == 3) (e || r.val == 4) (f || r.val == 5) (g || r.val == 6) (h || r.val == 7) : Nat) : Int)).toNat = 1 := by decide +kernel
theorem byteOf_set (S : Nat → Bool) (i : Nat) : byteOf (setS S i) (i / 8) = eight (S (8*(i/8)) || i % 8 == 0) (S (8*(i/8)+1) || i % 8 == 1) (S (8*(i/8)+2) || i % 8 == 2) (S (8*(i/8)+3) || i % 8 == 3) (S (8*(i/8)+4) || i % 8 == 4) (S (8*(i/8)+5) || i % 8 == 5) (S (8*(i/8)+6) || i % 8 == 6) (S (8*(i/8)+7) || i % 8 == 7) := by
  have hs : ∀ j, j < 8 → setS S i (8*(i/8)+j) = (S (8*(i/8)+j) || (i % 8 == j)) := by
    intro j hj
    unfold setS
    by_cases e : 8 * (i / 8) + j = i
    · rw [if_pos e, show (i % 8 == j) = true by simp; omega, Bool.or_true]
    · rw [if_neg e, show (i % 8 == j) = false by simp; omega, Bool.or_false]
  have h0 := hs 0 (by omega)
  rw [Nat.add_zero] at h0
  rw [byteOf_eight, h0, hs 1 (by omega), hs 2 (by omega), hs 3 (by omega), hs 4 (by omega), hs 5 (by omega), hs 6 (by omega), hs 7 (by omega)]
theorem xo_set (n : Nat) (S : Nat → Bool) (i : Nat) (hn : n ≤ 64) (hi : i < n) (hs : S i = false) (t : Nat) (ht : t < (n + 7) / 8) :
    popF 8 (xo (frameOf (putOf n S)) (frameOf (putOf n (setS S i))) (6 + t)) = if t = i / 8 then 1 else 0 := by
  unfold xo
  rw [put_bits n S hn t ht, put_bits n _ hn t ht, UInt8.toNat_ofNat', UInt8.toNat_ofNat', Nat.mod_eq_of_lt (byteOf_lt _ _), Nat.mod_eq_of_lt (byteOf_lt _ _)]
  by_cases e : t = i / 8
  · rw [if_pos e, e, byteOf_set, byteOf_eight]
    refine xor_bit _ _ _ _ _ _ _ _ ⟨i % 8, Nat.mod_lt _ (by decide)⟩ ?_
    rw [nth8_S S _ _ (Nat.mod_lt _ (by decide)), show 8 * (i / 8) + i % 8 = i by omega, hs]
  · rw [if_neg e, add_bit_other S i t e]
    have h := bits_xor_self ⟨byteOf S t, byteOf_lt _ _⟩
    simp only at h
    rw [h]
    exact popF_zero 8
theorem cnt_set (n : Nat) (S : Nat → Bool) (i : Nat) (hn : n ≤ 64) (hi : i < n) (hs : S i = false) (t : Nat) (ht : t ≤ (n + 7) / 8) :
    cnt (frameOf (putOf n S)) (frameOf (putOf n (setS S i))) (1 + t) = if i / 8 < t then 1 else 0 := by
  induction t with
  | zero =>
    have h0 : xo (frameOf (putOf n S)) (frameOf (putOf n (setS S i))) 5 = 0 := by
      unfold xo
      rw [put_n n S hn, put_n n _ hn]
      have h := bits_xor_self ⟨(UInt8.ofNat n).toNat, UInt8.toNat_lt _⟩
      simp only at h
      rw [h]; rfl
    show cnt _ _ 0 + popF 8 (xo _ _ (5 + 0)) = _
    rw [Nat.add_zero, h0, popF_zero]; simp [cnt]
  | succ t ih =>
    have h1 := ih (by omega)
    have h2 := xo_set n S i hn hi hs t (by omega)
    rw [show 1 + (t + 1) = (1 + t) + 1 by omega]
    simp only [cnt]
    rw [h1, show 5 + (1 + t) = 6 + t by omega, h2]
    split <;> split <;> split <;> omega
theorem live_set_le (S : Nat → Bool) (i : Nat) (n : Nat) (h : n ≤ i) : liveTo (setS S i) n = liveTo S n := by
  induction n with
  | zero => rfl
  | succ n ih => simp only [liveTo]; rw [ih (by omega), setS_other _ _ _ (by omega)]
theorem live_set (S : Nat → Bool) (i : Nat) (hs : S i = false) (n : Nat) (h : i < n) : (liveTo (setS S i) n).length + 1 = (liveTo S n).length := by
  induction n with
  | zero => omega
  | succ n ih =>
    simp only [liveTo, List.length_append]
    by_cases e : i = n
    · subst e
      rw [live_set_le S i i (Nat.le_refl _), setS_self, hs]; simp
    · have := ih (by omega)
      rw [setS_other _ _ _ (by omega)]
      omega

theorem inner_bit (x : Nat) (hx : x ≤ 255) : bits .and .u8 (x : Int) 1 = ((x % 2 : Nat) : Int) := bits_one ⟨x, by omega⟩
set_option maxRecDepth 100000 in
set_option maxHeartbeats 1000000 in
theorem one_walk (w : World) (a : Int) (xv : Value) (i : Int) (l : List Int) (ha : (Lit.int .u8 a).wf = true) (hx : Sl w xv 1 l.length (ints .i64 l)) (hxl : l.length ≤ 140737488351232) (hi : (Lit.int .i64 i).wf = true) :
    Calls Try.prog 4 #[.int .u8 a, xv, .int .i64 i] w fun e w' => e = .returned (.bool true) ∧ Keeps w w' := by
  simp only [Lit.wf, Bool.and_eq_true, decide_eq_true_eq] at ha
  have ha2 : 0 ≤ a ∧ a ≤ 255 := ha
  clear ha hi
  obtain ⟨a, rfl⟩ := Int.eq_ofNat_of_zero_le ha2.1
  obtain ⟨n, hn⟩ : ∃ n, n = a % 65 := ⟨_, rfl⟩
  have hna : (a : Int) % 65 = (n : Int) := by omega
  have hn64 : n ≤ 64 := by omega
  obtain ⟨aox, cx, rfl, _⟩ := hx.value
  go_enter Try.func4, Try.ntmps4
  go_wp2_with fail
  refine (head_any w).mono ?_
  rintro e w1 ⟨rfl, k1⟩
  have hx1 := hx.keeps k1
  clear hx hn
  go_wp2_with fail
  refine (new_at w1 n hn64).mono ?_
  rintro e w2 ⟨D, rfl, d2, hD, k2⟩
  by_cases hl5 : 500 < l.length
  · have hl5' : (500 : Int) < (l.length : Int) := by omega
    go_wp2
    go_ret
    exact ⟨rfl, k1.trans k2⟩
  · have hl5' : (l.length : Int) ≤ 500 := by omega
    go_wp2_with fail
    go_loopw [9] (fun q wr => ∃ (j : Nat) (S : Nat → Bool), j ≤ l.length ∧ q = .int .i64 (j : Int) ∧ DelsAt wr D n S ∧ Keeps w1 wr) (fun q _ => l.length - (intOf q).toNat)
    case atStart => exact ⟨0, _, by omega, rfl, d2, k2⟩
    case round =>
      obtain ⟨j, S, hj, rfl, hd, hk⟩ := hrel
      by_cases hlt : j < l.length
      · obtain ⟨b, off, rfl, _, hc⟩ := (hx1.keeps hk).open (by rw [ints_length]; omega)
        have hcell := hc j _ (ints_get _ l j hlt)
        clear hc
        go_wp2_with fail
        refine (add_any hd (l[j]'hlt)).mono ?_
        rintro e w3 ⟨rfl, hd3, hm3⟩
        have k3 := keeps_new hk hm3 (fun b hb => by omega)
        go_wp2
        go_roundw
        case rel => exact ⟨j + 1, _, by omega, by go_num, hd3, k3⟩
        case measure => simp [intOf]; omega
      · clear hx1 k2 d2
        go_wp2_with fail
        refine (put_any hd).mono ?_
        rintro e w3 ⟨v3, rfl, o3, k3⟩
        have hDw := (Array.getElem?_eq_some_iff.1 hd.block).1
        have hv3 : ∀ b, v3.ownBlock = some b → ¬ (b = D) := fun b hb e => by have := (ownsRow_base o3 hb).1; omega
        have hd3 := hd.keeps k3
        have s3 := ownsRow_sl o3
        obtain ⟨ao3, c3, rfl⟩ := ownsRow_slice o3
        clear o3
        go_wp2_with fail
        refine (many_any hd3).mono ?_
        rintro e w4 ⟨rfl, k4⟩
        have hd4 := hd3.keeps k4
        have s4 := s3.keeps k4
        have hlenle := liveTo_length S n
        have hk5 := (hk.trans k3).trans k4
        clear s3 k3 k4 hd3 hd hk
        have HLP := hid (put_len n S hn64)
        by_cases hr : 0 ≤ i ∧ i < (n : Int)
        · obtain ⟨t, rfl⟩ := Int.eq_ofNat_of_zero_le hr.1
          have htn : t < n := by omega
          have htn2 : (t : Int) < (n : Int) := by omega
          cases hst : S t with
          | false =>
            have hhas := has_in hd4 t htn
            rw [hst] at hhas
            have hmw0 : (n : Int) = (n : Int) := rfl
            have HLQ := hid (put_len n (setS S t) hn64)
            have hcnt : cnt (frameOf (putOf n S)) (frameOf (putOf n (setS S t))) ((frameOf (putOf n S)).length - 5) = 1 := by rw [HLP.out, show 6 + (n + 7) / 8 - 5 = 1 + (n + 7) / 8 by omega, cnt_set n S t hn64 htn hst _ (Nat.le_refl _), if_pos (by omega)]
            have hlive : (liveTo (setS S t) n).length + 1 = (liveTo S n).length := live_set S t hst n htn
            have hxs := fun k => xo_spec (frameOf (putOf n S)) (frameOf (putOf n (setS S t))) k
            have hcs : ∀ k, 5 ≤ k → cnt (frameOf (putOf n S)) (frameOf (putOf n (setS S t))) (k + 1 - 5) = cnt (frameOf (putOf n S)) (frameOf (putOf n (setS S t))) (k - 5) + popF 8 (xo (frameOf (putOf n S)) (frameOf (putOf n (setS S t))) k) := fun k hk => by
              rw [show k + 1 - 5 = (k - 5) + 1 by omega]
              simp only [cnt]
              rw [show 5 + (k - 5) = k by omega]
            have hcl := cnt_le (frameOf (putOf n S)) (frameOf (putOf n (setS S t)))
            have HN := hid (show (frameOf (putOf n S)).length = (frameOf (putOf n (setS S t))).length by rw [HLP.out, HLQ.out])
            go_wp2_with fail
            refine (hhas).mono ?_
            rintro e w5 ⟨rfl, rfl⟩
            go_wp2_with fail
            refine (add_in hd4 t htn hst).mono ?_
            rintro e w6 ⟨rfl, hd6, hm6⟩
            have k6 := keeps_new hk5 hm6 (fun b hb => by omega)
            have s6 := s4.mods hm6 hv3
            clear s4 hm6 hd4
            go_wp2_with fail
            refine (put_any hd6).mono ?_
            rintro e w7 ⟨v7, rfl, o7, k7⟩
            have s7 := ownsRow_sl o7
            rw [← HN.out] at s7
            have s67 := s6.keeps k7
            have hd7 := hd6.keeps k7
            have k67 := k6.trans k7
            have hmany := fun w (k : Keeps w7 w) => many_any (hd7.keeps k)
            obtain ⟨ao7, c7, rfl, _⟩ := s7.value
            generalize frameOf (putOf n S) = P at *
            generalize frameOf (putOf n (setS S t)) = Q at *
            generalize hlQ : (liveTo (setS S t) n).length = lq at *
            generalize hlS : (liveTo S n).length = ls at *
            have hP6 : (6 : Int) ≤ (P.length : Int) := by have := HLP.out; omega
            have hP7 : (P.length : Int) ≤ 14 := by have := HLP.out; omega
            clear o7 s6 k6 k7 hd6 HLQ hhas
            have HCS := hid hcs
            have HCL := hid hcl
            have HXS := hid hxs
            have HCNT := hid hcnt
            have HMANY := hid hmany
            clear hcs hcl hxs hcnt hmany
            go_wp2_with fail
            go_loopw [15, 16] (fun u q wr => ∃ k : Nat, 5 ≤ k ∧ k ≤ P.length ∧ q = .int .i64 (k : Int) ∧ u = .int .i64 (cnt P Q (k - 5) : Int) ∧ Keeps w7 wr) (fun _ q _ => P.length - (intOf q).toNat)
            case atStart => exact ⟨5, by omega, by omega, rfl, rfl, Below.refl _ _⟩
            case round =>
              obtain ⟨k, hk5', hkP, rfl, rfl, hkk⟩ := hrel
              by_cases hlt2 : k < P.length
              · obtain ⟨b3, off3, e3, _, hc3⟩ := (s67.keeps hkk).open (by rw [bys_length]; omega)
                obtain ⟨b7, off7, e7, _, hc7⟩ := (s7.keeps hkk).open (by rw [bys_length, ← HN.out]; omega)
                subst e3 e7
                have hcell3 := hc3 k (.int .u8 (((P.getD k 0).toNat : Nat) : Int)) (by simp [bys, hlt2])
                have hcell7 := hc7 k (.int .u8 (((Q.getD k 0).toNat : Nat) : Int)) (by simp [bys, show k < Q.length by rw [← HN.out]; exact hlt2])
                obtain ⟨hxor, hx255⟩ := HXS.out k
                have hcl2 := HCL.out (k - 5)
                have hnx := HCS.out k hk5'
                generalize (P.getD k 0).toNat = pp at *
                generalize (Q.getD k 0).toNat = qq at *
                generalize xo P Q k = x at *
                generalize cnt P Q (k - 5) = c at *
                have HNX := hid hnx
                clear hc3 hc7 hnx
                go_wp2_with fail
                go_quiet (fail)
                rename_i nq
                go_wp2_with fail
                go_loopw [15, 17] (fun u y wr2 => ∃ f z c2 : Nat, f ≤ 8 ∧ y = .int .u8 (z : Int) ∧ z ≤ 255 ∧ z < 2 ^ f ∧ u = .int .i64 (c2 : Int) ∧ c2 + popF f z = c + popF 8 x ∧ Keeps w7 wr2) (fun _ y _ => (intOf y).toNat)
                case atStart => exact ⟨8, x, c, by omega, rfl, hx255, by omega, rfl, rfl, hkk.trans (keeps_drewN _ _)⟩
                case round =>
                  obtain ⟨f, z, c2, hf, rfl, hz, hzf, rfl, hcp, hkz⟩ := hrel
                  have hpop8 := popF_le 8 x
                  have hc2 : c2 ≤ 8 * P.length + 8 := by omega
                  by_cases hz0 : 0 < z
                  · obtain ⟨f, rfl⟩ : ∃ f', f = f' + 1 := ⟨f - 1, by cases f with | zero => simp at hzf; omega | succ f => rfl⟩
                    have hib := inner_bit z hz
                    have hcp2 : c2 + z % 2 + popF f (z / 2) = c + popF 8 x := by rw [← hcp]; simp only [popF]; omega
                    have hzf2 : z / 2 < 2 ^ f := by rw [Nat.pow_succ] at hzf; omega
                    have hz0' : (0 : Int) < (z : Int) := by omega
                    have HCP := hid hcp2
                    have HZF := hid hzf2
                    clear hcp hcp2 hzf hzf2
                    go_wp2_with fail
                    go_roundw
                    case rel => exact ⟨f, z / 2, c2 + z % 2, by omega, by go_num, by omega, HZF.out, by go_num, HCP.out, hkz⟩
                    case measure => simp [intOf]; omega
                  · obtain rfl : z = 0 := by omega
                    rw [popF_zero] at hcp
                    have hc3 : c2 = c + popF 8 x := by omega
                    have HC3 := hid hc3
                    clear hcp hc3 hzf
                    go_wp2_with fail
                    go_roundw
                    case rel => exact ⟨k + 1, by omega, by omega, by go_num, by rw [HNX.out, HC3.out], hkz⟩
                    case measure => simp [intOf]; omega
              · obtain rfl : k = P.length := by omega
                have hmw := HMANY.out _ hkk
                rw [HCNT.out]
                go_wp2_with fail
                refine hmw.mono ?_
                rintro e w9 ⟨rfl, k9⟩
                go_wp2_with fail
                refine (has_any ((hd7.keeps hkk).keeps k9) (t : Int)).mono ?_
                rw [hasB_nat, setS_self]
                rintro e w10 ⟨rfl, rfl⟩
                go_wp2
                go_ret
                exact ⟨rfl, ((k1.trans k67).trans hkk).trans k9⟩
          | true =>
            have hhas := has_in hd4 t htn
            rw [hst] at hhas
            have HLQ := hid (put_len n (S) hn64)
            have hcnt : cnt (frameOf (putOf n S)) (frameOf (putOf n (S))) ((frameOf (putOf n S)).length - 5) = 0 := cnt_self _ _
            have hlive : (liveTo (S) n).length + 0 = (liveTo S n).length := rfl
            have hxs := fun k => xo_spec (frameOf (putOf n S)) (frameOf (putOf n (S))) k
            have hcs : ∀ k, 5 ≤ k → cnt (frameOf (putOf n S)) (frameOf (putOf n (S))) (k + 1 - 5) = cnt (frameOf (putOf n S)) (frameOf (putOf n (S))) (k - 5) + popF 8 (xo (frameOf (putOf n S)) (frameOf (putOf n (S))) k) := fun k hk => by
              rw [show k + 1 - 5 = (k - 5) + 1 by omega]
              simp only [cnt]
              rw [show 5 + (k - 5) = k by omega]
            have hcl := cnt_le (frameOf (putOf n S)) (frameOf (putOf n (S)))
            go_wp2_with fail
            refine (hhas).mono ?_
            rintro e w5 ⟨rfl, rfl⟩
            go_wp2_with fail
            refine ((add_no hd4 _ (.inr (by rw [hasB_nat]; exact hst))).mono fun e w' h => (⟨h.1, by rw [h.2]; exact hd4, by rw [h.2]; exact Mods.refl _ _⟩ : e = .returned (.bool false) ∧ DelsAt w' D n S ∧ Mods (fun b => b = D) _ w')).mono ?_
            rintro e w6 ⟨rfl, hd6, hm6⟩
            have k6 := keeps_new hk5 hm6 (fun b hb => by omega)
            have s6 := s4.mods hm6 hv3
            clear s4 hm6 hd4
            go_wp2_with fail
            refine (put_any hd6).mono ?_
            rintro e w7 ⟨v7, rfl, o7, k7⟩
            have s7 := ownsRow_sl o7
            have s67 := s6.keeps k7
            have hd7 := hd6.keeps k7
            have k67 := k6.trans k7
            have hmany := fun w (k : Keeps w7 w) => many_any (hd7.keeps k)
            obtain ⟨ao7, c7, rfl, _⟩ := s7.value
            generalize frameOf (putOf n S) = P at *
            generalize hlQ : (liveTo S n).length = lq at *
            have hP6 : (6 : Int) ≤ (P.length : Int) := by have := HLP.out; omega
            have hP7 : (P.length : Int) ≤ 14 := by have := HLP.out; omega
            clear o7 s6 k6 k7 hd6 HLQ hhas
            have HCS := hid hcs
            have HCL := hid hcl
            have HXS := hid hxs
            have HCNT := hid hcnt
            have HMANY := hid hmany
            clear hcs hcl hxs hcnt hmany
            go_wp2_with fail
            go_loopw [15, 16] (fun u q wr => ∃ k : Nat, 5 ≤ k ∧ k ≤ P.length ∧ q = .int .i64 (k : Int) ∧ u = .int .i64 (cnt P P (k - 5) : Int) ∧ Keeps w7 wr) (fun _ q _ => P.length - (intOf q).toNat)
            case atStart => exact ⟨5, by omega, by omega, rfl, rfl, Below.refl _ _⟩
            case round =>
              obtain ⟨k, hk5', hkP, rfl, rfl, hkk⟩ := hrel
              by_cases hlt2 : k < P.length
              · obtain ⟨b3, off3, e3, _, hc3⟩ := (s67.keeps hkk).open (by rw [bys_length]; omega)
                obtain ⟨b7, off7, e7, _, hc7⟩ := (s7.keeps hkk).open (by rw [bys_length]; omega)
                subst e3 e7
                have hcell3 := hc3 k (.int .u8 (((P.getD k 0).toNat : Nat) : Int)) (by simp [bys, hlt2])
                have hcell7 := hc7 k (.int .u8 (((P.getD k 0).toNat : Nat) : Int)) (by simp [bys, hlt2])
                obtain ⟨hxor, hx255⟩ := HXS.out k
                have hcl2 := HCL.out (k - 5)
                have hnx := HCS.out k hk5'
                generalize (P.getD k 0).toNat = pp at *
                generalize xo P P k = x at *
                generalize cnt P P (k - 5) = c at *
                have HNX := hid hnx
                clear hc3 hc7 hnx
                go_wp2_with fail
                go_quiet (fail)
                rename_i nq
                go_wp2_with fail
                go_loopw [15, 17] (fun u y wr2 => ∃ f z c2 : Nat, f ≤ 8 ∧ y = .int .u8 (z : Int) ∧ z ≤ 255 ∧ z < 2 ^ f ∧ u = .int .i64 (c2 : Int) ∧ c2 + popF f z = c + popF 8 x ∧ Keeps w7 wr2) (fun _ y _ => (intOf y).toNat)
                case atStart => exact ⟨8, x, c, by omega, rfl, hx255, by omega, rfl, rfl, hkk.trans (keeps_drewN _ _)⟩
                case round =>
                  obtain ⟨f, z, c2, hf, rfl, hz, hzf, rfl, hcp, hkz⟩ := hrel
                  have hpop8 := popF_le 8 x
                  have hc2 : c2 ≤ 8 * P.length + 8 := by omega
                  by_cases hz0 : 0 < z
                  · obtain ⟨f, rfl⟩ : ∃ f', f = f' + 1 := ⟨f - 1, by cases f with | zero => simp at hzf; omega | succ f => rfl⟩
                    have hib := inner_bit z hz
                    have hcp2 : c2 + z % 2 + popF f (z / 2) = c + popF 8 x := by rw [← hcp]; simp only [popF]; omega
                    have hzf2 : z / 2 < 2 ^ f := by rw [Nat.pow_succ] at hzf; omega
                    have hz0' : (0 : Int) < (z : Int) := by omega
                    have HCP := hid hcp2
                    have HZF := hid hzf2
                    clear hcp hcp2 hzf hzf2
                    go_wp2_with fail
                    go_roundw
                    case rel => exact ⟨f, z / 2, c2 + z % 2, by omega, by go_num, by omega, HZF.out, by go_num, HCP.out, hkz⟩
                    case measure => simp [intOf]; omega
                  · obtain rfl : z = 0 := by omega
                    rw [popF_zero] at hcp
                    have hc3 : c2 = c + popF 8 x := by omega
                    have HC3 := hid hc3
                    clear hcp hc3 hzf
                    go_wp2_with fail
                    go_roundw
                    case rel => exact ⟨k + 1, by omega, by omega, by go_num, by rw [HNX.out, HC3.out], hkz⟩
                    case measure => simp [intOf]; omega
              · obtain rfl : k = P.length := by omega
                have hmw := HMANY.out _ hkk
                rw [HCNT.out]
                go_wp2_with fail
                refine hmw.mono ?_
                rintro e w9 ⟨rfl, k9⟩
                go_wp2
                go_ret
                exact ⟨rfl, ((k1.trans k67).trans hkk).trans k9⟩
        · have hiu : (0 ≤ i ∧ (n : Int) ≤ i) ∨ i < 0 := by omega
          rcases hiu with ⟨h0i, hni⟩ | h0i
          · have hdc : decide (i < (n : Int)) = false := decide_eq_false (by omega)
            have hhas := has_any hd4 i
            rw [hasB_out hd4 hr] at hhas
            have HLQ := hid (put_len n (S) hn64)
            have hcnt : cnt (frameOf (putOf n S)) (frameOf (putOf n (S))) ((frameOf (putOf n S)).length - 5) = 0 := cnt_self _ _
            have hlive : (liveTo (S) n).length + 0 = (liveTo S n).length := rfl
            have hxs := fun k => xo_spec (frameOf (putOf n S)) (frameOf (putOf n (S))) k
            have hcs : ∀ k, 5 ≤ k → cnt (frameOf (putOf n S)) (frameOf (putOf n (S))) (k + 1 - 5) = cnt (frameOf (putOf n S)) (frameOf (putOf n (S))) (k - 5) + popF 8 (xo (frameOf (putOf n S)) (frameOf (putOf n (S))) k) := fun k hk => by
              rw [show k + 1 - 5 = (k - 5) + 1 by omega]
              simp only [cnt]
              rw [show 5 + (k - 5) = k by omega]
            have hcl := cnt_le (frameOf (putOf n S)) (frameOf (putOf n (S)))
            go_wp2_with fail
            refine (hhas).mono ?_
            rintro e w5 ⟨rfl, rfl⟩
            go_wp2_with fail
            refine ((add_no hd4 _ (.inl hr)).mono fun e w' h => (⟨h.1, by rw [h.2]; exact hd4, by rw [h.2]; exact Mods.refl _ _⟩ : e = .returned (.bool false) ∧ DelsAt w' D n S ∧ Mods (fun b => b = D) _ w')).mono ?_
            rintro e w6 ⟨rfl, hd6, hm6⟩
            have k6 := keeps_new hk5 hm6 (fun b hb => by omega)
            have s6 := s4.mods hm6 hv3
            clear s4 hm6 hd4
            go_wp2_with fail
            refine (put_any hd6).mono ?_
            rintro e w7 ⟨v7, rfl, o7, k7⟩
            have s7 := ownsRow_sl o7
            have s67 := s6.keeps k7
            have hd7 := hd6.keeps k7
            have k67 := k6.trans k7
            have hmany := fun w (k : Keeps w7 w) => many_any (hd7.keeps k)
            obtain ⟨ao7, c7, rfl, _⟩ := s7.value
            generalize frameOf (putOf n S) = P at *
            generalize hlQ : (liveTo S n).length = lq at *
            have hP6 : (6 : Int) ≤ (P.length : Int) := by have := HLP.out; omega
            have hP7 : (P.length : Int) ≤ 14 := by have := HLP.out; omega
            clear o7 s6 k6 k7 hd6 HLQ hhas
            have HCS := hid hcs
            have HCL := hid hcl
            have HXS := hid hxs
            have HCNT := hid hcnt
            have HMANY := hid hmany
            clear hcs hcl hxs hcnt hmany
            go_wp2_with fail
            go_loopw [15, 16] (fun u q wr => ∃ k : Nat, 5 ≤ k ∧ k ≤ P.length ∧ q = .int .i64 (k : Int) ∧ u = .int .i64 (cnt P P (k - 5) : Int) ∧ Keeps w7 wr) (fun _ q _ => P.length - (intOf q).toNat)
            case atStart => exact ⟨5, by omega, by omega, rfl, rfl, Below.refl _ _⟩
            case round =>
              obtain ⟨k, hk5', hkP, rfl, rfl, hkk⟩ := hrel
              by_cases hlt2 : k < P.length
              · obtain ⟨b3, off3, e3, _, hc3⟩ := (s67.keeps hkk).open (by rw [bys_length]; omega)
                obtain ⟨b7, off7, e7, _, hc7⟩ := (s7.keeps hkk).open (by rw [bys_length]; omega)
                subst e3 e7
                have hcell3 := hc3 k (.int .u8 (((P.getD k 0).toNat : Nat) : Int)) (by simp [bys, hlt2])
                have hcell7 := hc7 k (.int .u8 (((P.getD k 0).toNat : Nat) : Int)) (by simp [bys, hlt2])
                obtain ⟨hxor, hx255⟩ := HXS.out k
                have hcl2 := HCL.out (k - 5)
                have hnx := HCS.out k hk5'
                generalize (P.getD k 0).toNat = pp at *
                generalize xo P P k = x at *
                generalize cnt P P (k - 5) = c at *
                have HNX := hid hnx
                clear hc3 hc7 hnx
                go_wp2_with fail
                go_quiet (fail)
                rename_i nq
                go_wp2_with fail
                go_loopw [15, 17] (fun u y wr2 => ∃ f z c2 : Nat, f ≤ 8 ∧ y = .int .u8 (z : Int) ∧ z ≤ 255 ∧ z < 2 ^ f ∧ u = .int .i64 (c2 : Int) ∧ c2 + popF f z = c + popF 8 x ∧ Keeps w7 wr2) (fun _ y _ => (intOf y).toNat)
                case atStart => exact ⟨8, x, c, by omega, rfl, hx255, by omega, rfl, rfl, hkk.trans (keeps_drewN _ _)⟩
                case round =>
                  obtain ⟨f, z, c2, hf, rfl, hz, hzf, rfl, hcp, hkz⟩ := hrel
                  have hpop8 := popF_le 8 x
                  have hc2 : c2 ≤ 8 * P.length + 8 := by omega
                  by_cases hz0 : 0 < z
                  · obtain ⟨f, rfl⟩ : ∃ f', f = f' + 1 := ⟨f - 1, by cases f with | zero => simp at hzf; omega | succ f => rfl⟩
                    have hib := inner_bit z hz
                    have hcp2 : c2 + z % 2 + popF f (z / 2) = c + popF 8 x := by rw [← hcp]; simp only [popF]; omega
                    have hzf2 : z / 2 < 2 ^ f := by rw [Nat.pow_succ] at hzf; omega
                    have hz0' : (0 : Int) < (z : Int) := by omega
                    have HCP := hid hcp2
                    have HZF := hid hzf2
                    clear hcp hcp2 hzf hzf2
                    go_wp2_with fail
                    go_roundw
                    case rel => exact ⟨f, z / 2, c2 + z % 2, by omega, by go_num, by omega, HZF.out, by go_num, HCP.out, hkz⟩
                    case measure => simp [intOf]; omega
                  · obtain rfl : z = 0 := by omega
                    rw [popF_zero] at hcp
                    have hc3 : c2 = c + popF 8 x := by omega
                    have HC3 := hid hc3
                    clear hcp hc3 hzf
                    go_wp2_with fail
                    go_roundw
                    case rel => exact ⟨k + 1, by omega, by omega, by go_num, by rw [HNX.out, HC3.out], hkz⟩
                    case measure => simp [intOf]; omega
              · obtain rfl : k = P.length := by omega
                have hmw := HMANY.out _ hkk
                rw [HCNT.out]
                go_wp2_with fail
                refine hmw.mono ?_
                rintro e w9 ⟨rfl, k9⟩
                go_wp2
                go_ret
                exact ⟨rfl, ((k1.trans k67).trans hkk).trans k9⟩
          · have hdc : decide (0 ≤ i) = false := decide_eq_false (by omega)
            have hhas := has_any hd4 i
            rw [hasB_out hd4 hr] at hhas
            have HLQ := hid (put_len n (S) hn64)
            have hcnt : cnt (frameOf (putOf n S)) (frameOf (putOf n (S))) ((frameOf (putOf n S)).length - 5) = 0 := cnt_self _ _
            have hlive : (liveTo (S) n).length + 0 = (liveTo S n).length := rfl
            have hxs := fun k => xo_spec (frameOf (putOf n S)) (frameOf (putOf n (S))) k
            have hcs : ∀ k, 5 ≤ k → cnt (frameOf (putOf n S)) (frameOf (putOf n (S))) (k + 1 - 5) = cnt (frameOf (putOf n S)) (frameOf (putOf n (S))) (k - 5) + popF 8 (xo (frameOf (putOf n S)) (frameOf (putOf n (S))) k) := fun k hk => by
              rw [show k + 1 - 5 = (k - 5) + 1 by omega]
              simp only [cnt]
              rw [show 5 + (k - 5) = k by omega]
            have hcl := cnt_le (frameOf (putOf n S)) (frameOf (putOf n (S)))
            go_wp2_with fail
            refine (hhas).mono ?_
            rintro e w5 ⟨rfl, rfl⟩
            go_wp2_with fail
            refine ((add_no hd4 _ (.inl hr)).mono fun e w' h => (⟨h.1, by rw [h.2]; exact hd4, by rw [h.2]; exact Mods.refl _ _⟩ : e = .returned (.bool false) ∧ DelsAt w' D n S ∧ Mods (fun b => b = D) _ w')).mono ?_
            rintro e w6 ⟨rfl, hd6, hm6⟩
            have k6 := keeps_new hk5 hm6 (fun b hb => by omega)
            have s6 := s4.mods hm6 hv3
            clear s4 hm6 hd4
            go_wp2_with fail
            refine (put_any hd6).mono ?_
            rintro e w7 ⟨v7, rfl, o7, k7⟩
            have s7 := ownsRow_sl o7
            have s67 := s6.keeps k7
            have hd7 := hd6.keeps k7
            have k67 := k6.trans k7
            have hmany := fun w (k : Keeps w7 w) => many_any (hd7.keeps k)
            obtain ⟨ao7, c7, rfl, _⟩ := s7.value
            generalize frameOf (putOf n S) = P at *
            generalize hlQ : (liveTo S n).length = lq at *
            have hP6 : (6 : Int) ≤ (P.length : Int) := by have := HLP.out; omega
            have hP7 : (P.length : Int) ≤ 14 := by have := HLP.out; omega
            clear o7 s6 k6 k7 hd6 HLQ hhas
            have HCS := hid hcs
            have HCL := hid hcl
            have HXS := hid hxs
            have HCNT := hid hcnt
            have HMANY := hid hmany
            clear hcs hcl hxs hcnt hmany
            go_wp2_with fail
            go_loopw [15, 16] (fun u q wr => ∃ k : Nat, 5 ≤ k ∧ k ≤ P.length ∧ q = .int .i64 (k : Int) ∧ u = .int .i64 (cnt P P (k - 5) : Int) ∧ Keeps w7 wr) (fun _ q _ => P.length - (intOf q).toNat)
            case atStart => exact ⟨5, by omega, by omega, rfl, rfl, Below.refl _ _⟩
            case round =>
              obtain ⟨k, hk5', hkP, rfl, rfl, hkk⟩ := hrel
              by_cases hlt2 : k < P.length
              · obtain ⟨b3, off3, e3, _, hc3⟩ := (s67.keeps hkk).open (by rw [bys_length]; omega)
                obtain ⟨b7, off7, e7, _, hc7⟩ := (s7.keeps hkk).open (by rw [bys_length]; omega)
                subst e3 e7
                have hcell3 := hc3 k (.int .u8 (((P.getD k 0).toNat : Nat) : Int)) (by simp [bys, hlt2])
                have hcell7 := hc7 k (.int .u8 (((P.getD k 0).toNat : Nat) : Int)) (by simp [bys, hlt2])
                obtain ⟨hxor, hx255⟩ := HXS.out k
                have hcl2 := HCL.out (k - 5)
                have hnx := HCS.out k hk5'
                generalize (P.getD k 0).toNat = pp at *
                generalize xo P P k = x at *
                generalize cnt P P (k - 5) = c at *
                have HNX := hid hnx
                clear hc3 hc7 hnx
                go_wp2_with fail
                go_quiet (fail)
                rename_i nq
                go_wp2_with fail
                go_loopw [15, 17] (fun u y wr2 => ∃ f z c2 : Nat, f ≤ 8 ∧ y = .int .u8 (z : Int) ∧ z ≤ 255 ∧ z < 2 ^ f ∧ u = .int .i64 (c2 : Int) ∧ c2 + popF f z = c + popF 8 x ∧ Keeps w7 wr2) (fun _ y _ => (intOf y).toNat)
                case atStart => exact ⟨8, x, c, by omega, rfl, hx255, by omega, rfl, rfl, hkk.trans (keeps_drewN _ _)⟩
                case round =>
                  obtain ⟨f, z, c2, hf, rfl, hz, hzf, rfl, hcp, hkz⟩ := hrel
                  have hpop8 := popF_le 8 x
                  have hc2 : c2 ≤ 8 * P.length + 8 := by omega
                  by_cases hz0 : 0 < z
                  · obtain ⟨f, rfl⟩ : ∃ f', f = f' + 1 := ⟨f - 1, by cases f with | zero => simp at hzf; omega | succ f => rfl⟩
                    have hib := inner_bit z hz
                    have hcp2 : c2 + z % 2 + popF f (z / 2) = c + popF 8 x := by rw [← hcp]; simp only [popF]; omega
                    have hzf2 : z / 2 < 2 ^ f := by rw [Nat.pow_succ] at hzf; omega
                    have hz0' : (0 : Int) < (z : Int) := by omega
                    have HCP := hid hcp2
                    have HZF := hid hzf2
                    clear hcp hcp2 hzf hzf2
                    go_wp2_with fail
                    go_roundw
                    case rel => exact ⟨f, z / 2, c2 + z % 2, by omega, by go_num, by omega, HZF.out, by go_num, HCP.out, hkz⟩
                    case measure => simp [intOf]; omega
                  · obtain rfl : z = 0 := by omega
                    rw [popF_zero] at hcp
                    have hc3 : c2 = c + popF 8 x := by omega
                    have HC3 := hid hc3
                    clear hcp hc3 hzf
                    go_wp2_with fail
                    go_roundw
                    case rel => exact ⟨k + 1, by omega, by omega, by go_num, by rw [HNX.out, HC3.out], hkz⟩
                    case measure => simp [intOf]; omega
              · obtain rfl : k = P.length := by omega
                have hmw := HMANY.out _ hkk
                rw [HCNT.out]
                go_wp2_with fail
                refine hmw.mono ?_
                rintro e w9 ⟨rfl, k9⟩
                go_wp2
                go_ret
                exact ⟨rfl, ((k1.trans k67).trans hkk).trans k9⟩
end Go.Proofs.Ytegonlmhaobgcaa
