/- The law TrieEmpty, walked. -/
import Derived.Test.YtgofjdkpnmoedaaTrieM
set_option linter.unusedSimpArgs false
set_option linter.unusedVariables false
namespace Go.Proofs.Ytgofjdkpnmoedaa
open Go.RowKit Go.Vb

theorem ans_one (k : Nat) (x q : List UInt8) : idsTo k [x] q 1 = if hit k x q = true then [0] else [] := by
  simp only [idsTo, List.nil_append, List.getD_cons_zero]; rfl
theorem len_one (k : Nat) (x q : List UInt8) : (((idsTo k [x] q 1).length : Int) == 1) = hit k x q := by
  rw [ans_one]
  cases h : hit k x q <;> simp
theorem one0 (x s : List UInt8) : (((ans 0 [x] s).length : Int) == 1) = decide (s <+: x) := by
  have h : ans 0 [x] s = idsTo 0 [x] s 1 := by unfold ans; rw [if_neg (by decide)]; rfl
  rw [h, len_one, Bool.eq_iff_iff, hit0]; simp
theorem one1 (x s : List UInt8) : (((ans 1 [x] s).length : Int) == 1) = decide (s <:+ x) := by
  have h : ans 1 [x] s = idsTo 1 [x] s.reverse 1 := by unfold ans; rw [if_pos rfl]; rfl
  rw [h, len_one, Bool.eq_iff_iff, hit1]; simp
theorem one2 (x s : List UInt8) : (((ans 2 [x] s).length : Int) == 1) = decide (s <:+: x) := by
  have h : ans 2 [x] s = idsTo 2 [x] s 1 := by unfold ans; rw [if_neg (by decide)]; rfl
  rw [h, len_one, Bool.eq_iff_iff, hit2]; simp
def foundTo (x s : List UInt8) (j : Nat) : Bool := (List.range j).any fun k => (x.take (k + s.length)).drop k == s
theorem foundTo_succ (x s : List UInt8) (j : Nat) : foundTo x s (j + 1) = (foundTo x s j || ((x.take (j + s.length)).drop j == s)) := by
  unfold foundTo; rw [List.range_succ]; simp
theorem foundTo_all (x s : List UInt8) (j : Nat) (h : x.length < j + s.length) : foundTo x s j = decide (s <:+: x) := by
  rw [Bool.eq_iff_iff]
  unfold foundTo
  simp only [List.any_eq_true, List.mem_range, beq_iff_eq, decide_eq_true_eq]
  constructor
  · rintro ⟨k, _, hk⟩
    rw [← hk]
    exact (List.drop_suffix _ _).isInfix.trans (List.take_prefix _ _).isInfix
  · rintro ⟨a, b, rfl⟩
    refine ⟨a.length, by simp at h; omega, ?_⟩
    rw [List.append_assoc, List.take_append]
    simp
theorem first_is (x s : List UInt8) (h : s.length ≤ x.length) : (x.take s.length == s) = decide (s <+: x) := by
  rw [Bool.eq_iff_iff]; simp only [beq_iff_eq, decide_eq_true_eq, List.prefix_iff_eq_take]; exact eq_comm
theorem last_is (x s : List UInt8) (h : s.length ≤ x.length) : (x.drop (x.length - s.length) == s) = decide (s <:+ x) := by
  rw [Bool.eq_iff_iff]; simp only [beq_iff_eq, decide_eq_true_eq, List.suffix_iff_eq_drop]; exact eq_comm
theorem first_not (x s : List UInt8) (h : x.length < s.length) : false = decide (s <+: x) := by
  symm; rw [decide_eq_false_iff_not]; intro hh; have := hh.length_le; omega
theorem last_not (x s : List UInt8) (h : x.length < s.length) : false = decide (s <:+ x) := by
  symm; rw [decide_eq_false_iff_not]; intro hh; have := hh.length_le; omega

set_option maxHeartbeats 4000000 in
set_option maxRecDepth 100000 in
theorem empty_walk (w : World) (xv sv : Value) (x s : List UInt8) (hx : Sl w xv 1 x.length (bys x)) (hxl : x.length ≤ 140737488351232) (hs : Sl w sv 1 s.length (bys s)) (hsl : s.length ≤ 140737488351232) :
    Calls Try.prog 7 #[xv, sv] w fun e w' => e = .returned (.bool true) ∧ Keeps w w' := by
  obtain ⟨aox, cx, rfl, hxc, hxm, _⟩ := hx.value
  obtain ⟨aos, cs, rfl, hsc, hsm, _⟩ := hs.value
  go_enter Try.func7, Try.ntmps7
  go_wp2_with fail
  refine (head_any w).mono ?_
  rintro e w1 ⟨rfl, k1⟩
  go_wp2_with fail
  refine (new_any w1 (.slice none 0 0) [] [] ⟨Sl.nil _ _, fun i hi => by simp at hi⟩ (by simp) (by simp)).mono ?_
  rintro e w2 ⟨T, N, rfl, TN, k2⟩
  have K2 := k1.trans k2
  clear k1 k2
  go_wp2_with fail
  have k3 : Keeps w2 (w2.alloc (.cells #[.slice aox x.length cx] 23)) := by
    refine Mods.below (Mods.alloc (fun _ => False) w2 _) (Nat.le_refl _) fun _ _ => id
  have hM : Mat (w2.alloc (.cells #[.slice aox x.length cx] 23)) (.slice (some ⟨w2.heap.size, 0, none⟩) 1 1) [x] [.slice aox x.length cx] := by
    refine ⟨sl_one _ _ _, fun i hi => ?_⟩
    have : i = 0 := by simpa using hi
    subst this
    exact ⟨_, rfl, (hx.keeps K2).keeps k3⟩
  by_cases h16 : x.length ≤ 16
  · refine (new_any _ _ _ _ hM (by simp) (by simpa using h16)).mono ?_
    rintro e w3 ⟨T2, N2, rfl, T1, k4⟩
    have TN3 := (TN.keeps k3).keeps k4
    have K3 := (K2.trans k3).trans k4
    have hx3 := hx.keeps K3
    have hs3 := hs.keeps K3
    clear hM TN k3 k4 K2 hx hs
    by_cases hS : s.length ≤ 1000
    · have hS' : (s.length : Int) ≤ (1000 : Int) := by omega
      go_wp2_with fail
      go_loopw [8, 9] (fun b q wr => ∃ (j : Nat), j ≤ x.length + 1 ∧ q = .int .i64 (j : Int) ∧ b = .bool (foundTo x s j) ∧ Keeps w3 wr) (fun _ q _ => x.length + 1 - (intOf q).toNat)
      case atStart => exact ⟨0, by omega, rfl, rfl, Below.refl _ _⟩
      case round =>
        obtain ⟨j, hj, rfl, rfl, hk⟩ := hrel
        have S64 : ∀ w, (sizeOf 5).run Try.prog w = .ok 1 w := fun w => by kernel_rfl
        by_cases hlt : j + s.length ≤ x.length
        · obtain ⟨m, hm⟩ : ∃ m, m = j + s.length := ⟨_, rfl⟩
          have hjm : (j : Int) + (s.length : Int) = (m : Int) := by omega
          have hmx : m ≤ x.length := by omega
          have hjm' : j ≤ m := by omega
          obtain ⟨X1, s11, s12, r1, _⟩ := slice_two (P := Try.prog) (t := 23) (e := 5) (size := 1) Try.underlying23 S64 aox x.length cx j m hjm' hmx hxc
          have R1 := r1 _ _ (hx3.keeps hk)
          have hx1 : bys ((x.take m).drop j) = ((bys x).take (m * 1)).drop (j * 1) := by simp [bys]
          have n1 : ((x.take m).drop j).length = m - j := by simp; omega
          rw [← hx1, ← n1] at R1
          have c1 := fun n => conv_bytes Try.underlying23 Try.underlying5 Try.underlying9 (R1.keeps (keeps_drewN wr n))
          have c2 := fun n => conv_bytes Try.underlying23 Try.underlying5 Try.underlying9 ((hs3.keeps hk).keeps (keeps_drewN wr n))
          rw [n1] at c1
          have hfs := foundTo_succ x s j
          rw [← hm] at hfs
          cases hb : foundTo x s j with
          | true =>
            rw [hb, Bool.true_or] at hfs
            have HFS := hid hfs
            clear R1 hx1 n1 hm r1 hfs
            go_wp2_with fail
            go_quiet (fail)
            go_wp2
            go_roundw
            case rel => exact ⟨j + 1, by omega, by go_num, by rw [HFS.out], hk.trans (keeps_drewN _ _)⟩
            case measure => simp [intOf]; omega
          | false =>
            rw [hb, Bool.false_or] at hfs
            have HFS := hid hfs
            clear R1 hx1 n1 hm r1 hfs
            go_wp2_with fail
            go_quiet (fail)
            go_wp2
            go_roundw
            case rel => exact ⟨j + 1, by omega, by go_num, by rw [HFS.out], hk.trans (keeps_drewN _ _)⟩
            case measure => simp [intOf]; omega
        · have hend : foundTo x s j = decide (s <:+: x) := foundTo_all x s j (by omega)
          have hx4 := hx3.keeps hk
          have hs4 := hs3.keeps hk
          have TN4 := TN3.keeps hk
          have T4 := T1.keeps hk
          have K4 := K3.trans hk
          obtain ⟨f2, e2⟩ : ∃ b : Bool, b = decide (s <:+: x) := ⟨_, rfl⟩
          obtain ⟨f0, e0⟩ : ∃ b : Bool, b = decide (s <+: x) := ⟨_, rfl⟩
          obtain ⟨f1, e1⟩ : ∃ b : Bool, b = decide (s <:+ x) := ⟨_, rfl⟩
          have o2 := one2 x s
          have o1 := one1 x s
          have o0 := one0 x s
          rw [← e2] at o2 hend
          rw [← e1] at o1
          rw [← e0] at o0
          have calls : ∀ wx, Keeps wr wx → (∀ k, k < 3 → ans k [] s = []) := fun _ _ k hk => by
            have : k = 0 ∨ k = 1 ∨ k = 2 := by omega
            rcases this with rfl | rfl | rfl <;> rfl
          have P0 : ∀ wx, Keeps wr wx → Calls Try.prog 18 #[.pointer (some ⟨T, 0, none⟩), .slice aos s.length cs] wx fun e w' => (∃ A C, e = .returned (.slice A 0 C)) ∧ Keeps wr w' := fun wx k => (prefix_any (TN4.keeps k) (by simp) _ s (hs4.keeps k) (by omega)).mono (R' := _) fun e w' ⟨v', a, b, c⟩ => by
            subst a
            obtain ⟨A, C, rfl⟩ := ownsRow_slice b
            exact ⟨⟨A, C, rfl⟩, k.trans c⟩
          have P1 : ∀ wx, Keeps wr wx → Calls Try.prog 20 #[.pointer (some ⟨T, 0, none⟩), .slice aos s.length cs] wx fun e w' => (∃ A C, e = .returned (.slice A 0 C)) ∧ Keeps wr w' := fun wx k => (suffix_any (TN4.keeps k) (by simp) _ s (hs4.keeps k) (by omega)).mono (R' := _) fun e w' ⟨v', _, a, b, _, c⟩ => by
            subst a
            obtain ⟨A, C, rfl⟩ := ownsRow_slice b
            exact ⟨⟨A, C, rfl⟩, k.trans c⟩
          have P2 : ∀ wx, Keeps wr wx → Calls Try.prog 22 #[.pointer (some ⟨T, 0, none⟩), .slice aos s.length cs] wx fun e w' => (∃ A C, e = .returned (.slice A 0 C)) ∧ Keeps wr w' := fun wx k => (infix_any (TN4.keeps k) (by simp) _ s (hs4.keeps k) (by omega)).mono (R' := _) fun e w' ⟨v', a, b, c⟩ => by
            subst a
            obtain ⟨A, C, rfl⟩ := ownsRow_slice b
            exact ⟨⟨A, C, rfl⟩, k.trans c⟩
          have Q0 : ∀ wx, Keeps wr wx → Calls Try.prog 18 #[.pointer (some ⟨T2, 0, none⟩), .slice aos s.length cs] wx fun e w' => (∃ (A : Option Addr) (n C : Nat), e = .returned (.slice A n C) ∧ ((n : Int) == 1) = f0) ∧ Keeps wr w' := fun wx k => (prefix_any (T4.keeps k) (by simp) _ s (hs4.keeps k) (by omega)).mono (R' := _) fun e w' ⟨v', a, b, c⟩ => by
            subst a
            obtain ⟨A, C, rfl⟩ := ownsRow_slice b
            exact ⟨⟨A, _, C, rfl, o0⟩, k.trans c⟩
          have Q1 : ∀ wx, Keeps wr wx → Calls Try.prog 20 #[.pointer (some ⟨T2, 0, none⟩), .slice aos s.length cs] wx fun e w' => (∃ (A : Option Addr) (n C : Nat), e = .returned (.slice A n C) ∧ ((n : Int) == 1) = f1) ∧ Keeps wr w' := fun wx k => (suffix_any (T4.keeps k) (by simp) _ s (hs4.keeps k) (by omega)).mono (R' := _) fun e w' ⟨v', _, a, b, _, c⟩ => by
            subst a
            obtain ⟨A, C, rfl⟩ := ownsRow_slice b
            exact ⟨⟨A, _, C, rfl, o1⟩, k.trans c⟩
          have Q2 : ∀ wx, Keeps wr wx → Calls Try.prog 22 #[.pointer (some ⟨T2, 0, none⟩), .slice aos s.length cs] wx fun e w' => (∃ (A : Option Addr) (n C : Nat), e = .returned (.slice A n C) ∧ ((n : Int) == 1) = f2) ∧ Keeps wr w' := fun wx k => (infix_any (T4.keeps k) (by simp) _ s (hs4.keeps k) (by omega)).mono (R' := _) fun e w' ⟨v', a, b, c⟩ => by
            subst a
            obtain ⟨A, C, rfl⟩ := ownsRow_slice b
            exact ⟨⟨A, _, C, rfl, o2⟩, k.trans c⟩
          have P0 := hid P0
          have P1 := hid P1
          have P2 := hid P2
          have Q0 := hid Q0
          have Q1 := hid Q1
          have Q2 := hid Q2
          have E2 := hid e2
          clear o0 o1 o2 calls e2
          have c2 := fun n => conv_bytes Try.underlying23 Try.underlying5 Try.underlying9 (hs4.keeps (keeps_drewN wr n))
          clear hs3 hx3 TN3 T1 K3
          have fin : ∀ a : Bool, (a == a) = true := fun a => by simp
          by_cases hle : s.length ≤ x.length
          · obtain ⟨X2, s21, s22, r2, _⟩ := slice_high (P := Try.prog) (t := 23) (e := 5) (size := 1) Try.underlying23 S64 aox x.length cx s.length hle hxc
            have hxd : (x.length : Int) - (s.length : Int) = ((x.length - s.length : Nat) : Int) := by omega
            obtain ⟨X3, s31, s32, r3, _⟩ := slice_low (P := Try.prog) (t := 23) (e := 5) (size := 1) Try.underlying23 S64 aox x.length cx (x.length - s.length) (by omega)
            have x2 : bys (x.take s.length) = (bys x).take (s.length * 1) := by simp [bys]
            have x3 : bys (x.drop (x.length - s.length)) = (bys x).drop ((x.length - s.length) * 1) := by simp [bys]
            have n2 : (x.take s.length).length = s.length := by simp; omega
            have n3 : (x.drop (x.length - s.length)).length = x.length - (x.length - s.length) := by simp
            have R2 : Sl wr (.slice X2 s.length cx) 1 (x.take s.length).length (bys (x.take s.length)) := by rw [x2, n2]; exact r2 _ _ hx4
            have R3 : Sl wr (.slice X3 (x.length - (x.length - s.length)) (cx - (x.length - s.length))) 1 (x.drop (x.length - s.length)).length (bys (x.drop (x.length - s.length))) := by rw [x3, n3]; exact r3 _ _ hx4
            have c3 := fun n => conv_bytes Try.underlying23 Try.underlying5 Try.underlying9 (R2.keeps (keeps_drewN wr n))
            have c4 := fun n => conv_bytes Try.underlying23 Try.underlying5 Try.underlying9 (R3.keeps (keeps_drewN wr n))
            have F0 := (first_is x s hle).trans e0.symm
            have F1 := (last_is x s hle).trans e1.symm
            clear R2 R3 x2 x3 n2 n3 r2 r3 e0 e1
            go_wp2_with fail
            go_quiet (fail)
            go_wp2_with fail
            go_quiet (fail)
            go_wp2_with fail
            refine (P0.out _ (by first | exact keeps_drewN _ _ | exact (keeps_drewN _ _).trans (keeps_drewN _ _))).mono ?_
            rintro e w11 ⟨⟨A0, C0, rfl⟩, k11⟩
            go_wp2_with fail
            refine (P1.out _ k11).mono ?_
            rintro e w12 ⟨⟨A1, C1, rfl⟩, k12⟩
            go_wp2_with fail
            refine (P2.out _ k12).mono ?_
            rintro e w13 ⟨⟨A2, C2, rfl⟩, k13⟩
            go_wp2_with fail
            refine (Q0.out _ k13).mono ?_
            rintro e w14 ⟨⟨A3, N3, C3, rfl, g0⟩, k14⟩
            go_wp2_with fail
            refine (Q1.out _ k14).mono ?_
            rintro e w15 ⟨⟨A4, N4, C4, rfl, g1⟩, k15⟩
            go_wp2_with fail
            refine (Q2.out _ k15).mono ?_
            rintro e w16 ⟨⟨A5, N5, C5, rfl, g2⟩, k16⟩
            go_wp2
            go_ret
            exact ⟨rfl, K4.trans k16⟩
          · have F0 := (first_not x s (by omega)).trans e0.symm
            have F1 := (last_not x s (by omega)).trans e1.symm
            clear e0 e1
            subst f0 f1
            go_wp2_with fail
            go_quiet (fail)
            go_wp2_with fail
            go_quiet (fail)
            go_wp2_with fail
            refine (P0.out _ (keeps_drewN _ _)).mono ?_
            rintro e w11 ⟨⟨A0, C0, rfl⟩, k11⟩
            go_wp2_with fail
            refine (P1.out _ k11).mono ?_
            rintro e w12 ⟨⟨A1, C1, rfl⟩, k12⟩
            go_wp2_with fail
            refine (P2.out _ k12).mono ?_
            rintro e w13 ⟨⟨A2, C2, rfl⟩, k13⟩
            go_wp2_with fail
            refine (Q0.out _ k13).mono ?_
            rintro e w14 ⟨⟨A3, N3, C3, rfl, g0⟩, k14⟩
            go_wp2_with fail
            refine (Q1.out _ k14).mono ?_
            rintro e w15 ⟨⟨A4, N4, C4, rfl, g1⟩, k15⟩
            go_wp2_with fail
            refine (Q2.out _ k15).mono ?_
            rintro e w16 ⟨⟨A5, N5, C5, rfl, g2⟩, k16⟩
            go_wp2
            go_ret
            exact ⟨rfl, K4.trans k16⟩
    · have hS' : (1000 : Int) < (s.length : Int) := by omega
      go_wp2
      go_ret
      exact ⟨rfl, K3⟩
  · refine (new_long _ _ _ _ hM (by simp; omega)).mono ?_
    rintro e w3 ⟨rfl, rfl⟩
    have K3 := K2.trans k3
    have h16' : (16 : Int) < (x.length : Int) := by omega
    clear hM TN k3 K2 hx hs
    by_cases hS : s.length ≤ 1000
    · have hS' : (s.length : Int) ≤ (1000 : Int) := by omega
      by_cases hX : x.length ≤ 1000
      · go_wp2
        go_ret
        exact ⟨rfl, K3⟩
      · have hX' : (1000 : Int) < (x.length : Int) := by omega
        go_wp2
        go_ret
        exact ⟨rfl, K3⟩
    · have hS' : (1000 : Int) < (s.length : Int) := by omega
      go_wp2
      go_ret
      exact ⟨rfl, K3⟩
end Go.Proofs.Ytgofjdkpnmoedaa
