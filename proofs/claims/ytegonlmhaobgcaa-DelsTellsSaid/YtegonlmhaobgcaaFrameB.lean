/- bytes.Equal, bytes.Clone, frame.Get. -/
import Derived.Test.YtegonlmhaobgcaaFrameA
import Derived.Test.YtegonlmhaobgcaaLebC
import Derived.Test.YtegonlmhaobgcaaReg
import Derived.Test.YtegonlmhaobgcaaStr
set_option linter.unusedSimpArgs false
set_option linter.unusedVariables false
namespace Go.Proofs.Ytegonlmhaobgcaa
open Go.RowKit Go.Vb

theorem equal_any (w : World) (v u : Value) (s t : List UInt8) (hv : Sl w v 1 s.length (bys s)) (hu : Sl w u 1 t.length (bys t)) :
    Calls Try.prog 45 #[v, u] w fun e w' => e = .returned (.bool (s == t)) ∧ w' = w := by
  have c1 := conv_bytes Try.underlying30 Try.underlying5 Try.underlying9 hv
  have c2 := conv_bytes Try.underlying30 Try.underlying5 Try.underlying9 hu
  obtain ⟨ao, c, rfl, _⟩ := hv.value
  obtain ⟨ao2, c2', rfl, _⟩ := hu.value
  go_enter Try.func45, Try.ntmps45
  go_wp2
  go_ret
  exact ⟨rfl, rfl⟩
theorem eqlNil (t e : Nat) (h : Try.prog.underlying t = some (.slice e)) : ∀ (w : World) (a : Option Addr) (n c n' c' : Nat), (binOp .eql t (.slice a n c) (.slice none n' c')).run Try.prog w = .ok (.bool a.isNone) w :=
  fun w a n c n' c' => Lib.run_eql_slice_nil w _ _ a n c n' c' h
theorem clone_any (w : World) (v : Value) (s : List UInt8) (hv : Sl w v 1 s.length (bys s)) (hl : s.length ≤ 70368744177664) :
    Calls Try.prog 46 #[v] w fun e w' => ∃ v', e = .returned v' ∧ w'.ownsRow w.heap.size 5 1 v' s.length (bys s) ∧ Keeps w w' := by
  obtain ⟨i0, hi, hz0, hz1, hz2⟩ := info_parts infoByte
  obtain ⟨ao, c, rfl, h1, h2, h3⟩ := hv.value
  have hnil := eqlNil 30 5 Try.underlying30
  go_enter Try.func46, Try.ntmps46
  cases ao with
  | none =>
    obtain ⟨h0, rfl⟩ := h3 rfl
    have hs : s = [] := List.eq_nil_of_length_eq_zero h0
    subst hs
    go_wp2
    go_ret
    exact ⟨_, rfl, World.ownsRow_nil _ _ _ _, Below.refl _ _⟩
  | some a =>
    have ka : Keeps w (w.alloc (.cells #[] 5)) := (Below.refl _ _).alloc (Nat.le_refl _) _
    have hsa := hv.keeps ka
    go_wp2_with (at_builtin; refine wpList_append_sl _ rfl _ _ 30 rfl w.heap.size 5 i0 (.int .u8 0) 1 1 Try.underlying30 hi hz0 hz1 hz2 rfl (by decide) _ 0 [] rfl (World.ownsRow_lit w #[] 0 (Nat.le_refl _) (by unfold maxLen; omega) rfl) _ s.length (bys s) rfl hsa (bys_one _) (by unfold maxLen; omega) (by omega) (by simp) ?_)
    intro v4 w4 ho4 hg4 hnil4 _
    have k4 : Keeps w w4 := ka.grown hg4 (by simp) (fun k e => by simp [Value.ownBlock] at e; omega)
    obtain ⟨ao4, c4, rfl⟩ := ownsRow_slice ho4
    go_wp2
    go_ret
    exact ⟨_, rfl, ho4, k4⟩

theorem four_length (c : Int) : (fourOf c).length = 4 := rfl
theorem frame_eq (p : List UInt8) (r : List UInt8) : frameOf p ++ r = lebOf p.length ++ (fourOf (crcOf 0 p) ++ (p ++ r)) := by unfold frameOf; simp
/-- What a frame's bytes tell. -/
theorem frame_uniq (p r : List UInt8) (n : Nat) (t : List UInt8) (hp : p.length ≤ 262144) (hn : n ≤ 18446744073709551615) (h : frameOf p ++ r = lebOf n ++ t) : n = p.length ∧ t = fourOf (crcOf 0 p) ++ (p ++ r) := by
  rw [frame_eq] at h
  obtain ⟨h1, h2⟩ := leb_inj _ _ _ _ (by omega) hn h
  exact ⟨h1.symm, h2.symm⟩
theorem frame_inj (p q r t : List UInt8) (hp : p.length ≤ 262144) (hq : q.length ≤ 262144) (h : frameOf p ++ r = frameOf q ++ t) : p = q ∧ r = t := by
  rw [frame_eq q t] at h
  obtain ⟨h1, h2⟩ := frame_uniq p r _ _ hp (by omega) h
  have h3 := List.append_inj h2 (by rw [four_length, four_length])
  have h4 := List.append_inj h3.2 h1
  exact ⟨h4.1.symm, h4.2.symm⟩
def IsFrame (s : List UInt8) : Prop := ∃ p r, s = frameOf p ++ r ∧ p.length ≤ 262144
def FrameRes (s : List UInt8) (B : Nat) (e : Ending) (w' : World) : Prop :=
  (∃ p r v', s = frameOf p ++ r ∧ p.length ≤ 262144 ∧ e = .returned (.tuple #[v', .int .i64 ((frameOf p).length : Int), .int .i64 0]) ∧ w'.ownsRow B 5 1 v' p.length (bys p)) ∨
  (¬ IsFrame s ∧ ∃ z : Nat, z ≠ 0 ∧ e = .returned (.tuple #[.slice none 0 0, .int .i64 0, .int .i64 (z : Int)]))
set_option maxRecDepth 100000 in
set_option maxHeartbeats 1000000 in
theorem frame_Get (w : World) (v : Value) (s : List UInt8) (hv : Sl w v 1 s.length (bys s)) (hsl : s.length ≤ 70368744177664) :
    Calls Try.prog 27 #[v] w fun e w' => FrameRes s w.heap.size e w' ∧ Keeps w w' := by
  have hget := leb_Get w v s hv
  have herr := getFrom_err s 0 0
  obtain ⟨ao, c, rfl, h1, h2, _⟩ := hv.value
  rcases hg : getFrom 0 0 s with ⟨n, k, ec⟩
  rw [hg] at hget herr
  simp only at hget herr
  have hnot : ec ≠ 0 → ¬ IsFrame s := by
    rintro h0 ⟨p, r, hs, hp⟩
    rw [hs, frame_eq, get_put _ _ (by omega)] at hg
    injection hg with _ hg
    injection hg with _ hg
    exact h0 hg.symm
  have HNOT := hid hnot
  have HGG := hid hg
  clear hnot hg
  go_enter Try.func27, Try.ntmps27
  go_wp2_with fail
  refine hget.mono ?_
  rintro e w1 ⟨rfl, rfl⟩
  rcases herr with rfl | rfl | rfl
  · obtain ⟨t, hs, hk, hn⟩ := get_ok s n k HGG.out
    have hlen : s.length = k + t.length := by rw [hs, hk]; simp
    by_cases hbig : 262144 < n
    · have hbig' : (262144 : Int) < (n : Int) := by omega
      have hno : ¬ IsFrame s := by
        rintro ⟨p, r, h, hp⟩
        have := frame_uniq p r n t hp hn (h.symm.trans hs)
        omega
      have HNO := hid hno
      clear hs hno hlen hk
      go_wp2
      go_ret3
      exact ⟨.inr ⟨HNO.out, 32, by omega, rfl⟩, Below.refl _ _⟩
    · have hbig' : (n : Int) ≤ 262144 := by omega
      have S64 : ∀ w, (sizeOf 5).run Try.prog w = .ok 1 w := fun w => by kernel_rfl
      obtain ⟨X3, s31, s32, r3, _⟩ := slice_low (P := Try.prog) (t := 30) (e := 5) (size := 1) Try.underlying30 S64 ao s.length c k (by omega)
      have R3 : Sl w1 (.slice X3 t.length (c - k)) 1 t.length (bys t) := by
        have := r3 _ _ hv
        rw [show s.length - k = t.length by omega] at this
        have e : (bys s).drop (k * 1) = bys t := by rw [Nat.mul_one, hs, bys_append, List.drop_left' (by rw [bys_length, hk])]
        rw [e] at this
        exact this
      rw [show s.length - k = t.length by omega] at s31 s32
      have HS := hid hs
      have HLEN := hid hlen
      have HK := hid hk
      have hks : k ≤ s.length := by omega
      clear hs r3 hlen hk
      by_cases hshort : t.length < 4 + n
      · have hshort' : (t.length : Int) < 4 + (n : Int) := by omega
        have hno : ¬ IsFrame s := by
          rintro ⟨p, r, h, hp⟩
          have h2 := frame_uniq p r n t hp hn (h.symm.trans HS.out)
          have h3 := congrArg List.length h2.2
          simp [four_length] at h3
          omega
        have HNO := hid hno
        clear hno
        go_wp2
        go_ret3
        exact ⟨.inr ⟨HNO.out, 31, by omega, rfl⟩, Below.refl _ _⟩
      · have hshort' : 4 + (n : Int) ≤ (t.length : Int) := by omega
        have hct : t.length ≤ c - k := by have := HLEN.out; omega
        obtain ⟨X4, s41, s42, r4, _⟩ := slice_high (P := Try.prog) (t := 30) (e := 5) (size := 1) Try.underlying30 S64 X3 t.length (c - k) 4 (by omega) hct
        obtain ⟨m, hm⟩ : ∃ m, m = 4 + n := ⟨_, rfl⟩
        have hm' : (4 : Int) + (n : Int) = (m : Int) := by omega
        obtain ⟨X5, s51, s52, r5, _⟩ := slice_two (P := Try.prog) (t := 30) (e := 5) (size := 1) Try.underlying30 S64 X3 t.length (c - k) 4 m (by omega) (by omega) hct
        obtain ⟨p, ep⟩ : ∃ p, p = (t.take m).drop 4 := ⟨_, rfl⟩
        obtain ⟨h4, eh4⟩ : ∃ h4, h4 = t.take 4 := ⟨_, rfl⟩
        have hpl : p.length = n := by rw [ep]; simp; omega
        have h4l : h4.length = 4 := by rw [eh4]; simp; omega
        have R4 : Sl w1 (.slice X4 4 (c - k)) 1 h4.length (bys h4) := by
          have := r4 _ _ R3
          rw [h4l]
          have e : bys h4 = (bys t).take (4 * 1) := by rw [eh4]; simp [bys]
          rw [e]; exact this
        have R5 : Sl w1 (.slice X5 (m - 4) (c - k - 4)) 1 p.length (bys p) := by
          have := r5 _ _ R3
          rw [hpl]
          have e : bys p = ((bys t).take (m * 1)).drop (4 * 1) := by rw [ep]; simp [bys]
          rw [e]
          rw [show m - 4 = n by omega] at this ⊢
          exact this
        have hts : t = h4 ++ (p ++ t.drop m) := by
          rw [eh4, ep]
          have e1 : t.take m = t.take 4 ++ (t.take m).drop 4 := by
            have := (List.take_append_drop 4 (t.take m)).symm
            rw [List.take_take, Nat.min_eq_left (by omega)] at this
            exact this
          rw [← List.append_assoc, ← e1, List.take_append_drop]
        have HP := hid ep
        have HTS := hid hts
        have HPL := hid hpl
        have HM := hid hm
        have H4 := hid h4l
        have hcrc := fun wx (kx : Keeps w1 wx) => crc_sum wx _ p (R5.keeps kx)
        have hkd : Keeps w1 w1.drew := keeps_drewN w1 1
        clear ep hts eh4 r4 r5 hpl hm h4l
        have s42' : ∀ w, (Instr.slice 30 (.slice X3 t.length (c - k)) none (some (.int .i64 4)) none).run Try.prog w = .ok (.slice X4 4 (c - k)) w := s42
        have s52' : ∀ w, (Instr.slice 30 (.slice X3 t.length (c - k)) (some (.int .i64 4)) (some (.int .i64 (m : Int))) none).run Try.prog w = .ok (.slice X5 (m - 4) (c - k - 4)) w := s52
        have s41' : ∀ w, (Instr.sliceAt 30 (.slice X3 t.length (c - k)) none (some (.int .i64 4)) none).run Try.prog w = .ok (.slice X4 4 (c - k)) w := s41
        have s51' : ∀ w, (Instr.sliceAt 30 (.slice X3 t.length (c - k)) (some (.int .i64 4)) (some (.int .i64 (m : Int))) none).run Try.prog w = .ok (.slice X5 (m - 4) (c - k - 4)) w := s51
        have hw1 : IntKind.i64.wrap (n : Int) = (n : Int) := wrapN n (by omega)
        have hw2 : IntKind.i64.wrap (m : Int) = (m : Int) := wrapN m (by omega)
        clear s41 s42 s51 s52
        go_wp2_with fail
        go_region_law (first
          | (rw [if_pos (by simp [Region.wanted])]; go_simp; go_at_call 42; refine (hcrc _ hkd).mono ?_; rintro e w2 ⟨rfl, k2⟩; have k12 := hkd.trans k2; have hfour := four_any w2 _ (crcOf_range 0 p))
          | (rw [if_pos (by simp [Region.wanted])]; go_simp; go_at_call 41; refine hfour.mono ?_; rintro e w3 ⟨v3, rfl, s3, k3⟩; have k13 := k12.trans k3; have heq := equal_any w3 _ _ h4 (fourOf (crcOf 0 p)) (R4.keeps k13) s3)
          | (rw [if_pos (by simp [Region.wanted])]; go_simp; go_at_call 45; refine heq.mono ?_; rintro e w4 ⟨rfl, rfl⟩))
        cases hq : (h4 == fourOf (crcOf 0 p)) with
        | false =>
          have hno : ¬ IsFrame s := by
            rintro ⟨p', r', h, hp'⟩
            obtain ⟨e1, e2⟩ := frame_uniq p' r' n t hp' hn (h.symm.trans HS.out)
            rw [HTS.out] at e2
            have h3 := List.append_inj e2 (by rw [H4.out, four_length])
            have h5 := List.append_inj h3.2 (by rw [HPL.out, e1])
            rw [h5.1, ← h3.1] at hq
            simp at hq
          have HNO := hid hno
          clear hno
          go_wp2
          go_ret3
          exact ⟨.inr ⟨HNO.out, 41, by omega, rfl⟩, k13⟩
        | true =>
          have hyes : s = frameOf p ++ t.drop m := by
            have e4 : h4 = fourOf (crcOf 0 p) := by simpa using hq
            rw [frame_eq, HPL.out, ← e4, ← HTS.out]; exact HS.out
          have hfl : (frameOf p).length = k + 4 + n := by
            have := HPL.out
            have h6 := HK.out
            unfold frameOf
            rw [HPL.out, List.length_append, List.length_append, four_length, ← h6, HPL.out]
            omega
          have HY := hid hyes
          have HFL := hid hfl
          have hcl := clone_any w4 _ p (R5.keeps k13) (by have := HPL.out; omega)
          clear hyes hfl hq
          have hkk : k ≤ 70368744177664 := by have := HLEN.out; omega
          go_wp2_with fail
          refine hcl.mono ?_
          rintro e w5 ⟨v5, rfl, o5, k5⟩
          obtain ⟨a5, c5, rfl⟩ := ownsRow_slice o5
          go_wp2
          go_ret3
          refine ⟨.inl ⟨p, _, _, HY.out, by have := HPL.out; omega, ?_, Go.World.ownsRow.mono o5 k13.size⟩, k13.trans k5⟩
          rw [HFL.out]
          simp
  · have HNO := HNOT.out (by omega)
    clear HGG
    go_wp2
    go_ret3
    exact ⟨.inr ⟨HNO, 31, by omega, rfl⟩, Below.refl _ _⟩
  · have HNO := HNOT.out (by omega)
    clear HGG
    go_wp2
    go_ret3
    exact ⟨.inr ⟨HNO, 32, by omega, rfl⟩, Below.refl _ _⟩
end Go.Proofs.Ytegonlmhaobgcaa
