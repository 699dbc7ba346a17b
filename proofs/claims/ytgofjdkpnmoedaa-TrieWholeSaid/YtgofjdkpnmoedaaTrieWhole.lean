/- The law TrieWhole, walked. -/
import Derived.Test.YtgofjdkpnmoedaaTrieM
set_option linter.unusedSimpArgs false
set_option linter.unusedVariables false
namespace Go.Proofs.Ytgofjdkpnmoedaa
open Go.RowKit Go.Vb

set_option maxHeartbeats 2000000 in
set_option maxRecDepth 100000 in
theorem whole_walk (w : World) (v : Value) (at_ : Int) (L : List (List UInt8)) (vs : List Value) (hM : Mat w v L vs) (_hLl : L.length * 24 ≤ 140737488351232) (hat : (Lit.int .u8 at_).wf = true) :
    Calls Try.prog 6 #[v, .int .u8 at_] w fun e w' => e = .returned (.bool true) ∧ Keeps w w' := by
  have hLs := Sl.size_le hM.outer
  have hat2 : 0 ≤ at_ ∧ at_ ≤ 255 := by
    simp only [Lit.wf, Bool.and_eq_true, decide_eq_true_eq] at hat
    exact hat
  go_enter Try.func6, Try.ntmps6
  go_wp2_with fail
  refine (head_any w).mono ?_
  rintro e w1 ⟨rfl, k1⟩
  have hM1 := hM.keeps k1
  go_wp2_with fail
  by_cases hR : L.length ≤ 512 ∧ ∀ t ∈ L, t.length ≤ 16
  · refine (new_any w1 v L vs hM1 hR.1 hR.2).mono ?_
    rintro e w2 ⟨T, N, rfl, TA, k2⟩
    have hM2 := hM1.keeps k2
    go_wp2_with fail
    refine (great_any w2 v _ L vs 0 [] hM2 (Sl.nil _ _)).mono ?_
    rintro e w3 ⟨⟨b, rfl⟩, rfl⟩
    obtain ⟨ao, c, rfl, _⟩ := hM.outer.value
    cases b with
    | true =>
      go_wp2
      go_ret
      exact ⟨rfl, k1.trans k2⟩
    | false =>
      rcases Nat.eq_zero_or_pos L.length with h0 | hpos
      · have h0' : ((L.length : Int) == 0) = true := by rw [h0]; rfl
        go_wp2
        go_ret
        exact ⟨rfl, k1.trans k2⟩
      · have h0' : ((L.length : Int) == 0) = false := by rw [beq_eq_false_iff_ne]; omega
        have h512 := hR.1
        have h16 := hid hR.2
        clear hR
        obtain ⟨a, rfl⟩ := Int.eq_ofNat_of_zero_le hat2.1
        obtain ⟨bb, off, rfl, hbb, hc⟩ := hM2.outer.open (by rw [hM2.outer.len]; omega)
        have hlt : a % L.length < L.length := Nat.mod_lt _ hpos
        obtain ⟨u, hu, hs⟩ := hM2.inner _ hlt
        have hcell := hc _ u hu
        obtain ⟨ao', c', rfl, _⟩ := hs.value
        have hm1 : (0 : Int) ≤ (a : Int) % (L.length : Int) := by omega
        have hm2 : (a : Int) % (L.length : Int) < (L.length : Int) := by omega
        have hm3 : ((a : Int) % (L.length : Int)).toNat = a % L.length := by
          have : ((a % L.length : Nat) : Int) = (a : Int) % (L.length : Int) := by simp
          omega
        have hx16 : (L[a % L.length]'hlt).length ≤ 16 := h16.out _ (List.getElem_mem _)
        obtain ⟨x, hx⟩ : ∃ x, x = L[a % L.length]'hlt := ⟨_, rfl⟩
        rw [← hx] at hs hx16 hcell hu
        have HX := hid hx
        clear hx hc hu
        go_wp2_with fail
        refine (prefix_any TA h512 _ x hs (by omega)).mono ?_
        rintro e w6 ⟨va, rfl, oa, k6⟩
        go_wp2_with fail
        refine (suffix_any (TA.keeps k6) h512 _ x (hs.keeps k6) (by omega)).mono ?_
        rintro e w7 ⟨vb, B, rfl, ob, _, k7⟩
        have sa := (ownsRow_sl oa).keeps k7
        have sb := ownsRow_sl ob
        obtain ⟨A0, C0, rfl⟩ := ownsRow_slice oa
        obtain ⟨A1, C1, rfl⟩ := ownsRow_slice ob
        have hM7 := (hM2.keeps k6).keeps k7
        have sx := (hs.keeps k6).keeps k7
        have K7 := ((k1.trans k2).trans k6).trans k7
        clear hcell hm1 hm2 hm3 hs oa ob k6 k7 k1 k2 hM1 hM2 TA h16 hbb h512 hat hat2
        go_wp2_with fail
        go_loopw [10] (fun q wr => ∃ (j : Nat), j ≤ L.length ∧ q = .int .i64 (j : Int) ∧ Keeps w7 wr) (fun q _ => L.length - (intOf q).toNat)
        case atStart => exact ⟨0, by omega, rfl, Below.refl _ _⟩
        case round =>
          obtain ⟨j, hj, rfl, hk⟩ := hrel
          by_cases hlj : j < L.length
          · have hM7 := hM7.keeps hk
            have sx := sx.keeps hk
            have sa := sa.keeps hk
            have sb := sb.keeps hk
            obtain ⟨bb', off', e', _, hc⟩ := hM7.outer.open (by rw [hM7.outer.len]; omega)
            have e2 := Option.some.inj e'
            injection e2 with e3 e4 _
            subst e3; subst e4
            obtain ⟨u, hu, hsj⟩ := hM7.inner j hlj
            have hcell := hc _ u hu
            obtain ⟨aoj, cj, rfl, _⟩ := hsj.value
            have c1 := fun m => conv_bytes Try.underlying23 Try.underlying5 Try.underlying9 (hsj.keeps (keeps_drewN wr m))
            have c2 := fun m => conv_bytes Try.underlying23 Try.underlying5 Try.underlying9 (sx.keeps (keeps_drewN wr m))
            clear hc hu e'
            have hsz1 := Sl.size_le hsj
            have hsz2 := Sl.size_le sx
            have hyes : ∀ (A : Option Addr) (C : Nat) (xs : List Int), Sl wr (.slice A xs.length C) 1 xs.length (ints .i64 xs) → (j : Int) ∈ xs → ∀ k, Calls Try.prog 24 #[.slice A xs.length C, .int .i64 (j : Int)] (wr.drewN k) fun e w' => e = .returned (.bool true) ∧ w' = wr.drewN k :=
              fun A C xs h hin k => (has_yes _ _ _ _ (h.keeps (keeps_drewN _ k)) hin).mono fun _ _ ⟨a, b⟩ => ⟨a, b.symm⟩
            have hno : ∀ (A : Option Addr) (C : Nat) (xs : List Int), Sl wr (.slice A xs.length C) 1 xs.length (ints .i64 xs) → (j : Int) ∉ xs → ∀ k, Calls Try.prog 24 #[.slice A xs.length C, .int .i64 (j : Int)] (wr.drewN k) fun e w' => e = .returned (.bool false) ∧ w' = wr.drewN k :=
              fun A C xs h hin k => (has_no _ _ _ _ (h.keeps (keeps_drewN _ k)) hin).mono fun _ _ ⟨a, b⟩ => ⟨a, b.symm⟩
            by_cases he : L[j]'hlj = x
            · have hE : (L[j]'hlj == x) = true := by simpa using he
              have hin0 : (j : Int) ∈ ans 0 L x := (mem_ans0 _ _ _).2 ⟨j, hlj, rfl, by simp [hlj, he]⟩
              have hin1 : (j : Int) ∈ ans 1 L x := (mem_ans1 _ _ _).2 ⟨j, hlj, rfl, by simp [hlj, he]⟩
              have Y0 := hid (hyes _ _ _ sa hin0)
              have Y1 := hid (hyes _ _ _ sb hin1)
              have hlen : (L[j]'hlj).length = x.length := by rw [he]
              have hge : (x.length : Int) ≤ ((L[j]'hlj).length : Int) := by omega
              have HE := hid he
              have HL := hid hlen
              clear hin0 hin1 he hlen hyes hno
              go_wp2_with fail
              go_quiet (first | (go_at_call_of 24 (Value.slice A0 (ans 0 L x).length C0); exact Calls.quiet_of_same (Y0.out _)) | (go_at_call_of 24 (Value.slice A1 (ans 1 L x).length C1); exact Calls.quiet_of_same (Y1.out _)))
              go_wp2_with (first | (go_at_call_of 24 (Value.slice A0 (ans 0 L x).length C0); refine (Y0.out _).mono ?_; rintro e w' ⟨rfl, rfl⟩) | (go_at_call_of 24 (Value.slice A1 (ans 1 L x).length C1); refine (Y1.out _).mono ?_; rintro e w' ⟨rfl, rfl⟩))
              go_roundw
              case rel => exact ⟨j + 1, by omega, by go_num, hk.trans (keeps_drewN _ _)⟩
              case measure => simp [intOf]; omega
            · have hE : (L[j]'hlj == x) = false := by simpa using he
              have HE := hid he
              clear he
              by_cases hin0 : (j : Int) ∈ ans 0 L x
              · have Y0 := hid (hyes _ _ _ sa hin0)
                have hge : (x.length : Int) ≤ ((L[j]'hlj).length : Int) := by
                  obtain ⟨j', h1, h2, h3⟩ := (mem_ans0 _ _ _).1 hin0
                  obtain rfl : j = j' := by omega
                  have := h3.length_le
                  simp only [List.getD_eq_getElem?_getD, List.getElem?_eq_getElem hlj, Option.getD_some] at this
                  omega
                by_cases hin1 : (j : Int) ∈ ans 1 L x
                · have Y1 := hid (hyes _ _ _ sb hin1)
                  clear hin0 hin1 hyes hno
                  go_wp2_with fail
                  go_quiet (fail)
                  go_wp2_with (first | (go_at_call_of 24 (Value.slice A0 (ans 0 L x).length C0); refine (Y0.out _).mono ?_; rintro e w' ⟨rfl, rfl⟩) | (go_at_call_of 24 (Value.slice A1 (ans 1 L x).length C1); refine (Y1.out _).mono ?_; rintro e w' ⟨rfl, rfl⟩))
                  go_roundw
                  case rel => exact ⟨j + 1, by omega, by go_num, hk.trans (keeps_drewN _ _)⟩
                  case measure => simp [intOf]; omega
                · have Y1 := hid (hno _ _ _ sb hin1)
                  clear hin0 hin1 hyes hno
                  go_wp2_with fail
                  go_quiet (fail)
                  go_wp2_with (first | (go_at_call_of 24 (Value.slice A0 (ans 0 L x).length C0); refine (Y0.out _).mono ?_; rintro e w' ⟨rfl, rfl⟩) | (go_at_call_of 24 (Value.slice A1 (ans 1 L x).length C1); refine (Y1.out _).mono ?_; rintro e w' ⟨rfl, rfl⟩))
                  go_roundw
                  case rel => exact ⟨j + 1, by omega, by go_num, hk.trans (keeps_drewN _ _)⟩
                  case measure => simp [intOf]; omega
              · have Y0 := hid (hno _ _ _ sa hin0)
                clear hin0 hyes hno
                go_wp2_with fail
                go_quiet (fail)
                go_wp2_with (go_at_call_of 24 (Value.slice A0 (ans 0 L x).length C0); refine (Y0.out _).mono ?_; rintro e w' ⟨rfl, rfl⟩)
                go_roundw
                case rel => exact ⟨j + 1, by omega, by go_num, hk.trans (keeps_drewN _ _)⟩
                case measure => simp [intOf]; omega
          · go_wp2
            go_ret
            exact ⟨rfl, K7.trans hk⟩
  · refine (new_long w1 v L vs hM1 hR).mono ?_
    rintro e w2 ⟨rfl, rfl⟩
    go_wp2
    go_ret
    exact ⟨rfl, k1⟩
end Go.Proofs.Ytgofjdkpnmoedaa
