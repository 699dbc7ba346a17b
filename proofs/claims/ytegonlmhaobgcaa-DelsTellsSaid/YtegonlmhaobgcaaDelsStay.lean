/- The law DelsStay, walked. -/
import Derived.Test.YtegonlmhaobgcaaDelsC
set_option linter.unusedSimpArgs false
set_option linter.unusedVariables false
namespace Go.Proofs.Ytegonlmhaobgcaa
open Go.RowKit Go.Vb

theorem ints_get (k : IntKind) (xs : List Int) (j : Nat) (h : j < xs.length) : (ints k xs)[j]? = some (.int k (xs[j]'h)) := by simp [ints, h]
theorem take_mem {α} (l : List α) (j : Nat) (h : j < l.length) (x : α) (hx : x ∈ l.take (j + 1)) : x ∈ l.take j ∨ x = l[j]'h := by
  rw [List.take_add_one, List.getElem?_eq_getElem h] at hx
  rcases List.mem_append.1 hx with hx | hx
  · exact .inl hx
  · exact .inr (by simpa using hx)
theorem hasB_addS_mono {S : Nat → Bool} {n : Nat} {i x : Int} (h : hasB S x = true) : hasB (addS S n i) x = true := by
  unfold addS; split
  · unfold hasB at h ⊢
    rw [Bool.and_eq_true] at h ⊢
    refine ⟨h.1, ?_⟩
    unfold setS; split
    · rfl
    · exact h.2
  · exact h
theorem hasB_addS_self {S : Nat → Bool} {n : Nat} {i : Int} (h : 0 ≤ i ∧ i < n) : hasB (addS S n i) i = true := by
  unfold addS hasB
  rw [if_pos h, decide_eq_true h.1, setS_self]; rfl
theorem hasB_out {w : World} {D n : Nat} {S : Nat → Bool} (h : DelsAt w D n S) {i : Int} (hi : ¬ (0 ≤ i ∧ i < n)) : hasB S i = false := by
  unfold hasB
  by_cases h0 : 0 ≤ i
  · rw [h.out _ (by omega), Bool.and_false]
  · rw [decide_eq_false h0, Bool.false_and]
theorem liveTo_lt (S : Nat → Bool) (n : Nat) : ∀ x ∈ liveTo S n, 0 ≤ x ∧ x < (n : Int) ∧ S x.toNat = false := by
  induction n with
  | zero => simp [liveTo]
  | succ n ih =>
    intro x hx
    simp only [liveTo, List.mem_append] at hx
    rcases hx with hx | hx
    · have := ih x hx; exact ⟨this.1, by omega, this.2.2⟩
    · split at hx
      · simp at hx
      · rename_i hs
        obtain rfl : x = (n : Int) := by simpa using hx
        exact ⟨by omega, by omega, by simpa using hs⟩
theorem liveTo_rise (S : Nat → Bool) (n : Nat) : (liveTo S n).Pairwise (· < ·) := by
  induction n with
  | zero => exact List.Pairwise.nil
  | succ n ih =>
    simp only [liveTo]
    split
    · simpa using ih
    · rw [List.pairwise_append]
      exact ⟨ih, by simp, fun a ha b hb => by have := liveTo_lt S n a ha; simp at hb; omega⟩

theorem new_at (w : World) (n : Nat) (hn : n ≤ 64) :
    Calls Try.prog 8 #[.int .i64 (n : Int)] w fun e w' => ∃ D, e = .returned (.pointer (some ⟨D, 0, none⟩)) ∧ DelsAt w' D n S0 ∧ w.heap.size ≤ D ∧ Keeps w w' :=
  (new_in w n hn).mono fun _ _ ⟨a, b, c⟩ => ⟨_, a, b, Nat.le_refl _, c⟩
set_option maxRecDepth 100000 in
set_option maxHeartbeats 1000000 in
theorem stay_walk (w : World) (a : Int) (xv yv : Value) (l m : List Int) (ha : (Lit.int .u8 a).wf = true) (hx : Sl w xv 1 l.length (ints .i64 l)) (hxl : l.length ≤ 140737488351232) (hy : Sl w yv 1 m.length (ints .i64 m)) (hyl : m.length ≤ 140737488351232) :
    Calls Try.prog 3 #[.int .u8 a, xv, yv] w fun e w' => e = .returned (.bool true) ∧ Keeps w w' := by
  simp only [Lit.wf, Bool.and_eq_true, decide_eq_true_eq] at ha
  have ha2 : 0 ≤ a ∧ a ≤ 255 := ha
  clear ha
  obtain ⟨a, rfl⟩ := Int.eq_ofNat_of_zero_le ha2.1
  obtain ⟨n, hn⟩ : ∃ n, n = a % 65 := ⟨_, rfl⟩
  have hna : (a : Int) % 65 = (n : Int) := by omega
  have hn64 : n ≤ 64 := by omega
  obtain ⟨aox, cx, rfl, _⟩ := hx.value
  obtain ⟨aoy, cy, rfl, _⟩ := hy.value
  go_enter Try.func3, Try.ntmps3
  go_wp2_with fail
  refine (head_any w).mono ?_
  rintro e w1 ⟨rfl, k1⟩
  have hx1 := hx.keeps k1
  have hy1 := hy.keeps k1
  clear hx hy hn
  go_wp2_with fail
  refine (new_at w1 n hn64).mono ?_
  rintro e w2 ⟨D, rfl, d2, hD, k2⟩
  by_cases hl5 : 500 < l.length
  · have hl5' : (500 : Int) < (l.length : Int) := by omega
    go_wp2
    go_ret
    exact ⟨rfl, k1.trans k2⟩
  · have hl5' : (l.length : Int) ≤ 500 := by omega
    by_cases hm5 : 500 < m.length
    · have hm5' : (500 : Int) < (m.length : Int) := by omega
      go_wp2
      go_ret
      exact ⟨rfl, k1.trans k2⟩
    · have hm5' : (m.length : Int) ≤ 500 := by omega
      go_wp2_with fail
      go_loopw [9] (fun q wr => ∃ (j : Nat) (S : Nat → Bool), j ≤ l.length ∧ q = .int .i64 (j : Int) ∧ DelsAt wr D n S ∧ Keeps w1 wr ∧ ∀ x ∈ l.take j, 0 ≤ x ∧ x < n → hasB S x = true) (fun q _ => l.length - (intOf q).toNat)
      case atStart => exact ⟨0, _, by omega, rfl, d2, k2, by simp⟩
      case round =>
        obtain ⟨j, S, hj, rfl, hd, hk, hS⟩ := hrel
        have HS := hid hS
        clear hS
        by_cases hlt : j < l.length
        · obtain ⟨b, off, rfl, _, hc⟩ := (hx1.keeps hk).open (by rw [ints_length]; omega)
          have hcell := hc j _ (ints_get _ l j hlt)
          clear hc
          go_wp2_with fail
          refine (add_any hd (l[j]'hlt)).mono ?_
          rintro e w3 ⟨rfl, hd3, hm3⟩
          have k3 := keeps_new hk hm3 (fun b hb => by omega)
          go_wp2
          go_roundw
          case rel =>
            refine ⟨j + 1, _, by omega, by go_num, hd3, k3, fun x hx hr => ?_⟩
            rcases take_mem l j hlt x hx with hx | rfl
            · exact hasB_addS_mono (HS.out x hx hr)
            · exact hasB_addS_self hr
          case measure => simp [intOf]; omega
        · obtain rfl : j = l.length := by omega
          have hS := HS.out
          rw [List.take_length] at hS
          go_wp2_with fail
          go_loopw [10] (fun q wr => ∃ (j : Nat) (S : Nat → Bool), j ≤ m.length ∧ q = .int .i64 (j : Int) ∧ DelsAt wr D n S ∧ Keeps w1 wr ∧ ∀ x ∈ l, 0 ≤ x ∧ x < n → hasB S x = true) (fun q _ => m.length - (intOf q).toNat)
          case atStart => exact ⟨0, _, by omega, rfl, hd, hk, hS⟩
          case round =>
            obtain ⟨j, S, hj, rfl, hd, hk, hS⟩ := hrel
            have HS := hid hS
            clear hS
            by_cases hlt : j < m.length
            · obtain ⟨b, off, rfl, _, hc⟩ := (hy1.keeps hk).open (by rw [ints_length]; omega)
              have hcell := hc j _ (ints_get _ m j hlt)
              clear hc
              go_wp2_with fail
              refine (add_any hd (m[j]'hlt)).mono ?_
              rintro e w3 ⟨rfl, hd3, hm3⟩
              have k3 := keeps_new hk hm3 (fun b hb => by omega)
              go_wp2
              go_roundw
              case rel => exact ⟨j + 1, _, by omega, by go_num, hd3, k3, fun x hx hr => hasB_addS_mono (HS.out x hx hr)⟩
              case measure => simp [intOf]; omega
            · clear hy1 k2 d2
              go_wp2_with fail
              go_loopw [11] (fun q w5 => ∃ (j : Nat), j ≤ l.length ∧ q = .int .i64 (j : Int) ∧ DelsAt w5 D n S ∧ Keeps w1 w5) (fun q _ => l.length - (intOf q).toNat)
              case atStart => exact ⟨0, by omega, rfl, hd, hk⟩
              case round =>
                obtain ⟨j, hj, rfl, hd, hk⟩ := hrel
                by_cases hlt3 : j < l.length
                · obtain ⟨b, off, rfl, _, hc⟩ := (hx1.keeps hk).open (by rw [ints_length]; omega)
                  have hcell := hc j _ (ints_get _ l j hlt3)
                  have hin := HS.out (l[j]'hlt3) (List.getElem_mem _)
                  have hout := hasB_out hd (i := l[j]'hlt3)
                  have hy0 := fun k => has_any (hd.keeps (keeps_drewN wr k)) (l[j]'hlt3)
                  generalize l[j]'hlt3 = x at *
                  clear hc
                  by_cases hx0 : 0 ≤ x
                  · by_cases hxn : x < (n : Int)
                    · rw [hin ⟨hx0, hxn⟩] at hy0
                      have Y := hid hy0
                      have hr : ∀ k, Keeps w1 (wr.drewN k) ∧ DelsAt (wr.drewN k) D n S := fun k => ⟨hk.trans (keeps_drewN _ _), hd.keeps (keeps_drewN _ _)⟩
                      clear hy0 hin hout
                      go_wp2_with fail
                      go_quiet ((go_at_call 10; exact Calls.quiet_of_same (Y.out _)))
                      go_wp2
                      go_roundw
                      case rel => exact ⟨j + 1, by omega, by go_num, (hr _).2, (hr _).1⟩
                      case measure => simp [intOf]; omega
                    · rw [hout (by omega)] at hy0
                      have Y := hid hy0
                      have hxn' : (n : Int) ≤ x := by omega
                      have hr : ∀ k, Keeps w1 (wr.drewN k) ∧ DelsAt (wr.drewN k) D n S := fun k => ⟨hk.trans (keeps_drewN _ _), hd.keeps (keeps_drewN _ _)⟩
                      clear hy0 hin hout
                      have hdc : decide (x < (n : Int)) = false := decide_eq_false hxn
                      go_wp2_with fail
                      go_quiet ((go_at_call 10; exact Calls.quiet_of_same (Y.out _)))
                      go_wp2
                      go_roundw
                      case rel => exact ⟨j + 1, by omega, by go_num, (hr _).2, (hr _).1⟩
                      case measure => simp [intOf]; omega
                  · rw [hout (by omega)] at hy0
                    have Y := hid hy0
                    have hxn' : x < 0 := by omega
                    have hr : ∀ k, Keeps w1 (wr.drewN k) ∧ DelsAt (wr.drewN k) D n S := fun k => ⟨hk.trans (keeps_drewN _ _), hd.keeps (keeps_drewN _ _)⟩
                    clear hy0 hin hout
                    have hdc : decide (0 ≤ x) = false := decide_eq_false hx0
                    go_wp2_with fail
                    go_quiet ((go_at_call 10; exact Calls.quiet_of_same (Y.out _)))
                    go_wp2
                    go_roundw
                    case rel => exact ⟨j + 1, by omega, by go_num, (hr _).2, (hr _).1⟩
                    case measure => simp [intOf]; omega
                · clear hx1
                  go_wp2_with fail
                  refine (live_any hd).mono ?_
                  rintro e w6 ⟨v6, rfl, o6, k6⟩
                  have s6 := ownsRow_sl o6
                  have hd6 := hd.keeps k6
                  have hk6 := hk.trans k6
                  have hlive := liveTo_lt S n
                  have hrise := liveTo_rise S n
                  have hll := liveTo_length S n
                  obtain ⟨ao6, c6, rfl, _⟩ := s6.value
                  generalize hLV : liveTo S n = LV at *
                  have HLI := hid hlive
                  have HRI := hid hrise
                  clear hlive hrise o6
                  go_wp2_with fail
                  go_loopw [13] (fun q w7 => ∃ (j : Nat), j ≤ LV.length ∧ q = .int .i64 (j : Int) ∧ Keeps w6 w7) (fun q _ => LV.length - (intOf q).toNat)
                  case atStart => exact ⟨0, by omega, rfl, Below.refl _ _⟩
                  case round =>
                    obtain ⟨j, hj, rfl, hk7⟩ := hrel
                    by_cases hlt4 : j < LV.length
                    · obtain ⟨b, off, e', _, hc⟩ := (s6.keeps hk7).open (by rw [ints_length]; omega)
                      subst e'
                      have hcell := hc j _ (ints_get _ LV j hlt4)
                      have hy0 := fun k => has_any ((hd6.keeps hk7).keeps (keeps_drewN wr k)) (LV[j]'hlt4)
                      have hnot : hasB S (LV[j]'hlt4) = false := by
                        obtain ⟨h1, _, h3⟩ := HLI.out _ (List.getElem_mem hlt4)
                        unfold hasB; rw [h3, Bool.and_false]
                      rw [hnot] at hy0
                      have Y := hid hy0
                      clear hy0 hnot
                      rcases Nat.eq_zero_or_pos j with h0 | hp
                      · subst h0
                        simp only [Nat.add_zero] at hcell
                        clear hc
                        go_wp2_with fail
                        go_quiet ((go_at_call 10; exact Calls.quiet_of_same (Y.out _)))
                        go_wp2
                        go_roundw
                        case rel => exact ⟨1, by omega, rfl, hk7.trans (keeps_drewN _ _)⟩
                        case measure => simp [intOf]; omega
                      · obtain ⟨i, rfl⟩ : ∃ i, j = i + 1 := ⟨j - 1, by omega⟩
                        have hcell' := hc i _ (ints_get _ _ i (by omega))
                        have hwr := wrapN i (by omega)
                        have hlt2 : LV[i]'(by omega) < LV[i + 1]'hlt4 := List.pairwise_iff_getElem.1 HRI.out i (i + 1) (by omega) hlt4 (by omega)
                        clear hc
                        go_wp2_with fail
                        go_quiet ((go_at_call 10; exact Calls.quiet_of_same (Y.out _)))
                        go_wp2
                        go_roundw
                        case rel => exact ⟨i + 1 + 1, by omega, by go_num, hk7.trans (keeps_drewN _ _)⟩
                        case measure => simp [intOf]; omega
                    · have hmany := many_any (hd6.keeps hk7)
                      rw [hLV] at hmany
                      have hsum : (LV.length : Int) + ((n - LV.length : Nat) : Int) = (n : Int) := by omega
                      go_wp2_with fail
                      refine hmany.mono ?_
                      rintro e w8 ⟨rfl, k8⟩
                      go_wp2
                      go_ret
                      exact ⟨rfl, ((k1.trans hk6).trans hk7).trans k8⟩
end Go.Proofs.Ytegonlmhaobgcaa
