/- The law TrieMore, walked. -/
import Derived.Test.YtgofjdkpnmoedaaTrieM
set_option linter.unusedSimpArgs false
set_option linter.unusedVariables false
namespace Go.Proofs.Ytgofjdkpnmoedaa
open Go.RowKit Go.Vb

set_option maxHeartbeats 2000000 in
set_option maxRecDepth 100000 in
theorem more_walk (w : World) (v sv mv : Value) (L : List (List UInt8)) (vs : List Value) (s m : List UInt8) (hM : Mat w v L vs) (_hLl : L.length * 24 ≤ 140737488351232) (hs : Sl w sv 1 s.length (bys s)) (hsl : s.length ≤ 140737488351232) (hm : Sl w mv 1 m.length (bys m)) (hml : m.length ≤ 140737488351232) :
    Calls Try.prog 5 #[v, sv, mv] w fun e w' => e = .returned (.bool true) ∧ Keeps w w' := by
  obtain ⟨i0, hi, hz0, hz1, hz2⟩ := info_parts info5
  obtain ⟨aos, cs, rfl, _⟩ := hs.value
  obtain ⟨aom, cm, rfl, _⟩ := hm.value
  have hLs := Sl.size_le hM.outer
  go_enter Try.func5, Try.ntmps5
  go_wp2_with fail
  refine (head_any w).mono ?_
  rintro e w1 ⟨rfl, k1⟩
  have hM1 := hM.keeps k1
  go_wp2_with fail
  by_cases hR : L.length ≤ 512 ∧ ∀ t ∈ L, t.length ≤ 16
  · refine (new_any w1 v L vs hM1 hR.1 hR.2).mono ?_
    rintro e w2 ⟨T, N, rfl, TA, k2⟩
    have hM2 := hM1.keeps k2
    go_wp2_with fail
    refine (great_any w2 v _ L vs _ _ hM2 ((hs.keeps k1).keeps k2)).mono ?_
    rintro e w3 ⟨⟨b, rfl⟩, rfl⟩
    cases b with
    | true =>
      go_wp2
      go_ret
      exact ⟨rfl, k1.trans k2⟩
    | false =>
      by_cases h1000 : 1000 < m.length
      · go_wp2
        go_ret
        exact ⟨rfl, k1.trans k2⟩
      · have h1000' : m.length ≤ 1000 := by omega
        obtain ⟨ao, c, rfl, _⟩ := hM.outer.value
        have k12 := k1.trans k2
        have ka := keeps_alloc w2 (.cells #[] 5)
        have hsa := (hs.keeps k12).keeps ka
        have HR := hid hR
        clear hR h1000
        go_wp2_with (at_builtin; refine wpList_append_sl _ rfl _ _ 23 rfl w2.heap.size 5 i0 (.int .u8 0) 1 1 Try.underlying23 hi hz0 hz1 hz2 rfl (by decide) _ 0 [] rfl (World.ownsRow_lit w2 #[] 0 (Nat.le_refl _) (by unfold maxLen; omega) rfl) _ s.length (bys s) rfl hsa (bys_one s) (by unfold maxLen; omega) (by omega) (by simp) ?_)
        intro v4 w4 ho4 hg4 _ _
        have k4 : Keeps w2 w4 := ka.grown hg4 (by simp) (fun k e => by simp [Value.ownBlock] at e; omega)
        have hma := (hm.keeps k12).keeps k4
        obtain ⟨ao4, c4, rfl⟩ := ownsRow_slice ho4
        go_wp2_with (at_builtin; refine wpList_append_sl _ rfl _ _ 23 rfl w2.heap.size 5 i0 (.int .u8 0) 1 1 Try.underlying23 hi hz0 hz1 hz2 rfl (by decide) _ _ _ rfl ho4 _ m.length (bys m) rfl hma (bys_one m) (by unfold maxLen; omega) (by omega) (by have := k4.size; omega) ?_)
        intro v5 w5 ho5 hg5 _ _
        have k5 : Keeps w2 w5 := k4.grown hg5 (by have := k4.size; omega) (fun k e => by have := (ownsRow_base ho4 e).1; omega)
        have HL := hid (show (s ++ m).length ≤ 140737488355328 from by simp; omega)
        go_wp2_with fail
        have sl5 : Sl w5 v5 1 (s ++ m).length (bys (s ++ m)) := by
          have := ownsRow_sl ho5
          simpa [bys] using this
        obtain ⟨ao5, c5, rfl⟩ := ownsRow_slice ho5
        have TA5 := TA.keeps k5
        have hs5 := (hs.keeps k12).keeps k5
        have hm5 := (hm.keeps k12).keeps k5
        have K5 := k12.trans k5
        have h512 := HR.out.1
        clear ho4 hg4 ho5 hg5 hsa hma ka
        refine (prefix_any TA5 h512 _ (s ++ m) sl5 HL.out).mono ?_
        rintro e w6 ⟨va, rfl, oa, k6⟩
        go_wp2_with fail
        refine (prefix_any (TA5.keeps k6) h512 _ s (hs5.keeps k6) (by omega)).mono ?_
        rintro e w7 ⟨vb, rfl, ob, k7⟩
        have k57 := k6.trans k7
        go_wp2_with fail
        refine (infix_any (TA5.keeps k57) h512 _ (s ++ m) (sl5.keeps k57) HL.out).mono ?_
        rintro e w8 ⟨vc, rfl, oc, k8⟩
        have k58 := k57.trans k8
        go_wp2_with fail
        refine (infix_any (TA5.keeps k58) h512 _ s (hs5.keeps k58) (by omega)).mono ?_
        rintro e w9 ⟨vd, rfl, od, k9⟩
        have k59 := k58.trans k9
        go_wp2_with fail
        refine (suffix_any (TA5.keeps k59) h512 _ (s ++ m) (sl5.keeps k59) HL.out).mono ?_
        rintro e w10 ⟨ve, B1, rfl, oe, _, k10⟩
        have k510 := k59.trans k10
        go_wp2_with fail
        refine (suffix_any (TA5.keeps k510) h512 _ m (hm5.keeps k510) (by omega)).mono ?_
        rintro e w11 ⟨vf, B2, rfl, of, _, k11⟩
        have K11 := (K5.trans k510).trans k11
        have TA11 := TA5.keeps (k510.trans k11)
        have sa := (ownsRow_sl oa).keeps ((((k7.trans k8).trans k9).trans k10).trans k11)
        have sb := (ownsRow_sl ob).keeps (((k8.trans k9).trans k10).trans k11)
        have sc := (ownsRow_sl oc).keeps ((k9.trans k10).trans k11)
        have sd := (ownsRow_sl od).keeps (k10.trans k11)
        have se := (ownsRow_sl oe).keeps k11
        have sf := ownsRow_sl of
        obtain ⟨_, _, rfl⟩ := ownsRow_slice oa
        obtain ⟨_, _, rfl⟩ := ownsRow_slice ob
        obtain ⟨_, _, rfl⟩ := ownsRow_slice oc
        obtain ⟨_, _, rfl⟩ := ownsRow_slice od
        obtain ⟨_, _, rfl⟩ := ownsRow_slice oe
        obtain ⟨_, _, rfl⟩ := ownsRow_slice of
        have l0 := ans_length 0 L (s ++ m)
        have l1 := ans_length 1 L (s ++ m)
        have l2 := ans_length 2 L (s ++ m)
        clear oa ob oc od oe of k6 k7 k8 k9 k10 k11 k57 k58 k59 k510 TA5 hs5 hm5 sl5 K5 k4 k5 k12 k1 k2 TA hM1 hM2
        go_wp2_with fail
        go_loop [16] (fun q => ∃ j : Nat, j ≤ (ans 0 L (s ++ m)).length ∧ q = .int .i64 (j : Int)) (fun q => (ans 0 L (s ++ m)).length - (intOf q).toNat)
        case atStart => exact ⟨0, by omega, rfl⟩
        case round =>
          obtain ⟨j, hj, rfl⟩ := hrel
          by_cases hlt : j < (ans 0 L (s ++ m)).length
          · obtain ⟨g, off, rfl, _, hc⟩ := sa.open (by rw [ints_length]; omega)
            have hcell := hc j _ (ints_get _ _ j hlt)
            have hh := has_yes w11 _ _ _ sb (ans0_more L s m _ (List.getElem_mem hlt))
            clear hc
            go_wp2_with (go_at_call 24; refine hh.mono ?_; rintro e w' ⟨rfl, rfl⟩)
            go_round
            case rel => exact ⟨j + 1, by omega, by go_num⟩
            case measure => simp [intOf]; omega
          · go_wp2_with fail
            go_loop [17] (fun q => ∃ j : Nat, j ≤ (ans 2 L (s ++ m)).length ∧ q = .int .i64 (j : Int)) (fun q => (ans 2 L (s ++ m)).length - (intOf q).toNat)
            case atStart => exact ⟨0, by omega, rfl⟩
            case round =>
              obtain ⟨j, hj, rfl⟩ := hrel
              by_cases hlt : j < (ans 2 L (s ++ m)).length
              · obtain ⟨g, off, rfl, _, hc⟩ := sc.open (by rw [ints_length]; omega)
                have hcell := hc j _ (ints_get _ _ j hlt)
                have hh := has_yes w11 _ _ _ sd (ans2_more L s m _ (List.getElem_mem hlt))
                clear hc
                go_wp2_with (go_at_call 24; refine hh.mono ?_; rintro e w' ⟨rfl, rfl⟩)
                go_round
                case rel => exact ⟨j + 1, by omega, by go_num⟩
                case measure => simp [intOf]; omega
              · go_wp2_with fail
                go_loop [18] (fun q => ∃ j : Nat, j ≤ (ans 1 L (s ++ m)).length ∧ q = .int .i64 (j : Int)) (fun q => (ans 1 L (s ++ m)).length - (intOf q).toNat)
                case atStart => exact ⟨0, by omega, rfl⟩
                case round =>
                  obtain ⟨j, hj, rfl⟩ := hrel
                  by_cases hlt : j < (ans 1 L (s ++ m)).length
                  · obtain ⟨g, off, rfl, _, hc⟩ := se.open (by rw [ints_length]; omega)
                    have hcell := hc j _ (ints_get _ _ j hlt)
                    have hh := has_yes w11 _ _ _ sf (ans1_more L s m _ (List.getElem_mem hlt))
                    clear hc
                    go_wp2_with (go_at_call 24; refine hh.mono ?_; rintro e w' ⟨rfl, rfl⟩)
                    go_round
                    case rel => exact ⟨j + 1, by omega, by go_num⟩
                    case measure => simp [intOf]; omega
                  · go_wp2_with fail
                    have q0 := prefix_any TA11 h512 _ [] (Sl.nil _ _) (by decide)
                    rw [ans_nil 0 (by omega)] at q0
                    refine q0.mono ?_
                    rintro e w12 ⟨vg, rfl, og, k12⟩
                    obtain ⟨_, _, rfl⟩ := ownsRow_slice og
                    go_wp2_with fail
                    have q1 := suffix_any (TA11.keeps k12) h512 _ [] (Sl.nil _ _) (by decide)
                    rw [ans_nil 1 (by omega)] at q1
                    refine q1.mono ?_
                    rintro e w13 ⟨vh, B3, rfl, oh, _, k13⟩
                    obtain ⟨_, _, rfl⟩ := ownsRow_slice oh
                    go_wp2_with fail
                    have q2 := infix_any ((TA11.keeps k12).keeps k13) h512 _ [] (Sl.nil _ _) (by decide)
                    rw [ans_nil 2 (by omega)] at q2
                    refine q2.mono ?_
                    rintro e w14 ⟨vi, rfl, oi, k14⟩
                    obtain ⟨_, _, rfl⟩ := ownsRow_slice oi
                    go_wp2
                    go_ret
                    exact ⟨rfl, ((K11.trans k12).trans k13).trans k14⟩
  · refine (new_long w1 v L vs hM1 hR).mono ?_
    rintro e w2 ⟨rfl, rfl⟩
    go_wp2
    go_ret
    exact ⟨rfl, k1⟩
end Go.Proofs.Ytgofjdkpnmoedaa
