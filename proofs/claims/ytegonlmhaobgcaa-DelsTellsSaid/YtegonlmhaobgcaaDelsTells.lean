/- The law DelsTells, walked. -/
import Derived.Test.YtegonlmhaobgcaaRefDelsC
import Derived.Test.YtegonlmhaobgcaaDelsBack
import Derived.Deep.RegionHeld
import Derived.Deep.RegionHeldLaw
set_option linter.unusedSimpArgs false
set_option linter.unusedVariables false
namespace Go.Proofs.Ytegonlmhaobgcaa
open Go.RowKit Go.Vb

theorem rd_Add_any {w : World} {B D n : Nat} {v : Value} {l : List Int} {S : Nat → Bool} (h : RDAt w B D n v l) (hr : Rel S n l) (i : Int) :
    Calls Try.prog 20 #[.pointer (some ⟨D, 0, none⟩), .int .i64 i] w fun e w' => e = .returned (.bool (decide (0 ≤ i ∧ i < n) && !hasB S i)) ∧ (∃ v' l', RDAt w' B D n v' l' ∧ Rel (addS S n i) n l') ∧ Below B w w' := by
  have hml := hr.many
  have hle := hr.le
  have hm := hr.mem i
  by_cases hi : 0 ≤ i ∧ i < n
  · cases hs : hasB S i with
    | true =>
      rw [hs] at hm
      have e2 : addS S n i = S := by
        unfold addS; rw [if_pos hi]
        apply setS_same
        simp only [hasB, Bool.and_eq_true] at hs
        exact hs.2
      refine (rd_Add_no h (by omega) i (.inl (by simpa using hm))).mono ?_
      rintro e w' ⟨rfl, rfl⟩
      refine ⟨by simp, ⟨v, l, h, by rw [e2]; exact hr⟩, Below.refl _ _⟩
    | false =>
      rw [hs] at hm
      refine (rd_Add_yes h (by omega) i hi hle (by simpa using hm)).mono ?_
      rintro e w' ⟨rfl, ⟨v', hv'⟩, hb⟩
      refine ⟨by simp [hi.1, hi.2], ⟨v', _, hv', ?_⟩, hb⟩
      obtain ⟨k, rfl⟩ := Int.eq_ofNat_of_zero_le hi.1
      have e2 : addS S n (k : Int) = setS S k := by unfold addS; rw [if_pos hi]; rfl
      rw [e2]
      rw [hasB_nat] at hs
      exact hr.add k (by omega) hs
  · have e2 : addS S n i = S := by unfold addS; rw [if_neg hi]
    refine (rd_Add_no h (by omega) i (.inr hi)).mono ?_
    rintro e w' ⟨rfl, rfl⟩
    refine ⟨?_, ⟨v, l, h, by rw [e2]; exact hr⟩, Below.refl _ _⟩
    rw [decide_eq_false hi]; rfl
set_option maxRecDepth 100000 in
set_option maxHeartbeats 4000000 in
theorem tells_walk (w : World) (n : Int) (xv bv : Value) (l : List Int) (s : List UInt8) (hn : (Lit.int .i64 n).wf = true) (hx : Sl w xv 1 l.length (ints .i64 l)) (hxl : l.length ≤ 140737488351232) (hb : Sl w bv 1 s.length (bys s)) (hbl : s.length ≤ 140737488351232) :
    Calls Try.prog 5 #[.int .i64 n, xv, bv] w fun e w' => e = .returned (.bool true) ∧ Keeps w w' := by
  obtain ⟨aox, cx, rfl, _⟩ := hx.value
  obtain ⟨aob, cb, rfl, _⟩ := hb.value
  go_enter Try.func5, Try.ntmps5
  go_wp2_with fail
  refine (head_any w).mono ?_
  rintro e w1 ⟨rfl, k1⟩
  have hx0 := hx
  have hb1 := hb.keeps k1
  clear hx hb
  by_cases hl5 : 500 < l.length
  · have hl5' : (500 : Int) < (l.length : Int) := by omega
    go_wp2
    go_ret
    exact ⟨rfl, k1⟩
  · have hl5' : (l.length : Int) ≤ 500 := by omega
    by_cases hs5 : 5000 < s.length
    · have hs5' : (5000 : Int) < (s.length : Int) := by omega
      go_wp2
      go_ret
      exact ⟨rfl, k1⟩
    · have hs5' : (s.length : Int) ≤ 5000 := by omega
      have hG := dels_Get w1 _ s hb1 (by omega)
      go_wp2_with fail
      refine hG.mono ?_
      rintro e w2 ⟨hres, k2⟩
      have hG2 := rd_Get w2 _ s (hb1.keeps k2) (by omega)
      clear hG
      rcases hres with ⟨m, S, E, hv, he, hd, hE, rfl⟩ | ⟨hno, rfl⟩
      case' inl =>
        have HE := hid he
        have HV0 := hid hv
        clear he hv
        go_wp2_with fail
        refine hG2.mono ?_
        rintro e w3 ⟨hres2, k3⟩
        rcases hres2 with ⟨m', S', l', v', E', hv', he', hd', hr', _, rfl⟩ | ⟨hno, rfl⟩
        rotate_left
        exact absurd ⟨m, S, HV0.out, HE.out⟩ hno
        have he := HE.out
        have hv := HV0.out
        obtain ⟨rfl, rfl⟩ := dels_inj _ _ _ _ hv hv' (he.symm.trans he')
        have hd3 := hd.keeps k3
        have c0 := hd'.cell0
        have hdk : Keeps w3 w3.drew := keeps_drewN w3 1
        have hd4 := hd3.keeps hdk
        have hd4' := hd'.keeps hdk
        have d0 := hd4'.cell0
        have hsz := size_any hd4
        have hlv := live_any hd4
        clear he he' hv hv' hd hG2 HE HV0
        go_wp2_with fail
        go_region_held (fun w' => w'.cell? ⟨E', 0, none⟩ = some (.int .i64 (m : Int))) (first | exact d0 | exact e0 | exact e1 | exact e2 | go_keep)
          (first
            | (go_at_call 16; refine hsz.mono ?_; rintro e w4 ⟨rfl, rfl⟩)
            | (go_at_call 11; refine hlv.mono ?_; rintro e w5 ⟨v5, rfl, o5, k5⟩; have e0 := k5.cell d0; have hlv2 := rd_Live (hd4'.keeps k5) hr'; obtain ⟨a5, c5, rfl⟩ := ownsRow_slice o5)
            | (go_at_call 18; refine hlv2.mono ?_; rintro e w6 ⟨v6, rfl, o6, k6⟩; have e1 := k6.cell e0; have hsn := same_nums w6 _ _ _ ((ownsRow_sl o5).keeps k6) (ownsRow_sl o6); obtain ⟨a6, c6, rfl⟩ := ownsRow_slice o6)
            | (go_at_call 17; refine hsn.mono ?_; rintro e wc ⟨rfl, k7⟩; have e2 := k7.cell e1))
        have KC := ((((k1.trans k2).trans k3).trans hdk).trans (k5.trans k6)).trans k7
        clear hsz hlv hlv2 hsn e0 e1 e2 d0 c0 o5 o6
        go_wp2_with fail
      case' inr =>
        go_wp2_with fail
        refine hG2.mono ?_
        rintro e w3 ⟨hres2, k3⟩
        rcases hres2 with ⟨m', S', l', v', E', hv', he', hd', hr', _, rfl⟩ | ⟨hno2, rfl⟩
        exact absurd ⟨m', S', hv', he'⟩ hno
        clear hG2 hno hno2
        go_wp2_with fail
        go_quiet (fail)
        rename_i nq
        have KC : Keeps w (w3.drewN nq) := ((k1.trans k2).trans k3).trans (keeps_drewN w3 nq)
        go_wp2_with fail
        generalize w3.drewN nq = wc at *
      all_goals
        have HX := hid hx0
        by_cases hn64 : 0 ≤ n ∧ n ≤ 64
        · obtain ⟨N, rfl⟩ := Int.eq_ofNat_of_zero_le hn64.1
          have hN : N ≤ 64 := by omega
          clear hn64
          refine (new_at wc N hN).mono ?_
          rintro e w8 ⟨D, rfl, hd8, hD, k8⟩
          go_wp2_with fail
          refine (rd_New w8 N hN).mono ?_
          rintro e w9 ⟨R, rfl, hr9, k9⟩
          have hDlt : D < w8.heap.size := (Array.getElem?_eq_some_iff.1 hd8.block).1
          have hd9 := hd8.keeps k9
          have K9 := (KC.trans k8).trans k9
          have hBw : w.heap.size ≤ w8.heap.size := (KC.trans k8).size
          have hDw : w.heap.size ≤ D := Nat.le_trans KC.size hD
          generalize w8.heap.size = B at *
          clear k8 k9 KC hd8 hD
          go_wp2_with fail
          go_loopw [14] (fun q wr => ∃ (j : Nat) (S : Nat → Bool) (lr : List Int) (vr : Value), j ≤ l.length ∧ q = .int .i64 (j : Int) ∧ DelsAt wr D N S ∧ RDAt wr B R N vr lr ∧ Rel S N lr ∧ Keeps w wr) (fun q _ => l.length - (intOf q).toNat)
          case atStart => exact ⟨0, _, [], _, by omega, rfl, hd9, hr9, Rel.nil N hN, K9⟩
          case round =>
            obtain ⟨j, S, lr, vr, hj, rfl, hd, hr, hrel, hk⟩ := hrel
            by_cases hlt : j < l.length
            · obtain ⟨b, off, rfl, _, hc⟩ := HX.out.open (by rw [ints_length]; omega)
              have hcell0 := hc j _ (ints_get _ l j hlt)
              clear hc
              obtain ⟨X, hX⟩ : ∃ X, X = l[j]'hlt := ⟨_, rfl⟩
              rw [← hX] at hcell0
              clear hX
              have hcell := hk.cell hcell0
              go_wp2_with fail
              refine (add_any hd X).mono ?_
              rintro e wa ⟨rfl, hda, ma⟩
              have kA : Keeps w wa := keeps_new hk ma (fun b hb => by omega)
              have hra := hr.mods ma (fun b hb e => by omega)
              have hcellA := kA.cell hcell0
              go_wp2_with fail
              refine (rd_Add_any hra hrel X).mono ?_
              rintro e wb ⟨rfl, ⟨vr', lr', hrb, hrelb⟩, mb⟩
              have mb' : Mods (fun b => B ≤ b) wa wb := Mods.of_below mb (fun k _ h => h)
              have hdb := hda.mods mb' (by omega)
              have kB : Keeps w wb := keeps_new kA mb' (fun b hb => by omega)
              have hkd : Keeps wb wb.drew := keeps_drewN wb 1
              have hdd := hdb.keeps hkd
              have hrd := hrb.keeps hkd
              have cL := hrd.cell1
              have cX := (kB.trans hkd).cell hcell0
              have hmem := hrelb.mem X
              have hmany := hrelb.many
              have hle := hrelb.le
              have hH := rd_Has hrd (by omega) X
              rw [hmem] at hH
              have hM := many_any hdd
              rw [show N - (liveTo (addS S N X) N).length = lr'.length by omega] at hM
              have hP := has_any hdd X
              obtain ⟨ov, cv, rfl⟩ := ownsRow_slice hrd.row
              have HREL := hid hrelb
              clear hmem hmany hrelb hrel hd hr hda hra hdb ma mb mb' hcellA hcell
              go_wp2_with fail
              go_region_held (fun w' => w'.cell? ⟨R, 1, none⟩ = some (.slice ov lr'.length cv) ∧ w'.cell? ⟨b, off + j, none⟩ = some (.int .i64 X)) (first | exact ⟨cL, cX⟩ | exact ⟨cL', cX'⟩ | go_keep)
                (first
                  | (go_at_call 10; refine hP.mono ?_; rintro e wx ⟨rfl, rfl⟩)
                  | (go_at_call 21; refine hH.mono ?_; rintro e wx ⟨rfl, rfl⟩)
                  | (go_at_call 12; refine hM.mono ?_; rintro e wz ⟨rfl, kz⟩; have cL' := kz.cell cL; have cX' := kz.cell cX))
              have kF := (kB.trans hkd).trans kz
              have hdF := hdd.keeps kz
              have hrF := hrd.keeps kz
              clear hP hH hM cL cX cL' cX' hdd hrd hrb
              go_wp2
              go_roundw
              case rel => exact ⟨j + 1, _, lr', _, by omega, by go_num, hdF, hrF, HREL.out, kF⟩
              case measure => simp [intOf]; omega
            · obtain rfl : j = l.length := by omega
              have hkd : Keeps wr wr.drew := keeps_drewN wr 1
              have hdd := hd.keeps hkd
              have hrd := hr.keeps hkd
              have hlv := live_any hdd
              clear hd hr
              go_wp2_with fail
              go_region_held (fun _ => True) (trivial)
                (first
                  | (go_at_call 11; refine hlv.mono ?_; rintro e w5 ⟨v5, rfl, o5, k5⟩; have hlv2 := rd_Live (hrd.keeps k5) hrel; obtain ⟨a5, c5, rfl⟩ := ownsRow_slice o5)
                  | (go_at_call 18; refine hlv2.mono ?_; rintro e w6 ⟨v6, rfl, o6, k6⟩; have hsn := same_nums w6 _ _ _ ((ownsRow_sl o5).keeps k6) (ownsRow_sl o6); obtain ⟨a6, c6, rfl⟩ := ownsRow_slice o6)
                  | (go_at_call 17; refine hsn.mono ?_; rintro e w7 ⟨rfl, k7⟩; have k57 := (k5.trans k6).trans k7; have hp1 := put_any (hdd.keeps k57))
                  | (go_at_call 13; refine hp1.mono ?_; rintro e w10 ⟨v10, rfl, o10, k10⟩; have s10 := ownsRow_sl o10; have cv1 := conv_bytes Try.underlying30 Try.underlying5 Try.underlying9 s10; have hp2 := rd_Put ((hrd.keeps k57).keeps k10) hrel; obtain ⟨a10, c10, rfl⟩ := ownsRow_slice o10)
                  | (go_at_call 22; refine hp2.mono ?_; rintro e w11 ⟨v11, rfl, o11, k11⟩; have cv2 := conv_bytes Try.underlying30 Try.underlying5 Try.underlying9 (s10.keeps k11); have cv3 := conv_bytes Try.underlying30 Try.underlying5 Try.underlying9 (ownsRow_sl o11); obtain ⟨a11, c11, rfl⟩ := ownsRow_slice o11))
              all_goals (have K11 := (((hk.trans hkd).trans k57).trans k10).trans k11; clear o5 o6 o10 o11 hlv hlv2 hsn hp1 hp2; go_wp2; go_ret; exact ⟨rfl, K11⟩)
        · refine (new_out wc n hn64).mono ?_
          rintro e w8 ⟨rfl, rfl⟩
          go_wp2_with fail
          refine (rd_New_no w8 n hn64).mono ?_
          rintro e w9 ⟨rfl, rfl⟩
          go_wp2
          go_ret
          exact ⟨rfl, KC⟩
end Go.Proofs.Ytegonlmhaobgcaa
