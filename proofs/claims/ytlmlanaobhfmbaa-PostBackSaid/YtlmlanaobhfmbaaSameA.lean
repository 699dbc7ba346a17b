/- The reference's Same. -/
import Derived.Test.YtlmlanaobhfmbaaPostF
import Derived.Laws.StructEq
import Derived.Laws.Tables
import Derived.Deep.QuietTactic
import Derived.BigQuiet
set_option linter.unusedSimpArgs false
set_option linter.unusedVariables false
namespace Go.Proofs.Ytlmlanaobhfmbaa
open Go.RowKit Go.Vb
theorem eqSpot (a b c d : Int) (w : World) : (Op.equalIn 10000 87 (.agg #[.int .i64 a, .int .i64 b]) (.agg #[.int .i64 c, .int .i64 d])).run Try.prog w = .ok (a == c && b == d) w := by
  have hS : Try.prog.underlying 87 = some (.struct (Try.prog.fieldsOf 87)) := by kernel_rfl
  have hp : Try.prog.stoodInHeld 87 = false := by kernel_rfl
  rw [show (10000 : Nat) = 9999 + 1 from rfl, run_equalIn_agg w 9999 87 _ _ hS hp]
  simp only [Program.fieldsOf, Try.underlying87]
  go_simp
  by_cases h1 : a = c <;> by_cases h2 : b = d <;> simp [h1, h2]
set_option maxRecDepth 100000 in
set_option maxHeartbeats 2000000 in
theorem sameSpots_any (w : World) (u x : Value) (l m : List Spot) (hu : Sl w u 2 l.length (spotCells l)) (hx : Sl w x 2 m.length (spotCells m)) :
    Calls Try.prog 54 #[u, x] w fun e w' => e = .returned (.bool (decide (l = m))) ∧ ∃ n, w' = w.drewN n := by
  obtain ⟨ao, c, rfl, h1, h2, _⟩ := hu.value
  obtain ⟨bo, d, rfl, h3, h4, _⟩ := hx.value
  have hl : l.length ≤ 9223372036854775807 := by unfold maxLen at h2; omega
  have hm : m.length ≤ 9223372036854775807 := by unfold maxLen at h4; omega
  have S87 : ∀ w, (sizeOf 87).run Try.prog w = .ok 2 w := fun w => by kernel_rfl
  go_enter Try.func54, Try.ntmps54
  by_cases hn : l.length = m.length
  · have hn' : (m.length : Int) = (l.length : Int) := by omega
    rw [← hn] at hx ⊢
    have HN := hid hn
    clear hn hn'
    go_wp2_with fail
    go_loopw [5] (fun i wr => ∃ j : Nat, j ≤ l.length ∧ i = .int .i64 (j : Int) ∧ (∀ k < j, l[k]? = m[k]?) ∧ ∃ n, wr = w.drewN n) (fun i _ => l.length - (intOf i).toNat)
    case atStart => exact ⟨0, by omega, rfl, fun k hk => by omega, 0, rfl⟩
    case round =>
      obtain ⟨j, hj, rfl, hs, nw, rfl⟩ := hrel
      have HS := hid hs
      clear hs
      by_cases hlt : j < l.length
      · obtain ⟨b, off, rfl, hb, hc⟩ := spots_open hu (by omega)
        obtain ⟨b2, off2, rfl, hb2, hc2⟩ := spots_open (by rw [← HN.out]; exact hx) (by have := HN.out; omega)
        obtain ⟨c0, c1⟩ := hc j hlt
        obtain ⟨d0, d1⟩ := hc2 j (by have := HN.out; omega)
        have hg1 : l[j]? = some (l[j]'hlt) := List.getElem?_eq_getElem hlt
        have hg2 : m[j]? = some (m[j]'(by have := HN.out; omega)) := List.getElem?_eq_getElem (by have := HN.out; omega)
        generalize l[j]'hlt = p at *
        generalize m[j]'(show j < m.length by have := HN.out; omega) = q at *
        have G1 := hid hg1
        have G2 := hid hg2
        obtain ⟨p0, p1⟩ := p
        obtain ⟨q0, q1⟩ := q
        clear hc hc2 hg1 hg2
        have EQ := eqSpot p0 p1 q0 q1
        go_wp2_with fail
        go_quiet (fail)
        rename_i nq
        obtain ⟨n2, hw'⟩ : ∃ n, (w.drewN nw).drewN nq = w.drewN n := ⟨nw + nq, World.drewN_drewN ..⟩
        rw [hw']
        clear hw'
        by_cases e0 : p0 = q0
        · by_cases e1 : p1 = q1
          · subst e0 e1
            have hb0 : (!p0 == p0 || !p1 == p1) = false := by simp
            rw [hb0]
            go_wp2_with fail
            go_roundw
            case rel =>
              exact ⟨j + 1, by omega, by go_num, (fun k hk => by
                by_cases hkj : k = j
                · subst hkj; rw [G1.out, G2.out]
                · exact HS.out k (by omega)), n2, rfl⟩
            case measure => simp [intOf]; omega
          · have hb0 : (!p0 == q0 || !p1 == q1) = true := by simp [e1]
            have hne : decide (l = m) = false := by
              simp only [decide_eq_false_iff_not]; intro h
              have := G1.out; rw [h, G2.out] at this
              simp at this; exact e1 this.2.symm
            rw [hb0]
            go_wp2
            go_ret
            exact ⟨by rw [hne]; rfl, n2, rfl⟩
        · have hb0 : (!p0 == q0 || !p1 == q1) = true := by simp [e0]
          have hne : decide (l = m) = false := by
            simp only [decide_eq_false_iff_not]; intro h
            have := G1.out; rw [h, G2.out] at this
            simp at this; exact e0 this.1.symm
          rw [hb0]
          go_wp2
          go_ret
          exact ⟨by rw [hne]; rfl, n2, rfl⟩
      · obtain rfl : j = l.length := by omega
        have hee : decide (l = m) = true := by
          simp only [decide_eq_true_eq]
          refine List.ext_getElem? fun k => ?_
          by_cases hk : k < l.length
          · exact HS.out k hk
          · rw [List.getElem?_eq_none (by omega), List.getElem?_eq_none (by have := HN.out; omega)]
        go_wp2
        go_ret
        exact ⟨by rw [hee]; rfl, nw, rfl⟩
  · have hn' : ¬ (l.length : Int) = (m.length : Int) := by omega
    have hne : decide (l = m) = false := by
      simp only [decide_eq_false_iff_not]; intro h; exact hn (by rw [h])
    go_wp2
    go_ret
    exact ⟨by rw [hne]; rfl, 0, rfl⟩
set_option maxRecDepth 100000 in
set_option maxHeartbeats 2000000 in
theorem same_any (w : World) (u x : Value) (L M : List Post) (cs ds : List Value) (hu : Posts w u L cs) (hx : Posts w x M ds) :
    Calls Try.prog 23 #[u, x] w fun e w' => e = .returned (.bool (decide (L = M))) ∧ ∃ n, w' = w.drewN n := by
  obtain ⟨ao, c, rfl, h1, h2, _⟩ := hu.outer.value
  obtain ⟨bo, d, rfl, h3, h4, _⟩ := hx.outer.value
  have hl : L.length ≤ 9223372036854775807 := by unfold maxLen at h2; omega
  have hm : M.length ≤ 9223372036854775807 := by unfold maxLen at h4; omega
  have S36 : ∀ w, (sizeOf 36).run Try.prog w = .ok 2 w := fun w => by kernel_rfl
  go_enter Try.func23, Try.ntmps23
  by_cases hn : L.length = M.length
  · have hn' : (M.length : Int) = (L.length : Int) := by omega
    have HU := hid hu
    have HX := hid hx
    clear hu hx
    rw [← hn]
    have HN := hid hn
    clear hn hn'
    go_wp2_with fail
    go_loopw [5] (fun i wr => ∃ j : Nat, j ≤ L.length ∧ i = .int .i64 (j : Int) ∧ (∀ k < j, L[k]? = M[k]?) ∧ ∃ n, wr = w.drewN n) (fun i _ => L.length - (intOf i).toNat)
    case atStart => exact ⟨0, by omega, rfl, fun k hk => by omega, 0, rfl⟩
    case round =>
      obtain ⟨j, hj, rfl, hs, nw, hwr⟩ := hrel
      have HS := hid hs
      have KW : Keeps w wr := hwr ▸ keeps_drewN w nw
      have HWR := hid hwr
      clear hs hwr
      by_cases hlt : j < L.length
      · have hx2 := HX.out.keeps KW
        obtain ⟨b, off, rfl, hb, hc⟩ := (HU.out.keeps KW).open (by omega)
        obtain ⟨b2, off2, rfl, hb2, hc2⟩ := hx2.open (by have := HN.out; omega)
        obtain ⟨c0, y, c1, sy⟩ := hc j hlt
        obtain ⟨d0, z, d1, sz⟩ := hc2 j (by have := HN.out; omega)
        have hg1 : L[j]? = some (L[j]'hlt) := List.getElem?_eq_getElem hlt
        have hg2 : M[j]? = some (M[j]'(by have := HN.out; omega)) := List.getElem?_eq_getElem (by have := HN.out; omega)
        generalize L[j]'hlt = p at *
        generalize M[j]'(show j < M.length by have := HN.out; omega) = q at *
        have G1 := hid hg1
        have G2 := hid hg2
        obtain ⟨p0, p1⟩ := p
        obtain ⟨q0, q1⟩ := q
        dsimp only at sy sz c0 d0
        have HSP := hid (fun n => sameSpots_any (wr.drewN n) y z p1 q1 (sy.keeps (keeps_drewN _ n)) (sz.keeps (keeps_drewN _ n)))
        obtain ⟨ya, yc, rfl, _⟩ := sy.value
        obtain ⟨za, zc, rfl, _⟩ := sz.value
        clear hc hc2 hg1 hg2 hx2 sy sz
        go_wp2_with fail
        by_cases e0 : p0 = q0
        · have hd : decide (p0 = q0) = true := by simpa using e0
          go_quiet ((go_at_call 54; exact Calls.quiet_of (HSP.out _)))
          rename_i nq
          obtain ⟨n2, hw'⟩ : ∃ n, wr.drewN nq = w.drewN n := ⟨nw + nq, by rw [HWR.out, World.drewN_drewN]⟩
          have hw2 := hid hw'
          clear hw'
          by_cases e1 : p1 = q1
          · have hb0 : decide (p1 = q1) = true := by simpa using e1
            have E1 := hid e1
            clear e1
            rw [hw2.out, hb0]
            go_wp2_with fail
            go_roundw
            case rel => exact ⟨j + 1, by omega, by go_num, (fun k hk => by
              by_cases hkj : k = j
              · subst hkj; rw [G1.out, G2.out, e0, E1.out]
              · exact HS.out k (by omega)), n2, rfl⟩
            case measure => simp [intOf]; omega
          · have hb0 : decide (p1 = q1) = false := by simpa using e1
            have hne : decide (L = M) = false := by
              simp only [decide_eq_false_iff_not]; intro h
              have := G1.out; rw [h, G2.out] at this
              simp at this; exact e1 this.2.symm
            rw [hw2.out, hb0]
            clear e1
            go_wp2
            go_ret
            exact ⟨by rw [hne]; rfl, n2, rfl⟩
        · have hd : decide (p0 = q0) = false := by simpa using e0
          go_quiet (fail)
          rename_i nq
          obtain ⟨n2, hw'⟩ : ∃ n, wr.drewN nq = w.drewN n := ⟨nw + nq, by rw [HWR.out, World.drewN_drewN]⟩
          have hne : decide (L = M) = false := by
            simp only [decide_eq_false_iff_not]; intro h
            have := G1.out; rw [h, G2.out] at this
            simp at this; exact e0 this.1.symm
          rw [hw']
          go_wp2
          go_ret
          exact ⟨by rw [hne]; rfl, n2, rfl⟩
      · obtain rfl : j = L.length := by omega
        have hee : decide (L = M) = true := by
          simp only [decide_eq_true_eq]
          refine List.ext_getElem? fun k => ?_
          by_cases hk : k < L.length
          · exact HS.out k hk
          · rw [List.getElem?_eq_none (by omega), List.getElem?_eq_none (by have := HN.out; omega)]
        go_wp2
        go_ret
        exact ⟨by rw [hee]; rfl, nw, HWR.out⟩
  · have hn' : ¬ (L.length : Int) = (M.length : Int) := by omega
    have hne : decide (L = M) = false := by
      simp only [decide_eq_false_iff_not]; intro h; exact hn (by rw [h])
    go_wp2
    go_ret
    exact ⟨by rw [hne]; rfl, 0, rfl⟩
end Go.Proofs.Ytlmlanaobhfmbaa
