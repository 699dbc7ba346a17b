/- The document's Prefix, Suffix, Infix. -/
import Derived.Test.YtgofjdkpnmoedaaTrieN
set_option linter.unusedSimpArgs false
set_option linter.unusedVariables false
namespace Go.Proofs.Ytgofjdkpnmoedaa
open Go.RowKit Go.Vb

theorem idsTo_yes (k : Nat) (L : List (List UInt8)) (q : List UInt8) (j : Nat) (h : j < L.length) (hh : hit k (L[j]'h) q = true) : idsTo k L q (j + 1) = idsTo k L q j ++ [(j : Int)] := by
  simp [idsTo, List.getD_eq_getElem?_getD, List.getElem?_eq_getElem h, hh]
theorem idsTo_no (k : Nat) (L : List (List UInt8)) (q : List UInt8) (j : Nat) (h : j < L.length) (hh : hit k (L[j]'h) q = false) : idsTo k L q (j + 1) = idsTo k L q j := by
  simp [idsTo, List.getD_eq_getElem?_getD, List.getElem?_eq_getElem h, hh]

set_option maxRecDepth 100000 in
theorem ref_prefix (w : World) (v sv : Value) (L : List (List UInt8)) (vs : List Value) (s : List UInt8) (hM : Mat w v L vs) (hL : L.length ≤ 20000) (hs : Sl w sv 1 s.length (bys s)) (hsl : s.length ≤ 140737488355328) :
    Calls Try.prog 19 #[v, sv] w fun e w' => (∃ v', e = .returned v' ∧ Sl w' v' 1 (ans 0 L s).length (ints .i64 (ans 0 L s))) ∧ Keeps w w' := by
  obtain ⟨i0, hi, hz0, hz1, hz2⟩ := info_parts info3
  have hsz2 := Sl.size_le hs
  obtain ⟨ao, c, rfl, _⟩ := hM.outer.value
  obtain ⟨ao2, c2, rfl, _⟩ := hs.value
  go_enter Try.func19, Try.ntmps19
  go_wp2_with fail
  go_loopw [5, 6] (fun o q wr => ∃ j : Nat, j ≤ L.length ∧ q = .int .i64 (j : Int) ∧ wr.ownsRow w.heap.size 3 1 o (idsTo 0 L s j).length (ints .i64 (idsTo 0 L s j)) ∧ Keeps w wr) (fun _ q _ => L.length - (intOf q).toNat)
  case atStart => exact ⟨0, by omega, rfl, World.ownsRow_nil _ _ _ _, Below.refl _ _⟩
  case round =>
    obtain ⟨j, hj, rfl, ho, hk⟩ := hrel
    by_cases hlt : j < L.length
    · have hMr := hM.keeps hk
      obtain ⟨b, off, rfl, hb, hc⟩ := hMr.outer.open (by have := hM.outer.len; omega)
      obtain ⟨u, hu, hst⟩ := hMr.inner j hlt
      have hcell := hc j u hu
      have hl2 := Sl.size_le hst
      obtain ⟨ao3, c3, rfl, _⟩ := hst.value
      have hlen := idsTo_length 0 L s j
      clear hc hu
      go_wp2_with fail
      refine (at_any wr _ _ _ s 0 hst (hs.keeps hk) (by omega) (by omega) (by omega)).mono ?_
      rintro e w2 ⟨rfl, n, rfl⟩
      cases hb : atB (L[j]'hlt) s 0 with
      | true =>
        have hy := idsTo_yes 0 L s j hlt (by rw [← at_hit0]; exact hb)
        obtain ⟨oo, oc, rfl⟩ := ownsRow_slice ho
        have HY := hid hy
        clear hy
        go_wp2_with (at_builtin; refine wpList_append_sl _ rfl _ _ 30 rfl w.heap.size 3 i0 (.int .i64 0) 1 8 Try.underlying30 hi hz0 hz1 hz2 rfl (by decide) _ _ _ rfl ((show (wr.drewN n).ownsRow _ _ _ _ _ _ from ho).alloc _) _ 1 [.int .i64 (j : Int)] rfl (sl_one _ _ _) (by simp [Value.oneCell']) (by unfold maxLen; omega) (by omega) (by have := hk.size; simp; omega) ?_)
        intro v3 w3 ho3 hg3 _ _
        have k3 : Keeps w w3 := ((hk.trans (keeps_drewN _ n)).trans (keeps_alloc _ _)).grown hg3 (by have := hk.size; simp; omega) (fun k e => (ownsRow_base ho e).1)
        go_wp2
        go_roundw
        case rel =>
          refine ⟨j + 1, by omega, by go_num, ?_, k3⟩
          rw [HY.out, ints_append, List.length_append]
          exact ho3
        case measure => simp [intOf]; omega
      | false =>
        have hy := idsTo_no 0 L s j hlt (by rw [← at_hit0]; exact hb)
        have HY := hid hy
        clear hy
        go_wp2_with fail
        go_roundw
        case rel =>
          refine ⟨j + 1, by omega, by go_num, ?_, hk.trans (keeps_drewN _ n)⟩
          rw [HY.out]
          exact ho
        case measure => simp [intOf]; omega
    · obtain rfl : j = L.length := by omega
      obtain ⟨oo, oc, rfl⟩ := ownsRow_slice ho
      go_wp2
      go_ret
      exact ⟨⟨_, rfl, ownsRow_sl ho⟩, hk⟩

set_option maxRecDepth 100000 in
theorem ref_suffix (w : World) (v sv : Value) (L : List (List UInt8)) (vs : List Value) (s : List UInt8) (hM : Mat w v L vs) (hL : L.length ≤ 20000) (hs : Sl w sv 1 s.length (bys s)) (hsl : s.length ≤ 140737488355328) (hLl : ∀ t ∈ L, t.length ≤ 20000) :
    Calls Try.prog 21 #[v, sv] w fun e w' => (∃ v', e = .returned v' ∧ Sl w' v' 1 (ans 1 L s).length (ints .i64 (ans 1 L s))) ∧ Keeps w w' := by
  obtain ⟨i0, hi, hz0, hz1, hz2⟩ := info_parts info3
  have hsz2 := Sl.size_le hs
  have HL := hid hLl
  clear hLl
  obtain ⟨ao, c, rfl, _⟩ := hM.outer.value
  obtain ⟨ao2, c2, rfl, _⟩ := hs.value
  go_enter Try.func21, Try.ntmps21
  go_wp2_with fail
  go_loopw [5, 6] (fun o q wr => ∃ j : Nat, j ≤ L.length ∧ q = .int .i64 (j : Int) ∧ wr.ownsRow w.heap.size 3 1 o (idsTo 1 L s.reverse j).length (ints .i64 (idsTo 1 L s.reverse j)) ∧ Keeps w wr) (fun _ q _ => L.length - (intOf q).toNat)
  case atStart => exact ⟨0, by omega, rfl, World.ownsRow_nil _ _ _ _, Below.refl _ _⟩
  case round =>
    obtain ⟨j, hj, rfl, ho, hk⟩ := hrel
    by_cases hlt : j < L.length
    · have hMr := hM.keeps hk
      obtain ⟨b, off, rfl, hb, hc⟩ := hMr.outer.open (by have := hM.outer.len; omega)
      obtain ⟨u, hu, hst⟩ := hMr.inner j hlt
      have hcell := hc j u hu
      have hl2 : (L[j]'hlt).length ≤ 20000 := HL.out _ (List.getElem_mem _)
      obtain ⟨ao3, c3, rfl, _⟩ := hst.value
      have hlen := idsTo_length 1 L s.reverse j
      have Y := hid (fun m => at_any (wr.drewN m) _ _ _ s (((L[j]'hlt).length : Int) - (s.length : Int)) (hst.keeps (keeps_drewN wr m)) ((hs.keeps hk).keeps (keeps_drewN wr m)) (by omega) (by omega) (by omega))
      have hwr : IntKind.i64.wrap (((L[j]'hlt).length : Int) - (s.length : Int)) = ((L[j]'hlt).length : Int) - (s.length : Int) := IntWalk.i64_in _ (by omega)
      clear hc hu
      cases hb : atB (L[j]'hlt) s (((L[j]'hlt).length : Int) - (s.length : Int)) with
      | true =>
        have hy := idsTo_yes 1 L s.reverse j hlt (by rw [← at_hit1]; exact hb)
        obtain ⟨oo, oc, rfl⟩ := ownsRow_slice ho
        have HY := hid hy
        have HB := hid hb
        clear hy hb
        go_wp2_with fail
        go_quiet ((go_at_call 41; exact Calls.quiet_of ((Y.out _).mono fun _ _ ⟨a, b⟩ => ⟨by rw [a, HB.out], b⟩)))
        rename_i nq
        go_wp2_with (at_builtin; refine wpList_append_sl _ rfl _ _ 30 rfl w.heap.size 3 i0 (.int .i64 0) 1 8 Try.underlying30 hi hz0 hz1 hz2 rfl (by decide) _ _ _ rfl ((show (wr.drewN nq).ownsRow _ _ _ _ _ _ from ho).alloc _) _ 1 [.int .i64 (j : Int)] rfl (sl_one _ _ _) (by simp [Value.oneCell']) (by unfold maxLen; omega) (by omega) (by have := hk.size; simp; omega) ?_)
        intro v3 w3 ho3 hg3 _ _
        have k3 : Keeps w w3 := ((hk.trans (keeps_drewN _ nq)).trans (keeps_alloc _ _)).grown hg3 (by have := hk.size; simp; omega) (fun k e => (ownsRow_base ho e).1)
        go_wp2
        go_roundw
        case rel =>
          refine ⟨j + 1, by omega, by go_num, ?_, k3⟩
          rw [HY.out, ints_append, List.length_append]
          exact ho3
        case measure => simp [intOf]; omega
      | false =>
        have hy := idsTo_no 1 L s.reverse j hlt (by rw [← at_hit1]; exact hb)
        have HY := hid hy
        have HB := hid hb
        clear hy hb
        go_wp2_with fail
        go_quiet ((go_at_call 41; exact Calls.quiet_of ((Y.out _).mono fun _ _ ⟨a, b⟩ => ⟨by rw [a, HB.out], b⟩)))
        go_wp2_with fail
        go_roundw
        case rel =>
          refine ⟨j + 1, by omega, by go_num, ?_, hk.trans (keeps_drewN _ _)⟩
          rw [HY.out]
          exact ho
        case measure => simp [intOf]; omega
    · obtain rfl : j = L.length := by omega
      obtain ⟨oo, oc, rfl⟩ := ownsRow_slice ho
      go_wp2
      go_ret
      exact ⟨⟨_, rfl, ownsRow_sl ho⟩, hk⟩

set_option maxHeartbeats 1000000 in
set_option maxRecDepth 100000 in
theorem ref_infix (w : World) (v sv : Value) (L : List (List UInt8)) (vs : List Value) (s : List UInt8) (hM : Mat w v L vs) (hL : L.length ≤ 20000) (hs : Sl w sv 1 s.length (bys s)) (hsl : s.length ≤ 140737488355328) (hLl : ∀ t ∈ L, t.length ≤ 20000) :
    Calls Try.prog 23 #[v, sv] w fun e w' => (∃ v', e = .returned v' ∧ Sl w' v' 1 (ans 2 L s).length (ints .i64 (ans 2 L s))) ∧ Keeps w w' := by
  obtain ⟨i0, hi, hz0, hz1, hz2⟩ := info_parts info3
  have hsz2 := Sl.size_le hs
  have HL := hid hLl
  clear hLl
  obtain ⟨ao, c, rfl, _⟩ := hM.outer.value
  obtain ⟨ao2, c2, rfl, _⟩ := hs.value
  go_enter Try.func23, Try.ntmps23
  go_wp2_with fail
  go_loopw [5, 6] (fun o q wr => ∃ j : Nat, j ≤ L.length ∧ q = .int .i64 (j : Int) ∧ wr.ownsRow w.heap.size 3 1 o (idsTo 2 L s j).length (ints .i64 (idsTo 2 L s j)) ∧ Keeps w wr) (fun _ q _ => L.length - (intOf q).toNat)
  case atStart => exact ⟨0, by omega, rfl, World.ownsRow_nil _ _ _ _, Below.refl _ _⟩
  case round =>
    obtain ⟨j, hj, rfl, ho, hk⟩ := hrel
    by_cases hlt : j < L.length
    · have hMr := hM.keeps hk
      obtain ⟨b, off, rfl, hb, hc⟩ := hMr.outer.open (by have := hM.outer.len; omega)
      obtain ⟨u, hu, hst⟩ := hMr.inner j hlt
      have hcell := hc j u hu
      have hl2 : (L[j]'hlt).length ≤ 20000 := HL.out _ (List.getElem_mem _)
      obtain ⟨ao3, c3, rfl, _⟩ := hst.value
      have hlen := idsTo_length 2 L s j
      have hsk := hs.keeps hk
      have h2 := at_hit2 (L[j]'hlt) s
      have hyes := idsTo_yes 2 L s j hlt
      have hno := idsTo_no 2 L s j hlt
      rw [← h2] at hyes hno
      have HYES := hid hyes
      have HNO := hid hno
      clear hc hu h2 hyes hno
      generalize L[j]'hlt = t at *
      go_wp2_with fail
      go_loopw [7, 8] (fun f q wr2 => ∃ k : Nat, k ≤ t.length + 1 ∧ q = .int .i64 (k : Int) ∧ f = .bool (anyAt t s k) ∧ Keeps wr wr2) (fun _ q _ => t.length + 1 - (intOf q).toNat)
      case atStart => exact ⟨0, by omega, rfl, rfl, Below.refl _ _⟩
      case round =>
        obtain ⟨k, hk1, rfl, rfl, hkk⟩ := hrel
        by_cases hle : k ≤ t.length
        · have hcell' := hkk.cell hcell
          have hsu := anyAt_succ t s k
          cases hf : anyAt t s k with
          | true =>
            rw [hf, Bool.true_or] at hsu
            have HS := hid hsu
            clear hsu
            go_wp2_with fail
            go_roundw
            case rel => exact ⟨k + 1, by omega, by go_num, by rw [HS.out], hkk⟩
            case measure => simp [intOf]; omega
          | false =>
            rw [hf, Bool.false_or] at hsu
            have HS := hid hsu
            clear hsu
            go_wp2_with fail
            refine (at_any _ _ _ _ s (k : Int) (hst.keeps hkk) (hsk.keeps hkk) (by omega) (by omega) (by omega)).mono ?_
            rintro e w2 ⟨rfl, n, rfl⟩
            go_wp2_with fail
            go_roundw
            case rel => exact ⟨k + 1, by omega, by go_num, by rw [HS.out], hkk.trans (keeps_drewN _ _)⟩
            case measure => simp [intOf]; omega
        · have hcell' := hkk.cell hcell
          obtain rfl : k = t.length + 1 := by omega
          have ho2 := ownsRow_mods ho (keeps_mods (S := fun _ => False) hkk) (fun _ _ h => h)
          cases hb : anyAt t s (t.length + 1) with
          | true =>
            have HY := hid (HYES.out hb)
            obtain ⟨oo, oc, rfl⟩ := ownsRow_slice ho
            go_wp2_with (at_builtin; refine wpList_append_sl _ rfl _ _ 30 rfl w.heap.size 3 i0 (.int .i64 0) 1 8 Try.underlying30 hi hz0 hz1 hz2 rfl (by decide) _ _ _ rfl (ho2.alloc _) _ 1 [.int .i64 (j : Int)] rfl (sl_one _ _ _) (by simp [Value.oneCell']) (by unfold maxLen; omega) (by omega) (by have := (hk.trans hkk).size; simp; omega) ?_)
            intro v3 w3 ho3 hg3 _ _
            have k3 : Keeps w w3 := ((hk.trans hkk).trans (keeps_alloc _ _)).grown hg3 (by have := (hk.trans hkk).size; simp; omega) (fun k e => (ownsRow_base ho e).1)
            go_wp2
            go_roundw
            case rel =>
              refine ⟨j + 1, by omega, by go_num, ?_, k3⟩
              rw [HY.out, ints_append, List.length_append]
              exact ho3
            case measure => simp [intOf]; omega
          | false =>
            have HY := hid (HNO.out hb)
            go_wp2_with fail
            go_roundw
            case rel =>
              refine ⟨j + 1, by omega, by go_num, ?_, hk.trans hkk⟩
              rw [HY.out]
              exact ho2
            case measure => simp [intOf]; omega
    · obtain rfl : j = L.length := by omega
      obtain ⟨oo, oc, rfl⟩ := ownsRow_slice ho
      go_wp2
      go_ret
      exact ⟨⟨_, rfl, ownsRow_sl ho⟩, hk⟩
end Go.Proofs.Ytgofjdkpnmoedaa
