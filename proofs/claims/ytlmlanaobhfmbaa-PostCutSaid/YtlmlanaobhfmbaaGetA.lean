/- leb.GetRising. -/
import Derived.Test.YtlmlanaobhfmbaaPostF
import Derived.WalkMore
set_option linter.unusedSimpArgs false
set_option linter.unusedVariables false
namespace Go.Proofs.Ytlmlanaobhfmbaa
open Go.RowKit Go.Vb
/-- numbers that have bytes. -/
structure GoodL (l : List Int) : Prop where
  rise : risesL (-1) l = true
  few : l.length ≤ 4096
  top : ∀ x ∈ l, x ≤ 9223372036854775807
theorem getFrom_k : ∀ (s : List UInt8) (i a : Nat), (getFrom i a s).2.2 ≠ 0 → (getFrom i a s).2.1 = 0
  | [], _, _, _ => rfl
  | c :: r, i, a, h => by
    rw [getFrom_cons] at h ⊢
    split
    · rfl
    · rename_i h1
      rw [if_neg h1] at h
      split
      · rename_i h2
        rw [if_pos h2] at h
        exact absurd rfl h
      · rename_i h2
        rw [if_neg h2] at h
        exact getFrom_k r _ _ h
def RowRes (s : List UInt8) (B : Nat) (e : Ending) (w' : World) : Prop :=
  (∃ (v' : Value) (k : Nat) (l : List Int), e = .returned (.tuple #[v', .int .i64 (k : Int), .int .i64 0]) ∧ w'.ownsRow B 2 1 v' l.length (ints .i64 l) ∧ k ≤ s.length ∧ l.length ≤ 4096 ∧ (∀ x ∈ l, x ≤ 9223372036854775807) ∧ ∀ l0 t, GoodL l0 → s = rowOf l0 ++ t → l = l0 ∧ s.drop k = t) ∨
  (∃ z : Nat, z ≠ 0 ∧ e = .returned (.tuple #[.slice none 0 0, .int .i64 0, .int .i64 (z : Int)]) ∧ ∀ l0 t, GoodL l0 → s ≠ rowOf l0 ++ t)
theorem rowOf_good {l : List Int} (h : GoodL l) : rowOf l = lebOf l.length ++ gapsOf (-1) l := by unfold rowOf; rw [if_pos h.rise]
def lenOf : Value → Nat
  | .slice _ n _ => n
  | _ => 0
structure RiseSt (s : List UInt8) (many at_ j : Nat) (last : Int) (l : List Int) : Prop where
  st : ∀ l0 t, GoodL l0 → s = rowOf l0 ++ t → many = l0.length ∧ l = l0.take j ∧ last = (l0.take j).getLastD (-1) ∧ s.drop at_ = gapsOf last (l0.drop j) ++ t
set_option maxRecDepth 100000 in
set_option maxHeartbeats 1000000 in
theorem getRising_any (w : World) (v : Value) (s : List UInt8) (hv : Sl w v 1 s.length (bys s)) (hsl : s.length ≤ 1000000000000) :
    Calls Try.prog 116 #[v, .int .i64 4096] w fun e w' => RowRes s w.heap.size e w' ∧ Keeps w w' := by
  obtain ⟨i0, hi, hz0, hz1, hz2⟩ := info_parts info64
  have hget := leb_Get w v s hv
  have herr := getFrom_err s 0 0
  obtain ⟨ao, c, rfl, h1, h2, _⟩ := hv.value
  rcases hg : getFrom 0 0 s with ⟨n, k, ec⟩
  simp only [hg] at hget herr
  have hno : ec ≠ 0 → ∀ l0 t, GoodL l0 → s ≠ rowOf l0 ++ t := by
    rintro h0 l0 t hl e
    rw [rowOf_good hl, List.append_assoc] at e
    rw [e, get_put _ _ (by have := hl.few; omega)] at hg
    injection hg with _ hg
    injection hg with _ hg
    exact h0 hg.symm
  have HNO := hid hno
  have HGG := hid hg
  clear hno hg
  go_enter Try.func116, Try.ntmps116
  go_wp2_with fail
  go_step3
  go_wp2_with fail
  refine hget.mono ?_
  rintro e w1 ⟨rfl, rfl⟩
  have hcase : (ec = 0 ∧ n ≤ 4096) ∨ (ec = 0 ∧ 4096 < n) ∨ (ec ≠ 0) := by omega
  rcases hcase with ⟨h0, hn4⟩ | ⟨h0, hn4⟩ | h0
  case' inl =>
    subst h0
    obtain ⟨t, hs, hk, hn⟩ := get_ok s n k HGG.out
    have hks : k ≤ s.length := by rw [hs, hk]; simp
    have hst : RiseSt s n k 0 (-1) [] := ⟨fun l0 t0 hl e => by
      rw [rowOf_good hl, List.append_assoc] at e
      obtain ⟨e1, e2⟩ := leb_inj _ _ _ _ hn (by have := hl.few; omega) (hs.symm.trans e)
      refine ⟨e1, rfl, rfl, ?_⟩
      rw [hs, hk, List.drop_left]; simpa using e2⟩
    have hbig' : (n : Int) ≤ 4096 := by omega
    have hinv : ∃ (at_ ec j : Nat) (last : Int) (l : List Int), (.int .i64 (k : Int) : Value) = .int .i64 (at_ : Int) ∧ (.int .i64 0 : Value) = .int .i64 (ec : Int) ∧ (.int .i64 (-1) : Value) = .int .i64 last ∧ l.length = j ∧ w1.ownsRow w1.heap.size 2 1 (.slice none 0 0) j (ints .i64 l) ∧ Keeps w1 w1 ∧ at_ ≤ s.length ∧ j ≤ 4096 ∧ (-1 ≤ last ∧ last ≤ 9223372036854775807) ∧ (∀ x ∈ l, x ≤ 9223372036854775807) ∧ ((ec = 0 ∧ n ≤ 4096 ∧ j ≤ n ∧ RiseSt s n at_ j last l) ∨ (ec ≠ 0 ∧ ∀ l0 t, GoodL l0 → s ≠ rowOf l0 ++ t)) :=
      ⟨k, 0, 0, -1, [], rfl, rfl, rfl, rfl, World.ownsRow_nil _ _ _ _, Below.refl _ _, hks, by omega, by omega, by simp, .inl ⟨rfl, hn4, by omega, hst⟩⟩
    have HINV := hid hinv
    clear hs hk hst hinv hks
  case' inr.inl =>
    subst h0
    obtain ⟨t, hs, hk, hn⟩ := get_ok s n k HGG.out
    have hks : k ≤ s.length := by rw [hs, hk]; simp
    have hno : ∀ l0 t, GoodL l0 → s ≠ rowOf l0 ++ t := by
      rintro l0 t0 hl e
      rw [rowOf_good hl, List.append_assoc] at e
      have := (leb_inj _ _ _ _ hn (by have := hl.few; omega) (hs.symm.trans e)).1
      have := hl.few
      omega
    have hbig' : (4096 : Int) < (n : Int) := by omega
    have hinv : ∃ (at_ ec j : Nat) (last : Int) (l : List Int), (.int .i64 (k : Int) : Value) = .int .i64 (at_ : Int) ∧ (.int .i64 2 : Value) = .int .i64 (ec : Int) ∧ (.int .i64 (-1) : Value) = .int .i64 last ∧ l.length = j ∧ w1.ownsRow w1.heap.size 2 1 (.slice none 0 0) j (ints .i64 l) ∧ Keeps w1 w1 ∧ at_ ≤ s.length ∧ j ≤ 4096 ∧ (-1 ≤ last ∧ last ≤ 9223372036854775807) ∧ (∀ x ∈ l, x ≤ 9223372036854775807) ∧ ((ec = 0 ∧ n ≤ 4096 ∧ j ≤ n ∧ RiseSt s n at_ j last l) ∨ (ec ≠ 0 ∧ ∀ l0 t, GoodL l0 → s ≠ rowOf l0 ++ t)) :=
      ⟨k, 2, 0, -1, [], rfl, rfl, rfl, rfl, World.ownsRow_nil _ _ _ _, Below.refl _ _, hks, by omega, by omega, by simp, .inr ⟨by omega, hno⟩⟩
    have HINV := hid hinv
    clear hs hk hno hinv hks
  case' inr.inr =>
    have hno := HNO.out h0
    have hec : (ec : Int) ≠ 0 := by omega
    have hks : k ≤ s.length := by
      have hz := getFrom_k s 0 0 (by rw [HGG.out]; exact h0)
      rw [HGG.out] at hz
      simp only at hz
      omega
    have hinv : ∃ (at_ ec' j : Nat) (last : Int) (l : List Int), (.int .i64 (k : Int) : Value) = .int .i64 (at_ : Int) ∧ (.int .i64 (ec : Int) : Value) = .int .i64 (ec' : Int) ∧ (.int .i64 (-1) : Value) = .int .i64 last ∧ l.length = j ∧ w1.ownsRow w1.heap.size 2 1 (.slice none 0 0) j (ints .i64 l) ∧ Keeps w1 w1 ∧ at_ ≤ s.length ∧ j ≤ 4096 ∧ (-1 ≤ last ∧ last ≤ 9223372036854775807) ∧ (∀ x ∈ l, x ≤ 9223372036854775807) ∧ ((ec' = 0 ∧ n ≤ 4096 ∧ j ≤ n ∧ RiseSt s n at_ j last l) ∨ (ec' ≠ 0 ∧ ∀ l0 t, GoodL l0 → s ≠ rowOf l0 ++ t)) :=
      ⟨k, ec, 0, -1, [], rfl, rfl, rfl, rfl, World.ownsRow_nil _ _ _ _, Below.refl _ _, hks, by omega, by omega, by simp, .inr ⟨h0, hno⟩⟩
    have HINV := hid hinv
    clear h0 hno hinv hks
  all_goals
    clear HGG HNO herr
    go_wp2_with fail
    go_step3
    go_wp2_with fail
    try clear hbig'
    try clear hn4
    go_loopw [8, 9, 10, 11] (fun a e o la wr => ∃ (at_ ec j : Nat) (last : Int) (l : List Int), a = .int .i64 (at_ : Int) ∧ e = .int .i64 (ec : Int) ∧ la = .int .i64 last ∧ l.length = j ∧ wr.ownsRow w1.heap.size 2 1 o j (ints .i64 l) ∧ Keeps w1 wr ∧ at_ ≤ s.length ∧ j ≤ 4096 ∧ (-1 ≤ last ∧ last ≤ 9223372036854775807) ∧ (∀ x ∈ l, x ≤ 9223372036854775807) ∧ ((ec = 0 ∧ n ≤ 4096 ∧ j ≤ n ∧ RiseSt s n at_ j last l) ∨ (ec ≠ 0 ∧ ∀ l0 t, GoodL l0 → s ≠ rowOf l0 ++ t))) (fun _ _ o _ _ => n - lenOf o)
    case atStart => exact HINV.out
    case round =>
      obtain ⟨at_, ec2, j, last, l, rfl, rfl, rfl, hlj, ho, hk, hat, hj, hla, hx, hor⟩ := hrel
      have HLJ := hid hlj
      clear hlj HINV
      obtain ⟨oo, oc, rfl⟩ := ownsRow_slice ho
      rcases hor with ⟨rfl, hn4, hjn, hst⟩ | ⟨hec, hno⟩
      · have hju : IntKind.u64.wrap (j : Int) = (j : Int) := IntWalk.u64_in _ (by omega)
        by_cases hlt : j < n
        · have hlt' : (j : Int) < (n : Int) := by omega
          have S64 : ∀ w, (sizeOf 5).run Try.prog w = .ok 1 w := fun w => by kernel_rfl
          obtain ⟨X3, s31, s32, r3, _⟩ := slice_low (P := Try.prog) (t := 23) (e := 5) (size := 1) Try.underlying23 S64 ao s.length c at_ hat
          obtain ⟨s2, hs2⟩ : ∃ s2, s2 = s.drop at_ := ⟨_, rfl⟩
          have hs2l : s2.length = s.length - at_ := by rw [hs2]; simp
          have R3 : Sl w1 (.slice X3 s2.length (c - at_)) 1 s2.length (bys s2) := by
            have := r3 _ _ hv
            rw [← hs2l] at this
            have e : (bys s).drop (at_ * 1) = bys s2 := by rw [Nat.mul_one, hs2]; simp [bys]
            rw [e] at this
            exact this
          rw [← hs2l] at s31 s32
          have hget2 := leb_Get wr _ s2 (R3.keeps hk)
          rcases hg2 : getFrom 0 0 s2 with ⟨m, k2, e2⟩
          simp only [hg2] at hget2
          have hstep : ∀ l0 t, GoodL l0 → s = rowOf l0 ++ t → ∃ (h : j < l0.length), n = l0.length ∧ l = l0.take j ∧ last = (l0.take j).getLastD (-1) ∧ last < l0[j]'h ∧ l0[j]'h ≤ 9223372036854775807 ∧ s2 = lebOf (l0[j]'h - last - 1).toNat ++ (gapsOf (l0[j]'h) (l0.drop (j + 1)) ++ t) := by
            intro l0 t0 hl e
            obtain ⟨q1, q2, q3, q4⟩ := hst.st l0 t0 hl e
            have hjl : j < l0.length := by omega
            have hr := (rises_drop l0 (-1) j hjl hl.rise).1
            rw [← q3] at hr
            refine ⟨hjl, q1, q2, q3, hr, hl.top _ (List.getElem_mem _), ?_⟩
            rw [hs2, q4, List.drop_eq_getElem_cons hjl, gapsOf, List.append_assoc]
          have HSTEP := hid hstep
          have HG2 := hid hg2
          have HS2 := hid hs2
          have HS2L := hid hs2l
          clear hst hstep hs2 hs2l hg2 r3
          go_wp2_with fail
          refine hget2.mono ?_
          rintro e w2 ⟨rfl, rfl⟩
          by_cases he2 : e2 = 0
          · subst he2
            obtain ⟨t2, ht2, hk2, hm⟩ := get_ok s2 m k2 HG2.out
            have hmx : ∀ l0 t, GoodL l0 → s = rowOf l0 ++ t → ∃ (h : j < l0.length), n = l0.length ∧ l = l0.take j ∧ last = (l0.take j).getLastD (-1) ∧ last < l0[j]'h ∧ l0[j]'h ≤ 9223372036854775807 ∧ (m : Int) = l0[j]'h - last - 1 ∧ t2 = gapsOf (l0[j]'h) (l0.drop (j + 1)) ++ t := by
              intro l0 t0 hl e
              obtain ⟨h, q1, q2, q3, q4, q5, q6⟩ := HSTEP.out l0 t0 hl e
              obtain ⟨z1, z2⟩ := leb_inj _ _ _ _ hm (by omega) (ht2.symm.trans q6)
              exact ⟨h, q1, q2, q3, q4, q5, by omega, z2⟩
            have HMX := hid hmx
            have HT2 := hid ht2
            have HK2 := hid hk2
            have hk2s : k2 ≤ s2.length := by rw [ht2, hk2]; simp
            clear hmx ht2 hk2
            by_cases hmax : last = 9223372036854775807
            · have hno : ∀ l0 t, GoodL l0 → s ≠ rowOf l0 ++ t := by
                intro l0 t0 hl e
                obtain ⟨h, _, _, _, q4, q5, _, _⟩ := HMX.out l0 t0 hl e
                omega
              have HN := hid hno
              subst hmax
              clear hno
              go_wp2
              try rw [Exit.noGoto_ret]
              go_ret3
              exact ⟨.inr ⟨32, by omega, rfl, HN.out⟩, hk⟩
            · have hne : (last == 9223372036854775807) = false := by rw [beq_eq_false_iff_ne]; exact hmax
              obtain ⟨q, hq⟩ := Int.eq_ofNat_of_zero_le (show 0 ≤ 9223372036854775806 - last by omega)
              have hqw : IntKind.i64.wrap (9223372036854775806 - last) = (q : Int) := by rw [hq]; exact wrapN q (by omega)
              have hqu : IntKind.u64.wrap (q : Int) = (q : Int) := IntWalk.u64_in _ (by omega)
              by_cases hmb : q < m
              · have hmb' : (q : Int) < (m : Int) := by omega
                have hno : ∀ l0 t, GoodL l0 → s ≠ rowOf l0 ++ t := by
                  intro l0 t0 hl e
                  obtain ⟨h, _, _, _, q4, q5, q6, _⟩ := HMX.out l0 t0 hl e
                  omega
                have HN := hid hno
                clear hno hq
                go_wp2
                try rw [Exit.noGoto_ret]
                go_ret3
                exact ⟨.inr ⟨32, by omega, rfl, HN.out⟩, hk⟩
              · have hmb' : (m : Int) ≤ (q : Int) := by omega
                have hmw : IntKind.i64.wrap (m : Int) = (m : Int) := wrapN m (by omega)
                obtain ⟨y, hy⟩ : ∃ y, IntKind.i64.wrap ((m : Int) + 1) = y := ⟨_, rfl⟩
                obtain ⟨x, hxx⟩ : ∃ x, IntKind.i64.wrap (last + y) = x := ⟨_, rfl⟩
                have hxe : x = last + (m : Int) + 1 := by rw [← hxx, ← hy, IntKind.wrap_i64, IntKind.wrap_i64]; omega
                obtain ⟨at2, hat2⟩ : ∃ at2, at2 = at_ + k2 := ⟨_, rfl⟩
                have hatI : (at_ : Int) + (k2 : Int) = (at2 : Int) := by omega
                have hat2s : at2 ≤ s.length := by have := HS2L.out; omega
                have hatw : IntKind.i64.wrap (at2 : Int) = (at2 : Int) := wrapN at2 (by omega)
                have hxr : -1 ≤ x ∧ x ≤ 9223372036854775807 := by omega
                have hst2 : RiseSt s n at2 (j + 1) x (l ++ [x]) := ⟨fun l0 t0 hl e => by
                  obtain ⟨h, q1, q2, q3, q4, q5, q6, q7⟩ := HMX.out l0 t0 hl e
                  have hxl : x = l0[j]'h := by omega
                  refine ⟨q1, ?_, ?_, ?_⟩
                  · rw [List.take_add_one, List.getElem?_eq_getElem h, Option.toList_some, ← q2, ← hxl]
                  · rw [getLastD_take l0 j h]; exact hxl
                  · rw [hat2, ← List.drop_drop, ← HS2.out, HT2.out, HK2.out, List.drop_left, q7, hxl]⟩
                have HST2 := hid hst2
                have HXE := hid hxe
                have hx2 : ∀ u ∈ l ++ [x], u ≤ 9223372036854775807 := by
                  intro u hu
                  rcases List.mem_append.1 hu with hu | hu
                  · exact hx u hu
                  · rw [List.mem_singleton.1 hu]; exact hxr.2
                have HX2 := hid hx2
                clear hst2 hxe hat2 hq hx hx2
                have hwk := hk.size
                go_wp2_with (at_builtin; refine wpList_append_sl _ rfl _ _ 42 rfl w1.heap.size 2 i0 (.int .i64 0) 1 8 Try.underlying42 hi hz0 hz1 hz2 rfl (by decide) _ _ _ rfl (ho.alloc _) _ 1 [.int .i64 x] rfl (sl_one _ _ _) (by simp [Value.oneCell']) (by unfold maxLen; omega) (by omega) (by simp; omega) ?_)
                intro v3 w3 ho3 hg3 _ _
                have k3 : Keeps w1 w3 := (hk.trans ((Below.refl _ _).alloc (Nat.le_refl _) _)).grown hg3 (by simp; omega) (fun k e => (ownsRow_base ho e).1)
                obtain ⟨o3, c3, rfl⟩ := ownsRow_slice ho3
                go_wp2
                go_roundw
                case rel => exact ⟨at2, 0, j + 1, x, l ++ [x], rfl, rfl, rfl, by rw [List.length_append, HLJ.out]; rfl, by rw [ints_append]; exact ho3, k3, hat2s, by omega, hxr, HX2.out, .inl ⟨rfl, hn4, by omega, HST2.out⟩⟩
                case measure => simp [lenOf]; omega
          · have he2' : (e2 : Int) ≠ 0 := by omega
            have he2'' : ((e2 : Int) != 0) = true := by simp; omega
            have hno : ∀ l0 t, GoodL l0 → s ≠ rowOf l0 ++ t := by
              intro l0 t0 hl e
              obtain ⟨h, _, _, _, q4, q5, q6⟩ := HSTEP.out l0 t0 hl e
              have hg := HG2.out
              rw [q6, get_put _ _ (by omega)] at hg
              injection hg with _ hg
              injection hg with _ hg
              exact he2 hg.symm
            have HN := hid hno
            have HE2 := hid he2
            clear hno he2
            go_wp2
            try rw [Exit.noGoto_ret]
            go_ret3
            exact ⟨.inr ⟨e2, HE2.out, rfl, HN.out⟩, hk⟩
        · have hle' : (n : Int) ≤ (j : Int) := by omega
          have HST := hid hst
          clear hst
          go_wp2
          try rw [Exit.noGoto_ret]
          go_ret3
          refine ⟨.inl ⟨_, at_, l, rfl, by rw [HLJ.out]; exact ho, hat, by rw [HLJ.out]; omega, hx, fun l0 t0 hl e => ?_⟩, hk⟩
          obtain ⟨q1, q2, q3, q4⟩ := HST.out.st l0 t0 hl e
          have hjl : j = l0.length := by omega
          subst hjl
          refine ⟨by rw [q2, List.take_length], ?_⟩
          rw [q4, List.drop_length]; rfl
      · have hec' : (ec2 : Int) ≠ 0 := by omega
        have hec'' : ((ec2 : Int) != 0) = true := by simp; omega
        have hec3 : ((ec2 : Int) == 0) = false := by rw [beq_eq_false_iff_ne]; omega
        have HN := hid hno
        have HE := hid hec
        clear hno hec
        go_wp2
        try rw [Exit.noGoto_ret]
        go_ret3
        exact ⟨.inr ⟨ec2, HE.out, rfl, HN.out⟩, hk⟩
end Go.Proofs.Ytlmlanaobhfmbaa
