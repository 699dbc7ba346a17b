/- The document's answers: Right, SameInts, at, Prefix, Suffix, Infix; great once more, with its bounds. -/
import Derived.Test.YtgofjdkpnmoedaaTrieM
set_option linter.unusedSimpArgs false
set_option linter.unusedVariables false
namespace Go.Proofs.Ytgofjdkpnmoedaa
open Go.RowKit Go.Vb

def SmallOf (L : List (List UInt8)) (e : Ending) : Prop := ∃ b, e = .returned (.bool b) ∧ (b = false → L.length < 20000 ∧ ∀ t ∈ L, t.length < 20000)
/-- great: if it is not, all is small. -/
theorem great_small (w : World) (v s : Value) (L : List (List UInt8)) (vs : List Value) (n : Nat) (xs : List Value) (hM : Mat w v L vs) (hs : Sl w s 1 n xs) :
    Calls Try.prog 14 #[v, s] w fun e w' => SmallOf L e ∧ w = w' := by
  have hszs := Sl.size_le hs
  obtain ⟨ao', c', rfl, _⟩ := hs.value
  have hsz := Sl.size_le hM.outer
  obtain ⟨ao, c, rfl, _⟩ := hM.outer.value
  go_enter Try.func14, Try.ntmps14
  go_wp2
  go_loop [5, 6] (fun q t => ∃ (j : Nat) (k : Int), j ≤ L.length ∧ t = .int .i64 (j : Int) ∧ q = .int .i64 k ∧ 0 ≤ k ∧ k ≤ 9223372036854775807 ∧ (k < 20000 → (j : Int) ≤ k ∧ ∀ t ∈ L.take j, (t.length : Int) ≤ k)) (fun _ t => L.length - (intOf t).toNat)
  case atStart => exact ⟨0, n, by omega, rfl, rfl, by omega, by omega, fun _ => ⟨by omega, by simp⟩⟩
  case round =>
    obtain ⟨j, k, hj, rfl, rfl, h0, h1, h2⟩ := hrel
    have H2 := hid h2
    clear h2
    by_cases hlt : j < L.length
    · by_cases hk : k < 20000
      · obtain ⟨b, off, rfl, hb, hc⟩ := hM.outer.open (by have := hM.outer.len; omega)
        obtain ⟨u, hu, hs⟩ := hM.inner j hlt
        have hcell := hc j u hu
        have hl2 := Sl.size_le hs
        obtain ⟨ao2, c2, rfl, _⟩ := hs.value
        have hmin : (0 : Int) ≤ min ((L[j]'hlt).length : Int) 20000 ∧ min ((L[j]'hlt).length : Int) 20000 ≤ 20000 := by omega
        go_wp2
        go_round
        case rel =>
          refine ⟨j + 1, _, by omega, by go_num, rfl, ?_, ?_, fun hk' => ?_⟩
          · split <;> omega
          · split <;> omega
          · obtain ⟨h3, h4⟩ := H2.out hk
            have hb : k + 1 ≤ 9223372036854775807 := by omega
            by_cases hc : ((L[j]'hlt).length : Int) ≤ 20000
            · rw [if_neg (by omega)] at hk' ⊢
              refine ⟨by omega, fun t ht => ?_⟩
              rw [List.take_add_one, List.getElem?_eq_getElem hlt] at ht
              rcases List.mem_append.1 ht with ht | ht
              · have := h4 t ht; omega
              · obtain rfl : t = L[j]'hlt := by simpa using ht
                omega
            · rw [if_pos (by omega)] at hk'; exact absurd hk' (by omega)
        case measure => simp [intOf]; omega
      · go_wp2
        go_ret
        exact ⟨⟨_, rfl, fun h => by simp at h⟩, rfl⟩
    · go_wp2
      go_ret
      refine ⟨⟨_, rfl, fun h => ?_⟩, rfl⟩
      obtain rfl : j = L.length := by omega
      have hk : k < 20000 := by simp at h; omega
      obtain ⟨h3, h4⟩ := H2.out hk
      rw [List.take_length] at h4
      exact ⟨by omega, fun t ht => by have := h4 t ht; omega⟩

theorem right_any (w : World) (v : Value) (L : List (List UInt8)) (vs : List Value) (hM : Mat w v L vs) :
    Calls Try.prog 16 #[v] w fun e w' => e = .returned (.bool (decide (L.length ≤ 512 ∧ ∀ t ∈ L, t.length ≤ 16))) ∧ w = w' := by
  have hsz := Sl.size_le hM.outer
  obtain ⟨ao, c, rfl, _⟩ := hM.outer.value
  obtain ⟨r, hr⟩ : ∃ r : Bool, r = decide (L.length ≤ 512 ∧ ∀ t ∈ L, t.length ≤ 16) := ⟨_, rfl⟩
  rw [← hr]
  have HR := hid hr
  clear hr
  go_enter Try.func16, Try.ntmps16
  by_cases h5 : L.length ≤ 512
  · have h5' : (L.length : Int) ≤ 512 := by omega
    go_wp2
    go_loop [3] (fun t => ∃ j : Nat, j ≤ L.length ∧ t = .int .i64 (j : Int) ∧ ∀ t ∈ L.take j, t.length ≤ 16) (fun t => L.length - (intOf t).toNat)
    case atStart => exact ⟨0, by omega, rfl, by simp⟩
    case round =>
      obtain ⟨j, hj, rfl, h2⟩ := hrel
      have H2 := hid h2
      clear h2
      by_cases hlt : j < L.length
      · obtain ⟨b, off, rfl, hb, hc⟩ := hM.outer.open (by have := hM.outer.len; omega)
        obtain ⟨u, hu, hs⟩ := hM.inner j hlt
        have hcell := hc j u hu
        have hl2 := Sl.size_le hs
        obtain ⟨ao2, c2, rfl, _⟩ := hs.value
        by_cases h16 : (L[j]'hlt).length ≤ 16
        · have h16' : ((L[j]'hlt).length : Int) ≤ 16 := by omega
          go_wp2
          go_round
          case rel =>
            refine ⟨j + 1, by omega, by go_num, fun t ht => ?_⟩
            rw [List.take_add_one, List.getElem?_eq_getElem hlt] at ht
            rcases List.mem_append.1 ht with ht | ht
            · exact H2.out t ht
            · obtain rfl : t = L[j]'hlt := by simpa using ht
              exact h16
          case measure => simp [intOf]; omega
        · have h16' : (16 : Int) < ((L[j]'hlt).length : Int) := by omega
          go_wp2
          go_ret
          have : r = false := by rw [HR.out, decide_eq_false]; rintro ⟨_, h⟩; exact h16 (h _ (List.getElem_mem _))
          exact ⟨by rw [this]; rfl, rfl⟩
      · go_wp2
        go_ret
        obtain rfl : j = L.length := by omega
        have h3 := H2.out
        rw [List.take_length] at h3
        have : r = true := by rw [HR.out, decide_eq_true ⟨h5, h3⟩]
        exact ⟨by rw [this]; rfl, rfl⟩
  · have h5' : (512 : Int) < (L.length : Int) := by omega
    go_wp2
    go_ret
    have : r = false := by rw [HR.out, decide_eq_false (by rintro ⟨h, _⟩; exact h5 h)]
    exact ⟨by rw [this]; rfl, rfl⟩

/-- SameInts, of like lists. -/
theorem same_ints (w : World) (v u : Value) (xs : List Int) (hv : Sl w v 1 xs.length (ints .i64 xs)) (hu : Sl w u 1 xs.length (ints .i64 xs)) :
    Calls Try.prog 17 #[v, u] w fun e w' => e = .returned (.bool true) ∧ Keeps w w' := by
  have hsz := Sl.size_le hv
  obtain ⟨ao, c, rfl, _⟩ := hv.value
  obtain ⟨ao2, c2, rfl, _⟩ := hu.value
  go_enter Try.func17, Try.ntmps17
  go_wp2_with fail
  go_loopw [5] (fun t wr => ∃ j : Nat, j ≤ xs.length ∧ t = .int .i64 (j : Int) ∧ Keeps w wr) (fun t _ => xs.length - (intOf t).toNat)
  case atStart => exact ⟨0, by omega, rfl, Below.refl _ _⟩
  case round =>
    obtain ⟨j, hj, rfl, hk⟩ := hrel
    by_cases hlt : j < xs.length
    · obtain ⟨b, off, rfl, hb, hc⟩ := (hv.keeps hk).open (by rw [ints_length]; omega)
      obtain ⟨b2, off2, rfl, hb2, hc2⟩ := (hu.keeps hk).open (by rw [ints_length]; omega)
      have hcell := hc j _ (ints_get _ xs j hlt)
      have hcell2 := hc2 j _ (ints_get _ xs j hlt)
      clear hc hc2
      go_wp2_with fail
      go_quiet (fail)
      go_wp2
      go_roundw
      case rel => exact ⟨j + 1, by omega, by go_num, hk.trans (keeps_drewN _ _)⟩
      case measure => simp [intOf]; omega
    · go_wp2
      go_ret
      exact ⟨rfl, hk⟩

def atB (t s : List UInt8) (i : Int) : Bool := decide (0 ≤ i) && decide (i + s.length ≤ t.length) && ((t.take (i.toNat + s.length)).drop i.toNat == s)

set_option maxRecDepth 100000 in
theorem at_any (w : World) (tv sv : Value) (t s : List UInt8) (i : Int) (ht : Sl w tv 1 t.length (bys t)) (hs : Sl w sv 1 s.length (bys s)) (hsl : s.length ≤ 140737488355328) (h0 : -4611686018427387904 ≤ i) (h1 : i ≤ 4611686018427387904) :
    Calls Try.prog 41 #[tv, .int .i64 i, sv] w fun e w' => e = .returned (.bool (atB t s i)) ∧ ∃ n, w' = w.drewN n := by
  have hsz := Sl.size_le ht
  have hsz2 := Sl.size_le hs
  obtain ⟨ao, ct, rfl, htc, htm, _⟩ := ht.value
  obtain ⟨ao2, c2, rfl, _⟩ := hs.value
  go_enter Try.func41, Try.ntmps41
  by_cases hi : 0 ≤ i
  · obtain ⟨i, rfl⟩ := Int.eq_ofNat_of_zero_le hi
    by_cases hle : i + s.length ≤ t.length
    · obtain ⟨m, hm⟩ : ∃ m, m = i + s.length := ⟨_, rfl⟩
      have him : (i : Int) + (s.length : Int) = (m : Int) := by omega
      have hmt : m ≤ t.length := by omega
      have him' : i ≤ m := by omega
      have S64 : ∀ w, (sizeOf 5).run Try.prog w = .ok 1 w := fun w => by kernel_rfl
      obtain ⟨X1, s11, s12, r1, _⟩ := slice_two (P := Try.prog) (t := 23) (e := 5) (size := 1) Try.underlying23 S64 ao t.length ct i m him' hmt htc
      have hx1 : bys ((t.take m).drop i) = ((bys t).take (m * 1)).drop (i * 1) := by simp [bys]
      have n1 : ((t.take m).drop i).length = m - i := by simp; omega
      have R1 : Sl w (.slice X1 (m - i) (ct - i)) 1 ((t.take m).drop i).length (bys ((t.take m).drop i)) := by rw [hx1, n1]; exact r1 _ _ ht
      have c1 := fun n => conv_bytes Try.underlying23 Try.underlying5 Try.underlying9 (R1.keeps (keeps_drewN w n))
      have c2 := fun n => conv_bytes Try.underlying23 Try.underlying5 Try.underlying9 (hs.keeps (keeps_drewN w n))
      have hres : atB t s (i : Int) = ((t.take m).drop i == s) := by
        unfold atB
        rw [decide_eq_true (by omega), decide_eq_true (by omega)]
        simp [hm]
      have HR := hid hres
      clear R1 hx1 n1 hm r1 hle hres
      go_wp2_with fail
      go_quiet (fail)
      go_wp2
      go_ret
      exact ⟨by rw [HR.out]; rfl, _, rfl⟩
    · have hlt : ¬ ((i : Int) + (s.length : Int) ≤ (t.length : Int)) := by omega
      have hres : atB t s (i : Int) = false := by
        unfold atB
        rw [decide_eq_false hlt]
        simp
      have hlt' : (t.length : Int) < (i : Int) + (s.length : Int) := by omega
      have HR := hid hres
      have hwr : IntKind.i64.wrap ((i : Int) + (s.length : Int)) = (i : Int) + (s.length : Int) := IntWalk.i64_in _ (by omega)
      have hd : decide ((i : Int) + (s.length : Int) ≤ (t.length : Int)) = false := decide_eq_false hlt
      clear hle hres
      go_wp2_with fail
      go_quiet (fail)
      go_wp2
      go_ret
      exact ⟨by rw [HR.out]; rfl, _, rfl⟩
  · have hi' : i < 0 := by omega
    have hres : atB t s i = false := by
      unfold atB
      rw [decide_eq_false hi]
      simp
    have HR := hid hres
    have hd : decide (0 ≤ i) = false := decide_eq_false hi
    clear hres
    go_wp2_with fail
    go_quiet (fail)
    go_wp2
    go_ret
    exact ⟨by rw [HR.out]; rfl, _, rfl⟩

theorem at_hit0 (t s : List UInt8) : atB t s 0 = hit 0 t s := by
  rw [Bool.eq_iff_iff, hit0]
  unfold atB
  simp only [Bool.and_eq_true, decide_eq_true_eq, beq_iff_eq]
  constructor
  · rintro ⟨_, h⟩
    have := List.take_prefix (0 + s.length) t
    simp only [Int.toNat_zero, List.drop_zero] at h
    rw [h] at this; exact this
  · intro h
    have hl := h.length_le
    refine ⟨⟨by omega, by omega⟩, ?_⟩
    simp only [Int.toNat_zero, List.drop_zero, Nat.zero_add]
    exact (List.prefix_iff_eq_take.1 h).symm
theorem at_hit1 (t s : List UInt8) : atB t s ((t.length : Int) - (s.length : Int)) = hit 1 t s.reverse := by
  rw [Bool.eq_iff_iff, hit1]
  unfold atB
  simp only [Bool.and_eq_true, decide_eq_true_eq, beq_iff_eq]
  constructor
  · rintro ⟨⟨h0, _⟩, h⟩
    have e : ((t.length : Int) - (s.length : Int)).toNat + s.length = t.length := by omega
    rw [e, List.take_length] at h
    rw [← h]; exact List.drop_suffix _ _
  · intro h
    have hl := h.length_le
    refine ⟨⟨by omega, by omega⟩, ?_⟩
    have e : ((t.length : Int) - (s.length : Int)).toNat + s.length = t.length := by omega
    have e2 : ((t.length : Int) - (s.length : Int)).toNat = t.length - s.length := by omega
    rw [e, List.take_length, e2]
    exact (List.suffix_iff_eq_drop.1 h).symm
def anyAt (t s : List UInt8) (k : Nat) : Bool := (List.range k).any fun j => atB t s j
theorem anyAt_succ (t s : List UInt8) (k : Nat) : anyAt t s (k + 1) = (anyAt t s k || atB t s k) := by unfold anyAt; rw [List.range_succ]; simp
theorem at_hit2 (t s : List UInt8) : anyAt t s (t.length + 1) = hit 2 t s := by
  rw [Bool.eq_iff_iff, hit2]
  unfold anyAt
  simp only [List.any_eq_true, List.mem_range]
  constructor
  · rintro ⟨j, _, h⟩
    unfold atB at h
    simp only [Bool.and_eq_true, beq_iff_eq] at h
    rw [← h.2]
    exact (List.drop_suffix _ _).isInfix.trans (List.take_prefix _ _).isInfix
  · rintro ⟨a, b, rfl⟩
    refine ⟨a.length, by simp; omega, ?_⟩
    unfold atB
    rw [decide_eq_true (by omega), decide_eq_true (by simp; omega)]
    rw [List.append_assoc, List.take_append]
    simp
end Go.Proofs.Ytgofjdkpnmoedaa
