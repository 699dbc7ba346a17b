/- The laws' small functions: great, has; the live question. -/
import Derived.Test.YtgofjdkpnmoedaaTrieJ
import Derived.Lib.SlBytesConst
import Derived.Test.YtgofjdkpnmoedaaStr
set_option linter.unusedSimpArgs false
set_option linter.unusedVariables false
namespace Go.Proofs.Ytgofjdkpnmoedaa
open Go.RowKit Go.Vb

theorem ints_get (k : IntKind) (xs : List Int) (j : Nat) (h : j < xs.length) : (ints k xs)[j]? = some (.int k (xs[j]'h)) := by simp [ints, h]

/-- has: a number that is one of some. -/
theorem has_yes (w : World) (v : Value) (xs : List Int) (n : Int) (hv : Sl w v 1 xs.length (ints .i64 xs)) (h : n ∈ xs) :
    Calls Try.prog 24 #[v, .int .i64 n] w fun e w' => e = .returned (.bool true) ∧ w = w' := by
  have hsz := Sl.size_le hv
  obtain ⟨ao, c, rfl, _⟩ := hv.value
  rcases hv.none_or (by decide) with ⟨h0, _⟩ | ⟨hp, b, off, rfl, hb, hc⟩
  · rw [List.eq_nil_of_length_eq_zero h0] at h; simp at h
  · go_enter Try.func24, Try.ntmps24
    go_wp2
    go_loop [5] (fun t => ∃ j : Nat, j ≤ xs.length ∧ t = .int .i64 (j : Int) ∧ n ∈ xs.drop j) (fun t => xs.length - (intOf t).toNat)
    case atStart => exact ⟨0, by omega, rfl, by simpa using h⟩
    case round =>
      obtain ⟨j, hj, rfl, hin⟩ := hrel
      by_cases hlt : j < xs.length
      · have hcell := hc j _ (ints_get _ xs j hlt)
        by_cases he : xs[j]'hlt = n
        · have he' : (xs[j]'hlt == n) = true := by simpa using he
          have HI := hid hin
          have HE := hid he
          clear hin he
          go_wp2
          go_ret
          exact ⟨rfl, rfl⟩
        · have he' : (xs[j]'hlt == n) = false := by simpa using he
          have HI := hid hin
          have HE := hid he
          clear hin he
          go_wp2
          go_round
          case rel =>
            refine ⟨j + 1, by omega, by go_num, ?_⟩
            have h1 := HI.out
            rw [List.drop_eq_getElem_cons hlt] at h1
            rcases List.mem_cons.1 h1 with h2 | h2
            · exact absurd h2.symm HE.out
            · exact h2
          case measure => simp [intOf]; omega
      · have : j = xs.length := by omega
        subst this
        simp at hin

theorem has_no (w : World) (v : Value) (xs : List Int) (n : Int) (hv : Sl w v 1 xs.length (ints .i64 xs)) (h : n ∉ xs) :
    Calls Try.prog 24 #[v, .int .i64 n] w fun e w' => e = .returned (.bool false) ∧ w = w' := by
  have hsz := Sl.size_le hv
  obtain ⟨ao, c, rfl, _⟩ := hv.value
  have HN := hid h
  clear h
  go_enter Try.func24, Try.ntmps24
  go_wp2
  go_loop [5] (fun t => ∃ j : Nat, j ≤ xs.length ∧ t = .int .i64 (j : Int)) (fun t => xs.length - (intOf t).toNat)
  case atStart => exact ⟨0, by omega, rfl⟩
  case round =>
    obtain ⟨j, hj, rfl⟩ := hrel
    by_cases hlt : j < xs.length
    · obtain ⟨b, off, rfl, hb, hc⟩ := hv.open (by rw [ints_length]; omega)
      have hcell := hc j _ (ints_get _ xs j hlt)
      have he' : (xs[j]'hlt == n) = false := by rw [beq_eq_false_iff_ne]; intro e; exact HN.out (by rw [← e]; exact List.getElem_mem _)
      go_wp2
      go_round
      case rel => exact ⟨j + 1, by omega, by go_num⟩
      case measure => simp [intOf]; omega
    · go_wp2
      go_ret
      exact ⟨rfl, rfl⟩
def BoolOf (e : Ending) : Prop := ∃ b, e = .returned (.bool b)
/-- great: some answer. -/
theorem great_any (w : World) (v s : Value) (L : List (List UInt8)) (vs : List Value) (n : Nat) (xs : List Value) (hM : Mat w v L vs) (hs : Sl w s 1 n xs) :
    Calls Try.prog 14 #[v, s] w fun e w' => BoolOf e ∧ w = w' := by
  have hszs := Sl.size_le hs
  obtain ⟨ao', c', rfl, _⟩ := hs.value
  have hsz := Sl.size_le hM.outer
  obtain ⟨ao, c, rfl, _⟩ := hM.outer.value
  go_enter Try.func14, Try.ntmps14
  go_wp2
  go_loop [5, 6] (fun q t => ∃ (j : Nat) (k : Int), j ≤ L.length ∧ t = .int .i64 (j : Int) ∧ q = .int .i64 k ∧ 0 ≤ k ∧ k ≤ 9223372036854775807) (fun _ t => L.length - (intOf t).toNat)
  case atStart => exact ⟨0, n, by omega, rfl, rfl, by omega, by omega⟩
  case round =>
    obtain ⟨j, k, hj, rfl, rfl, h0, h1⟩ := hrel
    by_cases hlt : j < L.length
    · by_cases hk : k < 20000
      · obtain ⟨b, off, rfl, hb, hc⟩ := hM.outer.open (by have := hM.outer.len; omega)
        obtain ⟨u, hu, hs⟩ := hM.inner j hlt
        have hcell := hc j u hu
        have hl2 := Sl.size_le hs
        obtain ⟨ao2, c2, rfl, _⟩ := hs.value
        have hmin : (0 : Int) ≤ min ((L[j]'hlt).length : Int) 20000 ∧ min ((L[j]'hlt).length : Int) 20000 ≤ 20000 := by omega
        go_wp2
        go_round
        case rel => refine ⟨j + 1, _, by omega, by go_num, rfl, ?_, ?_⟩ <;> split <;> omega
        case measure => simp [intOf]; omega
      · go_wp2
        go_ret
        exact ⟨⟨_, rfl⟩, rfl⟩
    · go_wp2
      go_ret
      exact ⟨⟨_, rfl⟩, rfl⟩

/-- A literal of bytes. -/
theorem sl_lit (w : World) (s : List UInt8) (fr : Nat × Nat) (hl : s.length ≤ maxLen) : Sl (w.alloc (.cells (bys s).toArray 5 fr)) (.slice (some ⟨w.heap.size, 0, none⟩) s.length s.length) 1 s.length (bys s) := by
  refine ⟨by simp [bys], _, _, rfl, Nat.le_refl _, hl, (fun h => by cases h), fun ad had j u hu => ?_⟩
  obtain rfl := Option.some.inj had
  rw [Addr.add_lit, Nat.zero_add]
  have hb : (w.alloc (.cells (bys s).toArray 5 fr)).heap[w.heap.size]? = some (.cells (bys s).toArray 5 fr) := heap_alloc_new w _
  unfold World.cell?
  simp only [hb]
  simpa using hu

theorem keeps_alloc (w : World) (o : Obj) : Keeps w (w.alloc o) := (Below.refl _ _).alloc (Nat.le_refl _) o
def headL : List (List UInt8) := [[97, 98], [98, 97], [98]]
def headW (w : World) : World := (((w.alloc (.cells #[.int .u8 97, .int .u8 98] 5 (2, 3))).alloc (.cells #[.int .u8 98, .int .u8 97] 5 (2, 3))).alloc (.cells #[.int .u8 98] 5 (1, 2))).alloc (.cells #[.slice (some ⟨w.heap.size, 0, none⟩) 2 2, .slice (some ⟨w.heap.size + 1, 0, none⟩) 2 2, .slice (some ⟨w.heap.size + 1 + 1, 0, none⟩) 1 1] 23)
theorem keeps_headW (w : World) : Keeps w (headW w) := (((keeps_alloc _ _).trans (keeps_alloc _ _)).trans (keeps_alloc _ _)).trans (keeps_alloc _ _)
theorem mat_head (w : World) : Mat (headW w) (.slice (some ⟨w.heap.size + 1 + 1 + 1, 0, none⟩) 3 3) headL [.slice (some ⟨w.heap.size, 0, none⟩) 2 2, .slice (some ⟨w.heap.size + 1, 0, none⟩) 2 2, .slice (some ⟨w.heap.size + 1 + 1, 0, none⟩) 1 1] := by
  have h1 := sl_lit w [97, 98] (2, 3) (by decide)
  have h2 := sl_lit (w.alloc (.cells #[.int .u8 97, .int .u8 98] 5 (2, 3))) [98, 97] (2, 3) (by decide)
  have h3 := sl_lit ((w.alloc (.cells #[.int .u8 97, .int .u8 98] 5 (2, 3))).alloc (.cells #[.int .u8 98, .int .u8 97] 5 (2, 3))) [98] (1, 2) (by decide)
  simp only [World.size_alloc] at h2 h3
  refine ⟨⟨rfl, _, 3, rfl, Nat.le_refl _, by decide, (fun h => by cases h), fun ad had j u hu => ?_⟩, fun i hi => ?_⟩
  · obtain rfl := Option.some.inj had
    rw [Addr.add_lit, Nat.zero_add]
    have hb : (headW w).heap[w.heap.size + 1 + 1 + 1]? = some (.cells #[.slice (some ⟨w.heap.size, 0, none⟩) 2 2, .slice (some ⟨w.heap.size + 1, 0, none⟩) 2 2, .slice (some ⟨w.heap.size + 1 + 1, 0, none⟩) 1 1] 23) := by
      have := heap_alloc_new (((w.alloc (.cells #[.int .u8 97, .int .u8 98] 5 (2, 3))).alloc (.cells #[.int .u8 98, .int .u8 97] 5 (2, 3))).alloc (.cells #[.int .u8 98] 5 (1, 2))) (.cells #[.slice (some ⟨w.heap.size, 0, none⟩) 2 2, .slice (some ⟨w.heap.size + 1, 0, none⟩) 2 2, .slice (some ⟨w.heap.size + 1 + 1, 0, none⟩) 1 1] 23)
      simpa [headW] using this
    unfold World.cell?
    simp only [hb]
    simpa using hu
  · have : i = 0 ∨ i = 1 ∨ i = 2 := by simp [headL] at hi; omega
    rcases this with rfl | rfl | rfl
    · exact ⟨_, rfl, h1.keeps (((keeps_alloc _ _).trans (keeps_alloc _ _)).trans (keeps_alloc _ _))⟩
    · exact ⟨_, rfl, h2.keeps ((keeps_alloc _ _).trans (keeps_alloc _ _))⟩
    · exact ⟨_, rfl, h3.keeps (keeps_alloc _ _)⟩

end Go.Proofs.Ytgofjdkpnmoedaa
