/- The document's Dels: New, Has, Add, Live. -/
import Derived.Test.YtegonlmhaobgcaaDelsOne
import Derived.Test.YtegonlmhaobgcaaRefRead
set_option linter.unusedSimpArgs false
set_option linter.unusedVariables false
namespace Go.Proofs.Ytegonlmhaobgcaa
open Go.RowKit Go.Vb
/-- S as a list. -/
structure Rel (S : Nat → Bool) (n : Nat) (l : List Int) : Prop where
  mem : ∀ x : Int, decide (x ∈ l) = hasB S x
  out : ∀ i, n ≤ i → S i = false
  le : n ≤ 64
  many : l.length + (liveTo S n).length = n
theorem Rel.has {S : Nat → Bool} {n : Nat} {l : List Int} (h : Rel S n l) {x : Int} (hx : x ∈ l) : 0 ≤ x ∧ x < n := by
  have h1 : hasB S x = true := by rw [← h.mem]; simp [hx]
  simp only [hasB, Bool.and_eq_true, decide_eq_true_eq] at h1
  refine ⟨h1.1, ?_⟩
  by_cases h2 : n ≤ x.toNat
  · have := h.out _ h2; rw [this] at h1; exact absurd h1.2 (by simp)
  · omega
theorem liveTo_none (n : Nat) : (liveTo (fun _ => false) n).length = n := by
  induction n with
  | zero => rfl
  | succ n ih => simp [liveTo, ih]
theorem Rel.nil (n : Nat) (hn : n ≤ 64) : Rel (fun _ => false) n [] := ⟨fun x => by simp [hasB], fun _ _ => rfl, hn, by simp [liveTo_none]⟩
theorem Rel.add {S : Nat → Bool} {n : Nat} {l : List Int} (h : Rel S n l) (i : Nat) (hi : i < n) (hs : S i = false) : Rel (setS S i) n (l ++ [(i : Int)]) := by
  refine ⟨fun x => ?_, fun j hj => ?_, h.le, ?_⟩
  · have := h.mem x
    by_cases hx : x = (i : Int)
    · subst hx; simp [hasB, setS]
    · have e : hasB (setS S i) x = hasB S x := by
        unfold hasB
        by_cases h0 : 0 ≤ x
        · rw [setS_other _ _ _ (by omega)]
        · simp [h0]
      rw [e, ← this]
      simp [hx]
  · rw [setS_other _ _ _ (by omega)]; exact h.out j hj
  · have := live_set S i hs n hi
    have := h.many
    simp
    omega
structure RDAt (w : World) (B D n : Nat) (v : Value) (l : List Int) : Prop where
  block : w.heap[D]? = some (.cells #[.int .i64 (n : Int), v] 41 (0, 0))
  row : w.ownsRow B 2 1 v l.length (ints .i64 l)
  apart : v.ownBlock ≠ some D
  base : B ≤ D
section
variable {w : World} {B D n : Nat} {v : Value} {l : List Int}
theorem RDAt.cell0 (h : RDAt w B D n v l) : w.cell? ⟨D, 0, none⟩ = some (.int .i64 (n : Int)) := by unfold World.cell?; simp only [h.block]; rfl
theorem RDAt.cell1 (h : RDAt w B D n v l) : w.cell? ⟨D, 1, none⟩ = some v := by unfold World.cell?; simp only [h.block]; rfl
theorem RDAt.open_ (h : RDAt w B D n v l) (k : Nat) : w.frozen? ⟨D, k, none⟩ = false := by unfold World.frozen?; simp only [h.block]; simp
theorem RDAt.lt (h : RDAt w B D n v l) : D < w.heap.size := (Array.getElem?_eq_some_iff.1 h.block).1
theorem RDAt.mods {M : Nat → Prop} {w' : World} (h : RDAt w B D n v l) (k : Mods M w w') (hn : ∀ b, B ≤ b → ¬ M b) : RDAt w' B D n v l :=
  ⟨(k.block D h.lt (hn D h.base)).trans h.block, ownsRow_mods h.row k (fun b hb => hn b (ownsRow_base h.row hb).1), h.apart, h.base⟩
theorem RDAt.keeps {w' : World} (h : RDAt w B D n v l) (k : Keeps w w') : RDAt w' B D n v l := h.mods (keeps_mods (S := fun _ => False) k) (fun _ _ => id)
end
theorem rd_New (w : World) (n : Nat) (hn : n ≤ 64) :
    Calls Try.prog 19 #[.int .i64 (n : Int)] w fun e w' => ∃ D, e = .returned (.pointer (some ⟨D, 0, none⟩)) ∧ RDAt w' w.heap.size D n (.slice none 0 0) [] ∧ Keeps w w' := by
  have hle : (n : Int) ≤ 64 := by omega
  go_enter Try.func19, Try.ntmps19
  go_wp2
  go_ret
  exact ⟨w.heap.size, rfl, ⟨heap_alloc_new w _, World.ownsRow_nil _ _ _ _, by simp [Value.ownBlock], Nat.le_refl _⟩, (Below.refl _ _).alloc (Nat.le_refl _) _⟩
theorem rd_New_no (w : World) (n : Int) (hn : ¬ (0 ≤ n ∧ n ≤ 64)) :
    Calls Try.prog 19 #[.int .i64 n] w fun e w' => e = .returned (.pointer none) ∧ w' = w := by
  by_cases h0 : n < 0
  · go_enter Try.func19, Try.ntmps19
    go_wp2
    go_ret
    exact ⟨rfl, rfl⟩
  · have h1 : 64 < n := by omega
    have h2 : 0 ≤ n := by omega
    go_enter Try.func19, Try.ntmps19
    go_wp2
    go_ret
    exact ⟨rfl, rfl⟩
theorem rd_Has {w : World} {B D n : Nat} {v : Value} {l : List Int} (h : RDAt w B D n v l) (hl : l.length ≤ 64) (i : Int) :
    Calls Try.prog 21 #[.pointer (some ⟨D, 0, none⟩), .int .i64 i] w fun e w' => e = .returned (.bool (decide (i ∈ l))) ∧ w' = w := by
  have c1 := h.cell1
  have hs := ownsRow_sl h.row
  obtain ⟨ao, c, rfl⟩ := ownsRow_slice h.row
  go_enter Try.func21, Try.ntmps21
  go_wp2_with fail
  go_loopw [5] (fun q wr => ∃ j : Nat, j ≤ l.length ∧ q = .int .i64 (j : Int) ∧ (∀ x ∈ l.take j, x ≠ i) ∧ wr = w) (fun q _ => l.length - (intOf q).toNat)
  case atStart => exact ⟨0, by omega, rfl, by simp, rfl⟩
  case round =>
    obtain ⟨j, hj, rfl, hno, rfl⟩ := hrel
    have HNO := hid hno
    clear hno
    by_cases hlt : j < l.length
    · obtain ⟨b, off, rfl, hb, hc⟩ := hs.open (by rw [ints_length]; omega)
      have hcell := hc j _ (ints_get _ l j hlt)
      clear hc
      by_cases he : l[j]'hlt = i
      · have hmem : decide (i ∈ l) = true := by simp; rw [← he]; exact List.getElem_mem _
        have HM := hid hmem
        clear hmem
        rw [he] at hcell
        clear he
        go_wp2
        go_ret
        exact ⟨by rw [HM.out]; rfl, rfl⟩
      · have HE := hid he
        go_wp2_with fail
        go_roundw
        case rel =>
          refine ⟨j + 1, by omega, by go_num, fun x hx => ?_, trivial⟩
          rcases take_mem l j hlt x hx with h | h
          · exact HNO.out x h
          · rw [h]; exact HE.out
        case measure => simp [intOf]; omega
    · have hmem : decide (i ∈ l) = false := by
        obtain rfl : j = l.length := by omega
        rw [decide_eq_false_iff_not]
        intro hm
        exact HNO.out i (by rw [List.take_length]; exact hm) rfl
      have HM := hid hmem
      clear hmem
      go_wp2
      go_ret
      exact ⟨by rw [HM.out]; rfl, rfl⟩
theorem rd_Live {w : World} {B D n : Nat} {v : Value} {l : List Int} {S : Nat → Bool} (h : RDAt w B D n v l) (hr : Rel S n l) :
    Calls Try.prog 18 #[.pointer (some ⟨D, 0, none⟩)] w fun e w' => ∃ v', e = .returned v' ∧ w'.ownsRow w.heap.size 2 1 v' (liveTo S n).length (ints .i64 (liveTo S n)) ∧ Keeps w w' := by
  obtain ⟨i0, hi, hz0, hz1, hz2⟩ := info_parts info2
  have h0 := h.cell0
  have hn := hr.le
  have hml := hr.many
  go_enter Try.func18, Try.ntmps18
  go_wp2_with fail
  go_loopw [3, 4] (fun o q wr => ∃ j : Nat, j ≤ n ∧ q = .int .i64 (j : Int) ∧ wr.ownsRow w.heap.size 2 1 o (liveTo S j).length (ints .i64 (liveTo S j)) ∧ Keeps w wr) (fun _ q _ => n - (intOf q).toNat)
  case atStart => exact ⟨0, by omega, rfl, World.ownsRow_nil _ _ _ _, Below.refl _ _⟩
  case round =>
    obtain ⟨j, hj, rfl, ho, hk⟩ := hrel
    have h0' := hk.cell h0
    by_cases hlt : j < n
    · have hlen := liveTo_length S j
      have hhas := rd_Has (h.keeps hk) (by omega) (j : Int)
      rw [hr.mem, hasB_nat] at hhas
      go_wp2_with fail
      refine hhas.mono ?_
      rintro e w2 ⟨rfl, rfl⟩
      obtain ⟨oo, oc, rfl⟩ := ownsRow_slice ho
      cases hs : S j with
      | true =>
        have hl : liveTo S (j + 1) = liveTo S j := by simp [liveTo, hs]
        have HL := hid hl
        clear hl
        go_wp2_with fail
        go_roundw
        case rel => exact ⟨j + 1, by omega, by go_num, by rw [HL.out]; exact ho, hk⟩
        case measure => simp [intOf]; omega
      | false =>
        have hl : liveTo S (j + 1) = liveTo S j ++ [(j : Int)] := by simp [liveTo, hs]
        have HL := hid hl
        clear hl
        go_wp2_with (at_builtin; refine wpList_append_sl _ rfl _ _ 22 rfl w.heap.size 2 i0 (.int .i64 0) 1 8 Try.underlying22 hi hz0 hz1 hz2 rfl (by decide) _ _ _ rfl (ho.alloc _) _ 1 [.int .i64 (j : Int)] rfl (sl_one _ _ _) (by simp [Value.oneCell']) (by unfold maxLen; omega) (by omega) (by have := hk.size; simp; omega) ?_)
        intro v3 w3 ho3 hg3 _ _
        have k3 : Keeps w w3 := (hk.trans ((Below.refl _ _).alloc (Nat.le_refl _) _)).grown hg3 (by have := hk.size; simp; omega) (fun k e => (ownsRow_base ho e).1)
        go_wp2
        go_roundw
        case rel => exact ⟨j + 1, by omega, by go_num, by rw [HL.out, ints_append, List.length_append]; exact ho3, k3⟩
        case measure => simp [intOf]; omega
    · obtain rfl : j = n := by omega
      obtain ⟨oo, oc, rfl⟩ := ownsRow_slice ho
      go_wp2
      go_ret
      exact ⟨_, rfl, ho, hk⟩
set_option maxRecDepth 100000 in
theorem rd_Add_yes {w : World} {B D n : Nat} {v : Value} {l : List Int} (h : RDAt w B D n v l) (hl : l.length ≤ 64) (i : Int) (hi : 0 ≤ i ∧ i < n) (hn : n ≤ 64) (hno : i ∉ l) :
    Calls Try.prog 20 #[.pointer (some ⟨D, 0, none⟩), .int .i64 i] w fun e w' => e = .returned (.bool true) ∧ (∃ v', RDAt w' B D n v' (l ++ [i])) ∧ Below B w w' := by
  obtain ⟨i0, hi0, hz0, hz1, hz2⟩ := info_parts info2
  have hhas := rd_Has h hl i
  rw [show decide (i ∈ l) = false from by simp [hno]] at hhas
  have c0 := h.cell0
  have c1 := h.cell1
  have f1 := h.open_ 1
  have hi1 := hi.1
  have hi2 := hi.2
  have hDl := h.lt
  have hB := h.base
  have hrow := h.row
  obtain ⟨ao, c, rfl⟩ := ownsRow_slice h.row
  clear hno hi
  go_enter Try.func20, Try.ntmps20
  go_wp2_with fail
  refine hhas.mono ?_
  rintro e w1 ⟨rfl, rfl⟩
  go_wp2_with (at_builtin; refine wpList_append_sl _ rfl _ _ 22 rfl B 2 i0 (.int .i64 0) 1 8 Try.underlying22 hi0 hz0 hz1 hz2 rfl (by decide) _ _ _ rfl (hrow.alloc _) _ 1 [.int .i64 i] rfl (sl_one _ _ _) (by simp [Value.oneCell']) (by unfold maxLen; omega) (by omega) (by simp; omega) ?_)
  intro v3 w3 ho3 hg3 _ hfresh
  have M3 : Mods (fun b => (Value.slice ao l.length c).ownBlock = some b) w1 w3 := (Mods.alloc _ _ _).trans (Mods.of_grownBy hg3 (fun k e => e))
  have hD3 : w3.heap[D]? = some (.cells #[.int .i64 (n : Int), .slice ao l.length c] 41 (0, 0)) := (M3.block D hDl h.apart).trans h.block
  have hap : v3.ownBlock ≠ some D := by
    rcases hfresh with e | ⟨g, e, hg⟩
    · rw [e]; exact h.apart
    · rw [e]; intro e2; injection e2 with e2; simp at hg; omega
  have d1 : w3.cell? ⟨D, 1, none⟩ = some (.slice ao l.length c) := by unfold World.cell?; simp only [hD3]; rfl
  have g1 : w3.frozen? ⟨D, 1, none⟩ = false := by unfold World.frozen?; simp only [hD3]; simp
  obtain ⟨o3, c3, rfl⟩ := ownsRow_slice ho3
  go_wp2
  go_ret
  have M4 : Mods (fun b => b = D) w3 (w3.setCell ⟨D, 1, none⟩ (.slice o3 (l.length + 1) c3)) := Mods.setCell _ _ _ _ (.inl rfl)
  refine ⟨rfl, ⟨_, heap_setCell_same w3 D 1 _ 41 _ hD3, ?_, hap, hB⟩, ?_⟩
  · rw [List.length_append, ints_append]
    exact ownsRow_mods ho3 M4 (fun b hb e => hap (by rw [hb, e]))
  · refine ((M3.mono (S' := fun b => B ≤ b) (fun b _ hb => (ownsRow_base hrow hb).1)).trans (M4.mono (fun b _ hb => by rw [hb]; exact hB))).below (by omega) (fun b hb hbb => by omega)
theorem rd_Add_no {w : World} {B D n : Nat} {v : Value} {l : List Int} (h : RDAt w B D n v l) (hl : l.length ≤ 64) (i : Int) (hno : i ∈ l ∨ ¬ (0 ≤ i ∧ i < n)) :
    Calls Try.prog 20 #[.pointer (some ⟨D, 0, none⟩), .int .i64 i] w fun e w' => e = .returned (.bool false) ∧ w' = w := by
  have hhas := rd_Has h hl i
  have c0 := h.cell0
  by_cases hm : i ∈ l
  · rw [show decide (i ∈ l) = true from by simp [hm]] at hhas
    clear hno hm
    go_enter Try.func20, Try.ntmps20
    go_wp2_with fail
    refine hhas.mono ?_
    rintro e w1 ⟨rfl, rfl⟩
    go_wp2
    go_ret
    exact ⟨rfl, rfl⟩
  · rw [show decide (i ∈ l) = false from by simp [hm]] at hhas
    by_cases h0 : i < 0
    · clear hno hm
      go_enter Try.func20, Try.ntmps20
      go_wp2_with fail
      refine hhas.mono ?_
      rintro e w1 ⟨rfl, rfl⟩
      go_wp2
      go_ret
      exact ⟨rfl, rfl⟩
    · have h1 : (n : Int) ≤ i := by rcases hno with h | h; exact absurd h hm; omega
      have h2 : 0 ≤ i := by omega
      clear hno hm
      go_enter Try.func20, Try.ntmps20
      go_wp2_with fail
      refine hhas.mono ?_
      rintro e w1 ⟨rfl, rfl⟩
      go_wp2
      go_ret
      exact ⟨rfl, rfl⟩
end Go.Proofs.Ytegonlmhaobgcaa
