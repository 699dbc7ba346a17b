/- reading of package post: cut, number, row. -/
import Derived.Test.YtlmlanaobhfmbaaGetA
set_option linter.unusedSimpArgs false
set_option linter.unusedVariables false
namespace Go.Proofs.Ytlmlanaobhfmbaa
open Go.RowKit Go.Vb
structure RdAt (w : World) (R : Nat) (v : Value) (s : List UInt8) (last : Int) (bad : Bool) : Prop where
  block : w.heap[R]? = some (.cells #[v, .int .i64 last, .bool bad] 98 (0, 0))
  left : Sl w v 1 s.length (bys s)
  apart : v.ownBlock ≠ some R
section
variable {w : World} {R : Nat} {v : Value} {s : List UInt8} {last : Int} {bad : Bool}
theorem RdAt.cell0 (h : RdAt w R v s last bad) : w.cell? ⟨R, 0, none⟩ = some v := by unfold World.cell?; simp only [h.block]; rfl
theorem RdAt.cell1 (h : RdAt w R v s last bad) : w.cell? ⟨R, 1, none⟩ = some (.int .i64 last) := by unfold World.cell?; simp only [h.block]; rfl
theorem RdAt.cell2 (h : RdAt w R v s last bad) : w.cell? ⟨R, 2, none⟩ = some (.bool bad) := by unfold World.cell?; simp only [h.block]; rfl
theorem RdAt.open_ (h : RdAt w R v s last bad) (k : Nat) : w.frozen? ⟨R, k, none⟩ = false := by unfold World.frozen?; simp only [h.block]; simp
theorem RdAt.keeps {w' : World} (h : RdAt w R v s last bad) (k : Keeps w w') : RdAt w' R v s last bad := ⟨Keeps.heap k h.block, h.left.keeps k, h.apart⟩
theorem RdAt.lt (h : RdAt w R v s last bad) : R < w.heap.size := (Array.getElem?_eq_some_iff.1 h.block).1
theorem RdAt.setBad (h : RdAt w R v s last bad) (b : Bool) : RdAt (w.setCell ⟨R, 2, none⟩ (.bool b)) R v s last b :=
  ⟨heap_setCell_same w R 2 _ 98 _ h.block, h.left.mods (Mods.setCell (fun b => b = R) w ⟨R, 2, none⟩ _ (.inl rfl)) (fun b hb e => h.apart (by rw [hb, e])), h.apart⟩
theorem RdAt.setLast (h : RdAt w R v s last bad) (x : Int) : RdAt (w.setCell ⟨R, 1, none⟩ (.int .i64 x)) R v s x bad :=
  ⟨heap_setCell_same w R 1 _ 98 _ h.block, h.left.mods (Mods.setCell (fun b => b = R) w ⟨R, 1, none⟩ _ (.inl rfl)) (fun b hb e => h.apart (by rw [hb, e])), h.apart⟩
end
theorem rd_cut {w : World} {R : Nat} {v : Value} {s : List UInt8} {last : Int} {bad : Bool} (h : RdAt w R v s last bad) (n : Nat) (hn : n ≤ s.length) :
    Calls Try.prog 110 #[.pointer (some ⟨R, 0, none⟩), .int .i64 (n : Int)] w fun e w' => e = .returned (.tuple #[]) ∧ (∃ v', RdAt w' R v' (s.drop n) last bad ∧ ∀ b, v'.ownBlock = some b → v.ownBlock = some b) ∧ Mods (fun b => b = R) w w' := by
  have c0 := h.cell0
  have f0 := h.open_ 0
  obtain ⟨ao, c, rfl, _⟩ := h.left.value
  have S64 : ∀ w, (sizeOf 5).run Try.prog w = .ok 1 w := fun w => by kernel_rfl
  obtain ⟨X3, s31, s32, r3, hX⟩ := slice_low (P := Try.prog) (t := 23) (e := 5) (size := 1) Try.underlying23 S64 ao s.length c n hn
  have hdl : (s.drop n).length = s.length - n := by simp
  have R3 : Sl w (.slice X3 (s.length - n) (c - n)) 1 (s.drop n).length (bys (s.drop n)) := by
    have := r3 _ _ h.left
    have e : (bys s).drop (n * 1) = bys (s.drop n) := by simp [bys]
    rw [e] at this
    rw [hdl]; exact this
  clear r3 hdl
  go_enter Try.func110, Try.ntmps110
  go_wp2
  go_end0
  have ms : Mods (fun b => b = R) w (w.setCell ⟨R, 0, none⟩ (.slice X3 (s.length - n) (c - n))) := Mods.setCell _ _ _ _ (.inl rfl)
  exact ⟨rfl, ⟨_, ⟨heap_setCell_same w R 0 _ 98 _ h.block, R3.mods ms (fun b hb e => h.apart (hX R (by rw [hb, e]))), fun e => h.apart (hX R e)⟩, hX⟩, ms⟩
/-- what a call may leave of the reading. -/
structure Left (w : World) (R : Nat) (v : Value) (bad : Bool) (w' : World) (v' : Value) (s' : List UInt8) (last' : Int) (bad' : Bool) : Prop where
  rd : RdAt w' R v' s' last' bad'
  own : ∀ b, v'.ownBlock = some b → v.ownBlock = some b
  stay : bad = true → bad' = true
  mods : Mods (fun b => b = R) w w'
def NumRes (s : List UInt8) (last : Int) (bad : Bool) (most : Nat) (w : World) (R : Nat) (v : Value) (e : Ending) (w' : World) : Prop :=
  ∃ (x : Nat) (v' : Value) (s' : List UInt8) (bad' : Bool), e = .returned (.int .i64 (x : Int)) ∧ x ≤ most ∧ s'.length ≤ s.length ∧ Left w R v bad w' v' s' last bad' ∧ (bad = false → ∀ n t, n ≤ most → s = lebOf n ++ t → bad' = false ∧ x = n ∧ s' = t)
set_option maxRecDepth 100000 in
set_option maxHeartbeats 1000000 in
theorem rd_number {w : World} {R : Nat} {v : Value} {s : List UInt8} {last : Int} {bad : Bool} (most : Nat) (h : RdAt w R v s last bad) (hmost : most ≤ 4611686018427387904) :
    Calls Try.prog 68 #[.pointer (some ⟨R, 0, none⟩), .int .u64 (most : Int)] w fun e w' => NumRes s last bad most w R v e w' := by
  have c0 := h.cell0
  have c2 := h.cell2
  have f2 := h.open_ 2
  have hget := leb_Get w v s h.left
  have herr := getFrom_err s 0 0
  rcases hg : getFrom 0 0 s with ⟨n, k, ec⟩
  simp only [hg] at hget herr
  have hno : ec ≠ 0 → ∀ n t, n ≤ most → s ≠ lebOf n ++ t := by
    rintro h0 n' t hm e
    rw [e, get_put _ _ (by omega)] at hg
    injection hg with _ hg
    injection hg with _ hg
    exact h0 hg.symm
  have HNO := hid hno
  have HGG := hid hg
  have hcut := fun m hm => rd_cut h (n := m) hm
  obtain ⟨ao, c, rfl, _⟩ := h.left.value
  have ms := fun b : Bool => Mods.setCell (fun b => b = R) w ⟨R, 2, none⟩ (.bool b) (.inl rfl)
  clear hno hg herr
  go_enter Try.func68, Try.ntmps68
  go_wp2_with fail
  refine hget.mono ?_
  rintro e w1 ⟨rfl, rfl⟩
  cases bad with
  | true =>
    go_wp2
    go_ret
    exact ⟨0, _, _, true, rfl, by omega, Nat.le_refl _, ⟨h.setBad true, fun b e => e, fun _ => rfl, ms true⟩, fun e => by cases e⟩
  | false =>
    by_cases hec : ec = 0
    · subst hec
      obtain ⟨t, hs, hk, hn⟩ := get_ok s n k HGG.out
      by_cases hbig : most < n
      · have hbig' : (most : Int) < (n : Int) := by omega
        have hno : ∀ n t, n ≤ most → s ≠ lebOf n ++ t := by
          rintro n' t' hm e
          have := (leb_inj n n' t t' hn (by omega) (hs.symm.trans e)).1
          omega
        have HN := hid hno
        clear hs hk hno hcut
        go_wp2
        go_ret
        exact ⟨0, _, _, true, rfl, by omega, Nat.le_refl _, ⟨h.setBad true, fun b e => e, fun _ => rfl, ms true⟩, fun _ n' t' hm e => absurd e (HN.out n' t' hm)⟩
      · have hbig' : (n : Int) ≤ (most : Int) := by omega
        have hin : IntKind.i64.wrap (n : Int) = (n : Int) := wrapN n (by omega)
        have hks : k ≤ s.length := by rw [hs, hk]; simp
        have hd : s.drop k = t := by rw [hs, hk]; simp
        have hcut := hcut k hks
        rw [hd] at hcut
        have HS := hid hs
        clear hs hk hd
        go_wp2_with fail
        refine hcut.mono ?_
        rintro e w2 ⟨rfl, ⟨v2, r2, hv2⟩, m2⟩
        go_wp2
        go_ret
        refine ⟨n, v2, t, false, rfl, by omega, by rw [HS.out]; simp, ⟨r2, hv2, (fun e => by cases e), m2⟩, fun _ n' t' hm e => ?_⟩
        obtain ⟨e1, e2⟩ := leb_inj n n' t t' hn (by omega) (HS.out.symm.trans e)
        exact ⟨rfl, e1, e2⟩
    · have hec' : (ec : Int) ≠ 0 := by omega
      have hec2 : ((ec : Int) != 0) = true := by simp; omega
      have HN := hid (HNO.out hec)
      clear hcut hec
      go_wp2
      go_ret
      exact ⟨0, _, _, true, rfl, by omega, Nat.le_refl _, ⟨h.setBad true, fun b e => e, fun _ => rfl, ms true⟩, fun _ n' t' hm e => absurd e (HN.out n' t' hm)⟩
def RRowRes (s : List UInt8) (last : Int) (bad : Bool) (w : World) (R : Nat) (v : Value) (e : Ending) (w' : World) : Prop :=
  ∃ (u v' : Value) (l : List Int) (s' : List UInt8) (bad' : Bool), e = .returned u ∧ w'.ownsRow w.heap.size 2 1 u l.length (ints .i64 l) ∧ l.length ≤ 4096 ∧ (∀ x ∈ l, x ≤ 9223372036854775807) ∧ s'.length ≤ s.length ∧ Left w R v bad w' v' s' last bad' ∧ (bad = false → ∀ l0 t, GoodL l0 → s = rowOf l0 ++ t → bad' = false ∧ l = l0 ∧ s' = t)
set_option maxRecDepth 100000 in
set_option maxHeartbeats 1000000 in
theorem rd_row {w : World} {R : Nat} {v : Value} {s : List UInt8} {last : Int} {bad : Bool} (h : RdAt w R v s last bad) (hs : s.length ≤ 1000000000000) :
    Calls Try.prog 111 #[.pointer (some ⟨R, 0, none⟩)] w fun e w' => RRowRes s last bad w R v e w' := by
  have c0 := h.cell0
  have hget := getRising_any w v s h.left hs
  obtain ⟨ao, c, rfl, _⟩ := h.left.value
  go_enter Try.func111, Try.ntmps111
  go_wp2_with fail
  refine hget.mono ?_
  rintro e w1 ⟨hres, k1⟩
  have h1 := h.keeps k1
  have c2 := h1.cell2
  have f2 := h1.open_ 2
  have ms := fun b : Bool => (keeps_mods k1).trans (Mods.setCell (fun b => b = R) w1 ⟨R, 2, none⟩ (.bool b) (.inl rfl))
  rcases hres with ⟨v1, k, l, rfl, o1, hk, hl, hx, hcond⟩ | ⟨z, hz, rfl, hcond⟩
  · obtain ⟨a1, c1, rfl⟩ := ownsRow_slice o1
    have HC := hid hcond
    clear hcond
    cases bad with
    | true =>
      go_wp2
      go_ret
      exact ⟨_, _, [], _, true, rfl, World.ownsRow_nil _ _ _ _, by simp, by simp, Nat.le_refl _, ⟨h1.setBad true, fun b e => e, fun _ => rfl, ms true⟩, fun e => by cases e⟩
    | false =>
      go_wp2_with fail
      refine (rd_cut h1 k hk).mono ?_
      rintro e w2 ⟨rfl, ⟨v2, r2, hv2⟩, m2⟩
      have o2 := ownsRow_mods o1 m2 (fun b hb e => by have := (ownsRow_base o1 hb).1; have := h.lt; omega)
      go_wp2
      go_ret
      refine ⟨_, v2, l, _, false, rfl, o2, hl, hx, by simp, ⟨r2, hv2, (fun e => by cases e), (keeps_mods k1).trans m2⟩, fun _ l0 t hg e => ?_⟩
      obtain ⟨e1, e2⟩ := HC.out l0 t hg e
      exact ⟨rfl, e1, e2⟩
  · have hz' : (z : Int) ≠ 0 := by omega
    have hz2 : ((z : Int) != 0) = true := by simp; omega
    have HC := hid hcond
    clear hcond hz
    cases bad with
    | true =>
      go_wp2
      go_ret
      exact ⟨_, _, [], _, true, rfl, World.ownsRow_nil _ _ _ _, by simp, by simp, Nat.le_refl _, ⟨h1.setBad true, fun b e => e, fun _ => rfl, ms true⟩, fun e => by cases e⟩
    | false =>
      go_wp2
      go_ret
      exact ⟨_, _, [], _, true, rfl, World.ownsRow_nil _ _ _ _, by simp, by simp, Nat.le_refl _, ⟨h1.setBad true, fun b e => e, fun _ => rfl, ms true⟩, fun _ l0 t hg e => absurd e (HC.out l0 t hg)⟩
end Go.Proofs.Ytlmlanaobhfmbaa
