/- leb.Reader. -/
import Derived.Test.YtegonlmhaobgcaaFrameB
set_option linter.unusedSimpArgs false
set_option linter.unusedVariables false
namespace Go.Proofs.Ytegonlmhaobgcaa
open Go.RowKit Go.Vb
structure ReaderAt (w : World) (R : Nat) (v : Value) (s : List UInt8) (e : Nat) : Prop where
  block : w.heap[R]? = some (.cells #[v, .int .i64 (e : Int)] 76 (0, 0))
  left : Sl w v 1 s.length (bys s)
  apart : v.ownBlock ≠ some R
theorem ReaderAt.cell0 {w : World} {R : Nat} {v : Value} {s : List UInt8} {e : Nat} (h : ReaderAt w R v s e) : w.cell? ⟨R, 0, none⟩ = some v := by unfold World.cell?; simp only [h.block]; rfl
theorem ReaderAt.cell1 {w : World} {R : Nat} {v : Value} {s : List UInt8} {e : Nat} (h : ReaderAt w R v s e) : w.cell? ⟨R, 1, none⟩ = some (.int .i64 (e : Int)) := by unfold World.cell?; simp only [h.block]; rfl
theorem ReaderAt.open_ {w : World} {R : Nat} {v : Value} {s : List UInt8} {e : Nat} (h : ReaderAt w R v s e) (k : Nat) : w.frozen? ⟨R, k, none⟩ = false := by unfold World.frozen?; simp only [h.block]; simp
theorem ReaderAt.keeps {w w' : World} {R : Nat} {v : Value} {s : List UInt8} {e : Nat} (h : ReaderAt w R v s e) (k : Keeps w w') : ReaderAt w' R v s e := ⟨Keeps.heap k h.block, h.left.keeps k, h.apart⟩
/-- a number that bytes begin with, at most so great. -/
def Num (s : List UInt8) (most n : Nat) (t : List UInt8) : Prop := s = lebOf n ++ t ∧ n ≤ most ∧ n ≤ 18446744073709551615
def IntClosed (s : List UInt8) (most : Nat) (w : World) (C : Nat) (e : Ending) (w' : World) : Prop :=
  (∃ n t, Num s most n t ∧ e = .returned (.tuple #[.int .i64 ((lebOf n).length : Int), .int .i64 0]) ∧ w' = w.setCell ⟨C, 0, none⟩ (.int .i64 (n : Int))) ∨
  ((¬ ∃ n t, Num s most n t) ∧ ∃ k z : Nat, z ≠ 0 ∧ e = .returned (.tuple #[.int .i64 (k : Int), .int .i64 (z : Int)]) ∧ w' = w)
set_option maxRecDepth 100000 in
theorem int_closure (w : World) (R A B C most : Nat) (v : Value) (s : List UInt8) (hmost : most ≤ 4611686018427387904) (h : ReaderAt w R v s 0) (hA : w.cell? ⟨A, 0, none⟩ = some (.pointer (some ⟨R, 0, none⟩))) (hB : w.cell? ⟨B, 0, none⟩ = some (.int .i64 (most : Int))) (hC : w.cell? ⟨C, 0, none⟩ = some (.int .i64 0)) (hCf : w.frozen? ⟨C, 0, none⟩ = false) :
    Calls Try.prog 48 #[.pointer (some ⟨A, 0, none⟩), .pointer (some ⟨B, 0, none⟩), .pointer (some ⟨C, 0, none⟩)] w fun e w' => IntClosed s most w C e w' := by
  have c1 := h.cell1
  have c0 := h.cell0
  have hget := leb_Get w v s h.left
  have herr := getFrom_err s 0 0
  rcases hg : getFrom 0 0 s with ⟨n, k, ec⟩
  rw [hg] at hget herr
  simp only at hget herr
  have hnot : ec ≠ 0 → ¬ ∃ n t, Num s most n t := by
    rintro h0 ⟨n', t', hs, _, hn⟩
    rw [hs, get_put _ _ hn] at hg
    injection hg with _ hg
    injection hg with _ hg
    exact h0 hg.symm
  have HNOT := hid hnot
  have HGG := hid hg
  have hum : IntKind.u64.wrap (most : Int) = (most : Int) := IntWalk.u64_in _ (by omega)
  clear hnot hg
  obtain ⟨ao, c, rfl, _⟩ := h.left.value
  go_enter Try.func48, Try.ntmps48
  go_wp2_with fail
  refine hget.mono ?_
  rintro e w1 ⟨rfl, rfl⟩
  rcases herr with rfl | rfl | rfl
  · obtain ⟨t, hs, hk, hn⟩ := get_ok s n k HGG.out
    by_cases hbig : most < n
    · have hbig' : (most : Int) < (n : Int) := by omega
      have hno : ¬ ∃ n t, Num s most n t := by
        rintro ⟨n', t', h1, h2, h3⟩
        have := leb_inj n n' t t' hn h3 (hs.symm.trans h1)
        omega
      have HNO := hid hno
      clear hs hno hk
      go_wp2
      go_ret2
      exact .inr ⟨HNO.out, k, 32, by omega, rfl, rfl⟩
    · have hbig' : (n : Int) ≤ (most : Int) := by omega
      have hin : IntKind.i64.wrap (n : Int) = (n : Int) := wrapN n (by omega)
      have HY := hid (show Num s most n t from ⟨hs, by omega, hn⟩)
      have HK := hid hk
      clear hs hk
      go_wp2
      go_ret2
      refine .inl ⟨n, t, HY.out, ?_, rfl⟩
      rw [← HK.out]; rfl
  · have HNO := HNOT.out (by omega)
    clear HGG
    go_wp2
    go_ret2
    exact .inr ⟨HNO, k, 31, by omega, rfl, rfl⟩
  · have HNO := HNOT.out (by omega)
    clear HGG
    go_wp2
    go_ret2
    exact .inr ⟨HNO, k, 32, by omega, rfl, rfl⟩
def IntNext (s : List UInt8) (most : Nat) (w : World) (R C : Nat) (v : Value) (e : Ending) (w' : World) : Prop :=
  e = .returned (.tuple #[]) ∧ Mods (fun b => b = R ∨ b = C) w w' ∧
  ((∃ n t v', Num s most n t ∧ w'.cell? ⟨C, 0, none⟩ = some (.int .i64 (n : Int)) ∧ ReaderAt w' R v' t 0 ∧ (∀ b, v'.ownBlock = some b → v.ownBlock = some b)) ∨
   ((¬ ∃ n t, Num s most n t) ∧ w'.cell? ⟨C, 0, none⟩ = some (.int .i64 0) ∧ ∃ z, z ≠ 0 ∧ ReaderAt w' R v s z))
set_option maxRecDepth 100000 in
theorem next_int (w : World) (R A B C most : Nat) (v : Value) (s : List UInt8) (hmost : most ≤ 4611686018427387904) (h : ReaderAt w R v s 0) (hA : w.cell? ⟨A, 0, none⟩ = some (.pointer (some ⟨R, 0, none⟩))) (hB : w.cell? ⟨B, 0, none⟩ = some (.int .i64 (most : Int))) (hC : w.cell? ⟨C, 0, none⟩ = some (.int .i64 0)) (hCf : w.frozen? ⟨C, 0, none⟩ = false) (hRC : R ≠ C) (hvC : v.ownBlock ≠ some C) :
    Calls Try.prog 47 #[.pointer (some ⟨R, 0, none⟩), .func (.func 48) #[] #[.pointer (some ⟨A, 0, none⟩), .pointer (some ⟨B, 0, none⟩), .pointer (some ⟨C, 0, none⟩)]] w fun e w' => IntNext s most w R C v e w' := by
  have c1 := h.cell1
  have hcl := int_closure w R A B C most v s hmost h hA hB hC hCf
  go_enter Try.func47, Try.ntmps47
  go_wp2_with fail
  refine hcl.mono ?_
  rintro e w1 (⟨n, t, hn, rfl, hw⟩ | ⟨hno, k, z, hz, rfl, rfl⟩)
  · have h1 : ReaderAt w1 R v s 0 := by
      rw [hw]
      exact ⟨(heap_setCell_other w ⟨C, 0, none⟩ R _ (fun e => hRC e)).trans h.block, h.left.mods (Mods.setCell (fun b => b = C) w ⟨C, 0, none⟩ _ (.inl rfl)) (fun b hb e => hvC (by rw [hb, e])), h.apart⟩
    have hc1 := h1.cell1
    have hc0 := h1.cell0
    have hf0 := h1.open_ 0
    have hCw : w1.cell? ⟨C, 0, none⟩ = some (.int .i64 (n : Int)) := by rw [hw]; exact World.cell?_setCell_same w ⟨C, 0, none⟩ _ hC
    have hmC : Mods (fun b => b = R ∨ b = C) w w1 := by rw [hw]; exact Mods.setCell _ _ _ _ (.inl (.inr rfl))
    have hsl : s.length = (lebOf n).length + t.length := by rw [hn.1]; simp
    obtain ⟨ao, c, rfl, hlc, _⟩ := h1.left.value
    have S64 : ∀ w, (sizeOf 5).run Try.prog w = .ok 1 w := fun w => by kernel_rfl
    obtain ⟨X3, s31, s32, r3, hX⟩ := slice_low (P := Try.prog) (t := 30) (e := 5) (size := 1) Try.underlying30 S64 ao s.length c (lebOf n).length (by omega)
    have R3 : Sl w1 (.slice X3 t.length (c - (lebOf n).length)) 1 t.length (bys t) := by
      have := r3 _ _ h1.left
      rw [show s.length - (lebOf n).length = t.length by omega] at this
      have e : (bys s).drop ((lebOf n).length * 1) = bys t := by rw [Nat.mul_one, hn.1, bys_append, List.drop_left' (by rw [bys_length])]
      rw [e] at this
      exact this
    rw [show s.length - (lebOf n).length = t.length by omega] at s31 s32 hX
    have hle : (lebOf n).length ≤ s.length := by omega
    have HN := hid hn
    generalize (lebOf n).length = q at *
    have hne : (Value.slice X3 t.length (c - q)).ownBlock ≠ some R := fun e => h1.apart (hX R e)
    clear r3 hn hw hsl
    go_wp2
    go_end0
    refine ⟨rfl, hmC.trans (Mods.setCell _ _ _ _ (.inl (.inl rfl))), .inl ⟨n, t, _, HN.out, ?_, ⟨heap_setCell_same w1 R 0 _ 76 _ h1.block, R3.mods (Mods.setCell (fun b => b = R) w1 ⟨R, 0, none⟩ _ (.inl rfl)) (fun b hb e => hne (by rw [hb, e])), hne⟩, hX⟩⟩
    rw [World.cell?_of_block (heap_setCell_other w1 ⟨R, 0, none⟩ C _ (fun e => hRC e.symm))]
    exact hCw
  · have c0 := h.cell0
    have hf1 := h.open_ 1
    have hzz : ((z : Int) == 0) = false := by rw [beq_eq_false_iff_ne]; omega
    have hzz' : ((z : Int) != 0) = true := by simp; omega
    have HNO := hid hno
    clear hno
    go_wp2
    refine bodyPost_ret (results_none rfl _ _ _) rfl ?_
    refine ⟨rfl, Mods.setCell _ _ _ _ (.inl (.inl rfl)), .inr ⟨HNO.out, ?_, z, hz, ⟨heap_setCell_same w1 R 1 _ 76 _ h.block, h.left.mods (Mods.setCell (fun b => b = R) w1 ⟨R, 1, none⟩ _ (.inl rfl)) (fun b hb e => h.apart (by rw [hb, e])), h.apart⟩⟩⟩
    rw [World.cell?_of_block (heap_setCell_other w1 ⟨R, 1, none⟩ C _ (fun e => hRC e.symm))]
    exact hC
def IntRes (s : List UInt8) (most : Nat) (w : World) (R : Nat) (v : Value) (e : Ending) (w' : World) : Prop :=
  Mods (fun b => b = R) w w' ∧
  ((∃ n t v', Num s most n t ∧ e = .returned (.int .i64 (n : Int)) ∧ ReaderAt w' R v' t 0 ∧ (∀ b, v'.ownBlock = some b → v.ownBlock = some b)) ∨
   ((¬ ∃ n t, Num s most n t) ∧ e = .returned (.int .i64 0) ∧ ∃ z, z ≠ 0 ∧ ReaderAt w' R v s z))
theorem block_lt {w : World} {v : Value} {n : Nat} {xs : List Value} (h : Sl w v 1 n xs) (hx : 0 < xs.length) : ∀ b, v.ownBlock = some b → b < w.heap.size := by
  intro b hb
  obtain ⟨ao, c, rfl, _⟩ := h.value
  obtain ⟨g, off, rfl, hg, _⟩ := h.open hx
  obtain rfl : g = b := by simpa [Value.ownBlock] using hb
  exact hg
set_option maxRecDepth 100000 in
theorem int_any (w : World) (R most : Nat) (v : Value) (s : List UInt8) (hmost : most ≤ 4611686018427387904) (h : ReaderAt w R v s 0) (hvw : ∀ b, v.ownBlock = some b → b < w.heap.size) :
    Calls Try.prog 29 #[.pointer (some ⟨R, 0, none⟩), .int .i64 (most : Int)] w fun e w' => IntRes s most w R v e w' := by
  have hRw := (Array.getElem?_eq_some_iff.1 h.block).1
  obtain ⟨w3, e3⟩ : ∃ w3, w3 = (((w.alloc (.cells #[.pointer (some ⟨R, 0, none⟩)] 56)).alloc (.cells #[.int .i64 (most : Int)] 3)).alloc (.cells #[.int .i64 0] 3)) := ⟨_, rfl⟩
  have k3 : Keeps w w3 := by
    rw [e3]
    exact Keeps.trans (Keeps.trans ((Below.refl _ _).alloc (Nat.le_refl _) _) ((Below.refl _ _).alloc (Nat.le_refl _) _)) ((Below.refl _ _).alloc (Nat.le_refl _) _)
  have cn : ∀ (w : World) (u : Value) (t : TypeId), (w.alloc (.cells #[u] t)).cell? ⟨w.heap.size, 0, none⟩ = some u ∧ (w.alloc (.cells #[u] t)).frozen? ⟨w.heap.size, 0, none⟩ = false := fun w u t => by
    have hb := heap_alloc_new w (.cells #[u] t)
    unfold World.cell? World.frozen?
    simp only [hb]
    exact ⟨rfl, rfl⟩
  have ka : ∀ (w : World) (o : Obj), Keeps w (w.alloc o) := fun w o => (Below.refl _ _).alloc (Nat.le_refl _) o
  have hA : w3.cell? ⟨w.heap.size, 0, none⟩ = some (.pointer (some ⟨R, 0, none⟩)) := by
    rw [e3]
    exact Keeps.cell (ka _ _) (Keeps.cell (ka _ _) (cn w _ _).1)
  have hB : w3.cell? ⟨w.heap.size + 1, 0, none⟩ = some (.int .i64 (most : Int)) := by
    rw [e3]
    have := (cn (w.alloc (.cells #[.pointer (some ⟨R, 0, none⟩)] 56)) (.int .i64 (most : Int)) 3).1
    rw [World.size_alloc] at this
    exact Keeps.cell (ka _ _) this
  have hC : w3.cell? ⟨w.heap.size + 1 + 1, 0, none⟩ = some (.int .i64 0) ∧ w3.frozen? ⟨w.heap.size + 1 + 1, 0, none⟩ = false := by
    rw [e3]
    have := cn ((w.alloc (.cells #[.pointer (some ⟨R, 0, none⟩)] 56)).alloc (.cells #[.int .i64 (most : Int)] 3)) (.int .i64 0) 3
    rw [World.size_alloc, World.size_alloc] at this
    exact this
  obtain ⟨hC, hCf⟩ := hC
  have hnx := next_int w3 R w.heap.size (w.heap.size + 1) (w.heap.size + 1 + 1) most v s hmost (h.keeps k3) hA hB hC hCf (by omega) (fun e => by have := hvw _ e; omega)
  have E3 := hid e3
  rw [e3] at hnx hA
  clear hB hC hCf cn ka e3
  go_enter Try.func29, Try.ntmps29
  go_wp2_with fail
  refine hnx.mono ?_
  rintro e w4 ⟨rfl, m4, hor⟩
  have hM : Mods (fun b => b = R) w w4 := by
    have k3' := k3
    rw [E3.out] at k3'
    exact (keeps_mods k3').then m4 (fun b hb h => by rcases h with h | h; exact h; omega)
  rcases hor with ⟨n, t, v', hn, hc, hr, hv'⟩ | ⟨hno, hc, z, hz, hr⟩
  · have HN := hid hn
    clear hn
    go_wp2
    go_ret
    exact ⟨hM, .inl ⟨n, t, v', HN.out, rfl, hr, hv'⟩⟩
  · have HNO := hid hno
    clear hno
    go_wp2
    go_ret
    exact ⟨hM, .inr ⟨HNO.out, rfl, z, hz, hr⟩⟩
def BytesClosed (s : List UInt8) (m R : Nat) (w : World) (C : Nat) (e : Ending) (w' : World) : Prop :=
  e = .returned (.tuple #[.int .i64 (m : Int), .int .i64 0]) ∧ Mods (fun b => b = C) w w' ∧ ∃ v', w'.cell? ⟨C, 0, none⟩ = some v' ∧ Sl w' v' 1 m (bys (s.take m)) ∧ ∀ b, v'.ownBlock = some b → w.heap.size ≤ b
set_option maxRecDepth 100000 in
set_option maxHeartbeats 1000000 in
theorem bytes_closure (w : World) (R A B C m : Nat) (v : Value) (s : List UInt8) (hm : m ≤ s.length) (hs : s.length ≤ 70368744177664) (h : ReaderAt w R v s 0) (hA : w.cell? ⟨A, 0, none⟩ = some (.pointer (some ⟨R, 0, none⟩))) (hB : w.cell? ⟨B, 0, none⟩ = some (.int .i64 (m : Int))) (hC : w.cell? ⟨C, 0, none⟩ = some (.slice none 0 0)) (hCf : w.frozen? ⟨C, 0, none⟩ = false) (hBC : B ≠ C) :
    Calls Try.prog 49 #[.pointer (some ⟨B, 0, none⟩), .pointer (some ⟨A, 0, none⟩), .pointer (some ⟨C, 0, none⟩)] w fun e w' => BytesClosed s m R w C e w' := by
  have c0 := h.cell0
  have hCw := World.block_lt_of_cell? w _ hC
  obtain ⟨ao, c, rfl, hlc, _⟩ := h.left.value
  go_enter Try.func49, Try.ntmps49
  by_cases h0 : m = 0
  · subst h0
    go_wp2
    go_ret2
    exact ⟨rfl, Mods.refl _ _, _, hC, Sl.nil _ _, fun b hb => by simp [Value.ownBlock] at hb⟩
  · have h0' : (0 : Int) < (m : Int) := by omega
    have hms : (m : Int) ≤ (s.length : Int) := by omega
    have S64 : ∀ w, (sizeOf 5).run Try.prog w = .ok 1 w := fun w => by kernel_rfl
    obtain ⟨X4, s41, s42, r4, hX4⟩ := slice_high (P := Try.prog) (t := 30) (e := 5) (size := 1) Try.underlying30 S64 ao s.length c m hm hlc
    have hl : (s.take m).length = m := by simp; omega
    have R4 : Sl w (.slice X4 m c) 1 (s.take m).length (bys (s.take m)) := by
      have := r4 _ _ h.left
      rw [hl]
      have e : bys (s.take m) = (bys s).take (m * 1) := by simp [bys]
      rw [e]; exact this
    have hcl := fun wx (kx : Keeps w wx) => clone_any wx _ (s.take m) (R4.keeps kx) (by rw [hl]; omega)
    have HCL := hid hcl
    have HL := hid hl
    clear r4 hcl hl R4 hX4
    go_wp2_with fail
    go_quiet (fail)
    rename_i nq
    have kq : Keeps w (w.drewN nq).drew := (keeps_drewN w nq).trans (keeps_drewN (w.drewN nq) 1)
    have hA' := kq.cell hA
    have hB' := kq.cell hB
    have hc0' := kq.cell c0
    have hC' := kq.cell hC
    have hcl2 := HCL.out _ kq
    go_wp2_with fail
    go_region_law (first
      | (rw [if_pos (by simp [Region.wanted])]; go_simp; go_at_call 46; refine hcl2.mono ?_; rintro e w3 ⟨v3, rfl, o3, k3⟩; have k03 := kq.trans k3; have hC3 := k03.cell hC; have hf3 : w3.frozen? ⟨C, 0, none⟩ = false := (Below.frozen k03 hCw).trans hCf; have hB3 := k03.cell hB; obtain ⟨a3, c3, rfl⟩ := ownsRow_slice o3))
    all_goals
      have hne : ∀ b, (Value.slice a3 (s.take m).length c3).ownBlock = some b → w.heap.size ≤ b := fun b hb => Nat.le_trans kq.size (ownsRow_base o3 hb).1
      have o3' := ownsRow_sl o3
      rw [HL.out] at o3' hne
      have hB4 : (w3.setCell ⟨C, 0, none⟩ (.slice a3 m c3)).cell? ⟨B, 0, none⟩ = some (.int .i64 (m : Int)) := by
        rw [World.cell?_of_block (heap_setCell_other w3 ⟨C, 0, none⟩ B _ hBC)]
        exact hB3
      go_wp2
      go_ret2
      refine ⟨rfl, (keeps_mods k03).trans (Mods.setCell _ _ _ _ (.inl rfl)), _, World.cell?_setCell_same w3 ⟨C, 0, none⟩ _ hC3, o3'.mods (Mods.setCell (fun b => b = C) w3 ⟨C, 0, none⟩ _ (.inl rfl)) (fun b hb e => by have := hne b hb; omega), hne⟩
end Go.Proofs.Ytegonlmhaobgcaa
