/- leb.Reader: New, Bytes, Err, Left. -/
import Derived.Test.YtegonlmhaobgcaaReadA
set_option linter.unusedSimpArgs false
set_option linter.unusedVariables false
namespace Go.Proofs.Ytegonlmhaobgcaa
open Go.RowKit Go.Vb

theorem reader_New (w : World) (v : Value) (s : List UInt8) (hv : Sl w v 1 s.length (bys s)) (hl : s.length ≤ 70368744177664) :
    Calls Try.prog 28 #[v] w fun e w' => ∃ R v', e = .returned (.pointer (some ⟨R, 0, none⟩)) ∧ ReaderAt w' R v' s 0 ∧ w.heap.size ≤ R ∧ (∀ b, v'.ownBlock = some b → w.heap.size ≤ b ∧ b < R) ∧ Keeps w w' := by
  obtain ⟨ao, c, rfl, _⟩ := hv.value
  have hcl := clone_any w _ s hv hl
  go_enter Try.func28, Try.ntmps28
  go_wp2_with fail
  refine hcl.mono ?_
  rintro e w1 ⟨v1, rfl, o1, k1⟩
  have hb := fun b hb => ownsRow_base o1 (b := b) hb
  have s1 := ownsRow_sl o1
  obtain ⟨a1, c1, rfl⟩ := ownsRow_slice o1
  go_wp2
  go_ret
  have ka : Keeps w1 (w1.alloc (.cells #[.slice a1 s.length c1, .int .i64 0] 76)) := (Below.refl _ _).alloc (Nat.le_refl _) _
  exact ⟨w1.heap.size, _, rfl, ⟨heap_alloc_new w1 _, s1.keeps ka, fun e => by have := (hb _ e).2; omega⟩, k1.size, hb, k1.trans ka⟩
theorem reader_Err {w : World} {R : Nat} {v : Value} {s : List UInt8} {z : Nat} (h : ReaderAt w R v s z) :
    Calls Try.prog 30 #[.pointer (some ⟨R, 0, none⟩)] w fun e w' => e = .returned (.int .i64 (z : Int)) ∧ w' = w := by
  have c1 := h.cell1
  go_enter Try.func30, Try.ntmps30
  go_wp2
  go_ret
  exact ⟨rfl, rfl⟩
theorem reader_Left {w : World} {R : Nat} {v : Value} {s : List UInt8} (h : ReaderAt w R v s 0) :
    Calls Try.prog 31 #[.pointer (some ⟨R, 0, none⟩)] w fun e w' => e = .returned (.int .i64 (s.length : Int)) ∧ w' = w := by
  have c1 := h.cell1
  have c0 := h.cell0
  obtain ⟨ao, c, rfl, _⟩ := h.left.value
  go_enter Try.func31, Try.ntmps31
  go_wp2
  go_ret
  exact ⟨rfl, rfl⟩
def BytesNext (s : List UInt8) (m : Nat) (w : World) (R C : Nat) (v : Value) (e : Ending) (w' : World) : Prop :=
  e = .returned (.tuple #[]) ∧ Mods (fun b => b = R ∨ b = C) w w' ∧ (∃ v', ReaderAt w' R v' (s.drop m) 0 ∧ (∀ b, v'.ownBlock = some b → v.ownBlock = some b)) ∧
  ∃ u, w'.cell? ⟨C, 0, none⟩ = some u ∧ Sl w' u 1 m (bys (s.take m)) ∧ ∀ b, u.ownBlock = some b → w.heap.size ≤ b
set_option maxRecDepth 100000 in
theorem next_bytes (w : World) (R A B C m : Nat) (v : Value) (s : List UInt8) (hm : m ≤ s.length) (hs : s.length ≤ 70368744177664) (h : ReaderAt w R v s 0) (hA : w.cell? ⟨A, 0, none⟩ = some (.pointer (some ⟨R, 0, none⟩))) (hB : w.cell? ⟨B, 0, none⟩ = some (.int .i64 (m : Int))) (hC : w.cell? ⟨C, 0, none⟩ = some (.slice none 0 0)) (hCf : w.frozen? ⟨C, 0, none⟩ = false) (hBC : B ≠ C) (hRC : R ≠ C) (hvC : v.ownBlock ≠ some C) :
    Calls Try.prog 47 #[.pointer (some ⟨R, 0, none⟩), .func (.func 49) #[] #[.pointer (some ⟨B, 0, none⟩), .pointer (some ⟨A, 0, none⟩), .pointer (some ⟨C, 0, none⟩)]] w fun e w' => BytesNext s m w R C v e w' := by
  have c1 := h.cell1
  have hRw := (Array.getElem?_eq_some_iff.1 h.block).1
  have hcl := bytes_closure w R A B C m v s hm hs h hA hB hC hCf hBC
  go_enter Try.func47, Try.ntmps47
  go_wp2_with fail
  refine hcl.mono ?_
  rintro e w1 ⟨rfl, m1, u, hu, hus, hub⟩
  have h1 : ReaderAt w1 R v s 0 := ⟨(m1.block R hRw hRC).trans h.block, h.left.mods m1 (fun b hb e => hvC (by rw [hb, e])), h.apart⟩
  have hc1 := h1.cell1
  have hc0 := h1.cell0
  have hf0 := h1.open_ 0
  obtain ⟨ao, c, rfl, hlc, _⟩ := h1.left.value
  have S64 : ∀ w, (sizeOf 5).run Try.prog w = .ok 1 w := fun w => by kernel_rfl
  obtain ⟨X3, s31, s32, r3, hX⟩ := slice_low (P := Try.prog) (t := 30) (e := 5) (size := 1) Try.underlying30 S64 ao s.length c m hm
  have hdl : (s.drop m).length = s.length - m := by simp
  have R3 : Sl w1 (.slice X3 (s.length - m) (c - m)) 1 (s.drop m).length (bys (s.drop m)) := by
    have := r3 _ _ h1.left
    have e : (bys s).drop (m * 1) = bys (s.drop m) := by simp [bys]
    rw [e] at this
    rw [hdl]; exact this
  have hne : (Value.slice X3 (s.length - m) (c - m)).ownBlock ≠ some R := fun e => h1.apart (hX R e)
  clear r3 hdl
  go_wp2
  go_end0
  have ms : ∀ v, Mods (fun b => b = R) w1 (w1.setCell ⟨R, 0, none⟩ v) := fun v => Mods.setCell _ _ _ _ (.inl rfl)
  refine ⟨rfl, (m1.mono (fun k _ h => .inr h)).trans ((ms _).mono (fun k _ h => .inl h)), ⟨_, ⟨heap_setCell_same w1 R 0 _ 76 _ h1.block, R3.mods (ms _) (fun b hb e => hne (by rw [hb, e])), hne⟩, hX⟩, u, ?_, hus.mods (ms _) (fun b hb e => by have := hub b hb; omega), hub⟩
  rw [World.cell?_of_block (heap_setCell_other w1 ⟨R, 0, none⟩ C _ (fun e => hRC e.symm))]
  exact hu
set_option maxRecDepth 100000 in
theorem bytes_read (w : World) (R m : Nat) (v : Value) (s : List UInt8) (hm : m ≤ s.length) (hs : s.length ≤ 70368744177664) (h : ReaderAt w R v s 0) (hvw : ∀ b, v.ownBlock = some b → b < w.heap.size) :
    Calls Try.prog 32 #[.pointer (some ⟨R, 0, none⟩), .int .i64 (m : Int)] w fun e w' => ∃ u, e = .returned u ∧ Sl w' u 1 m (bys (s.take m)) ∧ (∀ b, u.ownBlock = some b → w.heap.size ≤ b) ∧ Mods (fun b => b = R) w w' := by
  have hRw := (Array.getElem?_eq_some_iff.1 h.block).1
  obtain ⟨w3, e3⟩ : ∃ w3, w3 = (((w.alloc (.cells #[.pointer (some ⟨R, 0, none⟩)] 56)).alloc (.cells #[.int .i64 (m : Int)] 3)).alloc (.cells #[.slice none 0 0] 30)) := ⟨_, rfl⟩
  have k3 : Keeps w w3 := by
    rw [e3]
    exact Keeps.trans (Keeps.trans ((Below.refl _ _).alloc (Nat.le_refl _) _) ((Below.refl _ _).alloc (Nat.le_refl _) _)) ((Below.refl _ _).alloc (Nat.le_refl _) _)
  have cn : ∀ (w : World) (u : Value) (t : TypeId), (w.alloc (.cells #[u] t)).cell? ⟨w.heap.size, 0, none⟩ = some u ∧ (w.alloc (.cells #[u] t)).frozen? ⟨w.heap.size, 0, none⟩ = false := fun w u t => by
    have hb := heap_alloc_new w (.cells #[u] t)
    unfold World.cell? World.frozen?
    simp only [hb]
    exact ⟨rfl, rfl⟩
  have ka : ∀ (w : World) (o : Obj), Keeps w (w.alloc o) := fun w o => (Below.refl _ _).alloc (Nat.le_refl _) o
  have hA : w3.cell? ⟨w.heap.size, 0, none⟩ = some (.pointer (some ⟨R, 0, none⟩)) := by
    rw [e3]
    exact Keeps.cell (ka _ _) (Keeps.cell (ka _ _) (cn w _ _).1)
  have hB : w3.cell? ⟨w.heap.size + 1, 0, none⟩ = some (.int .i64 (m : Int)) := by
    rw [e3]
    have := (cn (w.alloc (.cells #[.pointer (some ⟨R, 0, none⟩)] 56)) (.int .i64 (m : Int)) 3).1
    rw [World.size_alloc] at this
    exact Keeps.cell (ka _ _) this
  have hC : w3.cell? ⟨w.heap.size + 1 + 1, 0, none⟩ = some (.slice none 0 0) ∧ w3.frozen? ⟨w.heap.size + 1 + 1, 0, none⟩ = false := by
    rw [e3]
    have := cn ((w.alloc (.cells #[.pointer (some ⟨R, 0, none⟩)] 56)).alloc (.cells #[.int .i64 (m : Int)] 3)) (.slice none 0 0) 30
    rw [World.size_alloc, World.size_alloc] at this
    exact this
  obtain ⟨hC, hCf⟩ := hC
  have hnx := next_bytes w3 R w.heap.size (w.heap.size + 1) (w.heap.size + 1 + 1) m v s hm hs (h.keeps k3) hA hB hC hCf (by omega) (by omega) (fun e => by have := hvw _ e; omega)
  have E3 := hid e3
  rw [e3] at hnx hA
  clear hB hC hCf cn ka e3
  go_enter Try.func32, Try.ntmps32
  go_wp2_with fail
  refine hnx.mono ?_
  rintro e w4 ⟨rfl, m4, ⟨v', hr, hv'⟩, u, hu, hus, hub⟩
  have k3' := k3
  rw [E3.out] at k3'
  have hM : Mods (fun b => b = R) w w4 := (keeps_mods k3').then m4 (fun b hb h => by rcases h with h | h; exact h; omega)
  have hub' := fun b hb => Nat.le_trans k3'.size (hub b hb)
  obtain ⟨ua, uc, rfl, _⟩ := hus.value
  clear hub
  go_wp2
  go_ret
  exact ⟨_, rfl, hus, hub', hM⟩
end Go.Proofs.Ytegonlmhaobgcaa
