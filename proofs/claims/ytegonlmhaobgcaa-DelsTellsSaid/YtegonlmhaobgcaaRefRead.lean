/- The document's Reader. -/
import Derived.Test.YtegonlmhaobgcaaRefLebB
import Derived.Test.YtegonlmhaobgcaaReadA
import Derived.Deep.RegionHeldLaw
set_option linter.unusedSimpArgs false
set_option linter.unusedVariables false
namespace Go.Proofs.Ytegonlmhaobgcaa
open Go.RowKit Go.Vb
structure RRAt (w : World) (R : Nat) (v : Value) (B : List UInt8) (p z : Nat) : Prop where
  block : w.heap[R]? = some (.cells #[v, .int .i64 (p : Int), .int .i64 (z : Int)] 66 (0, 0))
  left : Sl w v 1 B.length (bys B)
  apart : v.ownBlock ≠ some R
  place : p ≤ B.length
section
variable {w : World} {R : Nat} {v : Value} {B : List UInt8} {p z : Nat}
theorem RRAt.cell0 (h : RRAt w R v B p z) : w.cell? ⟨R, 0, none⟩ = some v := by unfold World.cell?; simp only [h.block]; rfl
theorem RRAt.cell1 (h : RRAt w R v B p z) : w.cell? ⟨R, 1, none⟩ = some (.int .i64 (p : Int)) := by unfold World.cell?; simp only [h.block]; rfl
theorem RRAt.cell2 (h : RRAt w R v B p z) : w.cell? ⟨R, 2, none⟩ = some (.int .i64 (z : Int)) := by unfold World.cell?; simp only [h.block]; rfl
theorem RRAt.open_ (h : RRAt w R v B p z) (k : Nat) : w.frozen? ⟨R, k, none⟩ = false := by unfold World.frozen?; simp only [h.block]; simp
theorem RRAt.keeps {w' : World} (h : RRAt w R v B p z) (k : Keeps w w') : RRAt w' R v B p z := ⟨Keeps.heap k h.block, h.left.keeps k, h.apart, h.place⟩
theorem RRAt.lt (h : RRAt w R v B p z) : R < w.heap.size := (Array.getElem?_eq_some_iff.1 h.block).1
end
theorem RRAt.setE {w : World} {R : Nat} {v : Value} {B : List UInt8} {p z : Nat} (h : RRAt w R v B p z) (y : Nat) : RRAt (w.setCell ⟨R, 2, none⟩ (.int .i64 (y : Int))) R v B p y :=
  ⟨heap_setCell_same w R 2 _ 66 _ h.block, h.left.mods (Mods.setCell (fun b => b = R) w ⟨R, 2, none⟩ _ (.inl rfl)) (fun b hb e => h.apart (by rw [hb, e])), h.apart, h.place⟩
theorem RRAt.setP {w : World} {R : Nat} {v : Value} {B : List UInt8} {p z : Nat} (h : RRAt w R v B p z) (q : Nat) (hq : q ≤ B.length) : RRAt (w.setCell ⟨R, 1, none⟩ (.int .i64 (q : Int))) R v B q z :=
  ⟨heap_setCell_same w R 1 _ 66 _ h.block, h.left.mods (Mods.setCell (fun b => b = R) w ⟨R, 1, none⟩ _ (.inl rfl)) (fun b hb e => h.apart (by rw [hb, e])), h.apart, hq⟩
set_option maxRecDepth 100000 in
theorem rr_New (w : World) (v : Value) (s : List UInt8) (hv : Sl w v 1 s.length (bys s)) (hl : s.length ≤ 70368744177664) :
    Calls Try.prog 34 #[v] w fun e w' => ∃ R v', e = .returned (.pointer (some ⟨R, 0, none⟩)) ∧ RRAt w' R v' s 0 0 ∧ w.heap.size ≤ R ∧ (∀ b, v'.ownBlock = some b → w.heap.size ≤ b ∧ b < R) ∧ Keeps w w' := by
  obtain ⟨i0, hi, hz0, hz1, hz2⟩ := info_parts infoByte
  obtain ⟨ao, c, rfl, _⟩ := hv.value
  have ka : Keeps w (w.alloc (.cells #[] 5)) := (Below.refl _ _).alloc (Nat.le_refl _) _
  have hsa := hv.keeps ka
  go_enter Try.func34, Try.ntmps34
  go_wp2_with (at_builtin; refine wpList_append_sl _ rfl _ _ 30 rfl w.heap.size 5 i0 (.int .u8 0) 1 1 Try.underlying30 hi hz0 hz1 hz2 rfl (by decide) _ 0 [] rfl (World.ownsRow_lit w #[] 0 (Nat.le_refl _) (by unfold maxLen; omega) rfl) _ s.length (bys s) rfl hsa (bys_one _) (by unfold maxLen; omega) (by omega) (by simp) ?_)
  intro v4 w4 o4 hg4 _ _
  have k4 : Keeps w w4 := ka.grown hg4 (by simp) (fun k e => by simp [Value.ownBlock] at e; omega)
  have hb := fun b hb => ownsRow_base o4 (b := b) hb
  have s4 : Sl w4 v4 1 s.length (bys s) := by simpa using ownsRow_sl o4
  obtain ⟨ao4, c4, rfl⟩ := ownsRow_slice o4
  go_wp2
  go_ret
  have k5 : Keeps w4 (w4.alloc (.cells #[.slice ao4 s.length c4, .int .i64 0, .int .i64 0] 66)) := (Below.refl _ _).alloc (Nat.le_refl _) _
  exact ⟨w4.heap.size, _, rfl, ⟨heap_alloc_new w4 _, s4.keeps k5, fun e => by have := (hb _ e).2; omega, by omega⟩, k4.size, hb, k4.trans k5⟩
theorem rr_Left {w : World} {R : Nat} {v : Value} {B : List UInt8} {p : Nat} (h : RRAt w R v B p 0) (hB : B.length ≤ 70368744177664) :
    Calls Try.prog 36 #[.pointer (some ⟨R, 0, none⟩)] w fun e w' => e = .returned (.int .i64 ((B.length - p : Nat) : Int)) ∧ ∃ n, w' = w.drewN n := by
  have c0 := h.cell0
  have c1 := h.cell1
  have c2 := h.cell2
  have hp := h.place
  obtain ⟨ao, c, rfl, _⟩ := h.left.value
  have e1 : (B.length : Int) - (p : Int) = ((B.length - p : Nat) : Int) := by omega
  have e2 : IntKind.i64.wrap ((B.length - p : Nat) : Int) = ((B.length - p : Nat) : Int) := wrapN _ (by omega)
  generalize B.length - p = q at *
  go_enter Try.func36, Try.ntmps36
  go_wp2_with fail
  go_quiet (fail)
  go_wp2
  go_ret
  exact ⟨rfl, _, rfl⟩
def RIntRes (B : List UInt8) (p most : Nat) (w : World) (R : Nat) (v : Value) (e : Ending) (w' : World) : Prop :=
  Mods (fun b => b = R) w w' ∧
  ((∃ n t q, Num (B.drop p) most n t ∧ e = .returned (.int .i64 (n : Int)) ∧ RRAt w' R v B q 0 ∧ t = B.drop q) ∨
   ((¬ ∃ n t, Num (B.drop p) most n t) ∧ e = .returned (.int .i64 0) ∧ ∃ z, z ≠ 0 ∧ RRAt w' R v B p z))
set_option maxRecDepth 100000 in
set_option maxHeartbeats 1000000 in
theorem rr_Int {w : World} {R : Nat} {v : Value} {B : List UInt8} {p : Nat} (most : Nat) (h : RRAt w R v B p 0) (hB : B.length ≤ 70368744177664) (hmost : most ≤ 4611686018427387904) :
    Calls Try.prog 35 #[.pointer (some ⟨R, 0, none⟩), .int .i64 (most : Int)] w fun e w' => RIntRes B p most w R v e w' := by
  have c0 := h.cell0
  have c1 := h.cell1
  have c2 := h.cell2
  have hp := h.place
  obtain ⟨ao, c, rfl, hlc, _⟩ := h.left.value
  have S64 : ∀ w, (sizeOf 5).run Try.prog w = .ok 1 w := fun w => by kernel_rfl
  obtain ⟨X3, s31, s32, r3, hX⟩ := slice_low (P := Try.prog) (t := 30) (e := 5) (size := 1) Try.underlying30 S64 ao B.length c p hp
  obtain ⟨s, hs⟩ : ∃ s, s = B.drop p := ⟨_, rfl⟩
  have hsl : s.length = B.length - p := by rw [hs]; simp
  have R3 : Sl w (.slice X3 s.length (c - p)) 1 s.length (bys s) := by
    have := r3 _ _ h.left
    rw [← hsl] at this
    have e : (bys B).drop (p * 1) = bys s := by rw [Nat.mul_one, hs]; simp [bys]
    rw [e] at this
    exact this
  rw [← hsl] at s31 s32
  have hget := fun m => ref_Get (w.drewN m) _ s (R3.keeps (keeps_drewN w m))
  have herr := getFrom_err s 0 0
  rcases hg : getFrom 0 0 s with ⟨n, k, ec⟩
  simp only [hg] at hget herr
  have hnot : ec ≠ 0 → ¬ ∃ n t, Num s most n t := by
    rintro h0 ⟨n', t', hs, _, hn⟩
    rw [hs, get_put _ _ hn] at hg
    injection hg with _ hg
    injection hg with _ hg
    exact h0 hg.symm
  have hum : IntKind.u64.wrap (most : Int) = (most : Int) := IntWalk.u64_in _ (by omega)
  have HNOT := hid hnot
  have HGG := hid hg
  have HS := hid hs
  have HSL := hid hsl
  have HGET := hid hget
  clear hnot hg hs hsl hget r3
  unfold RIntRes
  rw [← HS.out]
  go_enter Try.func35, Try.ntmps35
  go_wp2_with fail
  go_quiet ((go_at_call 51; exact Calls.quiet_of_same (HGET.out _)))
  rename_i nq
  have kq : Keeps w (w.drewN nq) := keeps_drewN w nq
  have h5 := h.keeps kq
  generalize w.drewN nq = w5 at *
  have hf2 := h5.open_ 2
  have hf1 := h5.open_ 1
  have b0 := h5.cell0
  have b1 := h5.cell1
  have b2 := h5.cell2
  have mq : Mods (fun b => b = R) w w5 := keeps_mods kq
  rcases herr with rfl | rfl | rfl
  · obtain ⟨t, hs, hk, hn⟩ := get_ok s n k HGG.out
    by_cases hbig : most < n
    · have hbig' : (most : Int) < (n : Int) := by omega
      have hno : ¬ ∃ n t, Num s most n t := by
        rintro ⟨n', t', h1, h2, h3⟩
        have := leb_inj n n' t t' hn h3 (hs.symm.trans h1)
        omega
      have HNO := hid hno
      clear hs hno hk
      go_wp2
      go_ret
      exact ⟨mq.trans (Mods.setCell _ _ _ _ (.inl rfl)), .inr ⟨HNO.out, rfl, 32, by omega, h5.setE 32⟩⟩
    · have hbig' : (n : Int) ≤ (most : Int) := by omega
      have hin : IntKind.i64.wrap (n : Int) = (n : Int) := wrapN n (by omega)
      have hkl : k + t.length = s.length := by rw [hs, hk]; simp
      obtain ⟨q, hq⟩ : ∃ q, q = p + k := ⟨_, rfl⟩
      have hq' : (p : Int) + (k : Int) = (q : Int) := by omega
      have hqB : q ≤ B.length := by have := HSL.out; omega
      have hwq : IntKind.i64.wrap (q : Int) = (q : Int) := wrapN q (by omega)
      have ht : t = B.drop q := by
        rw [hq, ← List.drop_drop, ← HS.out, hs, hk]; simp
      have HY := hid (show Num s most n t from ⟨hs, by omega, hn⟩)
      have HT := hid ht
      clear hs hk ht hkl hq
      go_wp2
      go_ret
      exact ⟨mq.trans (Mods.setCell _ _ _ _ (.inl rfl)), .inl ⟨n, t, q, HY.out, rfl, h5.setP q hqB, HT.out⟩⟩
  · have HNO := HNOT.out (by omega)
    clear HGG
    go_wp2
    go_ret
    exact ⟨mq.trans (Mods.setCell _ _ _ _ (.inl rfl)), .inr ⟨HNO, rfl, 31, by omega, h5.setE 31⟩⟩
  · have HNO := HNOT.out (by omega)
    clear HGG
    go_wp2
    go_ret
    exact ⟨mq.trans (Mods.setCell _ _ _ _ (.inl rfl)), .inr ⟨HNO, rfl, 32, by omega, h5.setE 32⟩⟩
set_option maxRecDepth 100000 in
set_option maxHeartbeats 1000000 in
theorem rr_Bytes {w : World} {R : Nat} {v : Value} {B : List UInt8} {p : Nat} (m : Nat) (h : RRAt w R v B p 0) (hB : B.length ≤ 70368744177664) (hm : m ≤ B.length - p) :
    Calls Try.prog 37 #[.pointer (some ⟨R, 0, none⟩), .int .i64 (m : Int)] w fun e w' => ∃ u, e = .returned u ∧ Sl w' u 1 m (bys ((B.drop p).take m)) ∧ (∀ b, u.ownBlock = some b → w.heap.size ≤ b) ∧ Mods (fun b => b = R) w w' ∧ RRAt w' R v B (p + m) 0 := by
  obtain ⟨i0, hi, hz0, hz1, hz2⟩ := info_parts infoByte
  have c0 := h.cell0
  have c1 := h.cell1
  have c2 := h.cell2
  have hp := h.place
  obtain ⟨ao, c, rfl, hlc, _⟩ := h.left.value
  by_cases hm0 : m = 0
  · subst hm0
    go_enter Try.func37, Try.ntmps37
    go_wp2
    go_ret
    exact ⟨_, rfl, by simpa [bys] using Sl.nil w 1, fun b e => by simp [Value.ownBlock] at e, Mods.refl _ _, h⟩
  · have hmp : (0 : Int) < (m : Int) := by omega
    obtain ⟨q, hq⟩ : ∃ q, q = p + m := ⟨_, rfl⟩
    have hq' : (p : Int) + (m : Int) = (q : Int) := by omega
    have hqB : q ≤ B.length := by omega
    have hwq : IntKind.i64.wrap (q : Int) = (q : Int) := wrapN q (by omega)
    have e1 : (B.length : Int) - (p : Int) = ((B.length - p : Nat) : Int) := by omega
    have e2 : IntKind.i64.wrap ((B.length - p : Nat) : Int) = ((B.length - p : Nat) : Int) := wrapN _ (by omega)
    have e3 : (m : Int) ≤ ((B.length - p : Nat) : Int) := by omega
    generalize hd : B.length - p = d at *
    have S64 : ∀ w, (sizeOf 5).run Try.prog w = .ok 1 w := fun w => by kernel_rfl
    obtain ⟨X5, s51, s52, r5, _⟩ := slice_two (P := Try.prog) (t := 30) (e := 5) (size := 1) Try.underlying30 S64 ao B.length c p q (by omega) (by omega) hlc
    rw [show q - p = m by omega] at s51 s52
    obtain ⟨s, hs⟩ : ∃ s, s = (B.drop p).take m := ⟨_, rfl⟩
    have R5 : Sl w (.slice X5 m (c - p)) 1 m (bys s) := by
      have := r5 _ _ h.left
      have e : bys s = ((bys B).take (q * 1)).drop (p * 1) := by
        rw [hs, hq, Nat.mul_one, Nat.mul_one, List.drop_take, show p + m - p = m by omega]; simp [bys]
      rw [e, show m = q - p by omega]
      exact this
    rw [← hs]
    have HQ := hid hq
    have HS := hid hs
    have HD := hid hd
    clear hq hs hd r5
    go_enter Try.func37, Try.ntmps37
    go_wp2_with fail
    go_quiet (fail)
    rename_i nq
    have k6 : Keeps w (w.drewN (nq + 1)) := keeps_drewN w (nq + 1)
    have h6 := h.keeps k6
    have R6 := R5.keeps k6
    go_wp2_with fail
    have k7 : Keeps (w.drewN (nq + 1)) ((w.drewN (nq + 1)).alloc (.cells #[] 5)) := (Below.refl _ _).alloc (Nat.le_refl _) _
    have h7 := h6.keeps k7
    have R7 := R6.keeps k7
    have b0 := h6.cell0
    have b1 := h6.cell1
    have b2 := h6.cell2
    have d0 := h7.cell0
    have d1 := h7.cell1
    have d2 := h7.cell2
    go_region_held_law (fun w' => w'.cell? ⟨R, 0, none⟩ = some (.slice ao B.length c) ∧ w'.cell? ⟨R, 1, none⟩ = some (.int .i64 (p : Int))) (first | exact ⟨d0, d1⟩ | exact ⟨b0, b1⟩ | exact ⟨e0, e1'⟩ | go_keep) (first
      | (refine step_append_sl rfl _ _ 30 rfl w.heap.size 5 i0 (.int .u8 0) 1 1 Try.underlying30 hi hz0 hz1 hz2 rfl (by decide) _ 0 [] rfl (World.ownsRow_lit (w.drewN (nq + 1)) #[] 0 (by simp [World.drewN]) (by unfold maxLen; omega) rfl) _ m (bys s) rfl R7 (bys_one _) (by unfold maxLen; omega) (by omega) (by simp) ?_; intro v8 w8 ho8 hg8 _ _; have k8 : Keeps w w8 := (k6.trans k7).grown hg8 (by simp [World.drewN]) (fun k e => by cases e; exact Nat.le_refl _); have h8 := h.keeps k8; have e0 := h8.cell0; have e1' := h8.cell1))
    have f1 := h8.open_ 1
    rw [Nat.zero_add] at ho8
    have hb := fun b hb => ownsRow_base ho8 (b := b) hb
    have s8 : Sl w8 v8 1 m (bys s) := by simpa using ownsRow_sl ho8
    obtain ⟨a8, c8, rfl⟩ := ownsRow_slice ho8
    clear ho8
    go_wp2
    go_ret
    have ms : Mods (fun b => b = R) w8 (w8.setCell ⟨R, 1, none⟩ (.int .i64 (q : Int))) := Mods.setCell _ _ _ _ (.inl rfl)
    refine ⟨.slice a8 m c8, rfl, s8.mods ms (fun b hb' e => ?_), fun b hb' => ?_, (keeps_mods k8).trans ms, ?_⟩
    · have := (hb b hb').1
      have := h.lt
      simp [World.drewN] at *
      omega
    · have := (hb b hb').1
      simpa [World.drewN] using this
    · rw [← HQ.out]; exact h8.setP q hqB
end Go.Proofs.Ytegonlmhaobgcaa
