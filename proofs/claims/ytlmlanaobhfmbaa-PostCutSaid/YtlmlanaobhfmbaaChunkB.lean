/- slices.Chunk's iterator. -/
import Derived.Test.YtlmlanaobhfmbaaChunkA
import Derived.Shelf.RegionOpen
set_option linter.unusedSimpArgs false
set_option linter.unusedVariables false
namespace Go.Proofs.Ytlmlanaobhfmbaa
open Go.RowKit Go.Vb
attribute [local go_sem] Oper.semAt_some
set_option maxRecDepth 100000 in
set_option maxHeartbeats 1000000 in
theorem chunk1_in (n l Bs Bn size : Nat) (w0 : World) (v : Value) (L : List Post) (cs : List Value) (hn : 1 ≤ n) (hP : Posts w0 v L cs) (hf : ∀ p ∈ L, Fine p) (hL : L.length ≤ 1000000) (hs0 : 0 < size) (hs : size ≤ 1000000) (Kp : World → World → Prop)
    (hKp : ∀ A B, Kp A B → Keeps w0 A → Keeps w0 B ∧ B.heap[Bs]? = A.heap[Bs]? ∧ B.heap[Bn]? = A.heap[Bn]?) (J Jx : List (Chunk w0 size) → World → Prop) (N : Nat) (hN : N * size < L.length + size)
    (hY : ∀ pre x W, J pre W → pre.length < N → YieldAt Fence.wide (n - 1) Try.prog l #[x.1.1] W fun e W' =>
      (e = .returned (.bool true) ∧ J (pre ++ [x]) W' ∧ Kp W W') ∨ (e = .returned (.bool false) ∧ Jx (pre ++ [x]) W'))
    (hN2 : L.length ≤ N * size) (hJab : ∀ s A B, J s A → A.grownBy B none → J s B)
    (W : World) (hW : Keeps w0 W) (hBs : W.heap[Bs]? = some (.cells #[v] 22 (0, 0))) (hBn : W.heap[Bn]? = some (.cells #[.int .i64 (size : Int)] 3 (0, 0))) (h0 : J [] W) :
    CallsIn Fence.wide n Try.prog 118 #[.func (.yield l) #[] #[], .pointer (some ⟨Bs, 0, none⟩), .pointer (some ⟨Bn, 0, none⟩)] W fun e W' => (∃ v, e = .returned v) ∧
      ((∃ xs, xs.map (·.1.2) = chunksTo L size N ∧ J xs W') ∨ (∃ pre, True ∧ Jx pre W')) := by
  obtain ⟨ao, c, rfl, hc1, hc2, _⟩ := hP.outer.value
  refine callsIn_of_wp Try.func118 rfl trivial ?_ rfl
  simp only [Try.ntmps118, List.size_toArray, List.length_cons, List.length_nil, Nat.reduceAdd, Nat.reduceSub, Array.replicate_succ, Array.replicate_zero, List.push_toArray, List.append_toArray, List.nil_append, List.cons_append]
  have HKP := hid hKp
  have HF := hid hf
  have HYY := hid hY
  clear hKp hf hY
  gi_wp2
  gi_loopw [4] (fun i wr => ∃ (j k : Nat) (pre : List (Chunk w0 size)), j ≤ N ∧ k = j * size ∧ i = .int .i64 (k : Int) ∧ pre.length = j ∧ pre.map (·.1.2) = chunksTo L size j ∧ J pre wr ∧ Keeps w0 wr ∧ wr.heap[Bs]? = some (.cells #[.slice ao L.length c] 22 (0, 0)) ∧ wr.heap[Bn]? = some (.cells #[.int .i64 (size : Int)] 3 (0, 0))) (fun i _ => L.length + size - (intOf i).toNat)
  case atStart => exact ⟨0, 0, [], by omega, by omega, rfl, rfl, rfl, h0, hW, hBs, hBn⟩
  case round =>
    obtain ⟨j, k, pre, hj, hk, rfl, hpl, hpre, hJ, hkw, hb1, hb2⟩ := hrel
    have c1 : wr.cell? ⟨Bs, 0, none⟩ = some (.slice ao L.length c) := by unfold World.cell?; simp only [hb1]; rfl
    have c2 : wr.cell? ⟨Bn, 0, none⟩ = some (.int .i64 (size : Int)) := by unfold World.cell?; simp only [hb2]; rfl
    have HK := hid hk
    have HPL := hid hpl
    have HPRE := hid hpre
    have hkL : k < L.length → j < N := fun h => by
      rw [hk] at h
      rcases Nat.lt_or_ge j N with h1 | h1
      · exact h1
      · have := Nat.mul_le_mul_right size h1; omega
    clear hk hpl hpre
    by_cases hlt : k < L.length
    · have hjN := hkL hlt
      obtain ⟨m, hm⟩ : ∃ m, m = min size (L.length - k) := ⟨_, rfl⟩
      have hm0 : 0 < m := by rw [hm]; omega
      have hmk : k + m ≤ L.length := by rw [hm]; omega
      have hms : m ≤ size := by rw [hm]; omega
      have S36 : ∀ w, (sizeOf 36).run Try.prog w = .ok 2 w := fun w => by kernel_rfl
      obtain ⟨X1, s11, s12, _, _⟩ := slice_low (P := Try.prog) (t := 22) (e := 36) (size := 2) Try.underlying22 S36 ao L.length c k (by omega)
      obtain ⟨X2, s21, s22, r2⟩ := slice_three (P := Try.prog) (t := 22) (e := 36) (size := 2) Try.underlying22 S36 ao L.length c k (k + m) (by omega) hmk hc1
      have hcut := Posts.cut hP rfl (by omega) hmk r2
      have hch : (L.take (k + m)).drop k = chunkAt L size j := by
        unfold chunkAt
        rw [← HK.out, List.drop_take, show k + m - k = m by omega, hm]
        have e : (L.drop k).length = L.length - k := by simp
        rw [← e]
        rcases Nat.le_total size (L.drop k).length with h | h
        · rw [Nat.min_eq_left h]
        · rw [Nat.min_eq_right h, List.take_length, List.take_of_length_le h]
      rw [hch] at hcut
      rw [show k + m - k = m by omega] at hcut s21 s22
      have hclen : (chunkAt L size j).length = m := by rw [← hch]; simp; omega
      obtain ⟨x, hx⟩ : ∃ x : Chunk w0 size, x.1 = (.slice X2 m m, chunkAt L size j) := ⟨⟨(.slice X2 m m, chunkAt L size j), ⟨_, hcut⟩, (fun e => by simp only at e; rw [e] at hclen; simp at hclen; omega), (by simp only; omega), fun p hp => HF.out p (List.mem_of_mem_drop (List.mem_of_mem_take hp))⟩, rfl⟩
      have HXX := hid hx
      obtain ⟨k2, hk2⟩ : ∃ k2, k2 = k + m := ⟨_, rfl⟩
      have hk2I : (k : Int) + (m : Int) = (k2 : Int) := by omega
      rw [← hk2] at s21 s22
      have hw2 : IntKind.i64.wrap (k2 : Int) = (k2 : Int) := wrapN k2 (by omega)
      obtain ⟨d, hd⟩ : ∃ d, d = L.length - k := ⟨_, rfl⟩
      rw [← hd] at hm s11 s12
      have HM := hid hm
      clear hch hcut hclen hx hk2 hm hd r2 S36
      gi_wp2
      refine wpIn_wide.2 ?_
      go_quiet (fail)
      rename_i nq
      have hmi : (if d < size then (d : Int) else (size : Int)) = (m : Int) := by rw [HM.out]; split <;> omega
      rw [hmi]
      have hJ' : J pre (wr.drewN nq) := hJab _ _ _ hJ ⟨rfl, rfl, rfl, Nat.le_refl _, fun _ _ _ => rfl⟩
      have hkw' : Keeps w0 (wr.drewN nq) := hkw.trans (keeps_drewN wr nq)
      have hb1' : (wr.drewN nq).heap[Bs]? = some (.cells #[.slice ao L.length c] 22 (0, 0)) := hb1
      have hb2' : (wr.drewN nq).heap[Bn]? = some (.cells #[.int .i64 (size : Int)] 3 (0, 0)) := hb2
      have c1' : (wr.drewN nq).cell? ⟨Bs, 0, none⟩ = some (.slice ao L.length c) := c1
      have c2' : (wr.drewN nq).cell? ⟨Bn, 0, none⟩ = some (.int .i64 (size : Int)) := c2
      obtain ⟨fn, tmps, assign, body, hy, hR⟩ := HYY.out pre x (wr.drewN nq) hJ' (by rw [HPL.out]; exact hjN)
      rw [HXX.out] at hy
      dsimp only at hy
      obtain ⟨k9, hk9⟩ : ∃ k9, k9 = k + size := ⟨_, rfl⟩
      have hks : (k : Int) + (size : Int) = (k9 : Int) := by omega
      have hwks : IntKind.i64.wrap (k9 : Int) = (k9 : Int) := wrapN _ (by omega)
      have HK9 := hid hk9
      clear hk9
      clear hmi
      gi_wp2
      refine hR.mono ?_
      rintro e W3 (⟨rfl, hJ3, hk3⟩ | ⟨rfl, hJx3⟩)
      · obtain ⟨g1, g2, g3⟩ := HKP.out _ _ hk3 hkw'
        rw [hb1'] at g2
        rw [hb2'] at g3
        have e1 : W3.cell? ⟨Bs, 0, none⟩ = some (.slice ao L.length c) := by unfold World.cell?; simp only [g2]; rfl
        have e2 : W3.cell? ⟨Bn, 0, none⟩ = some (.int .i64 (size : Int)) := by unfold World.cell?; simp only [g3]; rfl
        gi_wp2
        go_roundw
        case rel => exact ⟨j + 1, k9, pre ++ [x], by omega, by rw [HK9.out, HK.out, Nat.succ_mul], rfl, by simp [HPL.out], by rw [List.map_append, HPRE.out, chunksTo_succ]; simp [HXX.out], hJ3, g1, g2, g3⟩
        case measure => have := HK9.out; simp [intOf]; omega
      · gi_wp2
        refine bodyPost_ret (results_none rfl _ _ _) rfl ?_
        exact ⟨⟨_, rfl⟩, .inr ⟨_, trivial, hJx3⟩⟩
    · have hjN : j = N := by
        have h1 : N * size < k + size := by omega
        rw [HK.out] at h1
        have h2 : N * size < (j + 1) * size := by rw [Nat.succ_mul]; omega
        have := Nat.lt_of_mul_lt_mul_right h2
        omega
      have hjN' := hid hjN
      clear hjN
      gi_wp2
      go_end0
      exact ⟨⟨_, rfl⟩, .inl ⟨pre, by rw [HPRE.out, hjN'.out], hJ⟩⟩
end Go.Proofs.Ytlmlanaobhfmbaa
