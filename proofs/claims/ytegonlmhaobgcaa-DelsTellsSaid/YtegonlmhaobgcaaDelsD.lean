/- dels.Get. -/
import Derived.Test.YtegonlmhaobgcaaDelsC
import Derived.Test.YtegonlmhaobgcaaReadB
import Derived.Laws.CopyOwn
import Derived.BigQuiet
set_option linter.unusedSimpArgs false
set_option linter.unusedVariables false
namespace Go.Proofs.Ytegonlmhaobgcaa
open Go.RowKit Go.Vb

/-- the bits of bytes. -/
def bitS (t : List UInt8) (i : Nat) : Bool := (t.getD (i / 8) 0).toNat / 2 ^ (i % 8) % 2 == 1
theorem eight_back : ∀ x : Fin 256, eight (x.val / 2 ^ 0 % 2 == 1) (x.val / 2 ^ 1 % 2 == 1) (x.val / 2 ^ 2 % 2 == 1) (x.val / 2 ^ 3 % 2 == 1) (x.val / 2 ^ 4 % 2 == 1) (x.val / 2 ^ 5 % 2 == 1) (x.val / 2 ^ 6 % 2 == 1) (x.val / 2 ^ 7 % 2 == 1) = x.val := by decide +kernel
theorem byteOf_bitS (t : List UInt8) (k : Nat) : byteOf (bitS t) k = (t.getD k 0).toNat := by
  have e : ∀ r, r < 8 → bitS t (8 * k + r) = ((t.getD k 0).toNat / 2 ^ r % 2 == 1) := fun r hr => by
    unfold bitS; rw [show (8 * k + r) / 8 = k by omega, show (8 * k + r) % 8 = r by omega]
  have e0 := e 0 (by omega)
  rw [Nat.add_zero] at e0
  rw [byteOf_eight, e0, e 1 (by omega), e 2 (by omega), e 3 (by omega), e 4 (by omega), e 5 (by omega), e 6 (by omega), e 7 (by omega)]
  exact eight_back ⟨_, UInt8.toNat_lt _⟩
theorem bitsOf_bitS (t : List UInt8) : bitsOf (bitS t) t.length = t := by
  apply List.ext_getElem
  · simp [bitsOf]
  · intro i h1 h2
    simp [bitsOf, byteOf_bitS, h2]
theorem cells_bitS (n : Nat) (t : List UInt8) (h : t.length ≤ 8) : (splice (cellsOf n (fun _ => false)).toList 1 (bys t)).toArray = cellsOf n (bitS t) := by
  rw [cellsOf_zero]
  unfold cellsOf
  rw [byteOf_bitS, byteOf_bitS, byteOf_bitS, byteOf_bitS, byteOf_bitS, byteOf_bitS, byteOf_bitS, byteOf_bitS]
  match t, h with
  | [], _ => rfl
  | [_], _ => rfl
  | [_, _], _ => rfl
  | [_, _, _], _ => rfl
  | [_, _, _, _], _ => rfl
  | [_, _, _, _, _], _ => rfl
  | [_, _, _, _, _, _], _ => rfl
  | [_, _, _, _, _, _, _], _ => rfl
  | [_, _, _, _, _, _, _, _], _ => rfl
  | _ :: _ :: _ :: _ :: _ :: _ :: _ :: _ :: _ :: _, h => simp at h
theorem putOf_length (n : Nat) (S : Nat → Bool) (hn : n ≤ 64) : (putOf n S).length = 1 + (n + 7) / 8 := by
  unfold putOf; rw [lebOf_end n (by omega)]; simp [bitsOf_length, Nat.add_comm]
theorem bitsOf_inj (S S' : Nat → Bool) (q : Nat) (h : bitsOf S q = bitsOf S' q) (i : Nat) (hi : i < 8 * q) : S i = S' i := by
  have hk : i / 8 < q := by omega
  have h1 := congrArg (fun l => l[i / 8]?) h
  simp only [bitsOf, List.getElem?_map, List.getElem?_range hk, Option.map_some] at h1
  have h2 := congrArg UInt8.toNat (Option.some.inj h1)
  rw [UInt8.toNat_ofNat', UInt8.toNat_ofNat', Nat.mod_eq_of_lt (byteOf_lt _ _), Nat.mod_eq_of_lt (byteOf_lt _ _)] at h2
  have a := byteOf_bit S i
  have b := byteOf_bit S' i
  rw [h2, b] at a
  revert a
  cases S i <;> cases S' i <;> simp
def Valid (n : Nat) (S : Nat → Bool) : Prop := n ≤ 64 ∧ ∀ i, n ≤ i → S i = false
theorem dels_inj (n m : Nat) (S S' : Nat → Bool) (h1 : Valid n S) (h2 : Valid m S') (h : frameOf (putOf n S) = frameOf (putOf m S')) : n = m ∧ S = S' := by
  have l1 := putOf_length n S h1.1
  have l2 := putOf_length m S' h2.1
  have n1 := h1.1
  have n2 := h2.1
  have e := (frame_inj (putOf n S) (putOf m S') [] [] (by omega) (by omega) (by simpa using h)).1
  unfold putOf at e
  obtain ⟨rfl, e2⟩ := leb_inj _ _ _ _ (by omega) (by omega) e
  refine ⟨rfl, funext fun i => ?_⟩
  by_cases hi : i < 8 * ((n + 7) / 8)
  · exact bitsOf_inj _ _ _ e2 i hi
  · rw [h1.2 i (by omega), h2.2 i (by omega)]
def IsDels (s : List UInt8) : Prop := ∃ n S, Valid n S ∧ s = frameOf (putOf n S)
def GetRes (s : List UInt8) (B : Nat) (e : Ending) (w' : World) : Prop :=
  (∃ n S D, Valid n S ∧ s = frameOf (putOf n S) ∧ DelsAt w' D n S ∧ B ≤ D ∧ e = .returned (.tuple #[.pointer (some ⟨D, 0, none⟩), .int .i64 0])) ∨ (¬ IsDels s ∧ e = .returned (.tuple #[.pointer none, .int .i64 3]))
theorem infoSize : (Try.prog.info? 5).map (·.size) = some 1 := by kernel_rfl
theorem cell_of {w : World} {D n : Nat} {S : Nat → Bool} (h : w.heap[D]? = some (.cells (cellsOf n S) 49 (0, 0))) (k : Nat) (hk : k < 8) : w.cell? ⟨D, 1 + k, none⟩ = some (.int .u8 (byteOf S k : Nat)) := by
  unfold World.cell?; simp only [h]; exact cellsOf_get n S k hk
theorem cell_n {w : World} {D n : Nat} {S : Nat → Bool} (h : w.heap[D]? = some (.cells (cellsOf n S) 49 (0, 0))) : w.cell? ⟨D, 0, none⟩ = some (.int .i64 (n : Int)) := by
  unfold World.cell?; simp only [h]; rfl
theorem dels_of {s p : List UInt8} {n : Nat} {t : List UInt8} (hs : s = frameOf p) (hp : p.length ≤ 262144) (hn : Num p 64 n t) {m : Nat} {S : Nat → Bool} (hv : Valid m S) (h : s = frameOf (putOf m S)) : m = n ∧ t = bitsOf S ((n + 7) / 8) := by
  have hl := putOf_length m S hv.1
  have h64 := hv.1
  have e := (frame_inj p (putOf m S) [] [] hp (by omega) (by rw [List.append_nil, List.append_nil, ← h, hs])).1
  rw [hn.1] at e
  obtain ⟨h1, h2⟩ := leb_inj _ _ _ _ hn.2.2 (by omega) e
  subst h1
  exact ⟨rfl, h2⟩
theorem sl_src {w : World} {sp : Option Addr} {m c : Nat} {cs : List Value} (h : Sl w (.slice sp m c) 1 m cs) (hp : 0 < cs.length) : ∃ ad, sp = some ad ∧ ∀ j v, cs[j]? = some v → w.cell? (ad.add j) = some v := by
  obtain ⟨hl, ao, c', e, h1, h2, h3, h4⟩ := h
  injection e with e _ _
  subst e
  cases sp with
  | none => have := (h3 rfl).1; omega
  | some a => exact ⟨a, rfl, h4 a rfl⟩
set_option maxRecDepth 100000 in
set_option maxHeartbeats 1000000 in
theorem dels_Get (w : World) (v : Value) (s : List UInt8) (hv : Sl w v 1 s.length (bys s)) (hsl : s.length ≤ 70368744177664) :
    Calls Try.prog 14 #[v] w fun e w' => GetRes s w.heap.size e w' ∧ Keeps w w' := by
  have hfg := frame_Get w v s hv hsl
  obtain ⟨ao, c, rfl, _⟩ := hv.value
  go_enter Try.func14, Try.ntmps14
  go_wp2_with fail
  refine hfg.mono ?_
  rintro e w1 ⟨hres, k1⟩
  rcases hres with ⟨p, r, v1, hs, hp, rfl, o1⟩ | ⟨hno, z, hz, rfl⟩
  · have hb1 := fun b hb => ownsRow_base o1 (b := b) hb
    have s1 := ownsRow_sl o1
    obtain ⟨a1, c1, rfl⟩ := ownsRow_slice o1
    have hslen : s.length = (frameOf p).length + r.length := by rw [hs]; simp
    by_cases hr : r = []
    · subst hr
      rw [List.append_nil] at hs
      have HS := hid hs
      have hsl2 : ((frameOf p).length : Int) = (s.length : Int) := by rw [hs]
      clear hs hslen hfg o1
      generalize (frameOf p).length = fl at *
      go_wp2_with fail
      refine (reader_New w1 _ p s1 (by omega)).mono ?_
      rintro e w2 ⟨R, v2, rfl, r2, hR, hv2, k2⟩
      have hRw := (Array.getElem?_eq_some_iff.1 r2.block).1
      go_wp2_with fail
      refine (int_any w2 R 64 v2 p (by omega) r2 (fun b hb => by have := hv2 b hb; omega)).mono ?_
      rintro e w3 ⟨m3, hor⟩
      have hR1 : w.heap.size ≤ R := Nat.le_trans k1.size hR
      have k3 : Keeps w w3 := ((keeps_mods (S := fun b => b = R) (k1.trans k2)).trans m3).below (Nat.le_refl _) fun k hk h => by omega
      rcases hor with ⟨n, t, v3, hn, rfl, r3, hv3⟩ | ⟨hnon, rfl, z, hz, r3⟩
      · have hq8 : (n + 7) / 8 ≤ 8 := by have := hn.2.1; omega
        have hn64 : n ≤ 64 := hn.2.1
        have h4 : (w3.alloc (.cells #[.int .i64 n, .int .u8 0, .int .u8 0, .int .u8 0, .int .u8 0, .int .u8 0, .int .u8 0, .int .u8 0, .int .u8 0] 49)).heap[w3.heap.size]? = some (.cells (cellsOf n (fun _ => false)) 49 (0, 0)) := by rw [cellsOf_zero]; exact heap_alloc_new w3 _
        have k34 : Keeps w3 (w3.alloc (.cells #[.int .i64 n, .int .u8 0, .int .u8 0, .int .u8 0, .int .u8 0, .int .u8 0, .int .u8 0, .int .u8 0, .int .u8 0] 49)) := (Below.refl _ _).alloc (Nat.le_refl _) _
        have hRD : R < w3.heap.size := (Array.getElem?_eq_some_iff.1 r3.block).1
        have hv3w : ∀ b, v3.ownBlock = some b → b < w3.heap.size := fun b hb => by have := hv2 b (hv3 b hb); omega
        have hpt : p.length = (lebOf n).length + t.length := by rw [hn.1]; simp
        have htl : t.length ≤ 262144 := by omega
        have HNUM := hid hn
        have HP := hid hp
        have hwD : w.heap.size ≤ w3.heap.size := k3.size
        clear hn hpt hb1 s1 r2 hv2 m3 hp
        go_wp2_with fail
        have r4 := r3.keeps k34
        have k4 := k3.trans k34
        have hv4 : ∀ b, v3.ownBlock = some b → b < (w3.alloc (.cells #[.int .i64 n, .int .u8 0, .int .u8 0, .int .u8 0, .int .u8 0, .int .u8 0, .int .u8 0, .int .u8 0, .int .u8 0] 49)).heap.size := fun b hb => Nat.lt_of_lt_of_le (hv3w b hb) k34.size
        clear r3 k3 hv3 k34 hv3w
        generalize w3.alloc (.cells #[.int .i64 n, .int .u8 0, .int .u8 0, .int .u8 0, .int .u8 0, .int .u8 0, .int .u8 0, .int .u8 0, .int .u8 0] 49) = w4 at *
        generalize w3.heap.size = D at *
        have hcn := cell_n h4
        have hE : ∀ m, Calls Try.prog 30 #[.pointer (some ⟨R, 0, none⟩)] (w4.drewN m) fun e w' => e = .returned (.int .i64 0) ∧ w' = w4.drewN m := fun m => reader_Err (r4.keeps (keeps_drewN _ m))
        have hL : ∀ m, Calls Try.prog 31 #[.pointer (some ⟨R, 0, none⟩)] (w4.drewN m) fun e w' => e = .returned (.int .i64 (t.length : Int)) ∧ w' = w4.drewN m := fun m => reader_Left (r4.keeps (keeps_drewN _ m))
        have hB : ∀ m, Calls Try.prog 26 #[.int .i64 (n : Int)] (w4.drewN m) fun e w' => e = .returned (.int .i64 (((n + 7) / 8 : Nat) : Int)) ∧ w' = w4.drewN m := fun m => bytes_any (w4.drewN m) n hn64
        have hBy : ∀ w, Calls Try.prog 26 #[.int .i64 (n : Int)] w fun e w' => e = .returned (.int .i64 (((n + 7) / 8 : Nat) : Int)) ∧ w' = w := fun w => bytes_any w n hn64
        have hnq : n ≤ 8 * ((n + 7) / 8) := by omega
        generalize hq : (n + 7) / 8 = q at *
        have HE := hid hE
        have HL := hid hL
        have HB := hid hB
        have HBY := hid hBy
        have HQ := hid hq
        clear hE hL hB hBy hq
        by_cases htq : t.length = q
        · have htq' : ((t.length : Int) != (q : Int)) = false := by simp; omega
          have HTQ := hid htq
          clear htq
          go_quiet ((first | (go_at_call 30; exact Calls.quiet_of_same (HE.out _)) | (go_at_call 31; exact Calls.quiet_of_same (HL.out _)) | (go_at_call 26; exact Calls.quiet_of_same (HB.out _))))
          rename_i nq
          have kq : Keeps w4 (w4.drewN nq).drew := (keeps_drewN w4 nq).trans (keeps_drewN (w4.drewN nq) 1)
          have r5 := r4.keeps kq
          have h5 := Keeps.heap kq h4
          have hDw : D < (w4.drewN nq).drew.heap.size := (Array.getElem?_eq_some_iff.1 h5).1
          have hL5 := reader_Left r5
          have hb5 := bytes_read _ R t.length v3 t (Nat.le_refl _) (by omega) r5 (fun b hb => Nat.lt_of_lt_of_le (hv4 b hb) kq.size)
          rw [List.take_length] at hb5
          have hcs : (bys t).length = Nat.min t.length 8 := by rw [bys_length]; have := HTQ.out; show _ = min _ _; omega
          have hcl : (cellsOf n (fun _ => false)).toList.length = 9 := rfl
          go_wp2_with fail
          go_region_law (first
            | (rw [if_pos (by simp [Region.wanted])]; go_simp; go_at_call 31; refine hL5.mono ?_; rintro e w6 ⟨rfl, rfl⟩)
            | (rw [if_pos (by simp [Region.wanted])]; go_simp; go_at_call 32; refine hb5.mono ?_; rintro e w6 ⟨u, rfl, hus, hub, m6⟩; have h6 := (m6.block D hDw (by omega)).trans h5; have k6 : Keeps w w6 := ((keeps_mods (S := fun b => b = R) (k4.trans kq)).trans m6).below (Nat.le_refl _) (fun k hk h => by omega); obtain ⟨ua, uc, rfl, _⟩ := hus.value)
            | (refine step_copy_splice rfl _ _ 30 30 rfl 5 Try.underlying30 infoSize (some ⟨D, 1, none⟩) ua 8 8 t.length uc rfl rfl D 1 (cellsOf n (fun _ => false)).toList 49 (by rw [Array.toArray_toList]; exact h6) (bys t) hcs (fun h => ⟨rfl, sl_src hus h⟩) (by rw [hcl, bys_length]; have := HTQ.out; omega) (bys_one t) w.heap.size w k6 hwD ?_; intro w7 hg7 hb7))
          have h7 : w7.heap[D]? = some (.cells (cellsOf n (bitS t)) 49 (0, 0)) := by rw [← cells_bitS n t (by have := HTQ.out; omega)]; exact hg7.out
          have hc7 := cell_n h7
          clear h5 h6 hg7 hus hub m6 hb5 hL5 r5 kq h4 hcn
          go_wp2_with fail
          go_loopw [9] (fun x wr => ∃ i : Nat, n ≤ i ∧ i ≤ 8 * q ∧ x = .int .i64 (i : Int) ∧ (∀ j, n ≤ j → j < i → bitS t j = false) ∧ wr = w7) (fun x _ => 8 * q - (intOf x).toNat)
          case atStart => exact ⟨n, Nat.le_refl _, hnq, rfl, fun j h1 h2 => by omega, rfl⟩
          case round =>
            obtain ⟨i, hi1, hi2, rfl, hall, rfl⟩ := hrel
            have HALL := hid hall
            have hcw := cell_n h7
            clear hall
            go_wp2_with fail
            refine (HBY.out _).mono ?_
            rintro e w8 ⟨rfl, rfl⟩
            by_cases hlt : i < 8 * q
            · have hlt' : (i : Int) < 8 * (q : Int) := by omega
              have hbc := cell_of h7 (i / 8) (by omega)
              have hbit := has_bit (bitS t) i
              cases hb : bitS t i with
              | true =>
                rw [hb] at hbit
                have hno : ¬ IsDels s := by
                  rintro ⟨m, S, hval, h⟩
                  obtain ⟨h1, h2⟩ := dels_of HS.out HP.out HNUM.out hval h
                  subst h1
                  have h3 : bitsOf (bitS t) q = bitsOf S q := by
                    have := bitsOf_bitS t
                    rw [HTQ.out] at this
                    rw [this, h2, HQ.out]
                  have h4 := bitsOf_inj _ _ _ h3 i (by omega)
                  rw [hb, hval.2 i hi1] at h4
                  cases h4
                have HNO := hid hno
                clear hno
                go_wp2
                go_ret2
                exact ⟨.inr ⟨HNO.out, rfl⟩, hb7⟩
              | false =>
                rw [hb] at hbit
                have HBF := hid hb
                clear hb
                go_wp2_with fail
                go_roundw
                case rel =>
                  refine ⟨i + 1, by omega, by omega, by go_num, fun j h1 h2 => ?_, trivial⟩
                  by_cases e : j = i
                  · rw [e]; exact HBF.out
                  · exact HALL.out j h1 (by omega)
                case measure => simp [intOf]; omega
            · have hle' : 8 * (q : Int) ≤ (i : Int) := by omega
              have hval : Valid n (bitS t) := ⟨hn64, fun j hj => by
                by_cases h : j < i
                · exact HALL.out j hj h
                · have : t.length ≤ j / 8 := by rw [HTQ.out]; omega
                  unfold bitS
                  rw [List.getD_eq_getElem?_getD, List.getElem?_eq_none this]
                  simp⟩
              have hsp : s = frameOf (putOf n (bitS t)) := by
                rw [HS.out, HNUM.out.1]
                unfold putOf
                rw [HQ.out, ← HTQ.out, bitsOf_bitS]
              have HSP := hid hsp
              have HVAL := hid hval
              clear hsp hval
              go_wp2
              go_ret2
              exact ⟨.inl ⟨n, bitS t, D, HVAL.out, HSP.out, ⟨h7, hn64, HVAL.out.2⟩, hwD, rfl⟩, hb7⟩
        · have htq' : ((t.length : Int) != (q : Int)) = true := by simp; omega
          have hno : ¬ IsDels s := by
            rintro ⟨m, S, hval, h⟩
            obtain ⟨h1, h2⟩ := dels_of HS.out HP.out HNUM.out hval h
            apply htq
            rw [h2, bitsOf_length, HQ.out]
          have HNO := hid hno
          clear hno
          go_quiet ((first | (go_at_call 30; exact Calls.quiet_of_same (HE.out _)) | (go_at_call 31; exact Calls.quiet_of_same (HL.out _)) | (go_at_call 26; exact Calls.quiet_of_same (HB.out _))))
          go_wp2
          go_ret2
          exact ⟨.inr ⟨HNO.out, rfl⟩, k4.trans (keeps_drewN _ _)⟩
      · have hno : ¬ IsDels s := by
          rintro ⟨n, S, hval, h⟩
          have hl := putOf_length n S hval.1
          have h64 := hval.1
          have e := (frame_inj p (putOf n S) [] [] hp (by omega) (by rw [List.append_nil, List.append_nil, ← h, HS.out])).1
          exact hnon ⟨n, bitsOf S ((n + 7) / 8), e, hval.1, by omega⟩
        have HNO := hid hno
        have hzz : ((z : Int) != 0) = true := by simp; omega
        clear hno hnon
        have r4 : ∀ o : Obj, ReaderAt (w3.alloc o) R v2 p z := fun o => r3.keeps ((Below.refl _ _).alloc (Nat.le_refl _) _)
        have k4 : ∀ o : Obj, Keeps w (w3.alloc o) := fun o => k3.trans ((Below.refl _ _).alloc (Nat.le_refl _) _)
        have hE : ∀ (o : Obj) m, Calls Try.prog 30 #[.pointer (some ⟨R, 0, none⟩)] ((w3.alloc o).drewN m) fun e w' => e = .returned (.int .i64 (z : Int)) ∧ w' = (w3.alloc o).drewN m := fun o m => reader_Err ((r4 o).keeps (keeps_drewN _ m))
        have HE := hid hE
        clear hE
        go_wp2_with fail
        go_quiet ((go_at_call 30; exact Calls.quiet_of_same (HE.out _ _)))
        go_wp2
        go_ret2
        exact ⟨.inr ⟨HNO.out, rfl⟩, (k4 _).trans (keeps_drewN _ _)⟩
    · have hrl : 0 < r.length := List.length_pos_iff.2 hr
      have hno : ¬ IsDels s := by
        rintro ⟨n, S, hval, h⟩
        have hl := putOf_length n S hval.1
        have h64 := hval.1
        have := (frame_inj p (putOf n S) r [] hp (by omega) (by rw [List.append_nil, ← h, hs])).2
        exact hr this
      have HNO := hid hno
      have hne : (((frameOf p).length : Int) != (s.length : Int)) = true := by simp; omega
      clear hno hs
      go_wp2
      go_ret2
      exact ⟨.inr ⟨HNO.out, rfl⟩, k1⟩
  · have hno2 : ¬ IsDels s := by
      rintro ⟨n, S, hval, h⟩
      have hl := putOf_length n S hval.1
      have h64 := hval.1
      exact hno ⟨putOf n S, [], by rw [List.append_nil]; exact h, by omega⟩
    have hzz : ((z : Int) != 0) = true := by simp; omega
    have HNO := hid hno2
    clear hno hno2
    go_wp2
    go_ret2
    exact ⟨.inr ⟨HNO.out, rfl⟩, k1⟩
end Go.Proofs.Ytegonlmhaobgcaa
