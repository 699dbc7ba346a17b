/- The document's Dels: Get. -/
import Derived.Test.YtegonlmhaobgcaaRefDelsB
import Derived.Test.YtegonlmhaobgcaaDelsD
set_option linter.unusedSimpArgs false
set_option linter.unusedVariables false
namespace Go.Proofs.Ytegonlmhaobgcaa
open Go.RowKit Go.Vb
def upTo (t : List UInt8) (i : Nat) : Nat → Bool := fun k => decide (k < i) && bitS t k
theorem upTo_zero (t : List UInt8) : upTo t 0 = fun _ => false := by funext k; simp [upTo]
theorem upTo_set (t : List UInt8) (i : Nat) (h : bitS t i = true) : upTo t (i + 1) = setS (upTo t i) i := by
  funext k
  unfold upTo setS
  by_cases hk : k = i
  · subst hk; simp [h]
  · by_cases h2 : k < i
    · simp [hk, h2, show k < i + 1 by omega]
    · simp [hk, h2, show ¬ k < i + 1 by omega]
theorem upTo_not (t : List UInt8) (i : Nat) (h : bitS t i = false) : upTo t (i + 1) = upTo t i := by
  funext k
  unfold upTo
  by_cases hk : k = i
  · subst hk; simp [h]
  · by_cases h2 : k < i
    · simp [h2, show k < i + 1 by omega]
    · simp [h2, show ¬ k < i + 1 by omega]
theorem upTo_all (t : List UInt8) : upTo t (8 * t.length) = bitS t := by
  funext k
  unfold upTo
  by_cases h : k < 8 * t.length
  · simp [h]
  · have : t.length ≤ k / 8 := by omega
    simp [h, bitS, List.getD_eq_getElem?_getD, List.getElem?_eq_none this]
def RGetRes (s : List UInt8) (B : Nat) (e : Ending) (w' : World) : Prop :=
  (∃ n S l v D, Valid n S ∧ s = frameOf (putOf n S) ∧ RDAt w' D D n v l ∧ Rel S n l ∧ B ≤ D ∧ e = .returned (.tuple #[.pointer (some ⟨D, 0, none⟩), .int .i64 0])) ∨ (¬ IsDels s ∧ e = .returned (.tuple #[.pointer none, .int .i64 3]))
theorem dels_one {s : List UInt8} (h : IsDels s) : OneFrame s := by
  obtain ⟨n, S, hv, hs⟩ := h
  have hl := putOf_length n S hv.1
  have := hv.1
  exact ⟨putOf n S, hs, by omega⟩
set_option maxRecDepth 100000 in
set_option maxHeartbeats 1000000 in
theorem rd_Get (w : World) (v : Value) (s : List UInt8) (hv : Sl w v 1 s.length (bys s)) (hsl : s.length ≤ 1000000000000) :
    Calls Try.prog 15 #[v] w fun e w' => RGetRes s w.heap.size e w' ∧ Keeps w w' := by
  obtain ⟨i0, hi0, hz0, hz1, hz2⟩ := info_parts info2
  have hall := ref_All w v s hv hsl
  obtain ⟨ao, c, rfl, _⟩ := hv.value
  go_enter Try.func15, Try.ntmps15
  go_wp2_with fail
  refine hall.mono ?_
  rintro e w1 ⟨hres, k1⟩
  rcases hres with ⟨p, v1, u, hs, hp, rfl, s1, su⟩ | ⟨hno, v1, k, z, vs, rfl, s1, hzk⟩
  · obtain ⟨a1, c1, rfl, _⟩ := s1.value
    obtain ⟨b, off, rfl, hb, hc⟩ := s1.open (by simp)
    have hcell := hc 0 u rfl
    have hsp : p.length ≤ 70368744177664 := by omega
    simp only [Nat.add_zero] at hcell
    have HS := hid hs
    have HP := hid hp
    clear hc hs hall
    have hnew := rr_New w1 u p su hsp
    obtain ⟨au, cu, rfl, _⟩ := su.value
    go_wp2_with fail
    refine hnew.mono ?_
    rintro e w2 ⟨R, v2, rfl, r2, hR, hv2, k2⟩
    have hint := rr_Int 64 r2 hsp (by omega)
    go_wp2_with fail
    refine hint.mono ?_
    rintro e w3 ⟨m3, hor⟩
    have k12 := k1.trans k2
    have k3 : Keeps w w3 := keeps_new k12 m3 (fun b hb => by have := k1.size; omega)
    rcases hor with ⟨n, t, q, hn, rfl, r3, ht⟩ | ⟨hnon, rfl, z, hz, r3⟩
    · have e2 := r3.cell2
      have hq8 : (n + 7) / 8 ≤ 8 := by have := hn.2.1; omega
      have hn64 : n ≤ 64 := hn.2.1
      have hleft := rr_Left r3 hsp
      have htl : t.length = p.length - q := by rw [ht]; simp
      have htl2 : t.length ≤ 262144 := by have := HP.out; omega
      rw [← htl] at hleft
      have hwn : ((n : Int) + 7) / 8 = (((n + 7) / 8 : Nat) : Int) := by omega
      have HNUM := hid hn
      have HT := hid ht
      have HTL := hid htl
      clear hn ht htl hint hnew
      obtain ⟨m, hm⟩ : ∃ m, m = (n + 7) / 8 := ⟨_, rfl⟩
      rw [← hm] at hwn
      have hnm : n ≤ 8 * m := by omega
      have HM := hid hm
      clear hm
      have hwl : (0 : Int) ≤ (t.length : Int) := by omega
      go_wp2_with fail
      refine hleft.mono ?_
      rintro e w4 ⟨rfl, nq, hw4⟩
      have k4 : Keeps w3 w4 := by rw [hw4]; exact keeps_drewN w3 nq
      clear hw4
      by_cases htm : t.length = m
      · obtain rfl : m = t.length := htm.symm
        have htm8 : t.length ≤ 8 := by have := HM.out; omega
        clear htm
        have r4 := r3.keeps k4
        have hleft2 := rr_Left r4 hsp
        rw [← HTL.out] at hleft2
        go_wp2_with fail
        refine hleft2.mono ?_
        rintro e w5 ⟨rfl, nq2, hw5⟩
        have k5 : Keeps w3 w5 := k4.trans (by rw [hw5]; exact keeps_drewN w4 nq2)
        clear hw5
        have r5 := r3.keeps k5
        have hbytes := rr_Bytes t.length r5 hsp (by rw [← HTL.out]; exact Nat.le_refl _)
        rw [← HT.out, List.take_length] at hbytes
        have hRlt := r5.lt
        go_wp2_with fail
        refine hbytes.mono ?_
        rintro e w6 ⟨u6, rfl, s6, hu6, m6, _⟩
        have k6 : Keeps w w6 := keeps_new (k3.trans k5) m6 (fun b hb => by have := k1.size; omega)
        have hcl := s6
        obtain ⟨a6, c6, rfl, _⟩ := s6.value
        have k7 : Keeps w6 (w6.alloc (.cells #[.int .i64 (n : Int), .slice none 0 0] 41)) := (Below.refl _ _).alloc (Nat.le_refl _) _
        have d7 : RDAt (w6.alloc (.cells #[.int .i64 (n : Int), .slice none 0 0] 41)) w6.heap.size w6.heap.size n (.slice none 0 0) [] := ⟨heap_alloc_new w6 _, World.ownsRow_nil _ _ _ _, by simp [Value.ownBlock], Nat.le_refl _⟩
        have hsz6 := k6.size
        go_wp2_with fail
        have s6d : 0 < (bys t).length → ∀ b, (Value.slice a6 t.length c6).ownBlock = some b → b < w6.heap.size := fun h => block_lt s6 h
        generalize w6.heap.size = D at *
        generalize w6.alloc (.cells #[.int .i64 (n : Int), .slice none 0 0] 41) = w7 at *
        have k67 := k6.trans k7
        clear hbytes hleft hleft2 r3 r4 r5 hRlt m6 m3
        go_loopw [10] (fun x wr => ∃ (i : Nat) (vl : Value) (l : List Int), i ≤ 8 * t.length ∧ x = .int .i64 (i : Int) ∧ RDAt wr D D n vl l ∧ Rel (upTo t i) n l ∧ Sl wr (.slice a6 t.length c6) 1 t.length (bys t) ∧ Keeps w wr) (fun x _ => 8 * t.length - (intOf x).toNat)
        case atStart => exact ⟨0, _, [], by omega, rfl, d7, by rw [upTo_zero]; exact Rel.nil n hn64, s6.keeps k7, k67⟩
        case round =>
          obtain ⟨i, vl, l, hi, rfl, hd, hrel, hsl, hk⟩ := hrel
          by_cases hlt : i < 8 * t.length
          · have hlt' : (i : Int) < (t.length : Int) * 8 := by omega
            obtain ⟨b, off, rfl, _, hc⟩ := hsl.open (by rw [bys_length]; omega)
            have hcell := hc (i / 8) (.int .u8 (byteOf (bitS t) (i / 8) : Nat)) (by
              have : i / 8 < t.length := by omega
              unfold bys
              rw [List.getElem?_map, List.getElem?_eq_getElem this, byteOf_bitS, List.getD_eq_getElem?_getD, List.getElem?_eq_getElem this]; rfl)
            clear hc
            have hbit := has_bit (bitS t) i
            have hi8 : i / 8 < t.length := by omega
            cases hb : bitS t i with
            | true =>
              rw [hb] at hbit
              by_cases hin : i < n
              · have hin' : (i : Int) < (n : Int) := by omega
                have c1 := hd.cell1
                have f1 := hd.open_ 1
                have hDl := hd.lt
                have hrow := hd.row
                have hlm := hrel.many
                have hrel2 := hrel.add i hin (by simp [upTo])
                rw [← upTo_set t i hb] at hrel2
                obtain ⟨ov, cv, rfl⟩ := ownsRow_slice hd.row
                clear hb
                go_wp2_with (at_builtin; refine wpList_append_sl _ rfl _ _ 22 rfl D 2 i0 (.int .i64 0) 1 8 Try.underlying22 hi0 hz0 hz1 hz2 rfl (by decide) _ _ _ rfl (hrow.alloc _) _ 1 [.int .i64 (i : Int)] rfl (sl_one _ _ _) (by simp [Value.oneCell']) (by unfold maxLen; omega) (by omega) (by simp; omega) ?_)
                intro v3 w9 ho3 hg3 _ hfresh
                have M3 : Mods (fun b => (Value.slice ov l.length cv).ownBlock = some b) wr w9 := (Mods.alloc _ _ _).trans (Mods.of_grownBy hg3 (fun k e => e))
                have hD3 : w9.heap[D]? = some (.cells #[.int .i64 (n : Int), .slice ov l.length cv] 41 (0, 0)) := (M3.block D hDl hd.apart).trans hd.block
                have hap : v3.ownBlock ≠ some D := by
                  rcases hfresh with e | ⟨g, e, hg⟩
                  · rw [e]; exact hd.apart
                  · rw [e]; intro e2; injection e2 with e2; simp at hg; omega
                have d1 : w9.cell? ⟨D, 1, none⟩ = some (.slice ov l.length cv) := by unfold World.cell?; simp only [hD3]; rfl
                have g1 : w9.frozen? ⟨D, 1, none⟩ = false := by unfold World.frozen?; simp only [hD3]; simp
                obtain ⟨o3, c3, rfl⟩ := ownsRow_slice ho3
                go_wp2
                go_roundw
                have M4 : Mods (fun b => b = D) w9 (w9.setCell ⟨D, 1, none⟩ (.slice o3 (l.length + 1) c3)) := Mods.setCell _ _ _ _ (.inl rfl)
                have M5 := (M3.mono (S' := fun b => D ≤ b) (fun b _ hb => (ownsRow_base hrow hb).1)).trans (M4.mono (fun b _ hb => by omega))
                case rel =>
                  refine ⟨i + 1, _, l ++ [(i : Int)], by omega, by go_num, ⟨heap_setCell_same w9 D 1 _ 41 _ hD3, ?_, hap, Nat.le_refl _⟩, hrel2, hsl.mods M5 (fun b' hb' => ?_), keeps_new hk M5 (fun b hb => by omega)⟩
                  · rw [List.length_append, ints_append]
                    exact ownsRow_mods ho3 M4 (fun b hb e => hap (by rw [hb, e]))
                  · have := s6d (by rw [bys_length]; omega) b' hb'
                    omega
                case measure => simp [intOf]; omega
              · have hin' : (n : Int) ≤ (i : Int) := by omega
                have hno : ¬ IsDels s := by
                  rintro ⟨m', S, hval, h⟩
                  obtain ⟨h1, h2⟩ := dels_of HS.out HP.out HNUM.out hval h
                  subst h1
                  have h3 : bitsOf (bitS t) t.length = bitsOf S t.length := by
                    rw [bitsOf_bitS]
                    rw [← HM.out] at h2
                    exact h2
                  have h4 := bitsOf_inj _ _ _ h3 i hlt
                  rw [hb, hval.2 i (by omega)] at h4
                  cases h4
                have HNO := hid hno
                clear hno hb hrel
                go_wp2
                go_ret2
                exact ⟨.inr ⟨HNO.out, rfl⟩, hk⟩
            | false =>
              rw [hb] at hbit
              have hup := upTo_not t i hb
              have HUP := hid hup
              clear hup hb
              go_wp2_with fail
              go_roundw
              case rel => exact ⟨i + 1, _, l, by omega, by go_num, hd, by rw [HUP.out]; exact hrel, hsl, hk⟩
              case measure => simp [intOf]; omega
          · obtain rfl : i = 8 * t.length := by omega
            rw [upTo_all] at hrel
            have hval : Valid n (bitS t) := ⟨hn64, hrel.out⟩
            have hsp2 : s = frameOf (putOf n (bitS t)) := by
              have hp0 := HNUM.out.1
              rw [List.drop_zero] at hp0
              rw [HS.out, hp0]
              unfold putOf
              rw [← HM.out, bitsOf_bitS]
            have HSP := hid hsp2
            have HVAL := hid hval
            have hge : ¬ (((8 * t.length : Nat) : Int) < (t.length : Int) * 8) := by omega
            clear hsp2 hval
            go_wp2
            go_ret2
            exact ⟨.inl ⟨n, bitS t, l, vl, D, HVAL.out, HSP.out, hd, hrel, hsz6, rfl⟩, hk⟩
      · have hno : ¬ IsDels s := by
          rintro ⟨n', S, hval, h⟩
          obtain ⟨h1, h2⟩ := dels_of HS.out HP.out HNUM.out hval h
          apply htm
          rw [h2, bitsOf_length, HM.out]
        have htm' : (t.length : Int) ≠ (m : Int) := by omega
        have HNO := hid hno
        clear hno htm
        go_wp2
        go_ret2
        exact ⟨.inr ⟨HNO.out, rfl⟩, k3.trans k4⟩
    · have hno : ¬ IsDels s := by
        rintro ⟨n, S, hval, h⟩
        have hl := putOf_length n S hval.1
        have h64 := hval.1
        have e := (frame_inj p (putOf n S) [] [] HP.out (by omega) (by rw [List.append_nil, List.append_nil, ← h, HS.out])).1
        exact hnon ⟨n, bitsOf S ((n + 7) / 8), e, hval.1, by omega⟩
      have HNO := hid hno
      have hz' : (z : Int) ≠ 0 := by omega
      have e2 := r3.cell2
      clear hno hnon
      go_wp2
      go_ret2
      exact ⟨.inr ⟨HNO.out, rfl⟩, k3⟩
  · have hnd : ¬ IsDels s := fun h => hno (dels_one h)
    have HNO := hid hnd
    obtain ⟨a1, c1, rfl, _⟩ := s1.value
    clear hno hnd hall
    by_cases hz : z = 0
    · subst hz
      have hk : (k : Int) ≠ 1 := by rcases hzk with h | h; exact absurd rfl h; omega
      clear hzk
      go_wp2
      go_ret2
      exact ⟨.inr ⟨HNO.out, rfl⟩, k1⟩
    · have hz' : (z : Int) ≠ 0 := by omega
      clear hzk
      go_wp2
      go_ret2
      exact ⟨.inr ⟨HNO.out, rfl⟩, k1⟩
end Go.Proofs.Ytegonlmhaobgcaa
