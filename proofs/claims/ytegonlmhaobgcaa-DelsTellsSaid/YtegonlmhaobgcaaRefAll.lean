/- The document's All of layer 4, as far as it tells of one frame. -/
import Derived.Test.YtegonlmhaobgcaaRefFrameC
set_option linter.unusedSimpArgs false
set_option linter.unusedVariables false
namespace Go.Proofs.Ytegonlmhaobgcaa
open Go.RowKit Go.Vb
def lenOf : Value → Nat
  | .slice _ n _ => n
  | _ => 0
theorem infoBytes : (Try.prog.info? 30).map (fun i => (i.zero, i.size, i.bytes)) = some (some (.slice none 0 0), 1, 24) := by kernel_rfl
structure AllSt (s : List UInt8) (w : World) (o : Value) (k : Nat) (rest : List UInt8) (vs : List Value) : Prop where
  st : (k = 0 ∧ rest = s) ∨ ∃ p r u, 0 < k ∧ s = frameOf p ++ r ∧ p.length ≤ 262144 ∧ vs[0]? = some u ∧ Sl w u 1 p.length (bys p) ∧ (∀ b, u.ownBlock = some b → o.ownBlock ≠ some b ∧ b < w.heap.size) ∧ (k = 1 → rest = r) ∧ (1 < k → r ≠ [])
def OneFrame (s : List UInt8) : Prop := ∃ p, s = frameOf p ∧ p.length ≤ 262144
def AllRes (s : List UInt8) (e : Ending) (w' : World) : Prop :=
  (∃ p v' u, s = frameOf p ∧ p.length ≤ 262144 ∧ e = .returned (.tuple #[v', .int .i64 0]) ∧ Sl w' v' 1 1 [u] ∧ Sl w' u 1 p.length (bys p)) ∨
  (¬ OneFrame s ∧ ∃ (v' : Value) (k z : Nat) (vs : List Value), e = .returned (.tuple #[v', .int .i64 (z : Int)]) ∧ Sl w' v' 1 k vs ∧ (z ≠ 0 ∨ k ≠ 1))
theorem frame_pos (p : List UInt8) : 0 < (frameOf p).length := by unfold frameOf; simp [four_length]; omega
theorem allSt_bad {s : List UInt8} {w : World} {o : Value} {k : Nat} {rest : List UInt8} {vs : List Value} (h : AllSt s w o k rest vs) (hr : rest ≠ []) (hno : ¬ IsFrame rest) : ¬ OneFrame s := by
  rintro ⟨q, hq, hql⟩
  rcases h.st with ⟨_, rfl⟩ | ⟨p, r, u, h0, hs, hp, _, _, _, h1, h2⟩
  · exact hno ⟨q, [], by simpa using hq, hql⟩
  · have hr0 : r = [] := (frame_inj p q r [] hp hql (by rw [← hs, hq, List.append_nil])).2
    by_cases hk : k = 1
    · exact hr (by rw [h1 hk, hr0])
    · exact h2 (by omega) hr0
set_option maxRecDepth 100000 in
set_option maxHeartbeats 1000000 in
theorem ref_All (w : World) (v : Value) (s : List UInt8) (hv : Sl w v 1 s.length (bys s)) (hsl : s.length ≤ 1000000000000) :
    Calls Try.prog 33 #[v] w fun e w' => AllRes s e w' ∧ Keeps w w' := by
  obtain ⟨i0, hi, hz0, hz1, hz2⟩ := info_parts infoBytes
  obtain ⟨ao, c, rfl, h1, h2, _⟩ := hv.value
  go_enter Try.func33, Try.ntmps33
  go_wp2_with fail
  go_loopw [0, 4] (fun b o wr => ∃ (k : Nat) (rest : List UInt8) (vs : List Value), Sl w b 1 rest.length (bys rest) ∧ wr.ownsRow w.heap.size 30 1 o k vs ∧ k + rest.length ≤ s.length ∧ Keeps w wr ∧ AllSt s wr o k rest vs) (fun b _ _ => lenOf b)
  case atStart => exact ⟨0, s, [], hv, World.ownsRow_nil _ _ _ _, by omega, Below.refl _ _, ⟨.inl ⟨rfl, rfl⟩⟩⟩
  case round =>
    obtain ⟨k, rest, vs, hb, ho, hkr, hk, hst⟩ := hrel
    obtain ⟨ab, cb, rfl, hb1, hb2, _⟩ := hb.value
    have hbr := hb.keeps hk
    have hob := fun b h => (ownsRow_base ho (b := b) h)
    obtain ⟨oo, oc, rfl⟩ := ownsRow_slice ho
    by_cases hr : rest = []
    · subst hr
      have hso := ownsRow_sl ho
      clear ho hb hbr
      go_wp2
      go_ret2
      refine ⟨?_, hk⟩
      rcases hst.st with ⟨rfl, e⟩ | ⟨p, r, u, h0, hs, hp, hu, hus, _, g1, g2⟩
      · refine .inr ⟨?_, _, 0, 0, _, rfl, hso, .inr (by omega)⟩
        rintro ⟨q, hq, _⟩
        have := frame_pos q
        rw [← hq, ← e] at this
        simp at this
      · by_cases hk1 : k = 1
        · subst hk1
          have hr0 := g1 rfl
          subst hr0
          have hvs : vs = [u] := by
            have := hso.len
            match vs, this, hu with
            | [x], _, hu => simp at hu; rw [hu]
          subst hvs
          exact .inl ⟨p, _, u, by rw [hs, List.append_nil], hp, rfl, hso, hus⟩
        · refine .inr ⟨?_, _, k, 0, _, rfl, hso, .inr hk1⟩
          rintro ⟨q, hq, hql⟩
          exact g2 (by omega) (frame_inj p q r [] hp hql (by rw [← hs, hq, List.append_nil])).2
    · have hpos : 0 < rest.length := List.length_pos_iff.2 hr
      have hpos' : (0 : Int) < (rest.length : Int) := by omega
      have hget := ref_frameGet wr _ rest hbr (by omega)
      go_wp2_with fail
      refine hget.mono ?_
      rintro e w1 ⟨hres, k1⟩
      rcases hres with ⟨p, r, v1, hs, hp, rfl, o1⟩ | ⟨hno, z, hz, rfl⟩
      · have hbase := fun b hb => ownsRow_base o1 (b := b) hb
        have s1 := ownsRow_sl o1
        obtain ⟨a1, c1, rfl⟩ := ownsRow_slice o1
        have S64 : ∀ w, (sizeOf 5).run Try.prog w = .ok 1 w := fun w => by kernel_rfl
        have hlen : rest.length = (frameOf p).length + r.length := by rw [hs]; simp
        have hfp := frame_pos p
        obtain ⟨X3, s31, s32, r3, _⟩ := slice_low (P := Try.prog) (t := 30) (e := 5) (size := 1) Try.underlying30 S64 ab rest.length cb (frameOf p).length (by omega)
        have R3 : Sl w (.slice X3 r.length (cb - (frameOf p).length)) 1 r.length (bys r) := by
          have := r3 _ _ hb
          rw [show rest.length - (frameOf p).length = r.length by omega] at this
          have e : (bys rest).drop ((frameOf p).length * 1) = bys r := by rw [Nat.mul_one, hs, bys_append, List.drop_left' (by rw [bys_length])]
          rw [e] at this
          exact this
        rw [show rest.length - (frameOf p).length = r.length by omega] at s31 s32
        have ho1 : w1.ownsRow w.heap.size 30 1 (.slice oo k oc) k vs := ownsRow_mods ho (keeps_mods (S := fun _ => False) k1) (fun b _ => id)
        have hkb : k ≤ 1000000000000 := by omega
        have HS := hid hs
        have HLEN := hid hlen
        clear hs hlen r3
        generalize hfl : (frameOf p).length = fl at *
        go_wp2_with (at_builtin; refine wpList_append_sl _ rfl _ _ 60 rfl w.heap.size 30 i0 (.slice none 0 0) 1 24 Try.underlying60 hi hz0 hz1 hz2 rfl (by decide) _ k vs rfl (ho1.alloc _) _ 1 [.slice a1 p.length c1] rfl (sl_one _ _ _) (by simp [Value.oneCell']) (by unfold maxLen; omega) (by omega) (by have := hk.size; have := k1.size; simp; omega) ?_)
        intro v3 w3 ho3 hg3 _ hfresh
        have M3 : Mods (fun b => (Value.slice oo k oc).ownBlock = some b) w1 w3 := (Mods.alloc _ _ _).trans (Mods.of_grownBy hg3 (fun k e => e))
        have k3 : Keeps w w3 := ((hk.trans k1).trans ((Below.refl _ _).alloc (Nat.le_refl _) _)).grown hg3 (by have := hk.size; have := k1.size; simp; omega) (fun k e => (hob k e).1)
        have hvl : vs.length = k := by have := ho.1; omega
        obtain ⟨o3, c3, rfl⟩ := ownsRow_slice ho3
        have hsep : ∀ b, b < w1.heap.size → (Value.slice oo k oc).ownBlock ≠ some b → (Value.slice o3 (k + 1) c3).ownBlock ≠ some b := by
          intro b hbl hne e
          rcases hfresh with h | ⟨g, h, hg⟩
          · exact hne (h.symm.trans e)
          · rw [h] at e
            injection e with e
            simp at hg
            omega
        have st3 : AllSt s w3 (.slice o3 (k + 1) c3) (k + 1) r (vs ++ [.slice a1 p.length c1]) := by
          refine ⟨.inr ?_⟩
          rcases hst.st with ⟨rfl, e⟩ | ⟨p', r', u, h0, hs, hp', hu, hus, hub, g1, g2⟩
          · subst e
            have hvn : vs = [] := List.eq_nil_of_length_eq_zero hvl
            subst hvn
            refine ⟨p, r, _, by omega, HS.out, hp, rfl, s1.mods M3 (fun b hb e => by have := hbase b hb; have := hob b e; omega), fun b hb => ⟨hsep b (hbase b hb).2 (fun e => by have := hbase b hb; have := hob b e; omega), ?_⟩, fun _ => rfl, fun h => by omega⟩
            have := hbase b hb
            have := M3.size
            omega
          · refine ⟨p', r', u, by omega, hs, hp', ?_, (hus.keeps k1).mods M3 (fun b hb => (hub b hb).1), fun b hb => ⟨hsep b (by have := (hub b hb).2; have := k1.size; omega) (hub b hb).1, ?_⟩, fun h => by omega, fun _ => ?_⟩
            · rw [List.getElem?_append_left (by omega)]; exact hu
            · have := (hub b hb).2
              have := k1.size
              have := M3.size
              omega
            · by_cases hk1 : k = 1
              · rw [← g1 hk1]; exact hr
              · exact g2 (by omega)
        go_wp2
        go_roundw
        case rel => exact ⟨k + 1, r, _, R3, ho3, by have := HLEN.out; omega, k3, st3⟩
        case measure => simp [lenOf]; have := HLEN.out; omega
      · have hbad := allSt_bad hst hr hno
        have hz' : (z : Int) ≠ 0 := by omega
        go_wp2
        go_ret2
        exact ⟨.inr ⟨hbad, _, 0, z, [], rfl, Sl.nil _ _, .inl hz⟩, hk.trans k1⟩
end Go.Proofs.Ytegonlmhaobgcaa
