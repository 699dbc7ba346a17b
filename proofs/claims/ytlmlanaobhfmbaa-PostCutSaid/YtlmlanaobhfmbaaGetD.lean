/- post.Get. -/
import Derived.Test.YtlmlanaobhfmbaaFlatA
import Derived.Test.YtlmlanaobhfmbaaEqualA
set_option linter.unusedSimpArgs false
set_option linter.unusedVariables false
namespace Go.Proofs.Ytlmlanaobhfmbaa
open Go.RowKit Go.Vb
theorem infoPost : (Try.prog.info? 36).map (fun i => (i.zero, i.size, i.bytes)) = some (some (.agg #[.int .i64 0, .slice none 0 0]), 2, 32) := by kernel_rfl
/-- postings that the call has made. -/
structure POwn (w : World) (base : Nat) (v : Value) (L : List Post) (cs : List Value) : Prop where
  row : w.ownsRow base 36 2 v L.length cs
  inner : ∀ i (h : i < L.length), cs[i * 2]? = some (.int .i64 (L[i]'h).1) ∧ ∃ u, cs[i * 2 + 1]? = some u ∧ Sl w u 2 (L[i]'h).2.length (spotCells (L[i]'h).2) ∧ ∀ b, u.ownBlock = some b → v.ownBlock ≠ some b ∧ base ≤ b ∧ b < w.heap.size
theorem POwn.nil (w : World) (base : Nat) : POwn w base (.slice none 0 0) [] [] := ⟨World.ownsRow_nil _ _ _ _, fun i h => by simp at h⟩
theorem POwn.posts {w : World} {base : Nat} {v : Value} {L : List Post} {cs : List Value} (h : POwn w base v L cs) : Posts w v L cs :=
  ⟨ownsRow_sl h.row, fun i hi => by obtain ⟨h1, u, h2, h3, _⟩ := h.inner i hi; exact ⟨h1, u, h2, h3⟩⟩
theorem POwn.mods {w w' : World} {base : Nat} {v : Value} {L : List Post} {cs : List Value} {M : Nat → Prop} (h : POwn w base v L cs) (k : Mods M w w') (hM : ∀ b, base ≤ b → b < w.heap.size → ¬ M b) : POwn w' base v L cs :=
  ⟨ownsRow_mods h.row k (fun b hb => hM b (ownsRow_base h.row hb).1 (ownsRow_base h.row hb).2), fun i hi => by
    obtain ⟨h1, u, h2, h3, h4⟩ := h.inner i hi
    exact ⟨h1, u, h2, h3.mods k (fun b hb => hM b (h4 b hb).2.1 (h4 b hb).2.2), fun b hb => ⟨(h4 b hb).1, (h4 b hb).2.1, Nat.lt_of_lt_of_le (h4 b hb).2.2 k.size⟩⟩⟩
/-- one more. -/
theorem POwn.push {w w' : World} {base : Nat} {v v' u : Value} {L : List Post} {cs : List Value} {p : Post} {B : Nat} (h : POwn w base v L cs) (hu : Sl w u 2 p.2.length (spotCells p.2)) (hub : ∀ b, u.ownBlock = some b → base ≤ b ∧ b < w.heap.size ∧ v.ownBlock ≠ some b)
    (k : Mods (fun b => v.ownBlock = some b) w w') (hf : v'.ownBlock = v.ownBlock ∨ ∃ g, v'.ownBlock = some g ∧ w.heap.size ≤ g) (ho : w'.ownsRow base 36 2 v' (L.length + 1) (cs ++ [.int .i64 p.1, u])) : POwn w' base v' (L ++ [p]) (cs ++ [.int .i64 p.1, u]) := by
  have hcl : cs.length = L.length * 2 := h.row.1
  have hsep : ∀ b, b < w.heap.size → v.ownBlock ≠ some b → v'.ownBlock ≠ some b := by
    intro b hb hne e
    rcases hf with h | ⟨g, h, hg⟩
    · exact hne (h ▸ e)
    · rw [h] at e; injection e with e; omega
  refine ⟨by rw [List.length_append]; exact ho, fun i hi => ?_⟩
  by_cases hlt : i < L.length
  · obtain ⟨h1, x, h2, h3, h4⟩ := h.inner i hlt
    rw [List.getElem_append_left hlt]
    refine ⟨by rw [List.getElem?_append_left (by omega)]; exact h1, x, by rw [List.getElem?_append_left (by omega)]; exact h2, h3.mods k (fun b hb => (h4 b hb).1), fun b hb => ⟨hsep b (h4 b hb).2.2 (h4 b hb).1, (h4 b hb).2.1, Nat.lt_of_lt_of_le (h4 b hb).2.2 k.size⟩⟩
  · have : i = L.length := by simp at hi; omega
    subst this
    rw [List.getElem_append_right (Nat.le_refl _)]
    simp only [Nat.sub_self, List.getElem_cons_zero]
    refine ⟨by rw [List.getElem?_append_right (by omega), hcl, Nat.sub_self]; rfl, u, by rw [List.getElem?_append_right (by omega), hcl, show L.length * 2 + 1 - L.length * 2 = 1 by omega]; rfl, hu.mods k (fun b hb => (hub b hb).2.2), fun b hb => ⟨hsep b (hub b hb).2.1 (hub b hb).2.2, (hub b hb).1, Nat.lt_of_lt_of_le (hub b hb).2.1 k.size⟩⟩
theorem POwn.mono {w : World} {base base' : Nat} {v : Value} {L : List Post} {cs : List Value} (h : POwn w base v L cs) (hb : base' ≤ base) : POwn w base' v L cs :=
  ⟨Go.World.ownsRow.mono h.row hb, fun i hi => by obtain ⟨h1, u, h2, h3, h4⟩ := h.inner i hi; exact ⟨h1, u, h2, h3, fun b hbb => ⟨(h4 b hbb).1, Nat.le_trans hb (h4 b hbb).2.1, (h4 b hbb).2.2⟩⟩⟩
def phaseS : Nat → Nat → Int → List Post → List UInt8
  | _, _, _, [] => []
  | 0, i, last, p :: t => h16 i last (p :: t) ++ (h4 i last (p :: t) ++ (postOf last p ++ flat (i + 1) p.1 t))
  | 1, i, last, p :: t => h4 i last (p :: t) ++ (postOf last p ++ flat (i + 1) p.1 t)
  | _, i, last, p :: t => postOf last p ++ flat (i + 1) p.1 t
theorem phase_zero (i : Nat) (last : Int) (ps : List Post) : phaseS 0 i last ps = flat i last ps := by cases ps <;> rfl
/-- what the reading of b has come to, where b is a posting list's bytes. -/
structure GSt (b : List UInt8) (many i q : Nat) (L : List Post) (last : Int) (s : List UInt8) (bad : Bool) : Prop where
  st : ∀ L0, GoodP L0 → b = putOf L0 → bad = false ∧ many = L0.length ∧ L = L0.take i ∧ last = lastOf (-1) (L0.take i) ∧ s = phaseS q i last (L0.drop i)
theorem head_read {L0 : List Post} (hg : GoodP L0) (i : Nat) (hi : i < L0.length) (k : Nat) (hk : 0 < k) : u64Of (lastOf (lastOf (-1) (L0.take i)) ((L0.drop i).take k) - lastOf (-1) (L0.take i) - 1) ≤ 4294967296 := by
  have h1 := okFrom_docs _ _ (okFrom_drop L0 (-1) i (checkE_zero hg.ok).2.2)
  have h2 := docsOk_take _ _ k h1
  have h3 := docsOk_last _ _ (docsOk_take L0 (-1) i (okFrom_docs _ _ (checkE_zero hg.ok).2.2))
  refine lead_small _ _ h2 (fun e => ?_) h3
  have := congrArg List.length e
  simp at this
  omega
theorem fine_part {L0 : List Post} (hg : GoodP L0) (i k : Nat) : ∀ p ∈ (L0.drop i).take k, Fine p := fun p hp => checkE_fine hg.ok hg.rng p (List.mem_of_mem_drop (List.mem_of_mem_take hp))
theorem small16 {L0 : List Post} (hg : GoodP L0) (i : Nat) (last : Int) : (partsOf postsOf 4 last ((L0.drop i).take 16)).length ≤ 1099511627776 :=
  Nat.le_trans (group_enc.len last _ (fine_part hg i 16) (by simp; omega)) (by omega)
theorem small4 {L0 : List Post} (hg : GoodP L0) (i : Nat) (last : Int) : (postsOf last ((L0.drop i).take 4)).length ≤ 1099511627776 :=
  Nat.le_trans (block_enc.len last _ (fine_part hg i 4) (by simp; omega)) (by omega)
def GetP (b : List UInt8) (B : Nat) (e : Ending) (w' : World) : Prop :=
  (∃ (L : List Post) (v' : Value) (cs : List Value), GoodP L ∧ b = putOf L ∧ e = .returned (.tuple #[v', .int .i64 0]) ∧ POwn w' B v' L cs ∧ ∀ L0, GoodP L0 → b = putOf L0 → L = L0) ∨
  ((∀ L, GoodP L → b ≠ putOf L) ∧ e = .returned (.tuple #[.slice none 0 0, .int .i64 3]))
set_option maxRecDepth 100000 in
set_option maxHeartbeats 2000000 in
theorem post_Get (w : World) (v : Value) (b : List UInt8) (hv : Sl w v 1 b.length (bys b)) (hbl : b.length ≤ 1000000000000) (hvw : ∀ k, v.ownBlock = some k → k < w.heap.size) :
    Calls Try.prog 21 #[v] w fun e w' => GetP b w.heap.size e w' ∧ Keeps w w' := by
  obtain ⟨i0, hi0, hz0, hz1, hz2⟩ := info_parts infoPost
  have kR : Keeps w (w.alloc (.cells #[v, .int .i64 (-1), .bool false] 98)) := (Below.refl _ _).alloc (Nat.le_refl _) _
  have rR : RdAt (w.alloc (.cells #[v, .int .i64 (-1), .bool false] 98)) w.heap.size v b (-1) false := ⟨heap_alloc_new w _, hv.keeps kR, fun e => by have := hvw _ e; omega⟩
  obtain ⟨ao, c, rfl, _⟩ := hv.value
  go_enter Try.func21, Try.ntmps21
  go_wp2_with fail
  obtain ⟨R, hR⟩ : ∃ R, R = w.heap.size := ⟨_, rfl⟩
  rw [← hR] at rR ⊢
  generalize w.alloc (.cells #[.slice ao b.length c, .int .i64 (-1), .bool false] 98) = w1 at *
  refine (rd_number 4096 rR (by omega)).mono ?_
  rintro e w2 ⟨many, v2, s2, bad2, rfl, hmany, hs2, L2, hc2⟩
  have hRe := hid hR
  have k2 : Keeps w w2 := ((keeps_mods (S := fun k => k = R) kR).trans L2.mods).below (Nat.le_refl _) (fun k hk h => by omega)
  have hst : GSt b many 0 0 [] (-1) s2 bad2 := ⟨fun L0 hg e => by
    rw [putOf_flat] at e
    obtain ⟨q1, q2, q3⟩ := hc2 rfl _ _ (checkE_zero hg.ok).2.1 e
    exact ⟨q1, q2, rfl, rfl, by rw [phase_zero]; exact q3⟩⟩
  have hRw2 := L2.rd.lt
  clear hR hc2
  go_wp2_with fail
  go_loopw [6, 7] (fun o q wr => ∃ (i : Nat) (L : List Post) (cs : List Value) (v' : Value) (s : List UInt8) (last : Int) (bad : Bool), q = .int .i64 (i : Int) ∧ i ≤ many ∧ L.length = i ∧ POwn wr (R + 1) o L cs ∧ RdAt wr R v' s last bad ∧ (∀ k, v'.ownBlock = some k → (Value.slice ao b.length c).ownBlock = some k) ∧ (-1 ≤ last ∧ last ≤ (i : Int) * 4294967297) ∧ s.length ≤ b.length ∧ (∀ p ∈ L, Rng p) ∧ Keeps w wr ∧ GSt b many i 0 L last s bad) (fun _ q _ => many - (intOf q).toNat)
  case atStart => exact ⟨0, [], [], v2, s2, -1, bad2, rfl, by omega, rfl, POwn.nil _ _, L2.rd, L2.own, by omega, hs2, by simp, k2, hst⟩
  case round =>
    obtain ⟨i, L, cs, v', s, last, bad, rfl, him, hLi, hown, hrd, hvo, hla, hsb, hrng, hk, hg⟩ := hrel
    have e2 := hrd.cell2
    have HG := hid hg
    have HLI := hid hLi
    clear hg hLi hst
    obtain ⟨oo, oc, e0⟩ := ownsRow_slice hown.row
    subst e0
    cases hbad : bad with
    | true =>
      rw [hbad] at e2
      have hno : ∀ L, GoodP L → b ≠ putOf L := fun L0 hgd he => by
        have := (HG.out.st L0 hgd he).1
        rw [hbad] at this; cases this
      have HN := hid hno
      clear hno
      go_wp2
      all_goals (go_ret2; exact ⟨.inr ⟨HN.out, rfl⟩, hk⟩)
    | false =>
      rw [hbad] at e2
      have HBAD := hid hbad
      by_cases hlt : i < many
      · have hlt' : (i : Int) < (many : Int) := by omega
        have kA : Keeps wr (wr.alloc (.cells #[.int .i64 16, .int .i64 4] 3)) := (Below.refl _ _).alloc (Nat.le_refl _) _
        have hnA := heap_alloc_new wr (.cells #[.int .i64 16, .int .i64 4] 3)
        have hRwr := hrd.lt
        have hk0 := hk
        go_wp2_with fail
        generalize hA : wr.heap.size = A at *
        generalize wr.alloc (.cells #[.int .i64 16, .int .i64 4] 3) = wb at *
        have hrb := hrd.keeps kA
        have hAw : A < wb.heap.size := (Array.getElem?_eq_some_iff.1 hnA).1
        have hownb : POwn wb (R + 1) (.slice oo L.length oc) L cs := hown.mods (keeps_mods (S := fun _ => False) kA) (fun _ _ _ => id)
        have hob : ∀ k, (Value.slice oo L.length oc).ownBlock = some k → k < A := fun k hk => by have := (ownsRow_base hown.row hk).2; omega
        have hbf : GSt b many i 0 L last s false := by have := HG.out; rw [hbad] at this; exact this
        rw [hbad] at hrb
        have HBF := hid hbf
        clear hbf hbad
        go_loopw [9, 31] (fun _ q w3 => ∃ (k : Nat) (v3 : Value) (s3 : List UInt8) (bad3 : Bool), k ≤ 2 ∧ q = .int .i64 (k : Int) ∧ RdAt w3 R v3 s3 last bad3 ∧ (∀ k, v3.ownBlock = some k → (Value.slice ao b.length c).ownBlock = some k) ∧ s3.length ≤ b.length ∧ Mods (fun x => x = R) wb w3 ∧ GSt b many i k L last s3 bad3) (fun _ q _ => 2 - (intOf q).toNat)
        case atStart => exact ⟨0, v', s, false, by omega, rfl, hrb, hvo, hsb, Mods.refl _ _, HBF.out⟩
        case round =>
          obtain ⟨k, v3, s3, bad3, hk2, rfl, hr3, ho3, hs3, hm3, hg3⟩ := hrel
          have HG3 := hid hg3
          have hA3 := (hm3.block A hAw (by omega)).trans hnA
          have cA0 : wr.cell? ⟨A, 0, none⟩ = some (.int .i64 16) := by unfold World.cell?; simp only [hA3]; rfl
          have cA1 : wr.cell? ⟨A, 1, none⟩ = some (.int .i64 4) := by unfold World.cell?; simp only [hA3]; rfl
          clear hg3
          have hk3 : k = 0 ∨ k = 1 ∨ k = 2 := by omega
          rcases hk3 with rfl | rfl | rfl
          by_cases hdiv : i % 16 = 0
          · have hmod : ((i : Int) % 16 == 0) = true := by simp; omega
            have hcond : ∀ L0, GoodP L0 → b = putOf L0 → ∃ n1 n2 t, n1 ≤ 4294967296 ∧ n2 ≤ 1099511627776 ∧ s3 = lebOf n1 ++ (lebOf n2 ++ t) ∧ t = phaseS 1 i last (L0.drop i) ∧ bad3 = false ∧ many = L0.length ∧ L = L0.take i ∧ last = lastOf (-1) (L0.take i) := by
              intro L0 hgd he
              obtain ⟨a1, a2, a3, a4, a5⟩ := HG3.out.st L0 hgd he
              have hil : i < L0.length := by omega
              refine ⟨u64Of (lastOf last ((L0.drop i).take 16) - last - 1), (partsOf postsOf 4 last ((L0.drop i).take 16)).length, phaseS 1 i last (L0.drop i), by rw [a4]; exact head_read hgd i hil 16 (by omega), small16 hgd i last, ?_, rfl, a1, a2, a3, a4⟩
              rw [a5, List.drop_eq_getElem_cons hil]
              show h16 i last _ ++ _ = _
              unfold h16 head16
              rw [if_pos hdiv, List.append_assoc]
              rfl
            have HC := hid hcond
            have hnum := rd_number 4294967296 hr3 (by omega)
            clear hcond hdiv
            go_wp2_with fail
            refine hnum.mono ?_
            rintro e w4 ⟨x4, v4, s4, bad4, rfl, _, hs4, L4, hc4⟩
            have HC4 := hid hc4
            have hnum2 := rd_number 1099511627776 L4.rd (by omega)
            clear hc4 hnum
            go_wp2_with fail
            refine hnum2.mono ?_
            rintro e w5 ⟨x5, v5, s5, bad5, rfl, _, hs5, L5, hc5⟩
            have hg5 : GSt b many i 1 L last s5 bad5 := ⟨fun L0 hgd he => by
              obtain ⟨n1, n2, t, b1, b2, b3, b4, b5, b6, b7, b8⟩ := HC.out L0 hgd he
              obtain ⟨d1, d2, d3⟩ := HC4.out b5 _ _ b1 b3
              obtain ⟨f1, f2, f3⟩ := hc5 d1 _ _ b2 d3
              exact ⟨f1, b6, b7, b8, by rw [f3]; exact b4⟩⟩
            have HG5 := hid hg5
            clear hc5 hnum2 hg5
            go_wp2
            go_roundw
            case rel => exact ⟨1, v5, s5, bad5, by omega, rfl, L5.rd, fun k hk => ho3 k (L4.own k (L5.own k hk)), by omega, (hm3.trans L4.mods).trans L5.mods, HG5.out⟩
            case measure => simp [intOf]
          · have hmod : ((i : Int) % 16 == 0) = false := by rw [beq_eq_false_iff_ne]; omega
            have hg5 : GSt b many i 1 L last s3 bad3 := ⟨fun L0 hgd he => by
              obtain ⟨a1, a2, a3, a4, a5⟩ := HG3.out.st L0 hgd he
              refine ⟨a1, a2, a3, a4, ?_⟩
              have hil : i < L0.length := by omega
              rw [a5, List.drop_eq_getElem_cons hil]
              show h16 i last _ ++ _ = _
              unfold h16
              rw [if_neg hdiv]
              rfl⟩
            have HG5 := hid hg5
            clear hg5 hdiv
            go_wp2
            go_roundw
            case rel => exact ⟨1, v3, s3, bad3, by omega, rfl, hr3, ho3, hs3, hm3, HG5.out⟩
            case measure => simp [intOf]
          by_cases hdiv : i % 4 = 0
          · have hmod : ((i : Int) % 4 == 0) = true := by simp; omega
            have hcond : ∀ L0, GoodP L0 → b = putOf L0 → ∃ n1 n2 t, n1 ≤ 4294967296 ∧ n2 ≤ 1099511627776 ∧ s3 = lebOf n1 ++ (lebOf n2 ++ t) ∧ t = phaseS 2 i last (L0.drop i) ∧ bad3 = false ∧ many = L0.length ∧ L = L0.take i ∧ last = lastOf (-1) (L0.take i) := by
              intro L0 hgd he
              obtain ⟨a1, a2, a3, a4, a5⟩ := HG3.out.st L0 hgd he
              have hil : i < L0.length := by omega
              refine ⟨u64Of (lastOf last ((L0.drop i).take 4) - last - 1), (postsOf last ((L0.drop i).take 4)).length, phaseS 2 i last (L0.drop i), by rw [a4]; exact head_read hgd i hil 4 (by omega), small4 hgd i last, ?_, rfl, a1, a2, a3, a4⟩
              rw [a5, List.drop_eq_getElem_cons hil]
              show h4 i last _ ++ _ = _
              unfold h4 head4
              rw [if_pos hdiv, List.append_assoc]
              rfl
            have HC := hid hcond
            have hnum := rd_number 4294967296 hr3 (by omega)
            clear hcond hdiv
            go_wp2_with fail
            refine hnum.mono ?_
            rintro e w4 ⟨x4, v4, s4, bad4, rfl, _, hs4, L4, hc4⟩
            have HC4 := hid hc4
            have hnum2 := rd_number 1099511627776 L4.rd (by omega)
            clear hc4 hnum
            go_wp2_with fail
            refine hnum2.mono ?_
            rintro e w5 ⟨x5, v5, s5, bad5, rfl, _, hs5, L5, hc5⟩
            have hg5 : GSt b many i 2 L last s5 bad5 := ⟨fun L0 hgd he => by
              obtain ⟨n1, n2, t, b1, b2, b3, b4, b5, b6, b7, b8⟩ := HC.out L0 hgd he
              obtain ⟨d1, d2, d3⟩ := HC4.out b5 _ _ b1 b3
              obtain ⟨f1, f2, f3⟩ := hc5 d1 _ _ b2 d3
              exact ⟨f1, b6, b7, b8, by rw [f3]; exact b4⟩⟩
            have HG5 := hid hg5
            clear hc5 hnum2 hg5
            go_wp2
            go_roundw
            case rel => exact ⟨2, v5, s5, bad5, by omega, rfl, L5.rd, fun k hk => ho3 k (L4.own k (L5.own k hk)), by omega, (hm3.trans L4.mods).trans L5.mods, HG5.out⟩
            case measure => simp [intOf]
          · have hmod : ((i : Int) % 4 == 0) = false := by rw [beq_eq_false_iff_ne]; omega
            have hg5 : GSt b many i 2 L last s3 bad3 := ⟨fun L0 hgd he => by
              obtain ⟨a1, a2, a3, a4, a5⟩ := HG3.out.st L0 hgd he
              refine ⟨a1, a2, a3, a4, ?_⟩
              have hil : i < L0.length := by omega
              rw [a5, List.drop_eq_getElem_cons hil]
              show h4 i last _ ++ _ = _
              unfold h4
              rw [if_neg hdiv]
              rfl⟩
            have HG5 := hid hg5
            clear hg5 hdiv
            go_wp2
            go_roundw
            case rel => exact ⟨2, v3, s3, bad3, by omega, rfl, hr3, ho3, hs3, hm3, HG5.out⟩
            case measure => simp [intOf]
          have hvw3 : ∀ k, v3.ownBlock = some k → k < wr.heap.size := fun k hk => by have := hvw k (ho3 k hk); have := hm3.size; have := kA.size; have := hk0.size; omega
          have hpost := rd_post hr3 (by omega) (by omega) hvw3
          have hown3 : POwn wr (R + 1) (.slice oo L.length oc) L cs := hownb.mods hm3 (fun x hx _ => by omega)
          have hw3A : A < wr.heap.size := Nat.lt_of_lt_of_le hAw hm3.size
          have hstep : ∀ L0, GoodP L0 → b = putOf L0 → ∃ (h : i < L0.length), OkP last (L0[i]'h) ∧ s3 = postOf last (L0[i]'h) ++ flat (i + 1) (L0[i]'h).1 (L0.drop (i + 1)) ∧ bad3 = false ∧ many = L0.length ∧ L = L0.take i ∧ last = lastOf (-1) (L0.take i) := by
            intro L0 hgd he
            obtain ⟨a1, a2, a3, a4, a5⟩ := HG3.out.st L0 hgd he
            have hil : i < L0.length := by omega
            refine ⟨hil, by rw [a4]; exact hgd.at_ i hil, ?_, a1, a2, a3, a4⟩
            rw [a5, List.drop_eq_getElem_cons hil]
            rfl
          have HSTEP := hid hstep
          have hwrA : Keeps w wr := keeps_new (hk0.trans kA) hm3 (fun b hb => by have := hRe.out; omega)
          clear hstep
          go_wp2_with fail
          refine hpost.mono ?_
          rintro e w4 ⟨p, u, v4, s4, bad4, rfl, ou, hup, hrp, hlp, hs44, L4, hc4⟩
          have hu4 := ownsRow_sl ou
          have hub := fun b hb => ownsRow_base ou (b := b) hb
          obtain ⟨au, cu, e1⟩ := ownsRow_slice ou
          subst e1
          have own4 := hown3.mods L4.mods (fun x hx _ => by omega)
          have kal : Keeps w4 (w4.alloc (.cells #[.int .i64 p.1, .slice au p.2.length cu] 36)) := (Below.refl _ _).alloc (Nat.le_refl _) _
          have own5 := own4.mods (M := fun _ => False) (keeps_mods kal) (fun _ _ _ => id)
          have hu5 := hu4.keeps kal
          have hlen4 : L.length ≤ 4096 := by have := HLI.out; omega
          have hpair := sl_pair w4 36 (.int .i64 p.1) (.slice au p.2.length cu)
          have hgst : GSt b many (i + 1) 0 (L ++ [p]) p.1 s4 bad4 := ⟨fun L0 hgd he => by
            obtain ⟨h, a1, a2, a3, a4, a5, a6⟩ := HSTEP.out L0 hgd he
            obtain ⟨d1, d2, d3⟩ := hc4 a3 _ _ a1 a2
            have ht : L0.take (i + 1) = L0.take i ++ [L0[i]'h] := by rw [List.take_add_one, List.getElem?_eq_getElem h, Option.toList_some]
            refine ⟨d1, a4, by rw [ht, ← a5, d2], by rw [ht, lastOf_snoc, d2], by rw [phase_zero, d3, d2]⟩⟩
          have HGST := hid hgst
          have K4 : Keeps w w4 := keeps_new hwrA L4.mods (fun b hb => by have := hRe.out; omega)
          have hrdl := L4.rd.keeps kal
          have hRw4 := L4.rd.lt
          have hsz4 : R + 1 ≤ (w4.alloc (.cells #[.int .i64 p.1, .slice au p.2.length cu] 36)).heap.size := by simp; omega
          have hub5 : ∀ b, (Value.slice au p.2.length cu).ownBlock = some b → R + 1 ≤ b ∧ b < (w4.alloc (.cells #[.int .i64 p.1, .slice au p.2.length cu] 36)).heap.size ∧ (Value.slice oo L.length oc).ownBlock ≠ some b := by
            intro x hx
            have h1 := hub x hx
            have h2 := kal.size
            exact ⟨by omega, by omega, fun e => by have := hob x e; omega⟩
          have hlast4 := L4.own
          clear hc4 hgst hpost
          go_wp2_with (at_builtin; refine wpList_append_sl _ rfl _ _ 22 rfl (R + 1) 36 i0 (.agg #[.int .i64 0, .slice none 0 0]) 2 32 Try.underlying22 hi0 hz0 hz1 hz2 rfl (by decide) _ _ _ rfl own5.row _ 1 [.int .i64 p.1, .slice au p.2.length cu] rfl hpair (by simp [Value.oneCell']) (by unfold maxLen; omega) (by omega) hsz4 ?_)
          intro v6 w6 o6 hg6 _ hfr
          have m6 := Mods.of_grownBy (S := fun b => (Value.slice oo L.length oc).ownBlock = some b) hg6 (fun k e => e)
          have own6 := POwn.push (B := 0) own5 hu5 hub5 m6 hfr o6
          have K6 : Keeps w w6 := (K4.trans kal).grown hg6 (K4.trans kal).size (fun k e => by have := (ownsRow_base own5.row e).1; have := hRe.out; omega)
          have rd6 : RdAt w6 R v4 s4 p.1 bad4 := ⟨(m6.block R hrdl.lt (fun e => by have := (ownsRow_base own5.row e).1; omega)).trans hrdl.block, hrdl.left.mods m6 (fun k hk e => by have := hvw k (ho3 k (hlast4 k hk)); have := (ownsRow_base own5.row e).1; have := hRe.out; omega), hrdl.apart⟩
          have hs4 : s4.length ≤ b.length := by omega
          have hrng2 : ∀ q ∈ L ++ [p], Rng q := by
            intro q hq
            rcases List.mem_append.1 hq with hq | hq
            · exact hrng q hq
            · rw [List.mem_singleton.1 hq]; exact hrp
          obtain ⟨a6, c6, e1⟩ := ownsRow_slice o6
          subst e1
          clear hpair own5 own4 hown3 hownb
          go_wp2
          go_roundw
          case rel => exact ⟨i + 1, L ++ [p], _, v4, s4, p.1, bad4, by go_num, by omega, by rw [List.length_append, HLI.out]; rfl, own6, rd6, fun k hk => ho3 k (hlast4 k hk), by omega, hs4, hrng2, K6, HGST.out⟩
          case measure => simp [intOf]; omega
      · have him2 : i = many := by omega
        have hle' : (many : Int) ≤ (i : Int) := by omega
        have hfin : ∀ L0, GoodP L0 → b = putOf L0 → L = L0 := fun L0 hgd he => by
          obtain ⟨a1, a2, a3, _⟩ := HG.out.st L0 hgd he
          rw [a3, him2, a2, List.take_length]
        have HFIN := hid hfin
        have HIM := hid him2
        have hput := put_any wr _ L cs hown.posts hrng
        clear hfin him2
        have hvr := hv.keeps hk
        by_cases hE : checkE L = 0
        · rw [hE] at hput
          have hgood : GoodP L := ⟨hE, hrng⟩
          have HGOOD := hid hgood
          clear hE hgood
          go_wp2_with fail
          refine hput.mono ?_
          rintro e w3 ⟨v3, rfl, hz, _, k3⟩
          have o3 := hz (by simp)
          have heq := equal_any w3 v3 _ (putOf L) b (ownsRow_sl o3) (hvr.keeps k3)
          have own3 := hown.mods (M := fun _ => False) (keeps_mods k3) (fun _ _ _ => id)
          obtain ⟨a3, c3, rfl⟩ := ownsRow_slice o3
          clear hput hz o3
          go_wp2_with fail
          refine heq.mono ?_
          rintro e w4 ⟨rfl, rfl⟩
          cases hq : (putOf L == b) with
          | true =>
            have hbe : b = putOf L := by simpa using (beq_iff_eq.1 hq).symm
            have HB := hid hbe
            clear hq hbe heq
            go_wp2
            go_ret2
            exact ⟨.inl ⟨L, _, cs, HGOOD.out, HB.out, rfl, own3.mono (by have := hRe.out; omega), HFIN.out⟩, hk.trans k3⟩
          | false =>
            have hno : ∀ L, GoodP L → b ≠ putOf L := fun L0 hgd he => by
              have := HFIN.out L0 hgd he
              subst this
              rw [he] at hq
              simp at hq
            have HN := hid hno
            clear hq hno heq
            go_wp2
            go_ret2
            exact ⟨.inr ⟨HN.out, rfl⟩, hk.trans k3⟩
        · have hno : ∀ L, GoodP L → b ≠ putOf L := fun L0 hgd he => by
            have := HFIN.out L0 hgd he
            subst this
            exact hE hgd.ok
          have HN := hid hno
          have hE' : ((checkE L : Int) != 0) = true := by simp; omega
          have hE'' : (checkE L : Int) ≠ 0 := by omega
          clear hno hE
          generalize checkE L = E at *
          go_wp2_with fail
          refine hput.mono ?_
          rintro e w3 ⟨v3, rfl, _, hnz, k3⟩
          obtain rfl := hnz (by omega)
          clear hput hnz
          go_wp2
          go_ret2
          exact ⟨.inr ⟨HN.out, rfl⟩, hk.trans k3⟩
end Go.Proofs.Ytlmlanaobhfmbaa
