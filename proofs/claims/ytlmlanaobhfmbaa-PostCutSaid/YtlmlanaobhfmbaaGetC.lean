/- reading.post of package post. -/
import Derived.Test.YtlmlanaobhfmbaaGetB
import Derived.Deep.RegionHeldLaw
set_option linter.unusedSimpArgs false
set_option linter.unusedVariables false
namespace Go.Proofs.Ytlmlanaobhfmbaa
open Go.RowKit Go.Vb
theorem infoSpot : (Try.prog.info? 87).map (fun i => (i.zero, i.size, i.bytes)) = some (some (.agg #[.int .i64 0, .int .i64 0]), 2, 16) := by kernel_rfl
theorem sl_pair (w : World) (e : TypeId) (a b : Value) : Sl (w.alloc (.cells #[a, b] e)) (.slice (some ⟨w.heap.size, 0, none⟩) 1 1) 2 1 [a, b] := by
  have hn := heap_alloc_new w (.cells #[a, b] e)
  refine ⟨rfl, _, 1, rfl, Nat.le_refl _, by unfold maxLen; omega, (fun h => by cases h), fun ad had j y hy => ?_⟩
  obtain rfl := Option.some.inj had
  rw [Addr.add_lit]
  unfold World.cell?
  simp only [hn]
  have : j < 2 := (List.getElem?_eq_some_iff.1 hy).1
  have : j = 0 ∨ j = 1 := by omega
  rcases this with rfl | rfl <;> exact hy
def zipS (p a : List Int) : List Spot := p.zip a
theorem zipS_take (p a : List Int) (j : Nat) (h1 : j < p.length) (h2 : j < a.length) : zipS (p.take (j + 1)) (a.take (j + 1)) = zipS (p.take j) (a.take j) ++ [(p[j]'h1, a[j]'h2)] := by
  unfold zipS
  rw [List.take_add_one, List.take_add_one, List.getElem?_eq_getElem h1, List.getElem?_eq_getElem h2, Option.toList_some, Option.toList_some, List.zip_append (by simp; omega)]
  rfl
theorem spotCells_append (a b : List Spot) : spotCells (a ++ b) = spotCells a ++ spotCells b := by unfold spotCells; simp
theorem zipS_len (p a : List Int) (h : p.length = a.length) : (zipS p a).length = p.length := by unfold zipS; simp [h]
structure OkP (last : Int) (p : Post) : Prop where
  fine : Fine p
  lo : last < p.1
  hi : p.1 ≤ 4294967296
  pos : risesB Prod.fst (-1) p.2 = true
  at_ : risesB Prod.snd (-1) p.2 = true
def PostRes (s : List UInt8) (last : Int) (bad : Bool) (w : World) (R : Nat) (v : Value) (e : Ending) (w' : World) : Prop :=
  ∃ (p : Post) (u v' : Value) (s' : List UInt8) (bad' : Bool), e = .returned (.agg #[.int .i64 p.1, u]) ∧ w'.ownsRow w.heap.size 87 2 u p.2.length (spotCells p.2) ∧ p.2.length ≤ 4096 ∧ Rng p ∧ (last < p.1 ∧ p.1 ≤ last + 4294967297) ∧ s'.length ≤ s.length ∧ Left w R v bad w' v' s' p.1 bad' ∧
    (bad = false → ∀ p0 t, OkP last p0 → s = postOf last p0 ++ t → bad' = false ∧ p = p0 ∧ s' = t)
theorem zip_maps (l : List Spot) : zipS (l.map Prod.fst) (l.map Prod.snd) = l := by
  unfold zipS; induction l with
  | nil => rfl
  | cons a t ih => simp [ih]
set_option maxRecDepth 100000 in
set_option maxHeartbeats 2000000 in
theorem rd_post {w : World} {R : Nat} {v : Value} {s : List UInt8} {last : Int} {bad : Bool} (h : RdAt w R v s last bad) (hs : s.length ≤ 1000000000000) (hla : -1 ≤ last ∧ last ≤ 4611686018427387904) (hvw : ∀ b, v.ownBlock = some b → b < w.heap.size) :
    Calls Try.prog 69 #[.pointer (some ⟨R, 0, none⟩)] w fun e w' => PostRes s last bad w R v e w' := by
  obtain ⟨i0, hi, hz0, hz1, hz2⟩ := info_parts infoSpot
  have hR := h.lt
  have ka : Keeps w (w.alloc (.cells #[.int .i64 0, .slice none 0 0] 36)) := (Below.refl _ _).alloc (Nat.le_refl _) _
  have hnew := heap_alloc_new w (.cells #[.int .i64 0, .slice none 0 0] 36)
  have h1 := h.keeps ka
  go_enter Try.func69, Try.ntmps69
  go_wp2_with fail
  generalize hX2 : w.heap.size = X2 at *
  generalize w.alloc (.cells #[.int .i64 0, .slice none 0 0] 36) = wa at *
  have kd : Keeps wa wa.drew := keeps_drewN wa 1
  have hd := h1.keeps kd
  have hnum := rd_number 4294967296 hd (by omega)
  have c1 := hd.cell1
  have f1 := hd.open_ 1
  go_region_with (go_at_call 68; refine hnum.mono ?_; rintro e w1 ⟨x, v1, s1, bad1, rfl, hx, hs1, L1, hc1⟩; have d1 := L1.rd.cell1; have g1 := L1.rd.open_ 1; have hx1 : IntKind.i64.wrap ((x : Int) + 1) = (x : Int) + 1 := IntWalk.i64_in _ (by omega); obtain ⟨y, hyw⟩ : ∃ y : Int, IntKind.i64.wrap (last + ((x : Int) + 1)) = y := ⟨_, rfl⟩; have hyy : y = last + ((x : Int) + 1) := (by rw [← hyw]; exact IntWalk.i64_in _ (by omega)); have HY := hid hyy; have hyr : -1 ≤ y ∧ y ≤ 9223372036854775807 ∧ last < y ∧ y ≤ last + 4294967297 := (by omega); clear hyy)
  all_goals
    have r2 := L1.rd.setLast y
    have hX2w : X2 < wa.heap.size := (Array.getElem?_eq_some_iff.1 hnew).1
    have m2 : Mods (fun b => b = R) wa (w1.setCell ⟨R, 1, none⟩ (.int .i64 y)) := ((keeps_mods kd).trans L1.mods).trans (Mods.setCell _ _ _ _ (.inl rfl))
    have HC1 := hid hc1
    have hst1 := L1.stay
    have hown1 := L1.own
    clear hc1 hnum d1 g1 hx1 hyw L1 c1 f1 hd
    generalize w1.setCell ⟨R, 1, none⟩ (.int .i64 y) = w2 at *
    have hrow1 := rd_row r2 (by omega)
    clear h1
    go_wp2_with fail
    refine hrow1.mono ?_
    rintro e w3 ⟨u3, v3, P, s3, bad3, rfl, o3, hP1, hP2, hs3, L3, hc3⟩
    have HC3 := hid hc3
    have hrow2 := rd_row L3.rd (by omega)
    have ho3b := fun b hb => ownsRow_base o3 (b := b) hb
    obtain ⟨a3, c3, rfl⟩ := ownsRow_slice o3
    clear hrow1 hc3
    go_wp2_with fail
    refine hrow2.mono ?_
    rintro e w4 ⟨u4, v4, A, s4, bad4, rfl, o4, hA1, hA2, hs4, L4, hc4⟩
    have HC4 := hid hc4
    have ho4b := fun b hb => ownsRow_base o4 (b := b) hb
    have hRw2 := r2.lt
    have o34 := ownsRow_mods o3 L4.mods (fun b hb e => by have := (ho3b b hb).1; omega)
    obtain ⟨a4, c4, rfl⟩ := ownsRow_slice o4
    clear hrow2 hc4
    have e1 := L4.rd.cell1
    have m4 : Mods (fun b => b = R) wa w4 := (m2.trans L3.mods).trans L4.mods
    have hX24 : X2 < w4.heap.size := Nat.lt_of_lt_of_le hX2w m4.size
    have hRX : R < X2 := hR
    have hn4 : w4.heap[X2]? = some (.cells #[.int .i64 0, .slice none 0 0] 36 (0, 0)) := (m4.block X2 hX2w (by omega)).trans hnew
    have k5 : Keeps w4 (w4.alloc (.cells #[.int .i64 y, .slice none 0 0] 36)) := (Below.refl _ _).alloc (Nat.le_refl _) _
    have hn5 := heap_alloc_new w4 (.cells #[.int .i64 y, .slice none 0 0] 36)
    have hC : Hid (bad = false → ∀ p0 t, OkP last p0 → s = postOf last p0 ++ t → bad4 = false ∧ y = p0.1 ∧ P = p0.2.map Prod.fst ∧ A = p0.2.map Prod.snd ∧ s4 = t) := by
      intro hb p0 t hp he
      have hfin := hp.fine
      have h64 : u64Of (p0.1 - last - 1) ≤ 4294967296 := by have := hp.lo; have := hp.hi; unfold u64Of; omega
      have hnat : (u64Of (p0.1 - last - 1) : Int) = p0.1 - last - 1 := by have := hp.lo; have := hp.hi; unfold u64Of; omega
      unfold postOf at he
      rw [List.append_assoc, List.append_assoc] at he
      obtain ⟨b1, b2, b3⟩ := HC1.out hb _ _ h64 he
      obtain ⟨b4, b5, b6⟩ := HC3.out b1 _ _ ⟨by rw [risesL_map]; exact hp.pos, by simpa using hfin.few, by intro z hz; obtain ⟨q, hq, rfl⟩ := List.mem_map.1 hz; exact hfin.posM q hq⟩ b3
      obtain ⟨b7, b8, b9⟩ := HC4.out b4 _ _ ⟨by rw [risesL_map]; exact hp.at_, by simpa using hfin.few, by intro z hz; obtain ⟨q, hq, rfl⟩ := List.mem_map.1 hz; exact hfin.atM q hq⟩ b6
      refine ⟨b7, ?_, b5, b8, b9⟩
      rw [HY.out, b2]; omega
    have hown : ∀ b, v4.ownBlock = some b → v.ownBlock = some b := fun b hb => hown1 b (L3.own b (L4.own b hb))
    have hstay : bad = true → bad4 = true := fun hb => L4.stay (L3.stay (hst1 hb))
    have r5 := L4.rd.keeps k5
    have e2 := r5.cell2
    have f2 := r5.open_ 2
    have hX5 : R < w4.heap.size := L4.rd.lt
    have z0 : w4.cell? ⟨X2, 0, none⟩ = some (.int .i64 0) := by unfold World.cell?; simp only [hn4]; rfl
    have z1 : w4.cell? ⟨X2, 1, none⟩ = some (.slice none 0 0) := by unfold World.cell?; simp only [hn4]; rfl
    have y0 : w4.frozen? ⟨X2, 0, none⟩ = false := by unfold World.frozen?; simp only [hn4]; simp
    have y1 : w4.frozen? ⟨X2, 1, none⟩ = false := by unfold World.frozen?; simp only [hn4]; simp
    have f24 := L4.rd.open_ 2
    have hmw : Mods (fun b => b = R) w w4 := (keeps_mods ka).then m4 (fun i _ h => h)
    have FINB : (bad4 = true ∨ P.length ≠ A.length) → ∀ wF, Mods (fun b => b = X2) (w4.setCell ⟨R, 2, none⟩ (.bool true)) wF → PostRes s last bad w R v (.returned (.agg #[.int .i64 y, .slice none 0 0])) wF := by
      intro hor wF hm
      have rF := L4.rd.setBad true
      have rF2 : RdAt wF R v4 s4 y true := ⟨(hm.block R rF.lt (by omega)).trans rF.block, rF.left.mods hm (fun b hb e => by have := hvw b (hown b hb); omega), rF.apart⟩
      refine ⟨(y, []), .slice none 0 0, v4, s4, true, rfl, World.ownsRow_nil _ _ _ _, by simp, ⟨by simp, by simp, by simp only; omega⟩, ⟨hyr.2.2.1, hyr.2.2.2⟩, (by omega), ⟨rF2, hown, fun _ => rfl, (hmw.trans (Mods.setCell _ _ _ _ (.inl rfl))).then hm (fun i hi h => by omega)⟩, fun hb p0 t hp he => ?_⟩
      obtain ⟨b1, _, b3, b4, _⟩ := hC.out hb p0 t hp he
      rcases hor with h | h
      · rw [b1] at h; cases h
      · exact absurd (by rw [b3, b4]; simp) h
    have FB := hid FINB
    clear FINB
    cases hb4 : bad4 with
    | true =>
      rw [hb4] at e2
      go_wp2
      have hnb : ((w4.setCell ⟨R, 2, none⟩ (.bool true)).setCell ⟨X2, 0, none⟩ (.int .i64 y)).heap[X2]? = some (.cells #[.int .i64 y, .slice none 0 0] 36 (0, 0)) := heap_setCell_same _ X2 0 _ 36 _ ((heap_setCell_other w4 ⟨R, 2, none⟩ X2 _ (fun e => by simp only at e; omega)).trans hn4)
      have hnc := heap_setCell_same _ X2 1 _ 36 (.slice none 0 0) hnb
      have hm : Mods (fun b => b = X2) (w4.setCell ⟨R, 2, none⟩ (.bool true)) (((w4.setCell ⟨R, 2, none⟩ (.bool true)).setCell ⟨X2, 0, none⟩ (.int .i64 y)).setCell ⟨X2, 1, none⟩ (.slice none 0 0)) := (Mods.setCell (fun b => b = X2) _ ⟨X2, 0, none⟩ _ (.inl rfl)).trans (Mods.setCell (fun b => b = X2) _ ⟨X2, 1, none⟩ _ (.inl rfl))
      have hnd := (Below.heap_alloc _ (.cells #[.int .i64 y, .slice none 0 0] 36) X2 (Array.getElem?_eq_some_iff.1 hnc).1).trans hnc
      have hme := hm.trans (Mods.alloc _ _ (.cells #[.int .i64 y, .slice none 0 0] 36))
      generalize ((((w4.setCell ⟨R, 2, none⟩ (.bool true)).setCell ⟨X2, 0, none⟩ (.int .i64 y)).setCell ⟨X2, 1, none⟩ (.slice none 0 0)).alloc (.cells #[.int .i64 y, .slice none 0 0] 36)) = wF at *
      have xF0 : wF.cell? ⟨X2, 0, none⟩ = some (.int .i64 y) := by unfold World.cell?; simp only [hnd]; rfl
      have xF1 : wF.cell? ⟨X2, 1, none⟩ = some (.slice none 0 0) := by unfold World.cell?; simp only [hnd]; rfl
      refine bodyPost_ret (v := .agg #[.int .i64 y, .slice none 0 0]) ?_ rfl (FB.out (.inl hb4) wF hme)
      simp [results, Try.f69, go_sem, xF0, xF1]
    | false =>
      rw [hb4] at e2
      by_cases hPA : P.length = A.length
      · have hpa : ((P.length : Int) != (A.length : Int)) = false := by simp; omega
        have HPA := hid hPA
        clear hPA
        go_wp2_with fail
        have hX5n : X2 < w4.heap.size := hX24
        have hPo := ownsRow_sl o34
        have hAo := ownsRow_sl o4
        have hPb : ∀ b, (Value.slice a3 P.length c3).ownBlock = some b → b < w4.heap.size := fun b hb => (ownsRow_base o34 hb).2
        have hAb : ∀ b, (Value.slice a4 A.length c4).ownBlock = some b → b < w4.heap.size := fun b hb => (ownsRow_base o4 hb).2
        have hr4 := L4.rd
        clear e1 e2 f2 f24 z0 z1 y0 y1 r5
        generalize hX5 : w4.heap.size = X5 at *
        generalize hW5 : w4.alloc (.cells #[.int .i64 y, .slice none 0 0] 36) = w5 at *
        clear hX5 hW5
        go_loopw [6, 43] (fun _ i wr => ∃ (j : Nat) (ov : Value), j ≤ P.length ∧ i = .int .i64 (j : Int) ∧ wr.heap[X5]? = some (.cells #[.int .i64 y, ov] 36 (0, 0)) ∧ wr.ownsRow (X5 + 1) 87 2 ov j (spotCells (zipS (P.take j) (A.take j))) ∧ Below X5 w5 wr) (fun _ i _ => P.length - (intOf i).toNat)
        case atStart => exact ⟨0, _, by omega, rfl, hn5, World.ownsRow_nil _ _ _ _, Below.refl _ _⟩
        case round =>
          obtain ⟨j, ov, hj, rfl, hbx, ho, hbl⟩ := hrel
          have hlw : X5 < wr.heap.size := (Array.getElem?_eq_some_iff.1 hbx).1
          by_cases hlt : j < P.length
          · have hltA : j < A.length := by have := HPA.out; omega
            have hjA : (j : Int) < (A.length : Int) := by omega
            obtain ⟨bp, op, e1, hbp, hcp⟩ := hPo.open (by rw [ints_length]; omega)
            obtain ⟨ba, oa, e2, hba, hca⟩ := hAo.open (by rw [ints_length]; omega)
            subst e1
            subst e2
            have cp := hcp j (.int .i64 (P[j]'hlt)) (by simp [ints, hlt])
            have ca := hca j (.int .i64 (A[j]'hltA)) (by simp [ints, hltA])
            have hz := zipS_take P A j hlt hltA
            obtain ⟨pj, hpj⟩ : ∃ pj, pj = P[j]'hlt := ⟨_, rfl⟩
            obtain ⟨aj, haj⟩ : ∃ aj, aj = A[j]'hltA := ⟨_, rfl⟩
            rw [← hpj] at cp hz
            rw [← haj] at ca hz
            have hbpl := hPb bp rfl
            have hbal := hAb ba rfl
            have cp5 : wr.cell? ⟨bp, op + j, none⟩ = some (.int .i64 pj) := (hbl.cell (p := ⟨bp, op + j, none⟩) hbpl).trans (k5.cell cp)
            have ca5 : wr.cell? ⟨ba, oa + j, none⟩ = some (.int .i64 aj) := (hbl.cell (p := ⟨ba, oa + j, none⟩) hbal).trans (k5.cell ca)
            have HZ := hid hz
            clear hcp hca cp ca hz hpj haj
            have hob := fun b hb => ownsRow_base ho (b := b) hb
            obtain ⟨oo, oc, rfl⟩ := ownsRow_slice ho
            have cx : wr.cell? ⟨X5, 1, none⟩ = some (.slice oo j oc) := by unfold World.cell?; simp only [hbx]; rfl
            have kal : Keeps wr (wr.alloc (.cells #[.int .i64 pj, .int .i64 aj] 87)).drew := Keeps.trans ((Below.refl _ _).alloc (Nat.le_refl _) _) (keeps_drewN _ 1)
            go_wp2_with fail
            go_region_law (first
                | (refine step_append_sl rfl _ _ 34 rfl (X5 + 1) 87 i0 (.agg #[.int .i64 0, .int .i64 0]) 2 16 Try.underlying34 hi hz0 hz1 hz2 rfl (by decide) _ _ _ rfl (ho.alloc _) _ 1 [.int .i64 pj, .int .i64 aj] rfl ((sl_pair wr 87 (.int .i64 pj) (.int .i64 aj)).keeps (keeps_drewN _ 1)) (by simp [Value.oneCell']) (by unfold maxLen; omega) (by omega) (by simp [World.drew]; omega) ?_; intro v9 w9 o9 hg9 _ hfr; have m9 := Mods.of_grownBy (S := fun b => (Value.slice oo j oc).ownBlock = some b) hg9 (fun k e => e); have hb9 := (m9.block X5 (Nat.lt_of_lt_of_le hlw kal.size) (fun e => by have := (hob _ e).1; omega)).trans (Keeps.heap kal hbx); have cx9 : w9.cell? ⟨X5, 1, none⟩ = some (.slice oo j oc) := (by unfold World.cell?; simp only [hb9]; rfl); have fx9 : w9.frozen? ⟨X5, 1, none⟩ = false := (by unfold World.frozen?; simp only [hb9]; simp); obtain ⟨a9, c9, rfl⟩ := ownsRow_slice o9; have ms9 := fun v => Mods.setCell (fun b => b = X5) w9 ⟨X5, 1, none⟩ v (.inl rfl); skip))
            all_goals
              have m10 : Mods (fun b => b = X5 ∨ (Value.slice oo j oc).ownBlock = some b) wr (w9.setCell ⟨X5, 1, none⟩ (.slice a9 (j + 1) c9)) := ((keeps_mods kal).trans (m9.mono (fun b _ h => .inr h))).trans ((ms9 _).mono (fun b _ h => .inl h))
              have hb10 := heap_setCell_same w9 X5 1 _ 36 (.slice a9 (j + 1) c9) hb9
              have o10 := ownsRow_mods o9 (ms9 (.slice a9 (j + 1) c9)) (fun b hb e => by have := (ownsRow_base o9 hb).1; omega)
              have hbl10 : Below X5 w5 (w9.setCell ⟨X5, 1, none⟩ (.slice a9 (j + 1) c9)) := Below.trans hbl (m10.below (by omega) (fun k hk h => by rcases h with h | h; omega; have := (hob k h).1; omega))
              go_wp2
              go_roundw
              case rel => exact ⟨j + 1, _, by omega, by go_num, hb10, by rw [HZ.out, spotCells_append]; exact o10, hbl10⟩
              case measure => simp [intOf]; omega
          · have hjP : j = P.length := by omega
            have HJ := hid hjP
            have hlA : (P.length : Int) ≤ (j : Int) := by omega
            have hnX : wr.heap[X2]? = some (.cells #[.int .i64 0, .slice none 0 0] 36 (0, 0)) := (hbl.block X2 hX5n).trans (Keeps.heap k5 hn4)
            obtain ⟨oo, oc, rfl⟩ := ownsRow_slice ho
            have q0 : wr.cell? ⟨X5, 0, none⟩ = some (.int .i64 y) := by unfold World.cell?; simp only [hbx]; rfl
            have q1 : wr.cell? ⟨X5, 1, none⟩ = some (.slice oo j oc) := by unfold World.cell?; simp only [hbx]; rfl
            have z0 : wr.cell? ⟨X2, 0, none⟩ = some (.int .i64 0) := by unfold World.cell?; simp only [hnX]; rfl
            have z1 : wr.cell? ⟨X2, 1, none⟩ = some (.slice none 0 0) := by unfold World.cell?; simp only [hnX]; rfl
            have y0 : wr.frozen? ⟨X2, 0, none⟩ = false := by unfold World.frozen?; simp only [hnX]; simp
            have y1 : wr.frozen? ⟨X2, 1, none⟩ = false := by unfold World.frozen?; simp only [hnX]; simp
            clear hjP
            go_wp2
            have hnb := heap_setCell_same wr X2 0 _ 36 (.int .i64 y) hnX
            have hnc := heap_setCell_same _ X2 1 _ 36 (.slice oo j oc) hnb
            have hm : Mods (fun b => b = X2) wr ((wr.setCell ⟨X2, 0, none⟩ (.int .i64 y)).setCell ⟨X2, 1, none⟩ (.slice oo j oc)) := (Mods.setCell (fun b => b = X2) _ ⟨X2, 0, none⟩ _ (.inl rfl)).trans (Mods.setCell (fun b => b = X2) _ ⟨X2, 1, none⟩ _ (.inl rfl))
            generalize (wr.setCell ⟨X2, 0, none⟩ (.int .i64 y)).setCell ⟨X2, 1, none⟩ (.slice oo j oc) = wF at *
            have xF0 : wF.cell? ⟨X2, 0, none⟩ = some (.int .i64 y) := by unfold World.cell?; simp only [hnc]; rfl
            have xF1 : wF.cell? ⟨X2, 1, none⟩ = some (.slice oo j oc) := by unfold World.cell?; simp only [hnc]; rfl
            have hzl := zipS_len P A HPA.out
            have oF := ownsRow_mods ho hm (fun b hb e => by have := (ownsRow_base ho hb).1; omega)
            have eP : P.take j = P := by rw [HJ.out, List.take_length]
            have eA : A.take j = A := by rw [HJ.out, HPA.out, List.take_length]
            rw [eP, eA] at oF
            have hbm : Mods (fun b => X5 ≤ b) w5 wr := Mods.of_below hbl (fun k _ h => h)
            have r5 := (hr4.keeps k5)
            have rr : RdAt wr R v4 s4 y bad4 := ⟨(hbm.block R r5.lt (by omega)).trans r5.block, r5.left.mods hbm (fun b hb e => by have := hvw b (hown b hb); omega), r5.apart⟩
            have rF : RdAt wF R v4 s4 y bad4 := ⟨(hm.block R rr.lt (by omega)).trans rr.block, rr.left.mods hm (fun b hb e => by have := hvw b (hown b hb); omega), rr.apart⟩
            have hk45 := k5.size
            have hmF : Mods (fun b => b = R) w wF := ((hmw.trans (keeps_mods k5)).then hbm (fun i hi h => by omega)).then hm (fun i hi h => by omega)
            refine bodyPost_ret (v := .agg #[.int .i64 y, .slice oo j oc]) ?_ rfl ⟨(y, zipS P A), .slice oo j oc, v4, s4, bad4, rfl, ?_, by simp only; omega, ⟨?_, ?_, by simp only; omega⟩, ⟨hyr.2.2.1, hyr.2.2.2⟩, (by omega), ⟨rF, hown, hstay, hmF⟩, fun hb p0 t hp he => ?_⟩
            · simp [results, Try.f69, go_sem, xF0, xF1]
            · simp only
              rw [hzl, ← HJ.out]
              exact Go.World.ownsRow.mono oF (by omega)
            · rintro ⟨q1, q2⟩ hq
              exact hP2 _ (List.of_mem_zip hq).1
            · rintro ⟨q1, q2⟩ hq
              exact hA2 _ (List.of_mem_zip hq).2
            · obtain ⟨b1, b2, b3, b4, b5⟩ := hC.out hb p0 t hp he
              exact ⟨b1, by rw [b2, b3, b4, zip_maps], b5⟩
      · have hpa : ((P.length : Int) != (A.length : Int)) = true := by simp; omega
        have HPA := hid hPA
        clear hPA
        go_wp2
        have hnb : ((w4.setCell ⟨R, 2, none⟩ (.bool true)).setCell ⟨X2, 0, none⟩ (.int .i64 y)).heap[X2]? = some (.cells #[.int .i64 y, .slice none 0 0] 36 (0, 0)) := heap_setCell_same _ X2 0 _ 36 _ ((heap_setCell_other w4 ⟨R, 2, none⟩ X2 _ (fun e => by simp only at e; omega)).trans hn4)
        have hnc := heap_setCell_same _ X2 1 _ 36 (.slice none 0 0) hnb
        have hm : Mods (fun b => b = X2) (w4.setCell ⟨R, 2, none⟩ (.bool true)) (((w4.setCell ⟨R, 2, none⟩ (.bool true)).setCell ⟨X2, 0, none⟩ (.int .i64 y)).setCell ⟨X2, 1, none⟩ (.slice none 0 0)) := (Mods.setCell (fun b => b = X2) _ ⟨X2, 0, none⟩ _ (.inl rfl)).trans (Mods.setCell (fun b => b = X2) _ ⟨X2, 1, none⟩ _ (.inl rfl))
        have hnd := (Below.heap_alloc _ (.cells #[.int .i64 y, .slice none 0 0] 36) X2 (Array.getElem?_eq_some_iff.1 hnc).1).trans hnc
        have hme := hm.trans (Mods.alloc _ _ (.cells #[.int .i64 y, .slice none 0 0] 36))
        generalize ((((w4.setCell ⟨R, 2, none⟩ (.bool true)).setCell ⟨X2, 0, none⟩ (.int .i64 y)).setCell ⟨X2, 1, none⟩ (.slice none 0 0)).alloc (.cells #[.int .i64 y, .slice none 0 0] 36)) = wF at *
        have xF0 : wF.cell? ⟨X2, 0, none⟩ = some (.int .i64 y) := by unfold World.cell?; simp only [hnd]; rfl
        have xF1 : wF.cell? ⟨X2, 1, none⟩ = some (.slice none 0 0) := by unfold World.cell?; simp only [hnd]; rfl
        refine bodyPost_ret (v := .agg #[.int .i64 y, .slice none 0 0]) ?_ rfl (FB.out (.inr HPA.out) wF hme)
        simp [results, Try.f69, go_sem, xF0, xF1]
end Go.Proofs.Ytlmlanaobhfmbaa
