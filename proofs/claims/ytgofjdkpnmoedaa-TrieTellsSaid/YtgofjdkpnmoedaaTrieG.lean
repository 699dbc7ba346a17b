/- (*node).put. -/
import Derived.Test.YtgofjdkpnmoedaaTrieF
set_option linter.unusedSimpArgs false
set_option linter.unusedVariables false
namespace Go.Proofs.Ytgofjdkpnmoedaa
open Go.RowKit Go.Vb

structure PutTo (N N' : Nodes) (k : Nat) (p : List UInt8) (i : Int) : Prop where
  xs : ∀ k' q, xsOf N' k' q = if k' = k ∧ q <+: p then addTo (xsOf N k' q) i else xsOf N k' q
  gone : ∀ k' q, N' k' q = none ↔ N k' q = none ∧ ¬ (k' = k ∧ q <+: p)
  root : ∀ k' n, N k' [] = some n → ∃ n', N' k' [] = some n' ∧ n'.at_ = n.at_
structure StepTo (N N' : Nodes) (k : Nat) (p : List UInt8) (i : Int) : Prop where
  xs : ∀ k' q, xsOf N' k' q = if k' = k ∧ q = p then addTo (xsOf N k' q) i else xsOf N k' q
  gone : ∀ k' q, N' k' q = none ↔ N k' q = none ∧ ¬ (k' = k ∧ q = p)
  root : ∀ k' n, N k' [] = some n → ∃ n', N' k' [] = some n' ∧ n'.at_ = n.at_

theorem no_snoc {k k' : Nat} (p : List UInt8) (c : UInt8) : ¬ (k = k' ∧ p = p ++ [c]) := fun h => by have := congrArg List.length h.2; simp at this
theorem no_snoc' {k k' : Nat} (p : List UInt8) (c : UInt8) : ¬ (k = k' ∧ p ++ [c] = p) := fun h => by have := congrArg List.length h.2; simp at this
theorem prefix_snoc (q p : List UInt8) (c : UInt8) : q <+: p ++ [c] ↔ q <+: p ∨ q = p ++ [c] := by
  rw [List.prefix_concat_iff]; exact or_comm
theorem PutTo.first {N N' : Nodes} {k : Nat} {i : Int} (h : StepTo N N' k [] i) : PutTo N N' k [] i :=
  ⟨fun k' q => by rw [h.xs]; simp [List.prefix_nil], fun k' q => by rw [h.gone]; simp [List.prefix_nil], h.root⟩
theorem PutTo.step {N N' N'' : Nodes} {k : Nat} {p : List UInt8} {c : UInt8} {i : Int} (h : PutTo N N' k p i) (g : StepTo N' N'' k (p ++ [c]) i) : PutTo N N'' k (p ++ [c]) i := by
  refine ⟨fun k' q => ?_, fun k' q => ?_, fun k' n hn => ?_⟩
  · rw [g.xs, h.xs]
    by_cases h1 : k' = k ∧ q = p ++ [c]
    · obtain ⟨rfl, rfl⟩ := h1
      have hnp : ¬ (k' = k' ∧ p ++ [c] <+: p) := by
        rintro ⟨_, h⟩
        have := h.length_le
        simp at this
        omega
      rw [if_pos ⟨rfl, rfl⟩, if_neg hnp, if_pos ⟨rfl, List.prefix_rfl⟩]
    · rw [if_neg h1]
      by_cases h2 : k' = k ∧ q <+: p
      · rw [if_pos h2, if_pos ⟨h2.1, (prefix_snoc _ _ _).2 (.inl h2.2)⟩]
      · rw [if_neg h2, if_neg]
        rintro ⟨h3, h4⟩
        rcases (prefix_snoc _ _ _).1 h4 with h4 | h4
        · exact h2 ⟨h3, h4⟩
        · exact h1 ⟨h3, h4⟩
  · rw [g.gone, h.gone, prefix_snoc]
    constructor
    · rintro ⟨⟨a, b⟩, d⟩; exact ⟨a, fun ⟨e, f⟩ => f.elim (fun f => b ⟨e, f⟩) (fun f => d ⟨e, f⟩)⟩
    · rintro ⟨a, b⟩; exact ⟨⟨a, fun ⟨e, f⟩ => b ⟨e, .inl f⟩⟩, fun ⟨e, f⟩ => b ⟨e, .inr f⟩⟩
  · obtain ⟨n', h1, h2⟩ := h.root k' n hn
    obtain ⟨n'', h3, h4⟩ := g.root k' n' h1
    exact ⟨n'', h3, h4.trans h2⟩

/-- add at a node that is there. -/
theorem StepTo.there {N : Nodes} {k : Nat} {p : List UInt8} {n : Nd} {v' : Value} {i : Int} (hn : N k p = some n) : StepTo N (N.upd k p { n with row := v', xs := addTo n.xs i }) k p i := by
  refine ⟨fun k' q => ?_, fun k' q => ?_, fun k' n' h => ?_⟩
  · by_cases h : k' = k ∧ q = p
    · obtain ⟨rfl, rfl⟩ := h; simp [xsOf, Nodes.upd, hn]
    · simp [xsOf, Nodes.upd, h]
  · by_cases h : k' = k ∧ q = p
    · obtain ⟨rfl, rfl⟩ := h; simp [Nodes.upd, hn]
    · simp [Nodes.upd, h]
  · by_cases e : k' = k ∧ [] = p
    · obtain ⟨rfl, rfl⟩ := e; rw [h] at hn; cases hn; exact ⟨_, upd_same _ _ _ _, rfl⟩
    · exact ⟨n', by rw [upd_other _ _ _ _ _ _ e]; exact h, rfl⟩
/-- add at a child that was made. -/
theorem StepTo.made {N : Nodes} {k : Nat} {p : List UInt8} {c : UInt8} {n2 : Nd} {v' : Value} {i : Int} (hc : N k (p ++ [c]) = none) (hx : n2.xs = []) :
    StepTo N ((N.upd k (p ++ [c]) n2).upd k (p ++ [c]) { n2 with row := v', xs := addTo n2.xs i }) k (p ++ [c]) i := by
  refine ⟨fun k' q => ?_, fun k' q => ?_, fun k' n' h => ?_⟩
  · by_cases h : k' = k ∧ q = p ++ [c]
    · obtain ⟨rfl, rfl⟩ := h; simp [xsOf, Nodes.upd, hc, hx]
    · simp [xsOf, Nodes.upd, h]
  · by_cases h : k' = k ∧ q = p ++ [c]
    · obtain ⟨rfl, rfl⟩ := h; simp [Nodes.upd]
    · simp [Nodes.upd, h]
  · have e : ¬ (k' = k ∧ [] = p ++ [c]) := by rintro ⟨_, h⟩; simp at h
    exact ⟨n', by rw [upd_other _ _ _ _ _ _ e, upd_other _ _ _ _ _ _ e]; exact h, rfl⟩
/-- .. at a node to which a map was made. -/
theorem StepTo.mapped {N N'' : Nodes} {k : Nat} {p q0 : List UInt8} {n : Nd} {m : Option Nat} {i : Int} (hn : N k p = some n) (g : StepTo (N.upd k p { n with mp := m }) N'' k q0 i) : StepTo N N'' k q0 i := by
  have hx : ∀ k' q, xsOf (N.upd k p { n with mp := m }) k' q = xsOf N k' q := by
    intro k' q
    by_cases h : k' = k ∧ q = p
    · obtain ⟨rfl, rfl⟩ := h; simp [xsOf, Nodes.upd, hn]
    · simp [xsOf, Nodes.upd, h]
  have h0 : ∀ k' q, N.upd k p { n with mp := m } k' q = none ↔ N k' q = none := by
    intro k' q
    by_cases h : k' = k ∧ q = p
    · obtain ⟨rfl, rfl⟩ := h; simp [Nodes.upd, hn]
    · simp [Nodes.upd, h]
  refine ⟨fun k' q => by rw [g.xs, hx], fun k' q => by rw [g.gone, h0], fun k' n' h => ?_⟩
  by_cases e : k' = k ∧ [] = p
  · obtain ⟨rfl, rfl⟩ := e
    rw [h] at hn; cases hn
    obtain ⟨n2, h1, h2⟩ := g.root k' _ (upd_same _ _ _ _)
    exact ⟨n2, h1, h2⟩
  · exact g.root k' n' (by rw [upd_other _ _ _ _ _ _ e]; exact h)

/-- add at a node of the forest. -/
theorem add_node (w : World) (base : Nat) (N : Nodes) (k : Nat) (p : List UInt8) (n : Nd) (i : Int) (F : Forest w base N) (hn : N k p = some n) (hbase : base ≤ w.heap.size) (hx : n.xs.length ≤ 1099511627776) :
    Calls Try.prog 51 #[.pointer (some n.at_), .int .i64 i] w fun e w' => e = .returned (.tuple #[]) ∧ ∃ v', Forest w' base (N.upd k p { n with row := v', xs := addTo n.xs i }) ∧ M5 base w w' := by
  have no := F.node _ _ _ hn
  obtain ⟨c1, c2, _, _⟩ := no.cell
  refine (add_any base w n.at_ n.row n.xs i c1 c2 no.row hbase (no.row_ne no) hx).mono ?_
  rintro e w' ⟨rfl, v', w1, hg, hown, hf, _, hw⟩
  exact ⟨rfl, v', F.added hn hbase hg hown hf hw⟩

set_option maxHeartbeats 1000000 in
set_option maxRecDepth 100000 in
theorem put_any (w : World) (base : Nat) (N : Nodes) (k : Nat) (s : List UInt8) (r : Nd) (v : Value) (i : Int) (F : Forest w base N) (hr : N k [] = some r) (hv : Sl w v 1 s.length (bys s)) (ha : 0 < s.length → Aside base w v) (hl : s.length ≤ 140737488355328)
    (hbase : base ≤ w.heap.size) (hx : ∀ p, (xsOf N k p).length ≤ 1099511627776) :
    Calls Try.prog 38 #[.pointer (some r.at_), v, .int .i64 i] w fun e w' => e = .returned (.tuple #[]) ∧ ∃ N', Forest w' base N' ∧ PutTo N N' k s i ∧ M5 base w w' := by
  obtain ⟨ao, c, rfl, _⟩ := hv.value
  have hadd := add_node w base N k [] r i F hr hbase (by have := hx []; simpa [xsOf, hr] using this)
  rcases hv.none_or (by decide) with ⟨h0, hnil⟩ | ⟨hp, b, off, rfl, hb, hc⟩
  · have hs : s = [] := List.eq_nil_of_length_eq_zero h0
    subst hs
    go_enter Try.func38, Try.ntmps38
    go_wp2_with fail
    refine hadd.mono ?_
    rintro e w1 ⟨rfl, v', F1, hm⟩
    go_wp2
    refine wp_loop_rounds 1 ?_
    rw [rounds_succ]
    go_wp2
    go_end0
    exact ⟨rfl, _, F1, PutTo.first (StepTo.there hr), hm⟩
  · have qM : ∀ (w : World) (r : Option Nat), (binOp .eql 57 (.map r) (.map none)).run Try.prog w = .ok (.bool r.isNone) w := fun w r => run_eql_map_nil w _ _ _ r Try.underlying57
    have hmm := @run_makeMap Try.prog
    have hab : b < base ∨ ∃ cur, w.heap[b]? = some (.cells cur 5 (0, 0)) := ha hp b rfl
    go_enter Try.func38, Try.ntmps38
    go_wp2_with fail
    refine hadd.mono ?_
    rintro e w1 ⟨rfl, v1, F1, hm1⟩
    have P1 : PutTo N (N.upd k [] { r with row := v1, xs := addTo r.xs i }) k [] i := PutTo.first (StepTo.there hr)
    go_wp2
    go_loopw [0, 15] (fun q t wr => ∃ (j : Nat) (n : Nd) (N' : Nodes), j ≤ s.length ∧ t = .int .i64 (j : Int) ∧ N' k (s.take j) = some n ∧ q = .pointer (some n.at_) ∧ Forest wr base N' ∧ PutTo N N' k (s.take j) i ∧ M5 base w wr) (fun _ t _ => s.length - (intOf t).toNat)
    case atStart => exact ⟨0, { r with row := v1, xs := addTo r.xs i }, N.upd k [] { r with row := v1, xs := addTo r.xs i }, by omega, rfl, upd_same _ _ _ _, rfl, F1, P1, hm1⟩
    case round =>
      obtain ⟨j, n, N', hj, rfl, hn, rfl, Fr, Pr, hm⟩ := hrel
      by_cases hlt : j < s.length
      · have hcell : wr.cell? ⟨b, off + j, none⟩ = some (kb (s[j]'hlt)) := (World.cell?_of_block (w := w) (hm.block hb hab)).trans (hc j _ (bys_get s j hlt))
        have no := Fr.node _ _ _ hn
        obtain ⟨c1, c2, c3, c4⟩ := no.cell
        have hbr : base ≤ wr.heap.size := Nat.le_trans hbase hm.mods.size
        have hlk := node_lookup Fr hn s[j]
        rw [← take_snoc s j hlt] at hlk
        cases hnx : N' k (s.take (j + 1)) with
        | some n2 =>
          rw [hnx] at hlk
          simp only [ptrOf] at hlk
          have hmp : n.mp.isNone = false := by
            cases e : n.mp with
            | none =>
              have := Fr.map _ _ _ hn
              rw [e] at this
              have h3 : N' k (s.take j ++ [s[j]]) = none := this s[j]
              rw [← take_snoc s j hlt, hnx] at h3
              cases h3
            | some m => rfl
          have hx2 : n2.xs.length ≤ 1099511627776 := by
            have h1 := Pr.xs k (s.take (j + 1))
            rw [if_neg] at h1
            · have h2 := hx (s.take (j + 1))
              rw [← h1] at h2
              simpa [xsOf, hnx] using h2
            · rintro ⟨_, h⟩
              have := h.length_le
              simp at this
              omega
          have hadd2 := add_node wr base N' k (s.take (j + 1)) n2 i Fr hnx hbr hx2
          have HN := hid hnx
          have HP := hid Pr
          have hmr := hid hm
          clear hnx Pr hn hx2 hm
          go_wp2_with fail
          refine hadd2.mono ?_
          rintro e w2 ⟨rfl, v2, F2, hm2⟩
          go_wp2
          go_roundw
          case rel =>
            refine ⟨j + 1, { n2 with row := v2, xs := addTo n2.xs i }, _, by omega, by go_num, upd_same _ _ _ _, rfl, F2, ?_, hmr.out.trans hm2⟩
            have h1 := HP.out
            rw [take_snoc s j hlt] at HN ⊢
            exact h1.step (StepTo.there HN.out)
          case measure => simp [intOf]; omega
        | none =>
          rw [hnx] at hlk
          simp only [ptrOf] at hlk
          have hnx' : N' k (s.take j ++ [s[j]]) = none := by rw [← take_snoc s j hlt]; exact hnx
          have HP := hid Pr
          have hmr := hid hm
          have HX := hid hnx'
          have HN := hid hn
          cases hmp : n.mp with
          | some m =>
            have hM := Fr.map _ _ _ hn
            rw [hmp] at hM c3 hlk
            have HM := hid hmp
            have hMa : MapAs kb (fun _ => True) (wr.alloc (.cells #[.slice none 0 0, .map none] 59)) m _ := MapAs.mods hM (Mods.alloc (fun _ => False) _ _) id
            clear hnx Pr hn hm hnx' hmp
            go_wp2_with (at_mapUpdate; refine wpList_mapUpdate_as rfl _ _ _ 57 rfl 5 77 Try.underlying57 fam5 m _ (s[j]'hlt) _ rfl hMa rfl trivial rfl ?_)
            intro w3 hma hgr hsz
            obtain ⟨F3, hm3⟩ := Fr.child (c := s[j]) HN.out HM.out HX.out hbr rfl hma (by simp) (fun y hy => by simp [hy]) hgr
            have hn3 : Nodes.upd N' k (s.take j ++ [s[j]]) ⟨wr.heap.size, 0, .slice none 0 0, [], none⟩ k (s.take j) = some n := by rw [upd_other _ _ _ _ _ _ (no_snoc _ _)]; exact HN.out
            obtain ⟨_, _, d3, d4⟩ := (F3.node _ _ _ hn3).cell
            have hlk3 := node_lookup F3 hn3 s[j]
            rw [upd_same, HM.out] at hlk3
            rw [HM.out] at d3
            simp only [ptrOf, Nd.at_, Nat.mul_zero] at hlk3
            have hadd3 := add_node w3 base _ k (s.take j ++ [s[j]]) _ i F3 (upd_same _ _ _ _) (Nat.le_trans hbr hm3.mods.size) (by simp)
            simp only [Nd.at_, Nat.mul_zero] at hadd3
            have HM3 := hid hm3
            clear hlk hma hgr hn3 hm3 hM hMa
            go_wp2_with fail
            refine hadd3.mono ?_
            rintro e w4 ⟨rfl, v4, F4, hm4⟩
            go_wp2
            go_roundw
            case rel =>
              refine ⟨j + 1, ⟨wr.heap.size, 0, v4, addTo [] i, none⟩, _, by omega, by go_num, ?_, rfl, F4, ?_, (hmr.out.trans HM3.out).trans hm4⟩
              · rw [take_snoc s j hlt]; exact upd_same _ _ _ _
              · rw [take_snoc s j hlt]; exact HP.out.step (StepTo.made HX.out rfl)
            case measure => simp [intOf]; omega
          | none =>
            have hM := Fr.map _ _ _ hn
            rw [hmp] at c3 hlk
            obtain ⟨F1', hm1'⟩ := Fr.mapped hn hmp hbr rfl
            have hn1 : Nodes.upd N' k (s.take j) { n with mp := some wr.heap.size } k (s.take j) = some { n with mp := some wr.heap.size } := upd_same _ _ _ _
            have hX1 : Nodes.upd N' k (s.take j) { n with mp := some wr.heap.size } k (s.take j ++ [s[j]]) = none := by rw [upd_other _ _ _ _ _ _ (no_snoc' _ _)]; exact hnx'
            have hM1 := F1'.map _ _ _ hn1
            have hlk1 := node_lookup F1' hn1 s[j]
            rw [hX1] at hlk1
            simp only [ptrOf] at hlk1
            obtain ⟨_, _, c31, c41⟩ := (F1'.node _ _ _ hn1).cell
            have hMa : MapAs kb (fun _ => True) (((wr.alloc (.map #[] 0)).setCell ⟨n.blk, 2 * n.h + 1, none⟩ (.map (some wr.heap.size))).alloc (.cells #[.slice none 0 0, .map none] 59)) wr.heap.size _ := MapAs.mods hM1 (Mods.alloc (fun _ => False) _ _) id
            have hAc : (wr.alloc (.map #[] 0)).cell? ⟨n.blk, 2 * n.h + 1, none⟩ = some (.map none) := by rw [World.cell?_alloc_lt _ _ _ no.lt]; exact c3
            have hAf : (wr.alloc (.map #[] 0)).frozen? ⟨n.blk, 2 * n.h + 1, none⟩ = false := by rw [World.frozen?_alloc_old _ _ _ (by have := no.lt; simp; omega)]; exact c4
            have HM1 := hid hm1'
            have HX1 := hid hX1
            have HN1 := hid hn1
            clear hnx Pr hn hm hnx' hmp hm1' hX1 hn1
            go_wp2_with (at_mapUpdate; refine wpList_mapUpdate_as rfl _ _ _ 57 rfl 5 77 Try.underlying57 fam5 wr.heap.size _ (s[j]'hlt) _ rfl hMa rfl trivial rfl ?_)
            intro w3 hma hgr hsz
            have hs1 : ((wr.alloc (.map #[] 0)).setCell ⟨n.blk, 2 * n.h + 1, none⟩ (.map (some wr.heap.size))).heap.size = wr.heap.size + 1 := by simp
            obtain ⟨F3, hm3⟩ := F1'.child (c := s[j]) HN1.out rfl HX1.out (by rw [hs1]; omega) rfl hma (by rw [hs1]; simp) (fun y hy => by simp [hy]) hgr
            rw [hs1] at F3
            have hn3 : Nodes.upd (Nodes.upd N' k (s.take j) { n with mp := some wr.heap.size }) k (s.take j ++ [s[j]]) ⟨wr.heap.size + 1, 0, .slice none 0 0, [], none⟩ k (s.take j) = some { n with mp := some wr.heap.size } := by rw [upd_other _ _ _ _ _ _ (no_snoc _ _)]; exact HN1.out
            obtain ⟨_, _, d3, d4⟩ := (F3.node _ _ _ hn3).cell
            have hlk3 := node_lookup F3 hn3 s[j]
            rw [upd_same] at hlk3
            simp only [ptrOf, Nd.at_, Nat.mul_zero] at hlk3
            have hadd3 := add_node w3 base _ k (s.take j ++ [s[j]]) _ i F3 (upd_same _ _ _ _) (Nat.le_trans hbr (Nat.le_trans HM1.out.mods.size hm3.mods.size)) (by simp)
            simp only [Nd.at_, Nat.mul_zero] at hadd3
            have HM3 := hid hm3
            clear hlk hlk1 hma hgr hn3 hm3 hM hM1 hMa hs1 hAc hAf
            go_wp2_with fail
            refine hadd3.mono ?_
            rintro e w4 ⟨rfl, v4, F4, hm4⟩
            go_wp2
            go_roundw
            case rel =>
              refine ⟨j + 1, ⟨wr.heap.size + 1, 0, v4, addTo [] i, none⟩, _, by omega, by go_num, ?_, rfl, F4, ?_, (hmr.out.trans (HM1.out.trans HM3.out)).trans hm4⟩
              · rw [take_snoc s j hlt]; exact upd_same _ _ _ _
              · rw [take_snoc s j hlt]
                exact HP.out.step (StepTo.mapped HN.out (StepTo.made HX1.out rfl))
            case measure => simp [intOf]; omega
      · have : j = s.length := by omega
        subst this
        have h1 := hid Pr
        clear Pr
        go_wp2
        go_end0
        have h2 := h1.out
        rw [List.take_length] at h2
        exact ⟨rfl, N', Fr, h2, hm⟩
end Go.Proofs.Ytgofjdkpnmoedaa
