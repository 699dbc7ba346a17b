/- A forest of nodes: a map is made at a node; a child is made. -/
import Derived.Test.YtgofjdkpnmoedaaTrieD
set_option linter.unusedSimpArgs false
set_option linter.unusedVariables false
namespace Go.Proofs.Ytgofjdkpnmoedaa
open Go.RowKit Go.Vb
section
variable {w : World} {base : Nat} {N : Nodes}

theorem Forest.mapped {w' : World} {k : Nat} {p : List UInt8} {n : Nd} (F : Forest w base N) (hn : N k p = some n) (hmp : n.mp = none) (hbase : base ≤ w.heap.size)
    (hw : w' = (w.alloc (.map #[] 0)).setCell ⟨n.blk, 2 * n.h + 1, none⟩ (.map (some w.heap.size))) :
    Forest w' base (N.upd k p { n with mp := some w.heap.size }) ∧ M5 base w w' := by
  have no := F.node k p n hn
  obtain ⟨cur, ty, hb, hty, hc1, hc2⟩ := no.block
  have hlt := no.lt
  have hb1 : (w.alloc (.map #[] 0)).heap[n.blk]? = some (.cells cur ty (0, 0)) := (Below.heap_alloc _ _ _ hlt).trans hb
  have hb' : w'.heap[n.blk]? = some (.cells (cur.setIfInBounds (2 * n.h + 1) (.map (some w.heap.size))) ty (0, 0)) := by
    rw [hw]
    simp [World.setCell, Array.getElem?_modify, hb1]
  have hoth : ∀ b, b < w.heap.size → b ≠ n.blk → w'.heap[b]? = w.heap[b]? := by
    intro b h1 h3
    rw [hw, Below.heap_setCell _ _ _ _ h3]
    exact Below.heap_alloc _ _ _ h1
  have hnew : w'.heap[w.heap.size]? = some (.map #[] 0) := by
    rw [hw, Below.heap_setCell _ _ _ _ (by simp; omega)]
    exact (MapKept.heap_alloc w _).1
  have hmods : M5 base w w' := by
    refine ⟨?_, fun b cur' hb5 => hoth b (Array.getElem?_eq_some_iff.1 hb5).1 (fun e => ?_)⟩
    · rw [hw]
      exact (Mods.alloc _ _ _).trans (Mods.setCell _ _ _ _ (.inl no.low))
    · rw [e, hb] at hb5; injection hb5 with hc; injection hc with _ hc; exact (ty_ne hty).2 hc
  have hl1 : 2 * n.h + 1 < cur.size := (Array.getElem?_eq_some_iff.1 hc2).1
  have hfresh : ∀ k' p' n', N k' p' = some n' → n'.mp ≠ some w.heap.size := by
    intro k' p' n' h e
    have := F.map k' p' n' h
    rw [e] at this
    have := this.lt
    omega
  have hdown : ∀ c, N k (p ++ [c]) = none := by have := F.map k p n hn; rw [hmp] at this; exact this
  refine ⟨⟨fun k' p' n' h => ?_, fun k' p' n' h => ?_, fun k1 p1 k2 p2 n1 n2 h1 h2 hne => ?_, fun k' p' c h => ?_⟩, hmods⟩
  · by_cases he : k' = k ∧ p' = p
    · obtain ⟨rfl, rfl⟩ := he
      rw [upd_same] at h
      obtain rfl := Option.some.inj h
      refine ⟨no.low, ⟨_, ty, hb', hty, by rw [Array.getElem?_setIfInBounds_ne (by omega)]; exact hc1, by simp [hl1]⟩, ownsRow_same no.row fun g hg' => hoth g (no.row.lt g hg').2 ?_, fun m hm => ?_⟩
      · rintro rfl; exact no.row_ne no hg'
      · injection hm with hm; omega
    · rw [upd_other _ _ _ _ _ _ he] at h
      have no' := F.node k' p' n' h
      have ap := F.apart k p k' p' n n' hn h (fun e => he ⟨e.1.symm, e.2.symm⟩)
      obtain ⟨cur', ty', hb2, hty', hd1, hd2⟩ := no'.block
      refine ⟨no'.low, ?_, ownsRow_same no'.row fun g hg' => hoth g (no'.row.lt g hg').2 ?_, no'.mapb⟩
      · by_cases hbb : n'.blk = n.blk
        · have hh : n.h ≠ n'.h := by rcases ap.node with h | h; exact absurd hbb.symm h; exact h
          rw [hbb] at hb2 ⊢
          rw [hb] at hb2
          injection hb2 with hb2
          injection hb2 with e1 e2 _
          subst e1
          exact ⟨_, ty, hb', hty, by rw [Array.getElem?_setIfInBounds_ne (by omega)]; exact hd1, by rw [Array.getElem?_setIfInBounds_ne (by omega)]; exact hd2⟩
        · exact ⟨cur', ty', (hoth _ no'.lt hbb).trans hb2, hty', hd1, hd2⟩
      · rintro rfl; exact no'.row_ne no hg'
  · by_cases he : k' = k ∧ p' = p
    · obtain ⟨rfl, rfl⟩ := he
      rw [upd_same] at h
      obtain rfl := Option.some.inj h
      show MapAs kb _ w' w.heap.size _
      have e1 : (fun c => (N.upd k' p' { n with mp := some w.heap.size } k' (p' ++ [c])).map fun n => Value.pointer (some n.at_)) = fun _ => none := by
        funext c
        rw [upd_other _ _ _ _ _ _ (by simp), hdown c]
        rfl
      rw [e1]
      exact ⟨#[], 0, hnew, MapKept.stamped_empty 0, by simp, by simp⟩
    · rw [upd_other _ _ _ _ _ _ he] at h
      have hm := F.map _ _ _ h
      have hx : ∀ c, k' = k ∧ p' ++ [c] = p → N k' (p' ++ [c]) = some n := by rintro c ⟨rfl, rfl⟩; exact hn
      have hm' := hm.same (w' := w') fun m e => by
        rw [e] at hm
        exact hoth m hm.lt (hm.ne_node no)
      cases hmp' : n'.mp with
      | none =>
        rw [hmp'] at hm'
        intro c
        by_cases e : k' = k ∧ p' ++ [c] = p
        · have h3 : N k' (p' ++ [c]) = none := hm' c
          rw [hx c e] at h3; cases h3
        · show N.upd k p _ k' (p' ++ [c]) = none
          rw [upd_other _ _ _ _ _ _ e]; exact hm' c
      | some m =>
        rw [hmp'] at hm'
        show MapAs kb _ w' m _
        have e1 : (fun c => (N.upd k p { n with mp := some w.heap.size } k' (p' ++ [c])).map fun n => Value.pointer (some n.at_)) = fun c => (N k' (p' ++ [c])).map fun n => Value.pointer (some n.at_) := by
          funext c
          by_cases e : k' = k ∧ p' ++ [c] = p
          · rw [hx c e]; simp [Nodes.upd, e]
          · rw [upd_other _ _ _ _ _ _ e]
        rw [e1]
        exact hm'
  · have self : ∀ k' p' n', N k' p' = some n' → ¬ (k = k' ∧ p = p') → Apart { n with mp := some w.heap.size } n' ∧ Apart n' { n with mp := some w.heap.size } := by
      intro k' p' n' h hne
      have a1 := F.apart k p k' p' n n' hn h hne
      have a2 := F.apart k' p' k p n' n h hn (fun e => hne ⟨e.1.symm, e.2.symm⟩)
      exact ⟨⟨a1.node, a1.row, .inr fun e => hfresh _ _ _ h e.symm⟩, ⟨a2.node, a2.row, .inr (hfresh _ _ _ h)⟩⟩
    by_cases e1 : k1 = k ∧ p1 = p
    · obtain ⟨rfl, rfl⟩ := e1
      rw [upd_same] at h1
      obtain rfl := Option.some.inj h1
      rw [upd_other _ _ _ _ _ _ (fun e => hne ⟨e.1.symm, e.2.symm⟩)] at h2
      exact (self k2 p2 n2 h2 hne).1
    · rw [upd_other _ _ _ _ _ _ e1] at h1
      by_cases e2 : k2 = k ∧ p2 = p
      · obtain ⟨rfl, rfl⟩ := e2
        rw [upd_same] at h2
        obtain rfl := Option.some.inj h2
        exact (self k1 p1 n1 h1 (fun e => hne ⟨e.1.symm, e.2.symm⟩)).2
      · rw [upd_other _ _ _ _ _ _ e2] at h2
        exact F.apart k1 p1 k2 p2 n1 n2 h1 h2 hne
  · have h1 : ¬ (k' = k ∧ p' = p) := fun e => by rw [e.1, e.2, upd_same] at h; cases h
    rw [upd_other _ _ _ _ _ _ h1] at h
    have h2 := F.closed k' p' c h
    by_cases e : k' = k ∧ p' ++ [c] = p
    · rw [e.1, e.2, hn] at h2; cases h2
    · rw [upd_other _ _ _ _ _ _ e]; exact h2

theorem snoc_inj {p q : List UInt8} {c d : UInt8} (h : p ++ [c] = q ++ [d]) : p = q ∧ c = d := by
  have := List.append_inj' h rfl
  exact ⟨this.1, by simpa using this.2⟩

theorem Forest.child {w' w1 : World} {k : Nat} {p : List UInt8} {n : Nd} {m : Nat} {c : UInt8} {g : UInt8 → Option Value} (F : Forest w base N) (hn : N k p = some n) (hmp : n.mp = some m) (hc : N k (p ++ [c]) = none) (hbase : base ≤ w.heap.size)
    (hw1 : w1 = w.alloc (.cells #[.slice none 0 0, .map none] 59)) (hmap : MapAs kb (fun _ => True) w' m g)
    (hg1 : g c = some (.pointer (some ⟨w.heap.size, 0, none⟩))) (hg2 : ∀ y, y ≠ c → g y = (N k (p ++ [y])).map fun n => Value.pointer (some n.at_)) (hgr : w1.grownBy w' (some m)) :
    Forest w' base (N.upd k (p ++ [c]) ⟨w.heap.size, 0, .slice none 0 0, [], none⟩) ∧ M5 base w w' := by
  have no := F.node k p n hn
  have hM := F.map k p n hn
  rw [hmp] at hM
  have hmlt := hM.lt
  have hmb := no.mapb m hmp
  have hs1 : w1.heap.size = w.heap.size + 1 := by rw [hw1]; simp
  have hoth : ∀ b, b < w.heap.size → b ≠ m → w'.heap[b]? = w.heap[b]? := by
    intro b h1 h2
    rw [hgr.block b (by omega) (fun e => h2 (Option.some.inj e)), hw1]
    exact Below.heap_alloc _ _ _ h1
  have hnew : w'.heap[w.heap.size]? = some (.cells #[.slice none 0 0, .map none] 59 (0, 0)) := by
    rw [hgr.block w.heap.size (by omega) (fun e => by have := Option.some.inj e; omega), hw1]
    exact heap_alloc_new w _
  have hmods : M5 base w w' := by
    refine ⟨?_, fun b cur' hb5 => hoth b (Array.getElem?_eq_some_iff.1 hb5).1 (fun e => ?_)⟩
    rotate_left
    · obtain ⟨arr, clock, hmo⟩ := hM.block
      rw [e, hmo] at hb5; cases hb5
    have h1 : Mods (fun b => base ≤ b) w w1 := by rw [hw1]; exact Mods.alloc _ _ _
    exact h1.trans (Mods.of_grownBy hgr fun g e => by cases e; exact hmb)
  have hbelow : ∀ d, N k ((p ++ [c]) ++ [d]) = none := fun d => F.closed _ _ _ hc
  refine ⟨⟨fun k' p' n' h => ?_, fun k' p' n' h => ?_, fun k1 p1 k2 p2 n1 n2 h1 h2 hne => ?_, fun k' p' d h => ?_⟩, hmods⟩
  · by_cases he : k' = k ∧ p' = p ++ [c]
    · obtain ⟨rfl, rfl⟩ := he
      rw [upd_same] at h
      obtain rfl := Option.some.inj h
      exact ⟨hbase, ⟨_, 59, hnew, .inl rfl, rfl, rfl⟩, World.ownsRow_nil _ _ _ _, fun m h => by cases h⟩
    · rw [upd_other _ _ _ _ _ _ he] at h
      have no' := F.node k' p' n' h
      obtain ⟨cur', ty', hb2, r⟩ := no'.block
      refine ⟨no'.low, ⟨cur', ty', (hoth _ no'.lt (hM.ne_node no').symm).trans hb2, r⟩, ownsRow_same no'.row fun g hg' => hoth g (no'.row.lt g hg').2 ?_, no'.mapb⟩
      rintro rfl; exact hM.ne_row no' hg'
  · by_cases he : k' = k ∧ p' = p ++ [c]
    · obtain ⟨rfl, rfl⟩ := he
      rw [upd_same] at h
      obtain rfl := Option.some.inj h
      intro d
      show N.upd k' (p ++ [c]) _ k' (p ++ [c] ++ [d]) = none
      rw [upd_other _ _ _ _ _ _ (by simp)]
      exact hbelow d
    · rw [upd_other _ _ _ _ _ _ he] at h
      have hm := F.map _ _ _ h
      by_cases hp : k' = k ∧ p' = p
      · obtain ⟨rfl, rfl⟩ := hp
        rw [hn] at h
        obtain rfl := Option.some.inj h
        rw [hmp]
        show MapAs kb _ w' m _
        have e1 : (fun d => (N.upd k' (p' ++ [c]) ⟨w.heap.size, 0, .slice none 0 0, [], none⟩ k' (p' ++ [d])).map fun n => Value.pointer (some n.at_)) = g := by
          funext d
          by_cases e : d = c
          · subst e; rw [upd_same, hg1]; rfl
          · rw [upd_other _ _ _ _ _ _ (fun h => e (snoc_inj h.2).2), hg2 d e]
        rw [e1]
        exact hmap
      · have ap := F.apart k p k' p' n n' hn h (fun e => hp ⟨e.1.symm, e.2.symm⟩)
        have hm' := hm.same (w' := w') fun m' e => by
          rw [e] at hm
          refine hoth m' hm.lt fun e' => ?_
          subst e'
          rcases ap.map with h | h
          · rw [hmp] at h; cases h
          · exact h (by rw [hmp, e])
        cases hmp' : n'.mp with
        | none =>
          rw [hmp'] at hm'
          intro d
          show N.upd k (p ++ [c]) _ k' (p' ++ [d]) = none
          rw [upd_other _ _ _ _ _ _ (fun h => hp ⟨h.1, (snoc_inj h.2).1⟩)]; exact hm' d
        | some m' =>
          rw [hmp'] at hm'
          show MapAs kb _ w' m' _
          have e1 : (fun d => (N.upd k (p ++ [c]) ⟨w.heap.size, 0, .slice none 0 0, [], none⟩ k' (p' ++ [d])).map fun n => Value.pointer (some n.at_)) = fun c => (N k' (p' ++ [c])).map fun n => Value.pointer (some n.at_) := by
            funext d
            rw [upd_other _ _ _ _ _ _ (fun h => hp ⟨h.1, (snoc_inj h.2).1⟩)]
          rw [e1]
          exact hm'
  · have self : ∀ k' p' n', N k' p' = some n' → Apart ⟨w.heap.size, 0, .slice none 0 0, [], none⟩ n' ∧ Apart n' ⟨w.heap.size, 0, .slice none 0 0, [], none⟩ := by
      intro k' p' n' h
      have no' := F.node k' p' n' h
      have := no'.lt
      refine ⟨⟨.inl (by simp only; omega), .inl rfl, .inl rfl⟩, ⟨.inl (by simp only; omega), ?_, ?_⟩⟩
      · cases e : n'.row.ownBlock with
        | none => exact .inl rfl
        | some g => exact .inr (by simp [Value.ownBlock])
      · cases e : n'.mp with
        | none => exact .inl rfl
        | some g => exact .inr (by simp)
    by_cases e1 : k1 = k ∧ p1 = p ++ [c]
    · obtain ⟨rfl, rfl⟩ := e1
      rw [upd_same] at h1
      obtain rfl := Option.some.inj h1
      rw [upd_other _ _ _ _ _ _ (fun e => hne ⟨e.1.symm, e.2.symm⟩)] at h2
      exact (self k2 p2 n2 h2).1
    · rw [upd_other _ _ _ _ _ _ e1] at h1
      by_cases e2 : k2 = k ∧ p2 = p ++ [c]
      · obtain ⟨rfl, rfl⟩ := e2
        rw [upd_same] at h2
        obtain rfl := Option.some.inj h2
        exact (self k1 p1 n1 h1).2
      · rw [upd_other _ _ _ _ _ _ e2] at h2
        exact F.apart k1 p1 k2 p2 n1 n2 h1 h2 hne
  · have h1 : ¬ (k' = k ∧ p' = p ++ [c]) := fun e => by rw [e.1, e.2, upd_same] at h; cases h
    rw [upd_other _ _ _ _ _ _ h1] at h
    have h2 := F.closed k' p' d h
    by_cases e : k' = k ∧ p' ++ [d] = p ++ [c]
    · rw [e.1, (snoc_inj e.2).1, hn] at h; cases h
    · rw [upd_other _ _ _ _ _ _ e]; exact h2
end
end Go.Proofs.Ytgofjdkpnmoedaa
