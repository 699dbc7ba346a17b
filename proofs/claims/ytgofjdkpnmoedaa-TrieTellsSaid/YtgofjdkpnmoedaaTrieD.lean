/- A forest of nodes in memory: what it is, and what each step of put makes of it. -/
import Derived.Test.YtgofjdkpnmoedaaTrieC
set_option linter.unusedSimpArgs false
set_option linter.unusedVariables false
namespace Go.Proofs.Ytgofjdkpnmoedaa
open Go.RowKit Go.Vb

/-- A node: block, place in it (in nodes), the row of its places, these, and its map. -/
structure Nd where
  blk : Nat
  h : Nat
  row : Value
  xs : List Int
  mp : Option Nat

abbrev Nd.at_ (n : Nd) : Addr := ⟨n.blk, 2 * n.h, none⟩
abbrev kb (c : UInt8) : Value := .int .u8 c.toNat

structure NodeOk (w : World) (base : Nat) (n : Nd) : Prop where
  low : base ≤ n.blk
  block : ∃ cur ty, w.heap[n.blk]? = some (.cells cur ty (0, 0)) ∧ (ty = 59 ∨ ty = 61) ∧ cur[2 * n.h]? = some n.row ∧ cur[2 * n.h + 1]? = some (.map n.mp)
  row : w.ownsRow base 3 1 n.row n.xs.length (ints .i64 n.xs)
  mapb : ∀ m, n.mp = some m → base ≤ m

def MapOk (w : World) (f : UInt8 → Option Nd) : Option Nat → Prop
  | none => ∀ c, f c = none
  | some m => MapAs kb (fun _ => True) w m (fun c => (f c).map fun n => .pointer (some n.at_))

structure Apart (n n' : Nd) : Prop where
  node : n.blk ≠ n'.blk ∨ n.h ≠ n'.h
  row : n.row.ownBlock = none ∨ n.row.ownBlock ≠ n'.row.ownBlock
  map : n.mp = none ∨ n.mp ≠ n'.mp

theorem ty_ne {ty : Nat} (h : ty = 59 ∨ ty = 61) : ty ≠ 3 ∧ ty ≠ 5 := by omega
/-- Blocks from base on may be turned, but none of bytes. -/
structure M5 (base : Nat) (w w' : World) : Prop where
  mods : Mods (fun b => base ≤ b) w w'
  bytes : ∀ (b : Nat) (cur : Array Value), w.heap[b]? = some (Obj.cells cur 5 (0, 0)) → w'.heap[b]? = w.heap[b]?
theorem M5.refl (base : Nat) (w : World) : M5 base w w := ⟨Mods.refl _ _, fun _ _ _ => rfl⟩
theorem M5.trans {base : Nat} {a b c : World} (h : M5 base a b) (k : M5 base b c) : M5 base a c :=
  ⟨h.mods.trans k.mods, fun g cur hg => (k.bytes g cur ((h.bytes g cur hg).trans hg)).trans (h.bytes g cur hg)⟩
theorem M5.of_keeps {base : Nat} {a b : World} (h : Keeps a b) : M5 base a b := ⟨keeps_mods h, fun g cur hg => (Keeps.heap h hg).trans hg.symm⟩
/-- Bytes that lie below base, or in a block of bytes, read as they did. -/
def Aside (base : Nat) (w : World) (v : Value) : Prop := ∀ b, v.ownBlock = some b → b < base ∨ ∃ cur, w.heap[b]? = some (.cells cur 5 (0, 0))
theorem M5.block {base : Nat} {w w' : World} (h : M5 base w w') {b : Nat} (hb : b < w.heap.size) (ha : b < base ∨ ∃ cur, w.heap[b]? = some (.cells cur 5 (0, 0))) : w'.heap[b]? = w.heap[b]? := by
  rcases ha with ha | ⟨cur, ha⟩
  · exact h.mods.block b hb (by omega)
  · exact h.bytes b cur ha
theorem M5.aside {base : Nat} {w w' : World} (h : M5 base w w') {v : Value} (ha : Aside base w v) : Aside base w' v := by
  intro b hb
  rcases ha b hb with h1 | ⟨cur, h1⟩
  · exact .inl h1
  · exact .inr ⟨cur, (h.bytes b cur h1).trans h1⟩
theorem M5.sl {base : Nat} {w w' : World} (h : M5 base w w') {v : Value} {size n : Nat} {xs : List Value} (hv : Sl w v size n xs) (ha : Aside base w v) : Sl w' v size n xs := by
  obtain ⟨hl, ao, c, he, h1, h2, h3, h4⟩ := hv
  refine ⟨hl, ao, c, he, h1, h2, h3, fun ad had j u hu => ?_⟩
  have hc := h4 ad had j u hu
  have hb : (ad.add j).block = ad.block := by unfold Addr.add; split <;> rfl
  have hlt := World.block_lt_of_cell? w _ hc
  rw [hb] at hlt
  refine (World.cell?_of_block (w := w) ?_).trans hc
  rw [hb]
  exact h.block hlt (ha _ (by rw [he, had]; rfl))
theorem aside_row {base base' : Nat} {w : World} {n : Nat} {v : Value} {xs : List Value} (h : w.ownsRow base' 5 1 v n xs) : Aside base w v := by
  intro b hb
  rcases h.2 with ⟨e, _⟩ | ⟨g, cap, cur, e, _, hh, _⟩
  · rw [e] at hb; simp [Value.ownBlock] at hb
  · rw [e] at hb; simp [Value.ownBlock] at hb; subst hb; exact .inr ⟨cur, hh⟩

abbrev Nodes := Nat → List UInt8 → Option Nd

structure Forest (w : World) (base : Nat) (N : Nodes) : Prop where
  node : ∀ k p n, N k p = some n → NodeOk w base n
  map : ∀ k p n, N k p = some n → MapOk w (fun c => N k (p ++ [c])) n.mp
  apart : ∀ k p k' p' n n', N k p = some n → N k' p' = some n' → ¬ (k = k' ∧ p = p') → Apart n n'
  closed : ∀ k p c, N k p = none → N k (p ++ [c]) = none

def Nodes.upd (N : Nodes) (k : Nat) (p : List UInt8) (n : Nd) : Nodes := fun k' p' => if k' = k ∧ p' = p then some n else N k' p'
def xsOf (N : Nodes) (k : Nat) (p : List UInt8) : List Int := match N k p with | some n => n.xs | none => []
theorem upd_same (N : Nodes) (k p n) : N.upd k p n k p = some n := by simp [Nodes.upd]
theorem upd_other (N : Nodes) (k p n k' p') (h : ¬ (k' = k ∧ p' = p)) : N.upd k p n k' p' = N k' p' := by simp [Nodes.upd, h]

section
variable {w : World} {base : Nat} {N : Nodes}

theorem NodeOk.cell {n : Nd} (h : NodeOk w base n) : w.cell? n.at_ = some n.row ∧ w.frozen? n.at_ = false ∧ w.cell? ⟨n.blk, 2 * n.h + 1, none⟩ = some (.map n.mp) ∧ w.frozen? ⟨n.blk, 2 * n.h + 1, none⟩ = false := by
  obtain ⟨cur, ty, hb, _, h1, h2⟩ := h.block
  simp [World.cell?, World.frozen?, hb, h1, h2]
theorem NodeOk.lt {n : Nd} (h : NodeOk w base n) : n.blk < w.heap.size := by
  obtain ⟨cur, ty, hb, _⟩ := h.block; exact (Array.getElem?_eq_some_iff.1 hb).1
theorem row_block {n : Nd} (h : w.ownsRow base 3 1 n.row n.xs.length (ints .i64 n.xs)) {g : Nat} (hg : n.row.ownBlock = some g) : ∃ cur, w.heap[g]? = some (.cells cur 3 (0, 0)) := by
  rcases h.2 with ⟨e, _⟩ | ⟨g', cap, cur, e, _, hh, _⟩
  · rw [e] at hg; simp [Value.ownBlock] at hg
  · rw [e] at hg; simp [Value.ownBlock] at hg; subst hg; exact ⟨cur, hh⟩
/-- A row's block is no node's. -/
theorem NodeOk.row_ne {n n' : Nd} (h : NodeOk w base n) (h' : NodeOk w base n') : n.row.ownBlock ≠ some n'.blk := by
  intro e
  obtain ⟨cur, hc⟩ := row_block h.row e
  obtain ⟨cur', ty, hb, ht, _⟩ := h'.block
  rw [hc] at hb
  injection hb with hb
  injection hb with _ hb
  exact (ty_ne ht).1 hb.symm
theorem MapOk.lt {f : UInt8 → Option Nd} {m : Nat} (h : MapOk w f (some m)) : m < w.heap.size := MapAs.lt h
theorem MapOk.block {f : UInt8 → Option Nd} {m : Nat} (h : MapOk w f (some m)) : ∃ arr clock, w.heap[m]? = some (.map arr clock) := by
  obtain ⟨arr, clock, h, _⟩ := h; exact ⟨arr, clock, h⟩
theorem MapOk.ne_node {f : UInt8 → Option Nd} {m : Nat} (h : MapOk w f (some m)) {n : Nd} (hn : NodeOk w base n) : m ≠ n.blk := by
  rintro rfl
  obtain ⟨arr, clock, h⟩ := h.block
  obtain ⟨cur, ty, hb, _⟩ := hn.block
  rw [h] at hb; cases hb
theorem MapOk.ne_row {f : UInt8 → Option Nd} {m : Nat} (h : MapOk w f (some m)) {n : Nd} (hn : NodeOk w base n) : n.row.ownBlock ≠ some m := by
  intro e
  obtain ⟨arr, clock, h⟩ := h.block
  obtain ⟨cur, hb⟩ := row_block hn.row e
  rw [h] at hb; cases hb
theorem MapOk.same {w' : World} {f : UInt8 → Option Nd} {mp : Option Nat} (h : MapOk w f mp) (hb : ∀ m, mp = some m → w'.heap[m]? = w.heap[m]?) : MapOk w' f mp := by
  cases mp with
  | none => exact h
  | some m => exact MapAs.same h (hb m rfl)
theorem ownsRow_same {w' : World} {e : TypeId} {size n : Nat} {v : Value} {xs : List Value} (h : w.ownsRow base e size v n xs) (hb : ∀ g, v.ownBlock = some g → w'.heap[g]? = w.heap[g]?) : w'.ownsRow base e size v n xs := by
  refine ⟨h.1, ?_⟩
  rcases h.2 with h0 | ⟨g, cap, cur, hv, h1, hg, r⟩
  · exact .inl h0
  · exact .inr ⟨g, cap, cur, hv, h1, (hb g (by rw [hv]; rfl)).trans hg, r⟩

theorem Forest.none_of {k : Nat} {p : List UInt8} (F : Forest w base N) (h : N k p = none) (q : List UInt8) : N k (p ++ q) = none := by
  induction q generalizing p with
  | nil => simpa using h
  | cons c q ih =>
    have := ih (F.closed k p c h)
    simpa using this

theorem Forest.keeps {w' : World} (F : Forest w base N) (hk : Keeps w w') : Forest w' base N := by
  refine ⟨fun k p n h => ?_, fun k p n h => ?_, F.apart, F.closed⟩
  · have := F.node k p n h
    obtain ⟨cur, ty, hb, r⟩ := this.block
    exact ⟨this.low, ⟨cur, ty, Keeps.heap hk hb, r⟩, ownsRow_same this.row fun g hg => hk.block g (this.row.lt g hg).2, this.mapb⟩
  · exact (F.map k p n h).same fun m hm => hk.block m (by have := F.map k p n h; rw [hm] at this; exact this.lt)

/-- add has been done at a node. -/
theorem Forest.added {w' w1 : World} {k : Nat} {p : List UInt8} {n : Nd} {v' : Value} {xs' : List Int} (F : Forest w base N) (hn : N k p = some n) (hbase : base ≤ w.heap.size)
    (hg : w.grownBy w1 n.row.ownBlock) (hown : w1.ownsRow base 3 1 v' xs'.length (ints .i64 xs')) (hf : FreshRow w n.row v') (hw : w' = w1.setCell n.at_ v') :
    Forest w' base (N.upd k p { n with row := v', xs := xs' }) ∧ M5 base w w' := by
  have no := F.node k p n hn
  obtain ⟨cur, ty, hb, hty, hc1, hc2⟩ := no.block
  have hlt := no.lt
  have hb1 : w1.heap[n.blk]? = some (.cells cur ty (0, 0)) := (hg.block _ hlt (fun e => no.row_ne no e.symm)).trans hb
  have hb' : w'.heap[n.blk]? = some (.cells (cur.setIfInBounds (2 * n.h) v') ty (0, 0)) := by
    rw [hw]
    simp [World.setCell, Array.getElem?_modify, hb1]
  have hoth : ∀ b, b < w.heap.size → some b ≠ n.row.ownBlock → b ≠ n.blk → w'.heap[b]? = w.heap[b]? := by
    intro b h1 h2 h3
    rw [hw, Below.heap_setCell _ _ _ _ h3]
    exact hg.block b h1 h2
  have hmods : M5 base w w' := by
    refine ⟨?_, fun b cur' hb5 => hoth b (Array.getElem?_eq_some_iff.1 hb5).1 (fun e => ?_) (fun e => ?_)⟩
    · rw [hw]
      exact (Mods.of_grownBy hg fun g hg' => (no.row.lt g hg').1).trans (Mods.setCell _ _ _ _ (.inl no.low))
    · obtain ⟨cur2, hc⟩ := row_block no.row e.symm
      rw [hb5] at hc; injection hc with hc; injection hc with _ hc; exact absurd hc (by decide)
    · rw [e, hb] at hb5; injection hb5 with hc; injection hc with _ hc; exact (ty_ne hty).2 hc
  -- the new row
  have hrow : w'.ownsRow base 3 1 v' xs'.length (ints .i64 xs') := by
    refine ownsRow_same hown fun g hg' => ?_
    rw [hw, Below.heap_setCell]
    rintro rfl
    obtain ⟨cur', hc'⟩ := row_block (n := { n with row := v', xs := xs' }) hown hg'
    rw [hb1] at hc'
    injection hc' with hc'
    injection hc' with _ hc'
    exact (ty_ne hty).1 hc'
  have hsize : (cur.setIfInBounds (2 * n.h) v').size = cur.size := by simp
  have hl1 : 2 * n.h < cur.size := (Array.getElem?_eq_some_iff.1 hc1).1
  refine ⟨⟨fun k' p' n' h => ?_, fun k' p' n' h => ?_, fun k1 p1 k2 p2 n1 n2 h1 h2 hne => ?_, fun k' p' c h => ?_⟩, hmods⟩
  · by_cases he : k' = k ∧ p' = p
    · obtain ⟨rfl, rfl⟩ := he
      rw [upd_same] at h
      obtain rfl := Option.some.inj h
      exact ⟨no.low, ⟨_, ty, hb', hty, by simp [hl1], by simp only []; rw [Array.getElem?_setIfInBounds_ne (by omega)]; exact hc2⟩, hrow, no.mapb⟩
    · rw [upd_other _ _ _ _ _ _ he] at h
      have no' := F.node k' p' n' h
      have ap := F.apart k p k' p' n n' hn h (fun e => he ⟨e.1.symm, e.2.symm⟩)
      obtain ⟨cur', ty', hb2, hty', hd1, hd2⟩ := no'.block
      refine ⟨no'.low, ?_, ownsRow_same no'.row fun g hg' => hoth g (no'.row.lt g hg').2 ?_ ?_, no'.mapb⟩
      · by_cases hbb : n'.blk = n.blk
        · have hh : n.h ≠ n'.h := by rcases ap.node with h | h; exact absurd hbb.symm h; exact h
          rw [hbb] at hb2 ⊢
          rw [hb] at hb2
          injection hb2 with hb2
          injection hb2 with e1 e2 _
          subst e1
          exact ⟨_, ty, hb', hty, by rw [Array.getElem?_setIfInBounds_ne (by omega)]; exact hd1, by rw [Array.getElem?_setIfInBounds_ne (by omega)]; exact hd2⟩
        · exact ⟨cur', ty', (hoth _ no'.lt (fun e => no.row_ne no' e.symm) hbb).trans hb2, hty', hd1, hd2⟩
      · rcases ap.row with h | h
        · rw [h]; simp
        · exact fun e => h (by rw [← e, hg'])
      · rintro rfl; exact no'.row_ne no hg'
  · have hmap : ∀ (f : UInt8 → Option Nd) (m : Nat) , MapOk w f (some m) → w'.heap[m]? = w.heap[m]? := fun f m hm =>
      hoth m hm.lt (fun e => hm.ne_row no e.symm) (hm.ne_node no)
    have hfun : ∀ q, (∀ c, (N.upd k p { n with row := v', xs := xs' } k' (q ++ [c])).map (fun n => Value.pointer (some n.at_)) = (N k' (q ++ [c])).map (fun n => Value.pointer (some n.at_))) ∧ ((∀ c, N k' (q ++ [c]) = none) → ∀ c, N.upd k p { n with row := v', xs := xs' } k' (q ++ [c]) = none) := by
      intro q
      have hx : ∀ c, k' = k ∧ q ++ [c] = p → N k' (q ++ [c]) = some n := by rintro c ⟨rfl, rfl⟩; exact hn
      refine ⟨fun c => ?_, fun ha c => ?_⟩
      · by_cases he : k' = k ∧ q ++ [c] = p
        · rw [hx c he]; simp [Nodes.upd, he]
        · rw [upd_other _ _ _ _ _ _ he]
      · by_cases he : k' = k ∧ q ++ [c] = p
        · have := hx c he; rw [ha c] at this; cases this
        · rw [upd_other _ _ _ _ _ _ he]; exact ha c
    have key : ∀ mp, MapOk w (fun c => N k' (p' ++ [c])) mp → MapOk w' (fun c => N.upd k p { n with row := v', xs := xs' } k' (p' ++ [c])) mp := by
      intro mp hm
      have hm' := hm.same (w' := w') fun m e => by subst e; exact hmap _ m hm
      cases mp with
      | none => exact (hfun p').2 hm'
      | some m =>
        show MapAs kb _ w' m _
        rw [funext (hfun p').1]
        exact hm'
    by_cases he : k' = k ∧ p' = p
    · obtain ⟨rfl, rfl⟩ := he
      rw [upd_same] at h
      obtain rfl := Option.some.inj h
      have := key n.mp (F.map _ _ _ hn)
      exact this
    · rw [upd_other _ _ _ _ _ _ he] at h
      exact key _ (F.map _ _ _ h)
  · -- apart
    have hv : v'.ownBlock = n.row.ownBlock ∨ ∃ g, v'.ownBlock = some g ∧ w.heap.size ≤ g := hf
    have self : ∀ k' p' n', N k' p' = some n' → ¬ (k = k' ∧ p = p') → Apart { n with row := v', xs := xs' } n' ∧ Apart n' { n with row := v', xs := xs' } := by
      intro k' p' n' h hne
      have a1 := F.apart k p k' p' n n' hn h hne
      have a2 := F.apart k' p' k p n' n h hn (fun e => hne ⟨e.1.symm, e.2.symm⟩)
      have no' := F.node k' p' n' h
      have hfresh : ∀ g, w.heap.size ≤ g → n'.row.ownBlock ≠ some g := fun g hg' e => by have := (no'.row.lt g e).2; omega
      refine ⟨⟨a1.node, ?_, a1.map⟩, ⟨a2.node, ?_, a2.map⟩⟩
      · rcases hv with h | ⟨g, h, hg'⟩
        · simp only [h]; exact a1.row
        · simp only [h]; exact .inr fun e => hfresh g hg' e.symm
      · rcases hv with h | ⟨g, h, hg'⟩
        · simp only [h]; exact a2.row
        · simp only [h]; exact .inr (hfresh g hg')
    by_cases e1 : k1 = k ∧ p1 = p
    · obtain ⟨rfl, rfl⟩ := e1
      rw [upd_same] at h1
      obtain rfl := Option.some.inj h1
      rw [upd_other _ _ _ _ _ _ (fun e => hne ⟨e.1.symm, e.2.symm⟩)] at h2
      exact (self k2 p2 n2 h2 hne).1
    · rw [upd_other _ _ _ _ _ _ e1] at h1
      by_cases e2 : k2 = k ∧ p2 = p
      · obtain ⟨rfl, rfl⟩ := e2
        rw [upd_same] at h2
        obtain rfl := Option.some.inj h2
        exact (self k1 p1 n1 h1 (fun e => hne ⟨e.1.symm, e.2.symm⟩)).2
      · rw [upd_other _ _ _ _ _ _ e2] at h2
        exact F.apart k1 p1 k2 p2 n1 n2 h1 h2 hne
  · have h1 : ¬ (k' = k ∧ p' = p) := fun e => by rw [e.1, e.2, upd_same] at h; cases h
    rw [upd_other _ _ _ _ _ _ h1] at h
    have h2 := F.closed k' p' c h
    by_cases e : k' = k ∧ p' ++ [c] = p
    · rw [e.1, e.2, hn] at h2; cases h2
    · rw [upd_other _ _ _ _ _ _ e]; exact h2
end
end Go.Proofs.Ytgofjdkpnmoedaa
