/- Words and laws that the proofs of this seat share: what a call may turn in memory, what a slice reads as, append onto a row of the call's own. -/
import Derived.WalkKit
import Derived.Deep.QuietTactic
import Derived.BigQuiet
import Derived.KernelRfl
import Derived.Outline
import Derived.Maps.AppendAt
import Derived.WalkSpells
set_option linter.unusedSimpArgs false
set_option linter.unusedVariables false
namespace Go.Vb
open Go.RowKit

theorem hid {p : Prop} (h : p) : Hid p := h

/-! ### what a call may turn -/
/-- Only blocks of S, and new ones, are turned. -/
structure Mods (S : Nat → Prop) (w w' : World) : Prop where
  os : w'.os = w.os
  tape : w'.tape = w.tape
  output : w'.output = w.output
  size : w.heap.size ≤ w'.heap.size
  block : ∀ k, k < w.heap.size → ¬ S k → w'.heap[k]? = w.heap[k]?

theorem Mods.refl (S : Nat → Prop) (w : World) : Mods S w w := ⟨rfl, rfl, rfl, Nat.le_refl _, fun _ _ _ => rfl⟩
theorem Mods.mono {S S' : Nat → Prop} {w w' : World} (h : Mods S w w') (hs : ∀ k, k < w.heap.size → S k → S' k) : Mods S' w w' :=
  ⟨h.os, h.tape, h.output, h.size, fun k hk hn => h.block k hk fun hh => hn (hs k hk hh)⟩
theorem Mods.trans {S : Nat → Prop} {a b c : World} (h : Mods S a b) (k : Mods S b c) : Mods S a c :=
  ⟨k.os.trans h.os, k.tape.trans h.tape, k.output.trans h.output, Nat.le_trans h.size k.size, fun i hi hn => (k.block i (Nat.lt_of_lt_of_le hi h.size) hn).trans (h.block i hi hn)⟩
/-- The second step may also turn what the first one made. -/
theorem Mods.then {S T : Nat → Prop} {a b c : World} (h : Mods S a b) (k : Mods T b c) (hT : ∀ i, i < a.heap.size → T i → S i) : Mods S a c :=
  ⟨k.os.trans h.os, k.tape.trans h.tape, k.output.trans h.output, Nat.le_trans h.size k.size, fun i hi hn => (k.block i (Nat.lt_of_lt_of_le hi h.size) fun ht => hn (hT i hi ht)).trans (h.block i hi hn)⟩
theorem Mods.drewN (S : Nat → Prop) (w : World) (n : Nat) : Mods S w (w.drewN n) := ⟨rfl, rfl, rfl, Nat.le_refl _, fun _ _ _ => rfl⟩
theorem Mods.drew (S : Nat → Prop) (w : World) : Mods S w w.drew := ⟨rfl, rfl, rfl, Nat.le_refl _, fun _ _ _ => rfl⟩
theorem Mods.alloc (S : Nat → Prop) (w : World) (o : Obj) : Mods S w (w.alloc o) := ⟨rfl, rfl, rfl, by simp, fun k hk _ => Below.heap_alloc w o k hk⟩
theorem Mods.setCell (S : Nat → Prop) (w : World) (a : Addr) (v : Value) (h : S a.block ∨ w.heap.size ≤ a.block) : Mods S w (w.setCell a v) :=
  ⟨rfl, rfl, rfl, by simp, fun k hk hn => Below.heap_setCell w a v k fun e => by subst e; rcases h with h | h; exact hn h; omega⟩
theorem Mods.of_grownBy {S : Nat → Prop} {w w' : World} {row : Option Nat} (h : w.grownBy w' row) (hr : ∀ k, row = some k → S k) : Mods S w w' :=
  ⟨h.os, h.tape, h.output, h.size, fun k hk hn => h.block k hk fun e => hn (hr k e.symm)⟩
theorem Mods.of_below {S : Nat → Prop} {w w' : World} {B : Nat} (h : Below B w w') (hs : ∀ k, k < w.heap.size → B ≤ k → S k) : Mods S w w' :=
  ⟨h.os, h.tape, h.output, h.size, fun k hk hn => h.block k (by rcases Nat.lt_or_ge k B with h1 | h1; exact h1; exact absurd (hs k hk h1) hn)⟩
theorem Mods.below {S : Nat → Prop} {w w' : World} {B : Nat} (h : Mods S w w') (hB : B ≤ w.heap.size) (hs : ∀ k, k < B → ¬ S k) : Below B w w' :=
  ⟨h.os, h.tape, h.output, h.size, fun k hk => h.block k (by omega) (hs k hk)⟩
theorem Mods.cell {S : Nat → Prop} {w w' : World} (h : Mods S w w') {a : Addr} {v : Value} (hc : w.cell? a = some v) (hn : ¬ S a.block) : w'.cell? a = some v :=
  (World.cell?_of_block (w := w) (h.block a.block (World.block_lt_of_cell? w a hc) hn)).trans hc
theorem Mods.cell_eq {S : Nat → Prop} {w w' : World} (h : Mods S w w') {a : Addr} (hl : a.block < w.heap.size) (hn : ¬ S a.block) : w'.cell? a = w.cell? a :=
  World.cell?_of_block (w := w) (h.block a.block hl hn)
theorem Mods.frozen {S : Nat → Prop} {w w' : World} (h : Mods S w w') {a : Addr} (hl : a.block < w.heap.size) (hn : ¬ S a.block) : w'.frozen? a = w.frozen? a :=
  World.frozen?_of_block (w := w) (h.block a.block hl hn)
/-- Nothing that was there is turned. -/
abbrev Keeps (w w' : World) : Prop := Below w.heap.size w w'
theorem keeps_mods {S : Nat → Prop} {w w' : World} (h : Keeps w w') : Mods S w w' := Mods.of_below h fun k hk hb => by omega
theorem keeps_of_none {w w' : World} (h : Mods (fun _ => False) w w') : Keeps w w' := h.below (Nat.le_refl _) fun _ _ => id
theorem Keeps.cell {w w' : World} (h : Keeps w w') {a : Addr} {v : Value} (hc : w.cell? a = some v) : w'.cell? a = some v := (Below.cell h (World.block_lt_of_cell? w a hc)).trans hc
theorem Keeps.heap {w w' : World} (h : Keeps w w') {k : Nat} {o : Obj} (hc : w.heap[k]? = some o) : w'.heap[k]? = some o := (h.block k (Array.getElem?_eq_some_iff.1 hc).1).trans hc
theorem Keeps.trans {a b c : World} (h : Keeps a b) (k : Keeps b c) : Keeps a c :=
  Below.trans h (k.mono h.size)
theorem keeps_drewN (w : World) (n : Nat) : Keeps w (w.drewN n) := ⟨rfl, rfl, rfl, Nat.le_refl _, fun _ _ => rfl⟩

theorem setCell_self {w : World} {a : Addr} {v : Value} (h : w.cell? a = some v) : w.setCell a v = w := by
  unfold World.cell? at h
  have : w.heap.modify a.block (fun | .cells c elem frozen => .cells (if a.spot.isSome then c else c.setIfInBounds a.off v) elem frozen | o => o) = w.heap := by
    apply Array.ext
    · simp
    · intro i h1 h2
      rw [Array.getElem_modify]
      split
      · rename_i hi
        subst hi
        rw [Array.getElem?_eq_getElem h2] at h
        split at h
        · rename_i c t f he
          injection he with he
          rw [he]
          split at h
          · cases h
          · rename_i hs
            simp only [hs]
            congr 1
            apply Array.ext
            · simp
            · intro j j1 j2
              simp only [Bool.false_eq_true, if_false]
              rw [Array.getElem_setIfInBounds]
              split
              · rename_i hj; subst hj
                rw [Array.getElem?_eq_getElem j2] at h
                injection h with h; exact h.symm
              · rfl
        · cases h
      · rfl
  show ({ w with heap := _ } : World) = w
  exact congrArg (fun h => ({ w with heap := h } : World)) this

/-! ### what a slice reads as -/
/-- The slice v has n elements of `size` cells each: xs, cell by cell. -/
structure Sl (w : World) (v : Value) (size n : Nat) (xs : List Value) : Prop where
  len : xs.length = n * size
  form : ∃ ao c, v = .slice ao n c ∧ n ≤ c ∧ c ≤ maxLen ∧ (ao = none → n = 0 ∧ c = 0) ∧ ∀ ad, ao = some ad → ∀ j u, xs[j]? = some u → w.cell? (ad.add j) = some u

theorem Sl.nil (w : World) (size : Nat) : Sl w (.slice none 0 0) size 0 [] := ⟨by simp, none, 0, rfl, by omega, by unfold maxLen; omega, fun _ => ⟨rfl, rfl⟩, fun ad h => by cases h⟩
theorem Sl.keeps {w w' : World} {v : Value} {size n : Nat} {xs : List Value} (h : Sl w v size n xs) (k : Keeps w w') : Sl w' v size n xs := by
  obtain ⟨hl, ao, c, hv, h1, h2, h3, h4⟩ := h
  exact ⟨hl, ao, c, hv, h1, h2, h3, fun ad had j u hu => k.cell (h4 ad had j u hu)⟩
theorem Sl.mods {S : Nat → Prop} {w w' : World} {v : Value} {size n : Nat} {xs : List Value} (h : Sl w v size n xs) (k : Mods S w w') (hn : ∀ b, v.ownBlock = some b → ¬ S b) : Sl w' v size n xs := by
  obtain ⟨hl, ao, c, hv, h1, h2, h3, h4⟩ := h
  refine ⟨hl, ao, c, hv, h1, h2, h3, fun ad had j u hu => k.cell (h4 ad had j u hu) ?_⟩
  have : (ad.add j).block = ad.block := by unfold Addr.add; split <;> rfl
  rw [this]
  exact hn _ (by rw [hv, had]; rfl)
theorem ownsRow_sl {w : World} {base : Nat} {e : TypeId} {size n : Nat} {v : Value} {xs : List Value} (h : w.ownsRow base e size v n xs) : Sl w v size n xs := by
  refine ⟨h.1, ?_⟩
  rcases h.2 with ⟨rfl, rfl⟩ | ⟨g, cap, cur, rfl, hb, hg, hn, hc, hs, ht⟩
  · exact ⟨none, 0, rfl, by omega, by unfold maxLen; omega, fun _ => ⟨rfl, rfl⟩, fun ad h => by cases h⟩
  · exact ⟨_, cap, rfl, hn, hc, (fun h => by cases h), fun ad had j u hu => by cases had; exact h.cells (g := g) rfl j u hu⟩
theorem Sl.at_ {w : World} {ao : Option Addr} {size n c : Nat} {xs : List Value} (h : Sl w (.slice ao n c) size n xs) {j : Nat} {u : Value} (hu : xs[j]? = some u) : ∃ ad, ao = some ad ∧ w.cell? (ad.add j) = some u := by
  obtain ⟨hl, ao', c', hv, h1, h2, h3, h4⟩ := h
  injection hv with e1 _ e3
  subst e1
  cases ao with
  | none => have := (h3 rfl).1; subst this; simp at hl; subst hl; simp at hu
  | some ad => exact ⟨ad, rfl, h4 ad rfl j u hu⟩
theorem Sl.value {w : World} {v : Value} {size n : Nat} {xs : List Value} (h : Sl w v size n xs) : ∃ ao c, v = .slice ao n c ∧ n ≤ c ∧ c ≤ maxLen ∧ (ao = none → n = 0 ∧ c = 0) := by
  obtain ⟨_, ao, c, hv, h1, h2, h3, _⟩ := h; exact ⟨ao, c, hv, h1, h2, h3⟩

/-- A slice that is not empty: where it lies. -/
theorem Sl.open {w : World} {ao : Option Addr} {size n c : Nat} {xs : List Value} (h : Sl w (.slice ao n c) size n xs) (hp : 0 < xs.length) : ∃ b off, ao = some ⟨b, off, none⟩ ∧ b < w.heap.size ∧ ∀ j u, xs[j]? = some u → w.cell? ⟨b, off + j, none⟩ = some u := by
  obtain ⟨ad, rfl, h0⟩ := h.at_ (List.getElem?_eq_getElem hp)
  have e0 : ad.add 0 = ad := by unfold Addr.add; simp
  rw [e0] at h0
  obtain ⟨b, off, sp⟩ := ad
  have hs : sp = none := by
    cases sp with
    | none => rfl
    | some x => unfold World.cell? at h0; simp only [Option.isSome_some, if_true] at h0; split at h0 <;> cases h0
  subst hs
  refine ⟨b, off, rfl, World.block_lt_of_cell? w _ h0, fun j u hu => ?_⟩
  obtain ⟨ad', e, hc⟩ := h.at_ hu
  obtain rfl := Option.some.inj e
  rw [Addr.add_lit] at hc
  exact hc
theorem Sl.none_or {w : World} {ao : Option Addr} {size n c : Nat} {xs : List Value} (h : Sl w (.slice ao n c) size n xs) (hs : 0 < size) : n = 0 ∧ xs = [] ∨ 0 < n ∧ ∃ b off, ao = some ⟨b, off, none⟩ ∧ b < w.heap.size ∧ ∀ j u, xs[j]? = some u → w.cell? ⟨b, off + j, none⟩ = some u := by
  rcases Nat.eq_zero_or_pos n with h0 | h0
  · exact .inl ⟨h0, List.eq_nil_of_length_eq_zero (by rw [h.len, h0, Nat.zero_mul])⟩
  · exact .inr ⟨h0, h.open (by rw [h.len]; exact Nat.mul_pos h0 hs)⟩

theorem Addr.add_add (a : Addr) (i j : Nat) : (a.add i).add j = a.add (i + j) ∨ (i = 0 ∧ (a.add i).add j = a.add j) := by
  unfold Addr.add
  by_cases hi : i = 0
  · right; simp [hi]
  · left
    by_cases hj : j = 0
    · simp [hi, hj]
    · simp [hi, hj, Nat.add_assoc, show i + j ≠ 0 by omega]
theorem Addr.add_plus (a : Addr) (i j : Nat) : (a.add i).add j = a.add (i + j) := by
  rcases Addr.add_add a i j with h | ⟨rfl, h⟩
  · exact h
  · rw [h, Nat.zero_add]
/-- xs[j:]. -/
theorem Sl.drop {w : World} {ao : Option Addr} {size n c : Nat} {xs : List Value} (h : Sl w (.slice ao n c) size n xs) (j : Nat) (hj : j ≤ n) :
    Sl w (.slice (if c = j then ao else Option.map (fun x => x.add (j * size)) ao) (n - j) (c - j)) size (n - j) (xs.drop (j * size)) := by
  obtain ⟨hl, ao', c', hv, h1, h2, h3, h4⟩ := h
  injection hv with e1 _ e2
  subst e1; subst e2
  refine ⟨by rw [List.length_drop, hl, Nat.sub_mul], _, _, rfl, by omega, by omega, fun e => ?_, fun ad had i u hu => ?_⟩
  · by_cases hc : c = j
    · omega
    · rw [if_neg hc] at e
      cases ao with
      | none => have := h3 rfl; omega
      | some a => simp at e
  · rw [List.getElem?_drop] at hu
    by_cases hc : c = j
    · have : n - j = 0 := by omega
      have := (List.getElem?_eq_some_iff.1 hu).1
      have hn : n = j := by omega
      subst hn
      omega
    · rw [if_neg hc] at had
      cases ao with
      | none => simp at had
      | some a =>
        simp at had
        subst had
        rw [Addr.add_plus]
        exact h4 a rfl _ u hu
theorem Sl.drop1 {w : World} {ao : Option Addr} {n c : Nat} {xs : List Value} (h : Sl w (.slice ao n c) 1 n xs) (j : Nat) (hj : j ≤ n) :
    Sl w (.slice (if c = j then ao else Option.map (fun x => x.add j) ao) (n - j) (c - j)) 1 (n - j) (xs.drop j) := by
  have := h.drop j hj
  simpa using this
theorem slice_drop_block {ao : Option Addr} {n c j k : Nat} {b : Nat} (h : (Value.slice (if c = j then ao else Option.map (fun x => x.add k) ao) (n - j) (c - j)).ownBlock = some b) : (Value.slice ao n c).ownBlock = some b := by
  have hb : ∀ a : Addr, (a.add k).block = a.block := fun a => by unfold Addr.add; split <;> rfl
  by_cases hc : c = j
  · rw [if_pos hc] at h
    cases ao <;> simp [Value.ownBlock] at h ⊢; exact h
  · rw [if_neg hc] at h
    cases ao <;> simp [Value.ownBlock, hb] at h ⊢; exact h

/-- xs[j:] under one name. -/
theorem slice_low {P : Program} {t e : TypeId} {size : Nat} (ht : P.underlying t = some (.slice e)) (hs : ∀ w, (sizeOf e).run P w = .ok size w) (ao : Option Addr) (n c j : Nat) (hj : j ≤ n) :
    ∃ A, (∀ w, (Instr.sliceAt t (.slice ao n c) (some (.int .i64 (j : Int))) none none).run P w = .ok (.slice A (n - j) (c - j)) w) ∧ (∀ w, (Instr.slice t (.slice ao n c) (some (.int .i64 (j : Int))) none none).run P w = .ok (.slice A (n - j) (c - j)) w) ∧
      (∀ w xs, Sl w (.slice ao n c) size n xs → Sl w (.slice A (n - j) (c - j)) size (n - j) (xs.drop (j * size))) ∧ (∀ b, (Value.slice A (n - j) (c - j)).ownBlock = some b → (Value.slice ao n c).ownBlock = some b) := by
  have h1 : ∀ w, (Instr.slice t (.slice ao n c) (some (.int .i64 (j : Int))) none none).run P w = .ok (.slice (if c = j then ao else Option.map (fun x => x.add (j * size)) ao) (n - j) (c - j)) w := by
    intro w
    have h0 : (0 : Int) ≤ j := by omega
    have h2 : (j : Int) ≤ n := by omega
    simp [Instr.slice, run_underlying ht, Instr.sliceBounds, run_sliceBound, h0, h2, hs, Result.andThen]
  refine ⟨_, fun w => ?_, h1, fun w xs h => h.drop j hj, fun b => slice_drop_block⟩
  rw [← h1 w]
  simp [Instr.sliceAt, run_underlying ht]

theorem Sl.take {w : World} {ao : Option Addr} {size n c : Nat} {xs : List Value} (h : Sl w (.slice ao n c) size n xs) (j : Nat) (hj : j ≤ n) : Sl w (.slice ao j c) size j (xs.take (j * size)) := by
  obtain ⟨hl, ao', c', hv, h1, h2, h3, h4⟩ := h
  injection hv with e1 _ e2
  subst e1; subst e2
  refine ⟨by rw [List.length_take, hl]; have := Nat.mul_le_mul_right size hj; omega, _, _, rfl, by omega, h2, fun e => ?_, fun ad had i u hu => ?_⟩
  · have := h3 e; omega
  · rw [List.getElem?_take] at hu
    split at hu
    · exact h4 ad had i u hu
    · cases hu
/-- xs[:j]. -/
theorem slice_high {P : Program} {t e : TypeId} {size : Nat} (ht : P.underlying t = some (.slice e)) (hs : ∀ w, (sizeOf e).run P w = .ok size w) (ao : Option Addr) (n c j : Nat) (hj : j ≤ n) (hn : n ≤ c) :
    ∃ A, (∀ w, (Instr.sliceAt t (.slice ao n c) none (some (.int .i64 (j : Int))) none).run P w = .ok (.slice A j c) w) ∧ (∀ w, (Instr.slice t (.slice ao n c) none (some (.int .i64 (j : Int))) none).run P w = .ok (.slice A j c) w) ∧
      (∀ w xs, Sl w (.slice ao n c) size n xs → Sl w (.slice A j c) size j (xs.take (j * size))) ∧ (∀ b, (Value.slice A j c).ownBlock = some b → (Value.slice ao n c).ownBlock = some b) := by
  have h1 : ∀ w, (Instr.slice t (.slice ao n c) none (some (.int .i64 (j : Int))) none).run P w = .ok (.slice (if c = 0 then ao else Option.map (fun x => x.add (0 * size)) ao) j c) w := by
    intro w
    have h0 : (0 : Int) ≤ j := by omega
    have h2 : (j : Int) ≤ c := by omega
    simp [Instr.slice, run_underlying ht, Instr.sliceBounds, run_sliceBound, h0, h2, hs, Result.andThen]
  have e1 : (if c = 0 then ao else Option.map (fun x : Addr => x.add (0 * size)) ao) = ao := by
    split
    · rfl
    · cases ao <;> simp [Addr.add]
  rw [e1] at h1
  refine ⟨ao, fun w => ?_, h1, fun w xs h => h.take j hj, fun b h => ?_⟩
  · rw [← h1 w]; simp [Instr.sliceAt, run_underlying ht]
  · cases ao <;> simp [Value.ownBlock] at h ⊢; exact h
/-- xs[i:j]. -/
theorem slice_two {P : Program} {t e : TypeId} {size : Nat} (ht : P.underlying t = some (.slice e)) (hs : ∀ w, (sizeOf e).run P w = .ok size w) (ao : Option Addr) (n c i j : Nat) (hi : i ≤ j) (hj : j ≤ n) (hn : n ≤ c) :
    ∃ A, (∀ w, (Instr.sliceAt t (.slice ao n c) (some (.int .i64 (i : Int))) (some (.int .i64 (j : Int))) none).run P w = .ok (.slice A (j - i) (c - i)) w) ∧ (∀ w, (Instr.slice t (.slice ao n c) (some (.int .i64 (i : Int))) (some (.int .i64 (j : Int))) none).run P w = .ok (.slice A (j - i) (c - i)) w) ∧
      (∀ w xs, Sl w (.slice ao n c) size n xs → Sl w (.slice A (j - i) (c - i)) size (j - i) ((xs.take (j * size)).drop (i * size))) ∧ (∀ b, (Value.slice A (j - i) (c - i)).ownBlock = some b → (Value.slice ao n c).ownBlock = some b) := by
  have h1 : ∀ w, (Instr.slice t (.slice ao n c) (some (.int .i64 (i : Int))) (some (.int .i64 (j : Int))) none).run P w = .ok (.slice (if c = i then ao else Option.map (fun x => x.add (i * size)) ao) (j - i) (c - i)) w := by
    intro w
    have h0 : (0 : Int) ≤ j := by omega
    have h2 : (j : Int) ≤ c := by omega
    have h3 : (0 : Int) ≤ i := by omega
    have h4 : (i : Int) ≤ j := by omega
    simp [Instr.slice, run_underlying ht, Instr.sliceBounds, run_sliceBound, h0, h2, h3, h4, hi, hs, Result.andThen]
  refine ⟨_, fun w => ?_, h1, fun w xs h => ((h.take j hj).drop i hi), fun b h => ?_⟩
  · rw [← h1 w]; simp [Instr.sliceAt, run_underlying ht]
  · have := slice_drop_block (n := j) h
    cases ao <;> simp [Value.ownBlock] at this ⊢; exact this

def ints (k : IntKind) (xs : List Int) : List Value := xs.map fun x => .int k x
theorem ints_length (k : IntKind) (xs : List Int) : (ints k xs).length = xs.length := by simp [ints]
theorem ints_append (k : IntKind) (xs ys : List Int) : ints k (xs ++ ys) = ints k xs ++ ints k ys := by simp [ints]
/-- Bytes, as values. -/
def bys (s : List UInt8) : List Value := s.map fun x => .int .u8 x.toNat
theorem bys_length (s : List UInt8) : (bys s).length = s.length := by simp [bys]
theorem bys_append (s t : List UInt8) : bys (s ++ t) = bys s ++ bys t := by simp [bys]
theorem bys_one (s : List UInt8) : ∀ u ∈ bys s, u.oneCell' = true := by
  intro u hu; simp only [bys, List.mem_map] at hu; obtain ⟨x, _, rfl⟩ := hu; rfl
theorem ints_one (k : IntKind) (s : List Int) : ∀ u ∈ ints k s, u.oneCell' = true := by
  intro u hu; simp only [ints, List.mem_map] at hu; obtain ⟨x, _, rfl⟩ := hu; rfl

/-! ### append onto a row of the call's own -/
/-- Behind an append the row lies where it lay, or in a new block. -/
def FreshRow (w : World) (v v' : Value) : Prop := v'.ownBlock = v.ownBlock ∨ ∃ g, v'.ownBlock = some g ∧ w.heap.size ≤ g

theorem run_append_sl {P : Program} (w : World) (base : Nat) (t ty e : TypeId) (i : TypeInfo) (z : Value) (size bytes : Nat) (ht : P.underlying t = some (.slice e)) (hi : P.info? e = some i) (hz : i.zero = some z)
    (hsize : i.size = size) (hby : i.bytes = bytes) (hzs : z.cells.size = size) (hsz : 0 < size)
    (v : Value) (n : Nat) (xs : List Value) (hown : w.ownsRow base e size v n xs) (x : Value) (m : Nat) (news : List Value) (hx : Sl w x size m news) (h1 : ∀ u ∈ news, u.oneCell' = true)
    (h63 : n + m ≤ maxLen) (hbytes : (n + m) * bytes ≤ 140737488355328) (hbase : base ≤ w.heap.size) :
    ∃ v' w', (Builtin.append_ #[t, t] ty #[v, x]).run P w = .ok v' w' ∧ w'.ownsRow base e size v' (n + m) (xs ++ news) ∧ w.grownBy w' v.ownBlock ∧ (v' = .slice none 0 0 ↔ v = .slice none 0 0 ∧ m = 0) ∧ FreshRow w v v' := by
  obtain ⟨hl, ao, c, rfl, hmc, hcm, hnone, hnews⟩ := hx
  cases ao with
  | none =>
    obtain ⟨rfl, rfl⟩ := hnone rfl
    have : news = [] := List.eq_nil_of_length_eq_zero (by simpa using hl)
    subst this
    have hr := run_append_owned_none (P := P) w base t ty e i size ht hi v n xs hown
    exact ⟨v, w, hr, by simpa using hown, World.grownBy.refl _ _, by simp, .inl rfl⟩
  | some a =>
    have hcells := hnews a rfl
    obtain ⟨v', w', hr, r1, r2, r3⟩ := run_append_own (P := P) w base t ty e i z size bytes ht hi hz hsize hby hzs hsz v n xs hown a m c news hl hcells h1 h63 hbytes hbase
    refine ⟨v', w', hr, r1, r2, r3, ?_⟩
    subst hsize
    rcases hown.2 with ⟨rfl, rfl⟩ | ⟨g, cap, cur, rfl, hbg, hg, hnc, hcap, hcs, htake⟩
    · by_cases hm : m = 0
      · left
        rw [r3.2 ⟨rfl, hm⟩]
      · right
        have := run_append_nil (P := P) w t ty e i z ht hi hz a m c news hl hcells (by omega) (by unfold maxLen at h63; omega) (by rw [hby]; simp only [Nat.zero_add] at hbytes; omega)
        rw [hr] at this
        injection this with h _
        exact ⟨w.heap.size, by rw [h]; rfl, Nat.le_refl _⟩
    · by_cases hroom : n + m ≤ cap
      · left
        have hfit : n * i.size + news.length ≤ cur.size := by rw [hl, hcs, ← Nat.add_mul]; exact Nat.mul_le_mul_right _ hroom
        have := run_append_room (P := P) w t ty e i ht hi g n cap cur hg a m c news hl hcells h1 hroom hfit
        rw [hr] at this
        injection this with h _
        rw [h]; rfl
      · right
        have holds : ∀ j u, xs[j]? = some u → w.cell? ((⟨g, 0, none⟩ : Addr).add j) = some u := hown.cells (g := g) rfl
        have := run_append_grow (P := P) w t ty e i z ht hi hz ⟨g, 0, none⟩ n cap xs hown.1 holds a m c news hl hcells (by omega) (by unfold maxLen at h63; omega) (growslice_fits (by omega) (by rw [hby]; exact hbytes))
        rw [hr] at this
        injection this with h _
        exact ⟨w.heap.size, by rw [h]; rfl, Nat.le_refl _⟩

theorem wpList_append_sl {P : Program} (w : World) {ops : Array Oper} {rest : List Oper} {o : Oper} {a : Act} {Q : Exit → Act → World → Prop} (hgd : o.guard = none) (s x : Operand) (t : TypeId)
    (ho : o.op = .call { callee := .builtin .append, args := #[s, x], argTypes := #[t, t] })
    (base : Nat) (e : TypeId) (i : TypeInfo) (z : Value) (size bytes : Nat) (ht : P.underlying t = some (.slice e)) (hi : P.info? e = some i) (hz : i.zero = some z)
    (hsize : i.size = size) (hby : i.bytes = bytes) (hzs : z.cells.size = size) (hsz : 0 < size)
    (v : Value) (n : Nat) (xs : List Value) (hs : a.eval s = v) (hown : w.ownsRow base e size v n xs)
    (xv : Value) (m : Nat) (news : List Value) (hxv : a.eval x = xv) (hx : Sl w xv size m news) (h1 : ∀ u ∈ news, u.oneCell' = true)
    (h63 : n + m ≤ maxLen) (hbytes : (n + m) * bytes ≤ 140737488355328) (hbase : base ≤ w.heap.size)
    (h : ∀ v' w', w'.ownsRow base e size v' (n + m) (xs ++ news) → w.grownBy w' v.ownBlock → (v' = .slice none 0 0 ↔ v = .slice none 0 0 ∧ m = 0) → FreshRow w v v' → wpList P ops Q rest (a.put o.dst v') w') : wpList P ops Q (o :: rest) a w := by
  refine wpList_plain hgd fun K hK => ?_
  obtain ⟨v', w', hr, h2, h3, h4, h5⟩ := run_append_sl (P := P) w base t o.type e i z size bytes ht hi hz hsize hby hzs hsz v n xs hown xv m news hx h1 h63 hbytes hbase
  unfold Oper.wp execOp
  simp only [ho, resolve, invoke, builtin, Sem.run_bind, Sem.run_pure, Result.andThen_ok, List.map_toArray, List.map_cons, List.map_nil, hs, hxv, hr]
  exact hK _ _ (h v' w' h2 h3 h4 h5)

/-- A new block of one cell reads as a slice of one. -/
theorem sl_one (w : World) (e : TypeId) (u : Value) : Sl (w.alloc (.cells #[u] e)) (.slice (some ⟨w.heap.size, 0, none⟩) 1 1) 1 1 [u] :=
  ⟨rfl, _, 1, rfl, by omega, by unfold maxLen; omega, (fun h => by cases h), fun ad had j x hx => by cases had; exact cell_one_new w u e j x hx⟩

theorem wrapN (n : Nat) (h : n ≤ 9223372036854775807) : IntKind.i64.wrap (n : Int) = n := IntWalk.i64_in _ (by omega)

theorem ownsRow_slice {w : World} {base : Nat} {e : TypeId} {size n : Nat} {v : Value} {xs : List Value} (h : w.ownsRow base e size v n xs) : ∃ ao c, v = .slice ao n c := by
  obtain ⟨ao, c, hv, _⟩ := (ownsRow_sl h).value; exact ⟨ao, c, hv⟩
theorem ownsRow_mods {S : Nat → Prop} {w w' : World} {base : Nat} {e : TypeId} {size n : Nat} {v : Value} {xs : List Value} (h : w.ownsRow base e size v n xs) (k : Mods S w w') (hn : ∀ b, v.ownBlock = some b → ¬ S b) : w'.ownsRow base e size v n xs := by
  refine ⟨h.1, ?_⟩
  rcases h.2 with h0 | ⟨g, cap, cur, hv, hb, hg, r⟩
  · exact .inl h0
  · exact .inr ⟨g, cap, cur, hv, hb, (k.block g (Array.getElem?_eq_some_iff.1 hg).1 (hn g (by rw [hv]; rfl))).trans hg, r⟩
theorem ownsRow_pos {w : World} {base : Nat} {e : TypeId} {size n : Nat} {v : Value} {xs : List Value} (h : w.ownsRow base e size v n xs) (hn : 0 < n) : ∃ g cap, v = .slice (some ⟨g, 0, none⟩) n cap ∧ base ≤ g ∧ n ≤ cap ∧ cap ≤ maxLen := by
  rcases h.2 with ⟨_, h0⟩ | ⟨g, cap, cur, hv, hb, _, hnc, hc, _⟩
  · omega
  · exact ⟨g, cap, hv, hb, hnc, hc⟩
theorem ownsRow_base {w : World} {base : Nat} {e : TypeId} {size n : Nat} {v : Value} {xs : List Value} (h : w.ownsRow base e size v n xs) {b : Nat} (hb : v.ownBlock = some b) : base ≤ b ∧ b < w.heap.size := h.lt b hb

end Go.Vb
