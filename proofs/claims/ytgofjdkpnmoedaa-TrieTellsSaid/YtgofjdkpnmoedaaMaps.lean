/- A map as a function of its keys: look-up, update. -/
import Derived.Test.YtgofjdkpnmoedaaBase
import Derived.Maps.Own
import Derived.Maps.OwnOps
set_option linter.unusedSimpArgs false
set_option linter.unusedVariables false
namespace Go.Vb
open Go.RowKit Go.MapKept Go.Maps Go.ChangeMaps

section
variable {P : Program} {k : TypeId} {α : Type} {K : α → Value} {ok : α → Prop}

/-- Keys of one family: K x for each x that is ok. -/
structure KeyFam (P : Program) (k : TypeId) {α : Type} (K : α → Value) (ok : α → Prop) : Prop where
  keyed : Keyed P k
  key : ∀ x, ok x → ∃ l, keyOf P k (K x) = some l
  inj : ∀ x y, ok x → ok y → K x = K y → x = y

/-- Block m is a map that holds f. -/
def MapAs (K : α → Value) (ok : α → Prop) (w : World) (m : Nat) (f : α → Option Value) : Prop :=
  ∃ arr clock, w.heap[m]? = some (.map arr clock) ∧ Stamped arr clock ∧ (∀ e ∈ arr.toList, ∃ x, ok x ∧ e.key = K x ∧ f x = some e.val) ∧ (∀ x v, f x = some v → ok x ∧ ∃ e ∈ arr.toList, e.key = K x)

theorem MapAs.lt {w : World} {m : Nat} {f : α → Option Value} (h : MapAs K ok w m f) : m < w.heap.size := by
  obtain ⟨_, _, h, _⟩ := h; exact (Array.getElem?_eq_some_iff.1 h).1
theorem MapAs.same {w w' : World} {m : Nat} {f : α → Option Value} (h : MapAs K ok w m f) (hb : w'.heap[m]? = w.heap[m]?) : MapAs K ok w' m f := by
  obtain ⟨arr, clock, h1, h2⟩ := h; exact ⟨arr, clock, hb.trans h1, h2⟩
theorem MapAs.mods {S : Nat → Prop} {w w' : World} {m : Nat} {f : α → Option Value} (h : MapAs K ok w m f) (hm : Mods S w w') (hn : ¬ S m) : MapAs K ok w' m f := h.same (hm.block m h.lt hn)
theorem MapAs.made (w : World) : MapAs K ok (w.alloc (.map #[] 0)) w.heap.size fun _ => none :=
  ⟨#[], 0, (MapKept.heap_alloc w _).1, stamped_empty 0, by simp, by simp⟩

theorem MapAs.find {w : World} {f : α → Option Value} (F : KeyFam P k K ok) {arr : Array MapEntry} {clock : Nat} (_hs : Stamped arr clock)
    (h1 : ∀ e ∈ arr.toList, ∃ x, ok x ∧ e.key = K x ∧ f x = some e.val) (h2 : ∀ x v, f x = some v → ok x ∧ ∃ e ∈ arr.toList, e.key = K x) (x : α) (hx : ok x) :
    ((Instr.findKey k (K x) arr.toList).run P w = .ok none w ∧ f x = none ∧ ∀ e ∈ arr.toList, e.key ≠ K x) ∨
    ∃ (j : Nat) (e : MapEntry), (Instr.findKey k (K x) arr.toList).run P w = .ok (some (j, e.val)) w ∧ arr.toList[j]? = some e ∧ e.key = K x ∧ f x = some e.val := by
  obtain ⟨lx, hlx⟩ := F.key x hx
  rcases F.keyed.find w hlx arr.toList (fun e he => by obtain ⟨y, hy, ek, _⟩ := h1 e he; rw [ek]; exact F.key y hy) with ⟨hr, hno⟩ | ⟨j, e, hr, hj, hk⟩
  · left
    refine ⟨hr, ?_, hno⟩
    cases hf : f x with
    | none => rfl
    | some v => obtain ⟨_, e, he, hek⟩ := h2 x v hf; exact absurd hek (hno e he)
  · right
    obtain ⟨y, hy, ek, hf⟩ := h1 e (List.mem_of_getElem? hj)
    have : y = x := F.inj y x hy hx (ek.symm.trans hk)
    subst this
    exact ⟨j, e, hr, hj, hk, hf⟩

theorem MapAs.lookup {w : World} {m : Nat} {f : α → Option Value} (h : MapAs K ok w m f) (F : KeyFam P k K ok) {t e : TypeId} (ht : P.underlying t = some (.map k e)) {z : Value} (hz : (zeroValue e).run P w = .ok z w) (x : α) (hx : ok x) :
    (Instr.lookup t (.map (some m)) (K x) false).run P w = .ok ((f x).getD z) w := by
  obtain ⟨arr, clock, hb, hs, h1, h2⟩ := h
  obtain ⟨lx, hlx⟩ := F.key x hx
  have hc := F.keyed.check w arr.isEmpty hlx
  rcases MapAs.find (w := w) F hs h1 h2 x hx with ⟨hr, hf, _⟩ | ⟨j, e0, hr, _, _, hf⟩
  · simp [Instr.lookup, run_underlying ht, MapKept.run_getObj_map hb, hc, hr, hz, hf, Sem.run]
  · simp [Instr.lookup, run_underlying ht, MapKept.run_getObj_map hb, hc, hr, hf, Sem.run]

theorem MapAs.lookup_ok {w : World} {m : Nat} {f : α → Option Value} (h : MapAs K ok w m f) (F : KeyFam P k K ok) {t e : TypeId} (ht : P.underlying t = some (.map k e)) {z : Value} (hz : (zeroValue e).run P w = .ok z w) (x : α) (hx : ok x) :
    (Instr.lookup t (.map (some m)) (K x) true).run P w = .ok (.tuple #[(f x).getD z, .bool (f x).isSome]) w := by
  obtain ⟨arr, clock, hb, hs, h1, h2⟩ := h
  obtain ⟨lx, hlx⟩ := F.key x hx
  have hc := F.keyed.check w arr.isEmpty hlx
  rcases MapAs.find (w := w) F hs h1 h2 x hx with ⟨hr, hf, _⟩ | ⟨j, e0, hr, _, _, hf⟩
  · simp [Instr.lookup, run_underlying ht, MapKept.run_getObj_map hb, hc, hr, hz, hf, Sem.run]
  · simp [Instr.lookup, run_underlying ht, MapKept.run_getObj_map hb, hc, hr, hf, Sem.run]

theorem lookup_nil {w : World} (F : KeyFam P k K ok) {t e : TypeId} (ht : P.underlying t = some (.map k e)) {z : Value} (hz : (zeroValue e).run P w = .ok z w) (x : α) (hx : ok x) :
    (Instr.lookup t (.map none) (K x) false).run P w = .ok z w := by
  obtain ⟨lx, hlx⟩ := F.key x hx
  have hc := F.keyed.check w true hlx
  have hf : (Instr.findKey k (K x) []).run P w = .ok none w := by
    rcases F.keyed.find w hlx [] (by simp) with ⟨hr, _⟩ | ⟨j, e0, _, hj, _⟩
    · exact hr
    · simp at hj
  simp [Instr.lookup, run_underlying ht, hc, hf, hz, Sem.run]

open Classical in
/-- `m[x] = v`. -/
theorem MapAs.update {w : World} {m : Nat} {f : α → Option Value} (h : MapAs K ok w m f) (F : KeyFam P k K ok) {t e : TypeId} (ht : P.underlying t = some (.map k e)) (x : α) (hx : ok x) (v : Value) :
    ∃ w', (Instr.mapUpdate t (.map (some m)) (K x) v).run P w = .ok () w' ∧ MapAs K ok w' m (fun y => if y = x then some v else f y) ∧ w.grownBy w' (some m) ∧ w'.heap.size = w.heap.size ∧ w'.drawn = w.drawn := by
  obtain ⟨arr, clock, hb, hs, h1, h2⟩ := h
  obtain ⟨lx, hlx⟩ := F.key x hx
  have hc := F.keyed.check w false hlx
  have hst := F.keyed.stays w hlx
  rcases MapAs.find (w := w) F hs h1 h2 x hx with ⟨hr, hf, hno⟩ | ⟨j, e0, hr, hj, hk, hf⟩
  · refine ⟨setBlock w m (.map (arr.push { key := K x, val := v, born := clock }) (clock + 1)), ?_, ⟨_, _, heap_setBlock_same hb _, stamped_push hs hno, ?_, ?_⟩, ⟨rfl, rfl, rfl, by simp [setBlock], fun i _ hi => heap_setBlock_other hb _ (fun e => hi (by rw [e]))⟩, by simp [setBlock], rfl⟩
    · simp [Instr.mapUpdate, run_underlying ht, MapKept.run_getObj_map hb, hc, hr, MapKept.run_setObj_map _ hb, setBlock]
    · intro e he
      simp only [Array.toList_push, List.mem_append, List.mem_singleton] at he
      rcases he with he | rfl
      · obtain ⟨y, hy, ek, hfy⟩ := h1 e he
        refine ⟨y, hy, ek, ?_⟩
        have hne : y ≠ x := fun h => hno e he (by rw [ek, h])
        simp only [hne, if_false]
        exact hfy
      · exact ⟨x, hx, rfl, by simp⟩
    · intro y u hy
      by_cases hxy : y = x
      · subst hxy
        exact ⟨hx, { key := K y, val := v, born := clock }, by simp, rfl⟩
      · simp only [hxy, if_false] at hy
        obtain ⟨oy, e, he, ek⟩ := h2 y u hy
        exact ⟨oy, e, by simp [he], ek⟩
  · have hjl : j < arr.size := by have := (List.getElem?_eq_some_iff.1 hj).1; simpa using this
    have hja : arr[j]? = some e0 := by rw [← Array.getElem?_toList]; exact hj
    refine ⟨setBlock w m (.map (arr.modify j fun e => { e with key := K x, val := v }) clock), ?_, ⟨_, _, heap_setBlock_same hb _, ?_, ?_, ?_⟩, ⟨rfl, rfl, rfl, by simp [setBlock], fun i _ hi => heap_setBlock_other hb _ (fun e => hi (by rw [e]))⟩, by simp [setBlock], rfl⟩
    · simp [Instr.mapUpdate, run_underlying ht, MapKept.run_getObj_map hb, hc, hr, MapKept.run_setObj_map _ hb, setBlock, hja, hk, hst]
    · refine stamped_modify hs j _ (fun _ _ => rfl) fun e _ he => ?_
      rw [hja] at he; injection he with he; subst he; exact hk.symm
    · intro e he
      obtain ⟨i, hi, rfl⟩ := List.mem_iff_getElem.1 he
      simp only [Array.getElem_toList, Array.getElem_modify]
      have hi' : i < arr.size := by simpa using hi
      split
      · rename_i hji; exact ⟨x, hx, rfl, by simp⟩
      · rename_i hji
        obtain ⟨y, hy, ek, hfy⟩ := h1 arr[i] (by simp)
        refine ⟨y, hy, ek, ?_⟩
        have hne : y ≠ x := by
          rintro rfl
          have hnd := hs.2.2
          have e1 : (arr.toList.map (·.key))[i]? = some (K y) := by simp [hi', ek]
          have e2 : (arr.toList.map (·.key))[j]? = some (K y) := by simp [hja, hk]
          have := (List.getElem?_inj (by simpa using hi') hnd).1 (e1.trans e2.symm)
          omega
        simp only [hne, if_false]
        exact hfy
    · intro y u hy
      by_cases hxy : y = x
      · subst hxy
        refine ⟨hx, { e0 with key := K y, val := v }, ?_, rfl⟩
        refine List.mem_of_getElem? (i := j) ?_
        simp [hja]
      · simp only [hxy, if_false] at hy
        obtain ⟨oy, e, he, ek⟩ := h2 y u hy
        refine ⟨oy, ?_⟩
        obtain ⟨i, hi, rfl⟩ := List.mem_iff_getElem.1 he
        have hi' : i < arr.size := by simpa using hi
        have hij : j ≠ i := by
          rintro rfl
          rw [Array.getElem?_eq_getElem hjl] at hja
          injection hja with hja
          simp only [Array.getElem_toList] at ek
          rw [hja, hk] at ek
          exact hxy (F.inj _ _ oy hx ek.symm)
        refine ⟨arr[i], List.mem_of_getElem? (i := i) ?_, ek⟩
        simp [hij, hi']

open Classical in
theorem wpList_mapUpdate_as {w : World} {ops : Array Oper} {rest : List Oper} {o : Oper} {a : Act} {Q : Exit → Act → World → Prop}
    (hg : o.guard = none) (mo xo vo : Operand) (t : TypeId) (hop : o.op = Op.mapUpdate t mo xo vo) (k e : TypeId) (ht : P.underlying t = some (.map k e))
    {K : α → Value} {ok : α → Prop} (F : KeyFam P k K ok) (m : Nat) (f : α → Option Value) (x : α) (v : Value)
    (hm : a.eval mo = .map (some m)) (hown : MapAs K ok w m f) (hx : a.eval xo = K x) (hox : ok x) (hv : a.eval vo = v)
    (hK : ∀ w', MapAs K ok w' m (fun y => if y = x then some v else f y) → w.grownBy w' (some m) → w'.heap.size = w.heap.size → wpList P ops Q rest (a.put o.dst undef) w') :
    wpList P ops Q (o :: rest) a w := by
  refine wpList_plain hg fun K' hK' => ?_
  obtain ⟨w', hrun, r1, r2, r3, _⟩ := hown.update F ht x hox v
  unfold Oper.wp
  simp [execOp, hop, hm, hx, hv, hrun, Result.andThen]
  exact hK' _ _ (hK w' r1 r2 r3)
end

/-- Keys that are whole numbers. -/
theorem int_fam {P : Program} {k : TypeId} {q : IntKind} (hk : P.underlying k = some (.int q)) : KeyFam P k (fun n : Int => .int q n) (fun n => (Lit.int q n).wf = true) :=
  ⟨int_keyed hk, fun _ h => ⟨_, keyOf_int_mk hk h⟩, fun x y _ _ h => by injection h⟩
theorem u8_fam {P : Program} {k : TypeId} (hk : P.underlying k = some (.int .u8)) : KeyFam P k (fun c : UInt8 => .int .u8 c.toNat) (fun _ => True) :=
  ⟨int_keyed hk, fun x _ => ⟨_, keyOf_int_mk hk (WalkArith.wf_u8 (by have := x.toNat_lt; omega))⟩, fun x y _ _ h => by injection h with _ h; exact UInt8.toNat_inj.1 (by omega)⟩

end Go.Vb
