/- parts of package post. -/
import Derived.Test.YtlmlanaobhfmbaaChunkB
set_option linter.unusedSimpArgs false
set_option linter.unusedVariables false
namespace Go.Proofs.Ytlmlanaobhfmbaa
open Go.RowKit Go.Vb
theorem keeps_new {M : Nat → Prop} {w w1 w2 : World} (h : Keeps w w1) (m : Mods M w1 w2) (hM : ∀ b, M b → w.heap.size ≤ b) : Keeps w w2 :=
  ((keeps_mods (S := M) h).trans m).below (Nat.le_refl _) fun k hk hm => by have := hM k hm; omega
theorem chunk_any (w : World) (ao : Option Addr) (n c size : Nat) (hs0 : 0 < size) :
    Calls Try.prog 100 #[.slice ao n c, .int .i64 (size : Int)] w fun e w' => e = .returned (.func (.func 118) #[] #[.pointer (some ⟨w.heap.size, 0, none⟩), .pointer (some ⟨w.heap.size + 1, 0, none⟩)]) ∧ w' = (w.alloc (.cells #[.slice ao n c] 22)).alloc (.cells #[.int .i64 (size : Int)] 3) := by
  have h1 : ¬ (size : Int) < 1 := by omega
  go_enter Try.func100, Try.ntmps100
  go_wp2
  go_ret
  exact ⟨rfl, rfl⟩
def KpC (w0 : World) (Bs Bn : Nat) (A B : World) : Prop := Below w0.heap.size A B ∧ B.heap[Bs]? = A.heap[Bs]? ∧ B.heap[Bn]? = A.heap[Bn]?
theorem chunk_stops (n Bs Bn size : Nat) (w0 w : World) (v : Value) (L : List Post) (cs : List Value) (hn : 1 ≤ n) (hP : Posts w0 v L cs) (hf : ∀ p ∈ L, Fine p) (hL : L.length ≤ 1000000) (hs0 : 0 < size) (hs : size ≤ 1000000) (N : Nat) (hN : N * size < L.length + size) (hN2 : L.length ≤ N * size)
    (hw : Keeps w0 w) (hBs : w.heap[Bs]? = some (.cells #[v] 22 (0, 0))) (hBn : w.heap[Bn]? = some (.cells #[.int .i64 (size : Int)] 3 (0, 0))) :
    SeqStopsK Fence.wide n Try.prog 118 #[.pointer (some ⟨Bs, 0, none⟩), .pointer (some ⟨Bn, 0, none⟩)] (fun x : Chunk w0 size => #[x.1.1]) (KpC w0 Bs Bn) (fun xs => xs.map (·.1.2) = chunksTo L size N) (fun _ => True) N w := by
  intro l J Jx W hW hJ hJx hY h0
  refine chunk1_in n l Bs Bn size w0 v L cs hn hP hf hL hs0 hs (KpC w0 Bs Bn) (fun A B hk ha => ⟨Below.trans ha hk.1, hk.2.1, hk.2.2⟩) J Jx N hN hY hN2 (fun s A B hs hg => hJ s A B none hs hg (fun r e => by cases e)) W (hw.trans hW) (Keeps.heap hW hBs) (Keeps.heap hW hBn) h0
theorem kpC_t {w0 : World} {Bs Bn : Nat} : ∀ {A B C : World}, KpC w0 Bs Bn A B → KpC w0 Bs Bn B C → KpC w0 Bs Bn A C := fun h k => ⟨Below.trans h.1 k.1, k.2.1.trans h.2.1, k.2.2.trans h.2.2⟩
theorem kpC_b {w0 w : World} {Bs Bn : Nat} (h0 : w0.heap.size ≤ w.heap.size) (h1 : Bs < w.heap.size) (h2 : Bn < w.heap.size) : ∀ (W : World) (l : Nat) (o o' : Obj), w.heap.size ≤ l → W.heap[l]? = some o → o.isCells = false → o.isWalk = false → KpC w0 Bs Bn W (W.putObj l o') := by
  intro W l o o' hl hW h3 h4
  have hg := grownBy_putObj' W l o'
  refine ⟨belowK_b h0 W l o o' hl hW h3 h4, ?_, ?_⟩
  · exact World.putObj_heap_other (by omega)
  · exact World.putObj_heap_other (by omega)
theorem cells_own {W W' : World} {row : Option Nat} {b : Nat} {c : Array Value} {t : TypeId} {f : Nat × Nat} (h : W.heap[b]? = some (.cells c t f)) (hg : W.grownBy W' row) (hr : ∀ r, row = some r → ∃ o : Obj, W.heap[r]? = some o ∧ o.isCells = false) : W'.heap[b]? = some (.cells c t f) := by
  refine (hg.block b (Array.getElem?_eq_some_iff.1 h).1 fun e => ?_).trans h
  obtain ⟨o, ho, hc⟩ := hr b e.symm
  rw [h] at ho; cases ho; cases hc
/-- what of does with a chunk. -/
structure IsEnc (fv : Nat) (E : Int → List Post → List UInt8) (size M : Nat) : Prop where
  enters : ∀ args w, (callFunc fv args).run Try.prog w = .ok (.enter fv args) w
  call : ∀ w v L cs last, Posts w v L cs → L ≠ [] → (∀ p ∈ L, Fine p) → L.length ≤ size → (-9223372036854775808 ≤ last ∧ last ≤ 9223372036854775807) → Calls Try.prog fv #[v, .int .i64 last] w fun e w' => ∃ v', e = .returned v' ∧ w'.ownsRow w.heap.size 5 1 v' (E last L).length (bys (E last L)) ∧ Keeps w w'
  len : ∀ last L, (∀ p ∈ L, Fine p) → L.length ≤ size → (E last L).length ≤ M
def headOf (last : Int) (c : List Post) (b : List UInt8) : List UInt8 := lebOf (u64Of (lastOf last c - last - 1)) ++ (lebOf b.length ++ b)
def encC (E : Int → List Post → List UInt8) : Int → List (List Post) → List UInt8
  | _, [] => []
  | last, c :: t => headOf last c (E last c) ++ encC E (lastOf last c) t
def manyOf (n size : Nat) : Nat := (n + size - 1) / size
def partsOf (E : Int → List Post → List UInt8) (size : Nat) (last : Int) (L : List Post) : List UInt8 := encC E last (chunksTo L size (manyOf L.length size))
theorem lastOf_append (last : Int) (a b : List Post) : lastOf last (a ++ b) = lastOf (lastOf last a) b := by
  induction a generalizing last with
  | nil => simp [lastOf]
  | cons p t ih => rw [List.cons_append, lastOf_cons, ih, lastOf_cons]
theorem encC_snoc (E : Int → List Post → List UInt8) : ∀ (cs : List (List Post)) (last : Int) (c : List Post), encC E last (cs ++ [c]) = encC E last cs ++ headOf (lastOf last cs.flatten) c (E (lastOf last cs.flatten) c)
  | [], last, c => by simp [encC, lastOf]
  | d :: t, last, c => by rw [List.cons_append, encC, encC_snoc E t, encC, List.flatten_cons, lastOf_append, List.append_assoc]
theorem lastOf_eq (la : Int) (ch : List Post) (i : Nat) (hi : i < ch.length) (h : i + 1 = ch.length) : lastOf la ch = (ch[i]'hi).1 := by
  have e : ch = ch.take i ++ [ch[i]'hi] := by
    have h1 : ch.take (i + 1) = ch.take i ++ [ch[i]'hi] := by rw [List.take_add_one, List.getElem?_eq_getElem hi, Option.toList_some]
    rw [h, List.take_length] at h1
    exact h1
  have h2 := lastOf_snoc la (ch.take i) (ch[i]'hi)
  rw [← e] at h2
  exact h2
structure PartI (w : World) (b0 b1 b2 bm : Nat) (fv : Nat) (E : Int → List Post → List UInt8) (M : Nat) (last : Int) (cs : List (List Post)) (W : World) : Prop where
  la : W.heap[b0]? = some (.cells #[.int .i64 (lastOf last cs.flatten)] 2 (0, 0))
  fn : W.heap[b1]? = some (.cells #[.func (.func fv) #[] #[]] 90 (0, 0))
  out : ∃ v', W.heap[b2]? = some (.cells #[v'] 23 (0, 0)) ∧ W.ownsRow bm 5 1 v' (encC E last cs).length (bys (encC E last cs))
  len : (encC E last cs).length ≤ (M + 20) * cs.length
  lar : -9223372036854775808 ≤ lastOf last cs.flatten ∧ lastOf last cs.flatten ≤ 9223372036854775807
  keeps : Keeps w W
  sz : bm ≤ W.heap.size
theorem partI_own {w : World} {b0 b1 b2 bm fv : Nat} {E : Int → List Post → List UInt8} {M : Nat} {last : Int} {α : Type} (f : List α → List (List Post)) {B : Nat} (hB : w.heap.size ≤ B) : OwnFrom B (fun pre W => PartI w b0 b1 b2 bm fv E M last (f pre) W) := by
  rintro s X Y row ⟨h1, h2, ⟨v', h3, h4⟩, h5, h6, h7, h8⟩ hg hr
  have hr' : ∀ r, row = some r → ∃ o : Obj, X.heap[r]? = some o ∧ o.isCells = false := fun r e => (hr r e).2
  refine ⟨cells_own h1 hg hr', cells_own h2 hg hr', ⟨v', cells_own h3 hg hr', h4.kept hg ?_⟩, h5, h6, h7.grown hg h7.size (fun k e => by have := (hr k e).1; omega), Nat.le_trans h8 hg.size⟩
  rcases h4.2 with ⟨rfl, _⟩ | ⟨g, cap, cur, rfl, _, hgb, _⟩
  · exact .inl rfl
  · refine .inr fun e' => ?_
    obtain ⟨o, ho, hc⟩ := hr' g (by simpa [Value.ownBlock] using e'.symm)
    rw [hgb] at ho; cases ho; cases hc
attribute [local go_sem] Oper.semAt_some
set_option maxRecDepth 100000 in
set_option maxHeartbeats 1000000 in
theorem parts_any (fv : Nat) (E : Int → List Post → List UInt8) (size M : Nat) (hE : IsEnc fv E size M) (hs0 : 0 < size) (hs : size ≤ 1000) (hM : M ≤ 1000000000) (w : World) (v : Value) (L : List Post) (cs : List Value) (last : Int) (hP : Posts w v L cs) (hf : ∀ p ∈ L, Fine p) (hL : L.length ≤ 4096) (hlast : -9223372036854775808 ≤ last ∧ last ≤ 9223372036854775807) :
    Calls Try.prog 60 #[v, .int .i64 last, .int .i64 (size : Int), .func (.func fv) #[] #[]] w fun e w' => ∃ v', e = .returned v' ∧ w'.ownsRow w.heap.size 5 1 v' (partsOf E size last L).length (bys (partsOf E size last L)) ∧ Keeps w w' := by
  obtain ⟨ao, c, rfl, hc1, hc2, _⟩ := hP.outer.value
  refine (callsIn_wide (n := 5)).1 ?_
  refine callsIn_of_wp_marks Try.func60 rfl trivial ?_ rfl
  simp only [Try.ntmps60, List.size_toArray, List.length_cons, List.length_nil, Nat.reduceAdd, Nat.reduceSub, Array.replicate_succ, Array.replicate_zero, List.push_toArray, List.append_toArray, List.nil_append, List.cons_append]
  gi_wp2_with fail
  refine ⟨trivial, ?_⟩
  refine (callsIn_wide.2 (chunk_any _ ao L.length c size hs0)).mono ?_
  rintro e w' ⟨rfl, rfl⟩
  gi_wp2_with fail
  have a1 := heap_alloc_new w (.cells #[.int .i64 last] 2)
  have k1 : Keeps w (w.alloc (.cells #[.int .i64 last] 2)) := (Below.refl _ _).alloc (Nat.le_refl _) _
  have z1 : (w.alloc (.cells #[.int .i64 last] 2)).heap.size = w.heap.size + 1 := by simp
  generalize w.alloc (.cells #[.int .i64 last] 2) = W1 at *
  have a2 := heap_alloc_new W1 (.cells #[.func (.func fv) #[] #[]] 90)
  have k2 : Keeps W1 (W1.alloc (.cells #[.func (.func fv) #[] #[]] 90)) := (Below.refl _ _).alloc (Nat.le_refl _) _
  have z2 : (W1.alloc (.cells #[.func (.func fv) #[] #[]] 90)).heap.size = W1.heap.size + 1 := by simp
  generalize W1.alloc (.cells #[.func (.func fv) #[] #[]] 90) = W2 at *
  have a3 := heap_alloc_new W2 (.cells #[.slice none 0 0] 23)
  have k3 : Keeps W2 (W2.alloc (.cells #[.slice none 0 0] 23)) := (Below.refl _ _).alloc (Nat.le_refl _) _
  have z3 : (W2.alloc (.cells #[.slice none 0 0] 23)).heap.size = W2.heap.size + 1 := by simp
  generalize W2.alloc (.cells #[.slice none 0 0] 23) = W3 at *
  have a4 := heap_alloc_new W3 (.cells #[.slice ao L.length c] 22)
  have k4 : Keeps W3 (W3.alloc (.cells #[.slice ao L.length c] 22)) := (Below.refl _ _).alloc (Nat.le_refl _) _
  have z4 : (W3.alloc (.cells #[.slice ao L.length c] 22)).heap.size = W3.heap.size + 1 := by simp
  generalize W3.alloc (.cells #[.slice ao L.length c] 22) = W4 at *
  have a5 := heap_alloc_new W4 (.cells #[.int .i64 (size : Int)] 3)
  have k5 : Keeps W4 (W4.alloc (.cells #[.int .i64 (size : Int)] 3)) := (Below.refl _ _).alloc (Nat.le_refl _) _
  have z5 : (W4.alloc (.cells #[.int .i64 (size : Int)] 3)).heap.size = W4.heap.size + 1 := by simp
  generalize W4.alloc (.cells #[.int .i64 (size : Int)] 3) = W0 at *
  obtain ⟨b1, hb1⟩ : ∃ b1, b1 = w.heap.size + 1 := ⟨_, rfl⟩
  rw [← hb1] at z1 ⊢
  obtain ⟨b2, hb2⟩ : ∃ b2, b2 = b1 + 1 := ⟨_, rfl⟩
  rw [z1, ← hb2] at z2
  rw [← hb2]
  obtain ⟨b3, hb3⟩ : ∃ b3, b3 = b2 + 1 := ⟨_, rfl⟩
  rw [z2, ← hb3] at z3
  rw [← hb3]
  obtain ⟨b4, hb4⟩ : ∃ b4, b4 = b3 + 1 := ⟨_, rfl⟩
  rw [z3, ← hb4] at z4
  rw [← hb4]
  rw [z1] at a2
  rw [z2] at a3
  rw [z3] at a4
  rw [z4] at a5 z5
  have k25 := ((k2.trans k3).trans k4).trans k5
  have k05 := k1.trans k25
  have A1 := Keeps.heap k25 a1
  have A2 := Keeps.heap ((k3.trans k4).trans k5) a2
  have A3 := Keeps.heap (k4.trans k5) a3
  have A4 := Keeps.heap k5 a4
  have hNdef : manyOf L.length size * size < L.length + size ∧ L.length ≤ manyOf L.length size * size := by
    unfold manyOf
    have h1 := Nat.div_mul_le_self (L.length + size - 1) size
    have h2 := Nat.lt_div_mul_add hs0 (a := L.length + size - 1)
    omega
  have hstops := chunk_stops 4 b3 b4 size w W0 (.slice ao L.length c) L cs (by omega) hP hf (by omega) hs0 (by omega) (manyOf L.length size) hNdef.1 hNdef.2 k05 A4 a5
  have hWs : w.heap.size ≤ W0.heap.size := k05.size
  have h0 : PartI w w.heap.size b1 b2 (b4 + 1) fv E M last [] W0 := ⟨A1, A2, ⟨_, A3, World.ownsRow_nil _ _ _ _⟩, by simp [encC], by simpa [lastOf] using hlast, k05, by omega⟩
  have hr0 := hid z5
  have HDEF := hid hNdef
  clear hNdef
  generalize hN : manyOf L.length size = N at *
  have o1 : w.heap.size < b1 := by omega
  have o2 : b1 < b2 := by omega
  have o3 : b2 < b3 := by omega
  have o4 : b3 < b4 := by omega
  have o5 : b4 < W0.heap.size := by omega
  have HN := hid hN
  clear hb1 hb2 hb3 hb4 z1 z2 z3 z4 z5 hN a1 a2 a3 a4 k1 k2 k3 k4 k5
  refine wpIn_rangeFunc_ownG rfl (by omega) (gf := 118) (lb := #[.pointer (some ⟨b3, 0, none⟩), .pointer (some ⟨b4, 0, none⟩)]) rfl trivial (enters_of Try.func118 (by kernel_rfl) rfl) hstops kpC_t (kpC_b hWs (Nat.lt_trans o4 o5) o5) (Below.refl _ _) (fun _ => rfl)
    (fun (pre : List (Chunk w size)) W => PartI w w.heap.size b1 b2 (b4 + 1) fv E M last (pre.map (fun x => x.1.2)) W) (fun _ _ _ => False) (partI_own (fun (pre : List (Chunk w size)) => pre.map (fun x => x.1.2)) hWs) (fun _ _ _ _ _ hs _ _ => hs) h0
    (fun (x : Chunk w size) => { tmps := List.toArray ((.slice ao L.length c) :: (.int .i64 last) :: (.int .i64 (size : Int)) :: (.func (.func fv) #[] #[]) :: undef :: (.pointer (some ⟨w.heap.size, 0, none⟩)) :: undef :: (.pointer (some ⟨b1, 0, none⟩)) :: (.slice none 0 0) :: (.pointer (some ⟨b2, 0, none⟩)) :: x.1.1 :: undef :: undef :: (.slice ao L.length c) :: (.int .i64 (size : Int)) :: (.func (.func 118) #[] #[.pointer (some ⟨b3, 0, none⟩), .pointer (some ⟨b4, 0, none⟩)]) :: x.1.1 :: undef :: undef :: undef :: undef :: undef :: undef :: undef :: undef :: undef :: undef :: undef :: undef :: undef :: undef :: undef :: undef :: undef :: undef :: undef :: undef :: undef :: undef :: undef :: undef :: undef :: undef :: []), defers := [] }) ?assign ?body ?done ?stop
  case assign =>
    intro l x W K hK
    gi_wp2
    exact hK
  case stop =>
    rintro D cc pre W _ _ h _
    exact h.elim
  case done =>
    rintro D xs W hD hxs hI hK
    obtain ⟨q1, q2, ⟨v', q3, q4⟩, q5, q6, q7, q8⟩ := hI
    rw [hxs] at q4
    have cv : W.cell? ⟨b2, 0, none⟩ = some v' := by unfold World.cell?; simp only [q3]; rfl
    have q4' : W.ownsRow (b4 + 1) 5 1 v' (partsOf E size last L).length (bys (partsOf E size last L)) := by unfold partsOf; rw [HN.out]; exact q4
    obtain ⟨ov, cvv, rfl⟩ := ownsRow_slice q4'
    gi_wp2
    refine ⟨by simp, .inl ⟨_, _, rfl, run_takeDeferred hK, ?_⟩⟩
    refine ⟨_, results_tmp rfl _ _ _, .slice ov (partsOf E size last L).length cvv, rfl, Go.World.ownsRow.mono (ownsRow_putObj q4' _ hK rfl) (by omega), Below.trans q7 (belowK_b (w := w) (Nat.le_refl _) W D _ _ (by omega) hK rfl rfl)⟩
  case body =>
    rintro l pre ⟨⟨xv, ch⟩, ⟨cs2, hPc⟩, hne, hcl, hfc⟩ W hI hlt
    obtain ⟨q1, q2, ⟨v', q3, q4⟩, q5, q6, q7, q8⟩ := hI
    simp only at hPc hne hcl hfc
    have hpm : ∀ x : Chunk w size, x.1.2 = ch → (pre ++ [x]).map (fun x => x.1.2) = pre.map (fun x => x.1.2) ++ [ch] := by intro x hx; simp [hx]
    have hpml : pre.length = (pre.map (fun x => x.1.2)).length := by simp
    obtain ⟨PL, hPL⟩ : ∃ PL : List (List Post), PL = pre.map (fun x => x.1.2) := ⟨_, rfl⟩
    rw [← hPL] at q1 q4 q5 q6 hpm hpml
    obtain ⟨la, hla⟩ : ∃ la, la = lastOf last PL.flatten := ⟨_, rfl⟩
    rw [← hla] at q1 q6
    obtain ⟨ax, cx, e1, _⟩ := hPc.outer.value
    subst e1
    obtain ⟨bc, off, e2, hbc, hcc⟩ := hPc.open (List.length_pos_iff.2 hne)
    subst e2
    obtain ⟨i, hi⟩ : ∃ i, i = ch.length - 1 := ⟨_, rfl⟩
    have hpos := List.length_pos_iff.2 hne
    have hiI : (ch.length : Int) - 1 = (i : Int) := by omega
    have hil : i < ch.length := by omega
    have hwi : IntKind.i64.wrap (i : Int) = (i : Int) := wrapN i (by omega)
    obtain ⟨cd, _⟩ := hcc i hil
    obtain ⟨d, hd⟩ : ∃ d, d = (ch[i]'hil).1 := ⟨_, rfl⟩
    have hlast2 : lastOf la ch = d := by rw [hd]; exact lastOf_eq la ch i hil (by omega)
    have hdr := (hfc _ (List.getElem_mem hil)).doc
    rw [← hd] at cd hdr
    have c1 : W.cell? ⟨w.heap.size, 0, none⟩ = some (.int .i64 la) := by unfold World.cell?; simp only [q1]; rfl
    have c2 : W.cell? ⟨b1, 0, none⟩ = some (.func (.func fv) #[] #[]) := by unfold World.cell?; simp only [q2]; rfl
    have c3 : W.cell? ⟨b2, 0, none⟩ = some v' := by unfold World.cell?; simp only [q3]; rfl
    have eg := hE.enters
    have hcall := hE.call W _ ch cs2 la (hPc.keeps q7) hne hfc hcl q6
    have helen := hE.len la ch hfc hcl
    obtain ⟨bb, hbb⟩ : ∃ bb, bb = E la ch := ⟨_, rfl⟩
    rw [← hbb] at hcall helen
    have HPM := hid hpm
    have HPML := hid hpml
    have HLA := hid hla
    have HL2 := hid hlast2
    have HBB := hid hbb
    clear hpm hpml hPL hla hd hlast2 hcc hi hbb
    gi_wp2_with fail
    refine ⟨trivial, ?_⟩
    refine (calls_round hcall).mono ?_
    rintro e W1 ⟨vb, rfl, ob, kb⟩
    have cd1 := kb.cell (q7.cell cd)
    have tb := ownsRow_sl ob
    have hob := fun b hb => ownsRow_base ob (b := b) hb
    obtain ⟨ab, cb, rfl⟩ := ownsRow_slice ob
    have q31 := Keeps.heap kb q3
    have q11 := Keeps.heap kb q1
    have o4 := ownsRow_mods q4 (keeps_mods (S := fun _ => False) kb) (fun b _ => id)
    have hov := fun b hb => ownsRow_base o4 (b := b) hb
    obtain ⟨ov, cvv, rfl⟩ := ownsRow_slice o4
    clear hcall
    gi_wp2_with fail
    have kd : Keeps W1 W1.drew := keeps_drewN W1 1
    have q12 := Keeps.heap kd q11
    have q32 := Keeps.heap kd q31
    have e5 : W1.drew.cell? ⟨w.heap.size, 0, none⟩ = some (.int .i64 la) := by unfold World.cell?; simp only [q12]; rfl
    have e9 : W1.drew.cell? ⟨b2, 0, none⟩ = some (.slice ov (encC E last PL).length cvv) := by unfold World.cell?; simp only [q32]; rfl
    obtain ⟨y, hy⟩ : ∃ y, IntKind.i64.wrap (d - la) = y := ⟨_, rfl⟩
    obtain ⟨z, hz⟩ : ∃ z, IntKind.i64.wrap (y - 1) = z := ⟨_, rfl⟩
    obtain ⟨g, hgg⟩ : ∃ g, g = u64Of (d - la - 1) := ⟨_, rfl⟩
    have hgz : u64Of z = g := by rw [hgg, ← hz, ← hy, IntKind.wrap_i64, IntKind.wrap_i64]; unfold u64Of; congr 1; omega
    have hgn : g ≤ 18446744073709551615 := by rw [hgg]; exact u64Of_lt _
    have HG := hid hgg
    have hn1 := num_64 W1.drew z
    rw [hgz] at hn1
    clear hgz hgg
    obtain ⟨i0, hi0, hz0, hz1, hz2⟩ := info_parts infoByte
    have hsz1 : b4 + 1 ≤ W1.heap.size := Nat.le_trans q8 kb.size
    have hlg := lebOf_len 9 g (by omega)
    have hlb := lebOf_len 9 bb.length (by omega)
    obtain ⟨hb, hhb⟩ : ∃ hb, hb = lebOf g ++ (lebOf bb.length ++ bb) := ⟨_, rfl⟩
    have hbl : hb.length ≤ M + 20 := by rw [hhb, List.length_append, List.length_append]; omega
    have HHB := hid hhb
    clear hhb
    have hpll : PL.length ≤ 4096 := by
      have h1 : PL.length + 1 ≤ N := by rw [← HPML.out]; exact hlt
      have h2 := Nat.mul_le_mul_right size h1
      rw [Nat.succ_mul] at h2
      have h3 : N * size < L.length + size := HDEF.out.1
      have h4 := Nat.le_mul_of_pos_right PL.length hs0
      omega
    have hpre : (encC E last PL).length ≤ 1000000020 * 4096 := Nat.le_trans q5 (Nat.mul_le_mul (by omega) hpll)
    have hHX : encC E last (PL ++ [ch]) = encC E last PL ++ hb := by rw [encC_snoc, ← HLA.out, ← HBB.out, HHB.out, HG.out]; unfold headOf; rw [HL2.out]
    have hHL : lastOf last (PL ++ [ch]).flatten = d := by rw [List.flatten_append, lastOf_append, ← HLA.out]; simpa using HL2.out
    have FINISH : ∀ (x : Chunk w size), x.1.2 = ch → ∀ (x5 : Option Addr) (y5 : Nat) (W7 : World), Mods (fun b => b = w.heap.size ∨ b = b2 ∨ (Value.slice ov (encC E last PL).length cvv).ownBlock = some b) W W7 → W7.ownsRow (b4 + 1) 5 1 (.slice x5 ((encC E last PL).length + hb.length) y5) ((encC E last PL).length + hb.length) (bys (encC E last PL) ++ bys hb) →
        W7.heap[w.heap.size]? = some (.cells #[.int .i64 d] 2 (0, 0)) → W7.heap[b2]? = some (.cells #[.slice x5 ((encC E last PL).length + hb.length) y5] 23 (0, 0)) →
        KeepsFrom W0.heap.size W W7 ∧ KpC w b3 b4 W W7 ∧ PartI w w.heap.size b1 b2 (b4 + 1) fv E M last ((pre ++ [x]).map (fun x => x.1.2)) W7 := by
      intro x hx x5 y5 W7 m p a b
      have hlow : ∀ k, k = w.heap.size ∨ k = b2 ∨ (Value.slice ov (encC E last PL).length cvv).ownBlock = some k → w.heap.size ≤ k ∧ k ≠ b1 ∧ k ≠ b3 ∧ k ≠ b4 := by
        rintro k (h | h | h)
        · omega
        · omega
        · have := (hov k h).1; omega
      refine ⟨⟨m.size, fun k o hB hk ho => ?_⟩, ⟨m.below q7.size (fun k hk hh => by have := (hlow k hh).1; omega), m.block b3 (by omega) (fun hh => (hlow _ hh).2.2.1 rfl), m.block b4 (by omega) (fun hh => (hlow _ hh).2.2.2 rfl)⟩, ?_⟩
      · refine (m.block k (Array.getElem?_eq_some_iff.1 hk).1 ?_).trans hk
        rintro (h | h | h)
        · omega
        · omega
        · rcases q4.2 with ⟨e, _⟩ | ⟨gg, cap, cur, e, _, hgb, _⟩
          · rw [e] at h; cases h
          · rw [e] at h
            simp only [Value.ownBlock, Option.map_some, Option.some.injEq] at h
            subst h
            rw [hgb] at hk; cases hk; cases ho
      · rw [HPM.out x hx]
        refine ⟨by rw [hHL]; exact a, (m.block b1 (by omega) (fun hh => (hlow _ hh).2.1 rfl)).trans q2, ⟨_, b, by rw [hHX, List.length_append, bys_append]; exact p⟩, ?_, by rw [hHL]; exact hdr, keeps_new q7 m (fun k hk => (hlow k hk).1), Nat.le_trans q8 m.size⟩
        rw [hHX, List.length_append, List.length_append]
        have : (M + 20) * (PL.length + [ch].length) = (M + 20) * PL.length + (M + 20) := by simp [Nat.mul_add]
        omega
    have FIN := hid FINISH
    clear FINISH hHX hHL
    refine region_round_any (by kernel_rfl) (by rfl) (fun _ _ h => h) ?_
    refine wpAny_take (i := 1) (v := .int .i64 d) rfl (by kernel_rfl) (by kernel_rfl) (by kernel_rfl) (fun _ _ _ h => h) (Or.inl ⟨by rfl, by (intro w; go_simp)⟩) ?_
    refine wpAny_take (i := 6) (v := .slice ab bb.length cb) rfl (by kernel_rfl) (by kernel_rfl) (by kernel_rfl) (fun _ _ _ h => h) (Or.inl ⟨by rfl, by (intro w; go_simp)⟩) ?_
    refine wpAny_take (i := 7) (v := .int .i64 (bb.length : Int)) rfl (by kernel_rfl) (by kernel_rfl) (by kernel_rfl) (fun _ _ _ h => h) (Or.inl ⟨by rfl, by (intro w; go_simp)⟩) ?_
    refine wpAny_take (i := 9) (v := .slice ab bb.length cb) rfl (by kernel_rfl) (by kernel_rfl) (by kernel_rfl) (fun _ _ _ h => h) (Or.inl ⟨by rfl, by (intro w; go_simp)⟩) ?_
    refine wpAny_ready (rs := [0, 2]) (by kernel_rfl) (by simp) ?_
    refine AllReady.cons rfl (fun K hK => ?_) (AllReady.cons rfl (fun K hK => ?_) AllReady.nil)
    · go_simp
      refine hK _ _ ?_
      clear hK K
      refine wpAny_ready (rs := [2]) (by kernel_rfl) (by simp) ?_
      refine AllReady.cons rfl (fun K hK => ?_) AllReady.nil
      go_simp
      refine hK _ _ ?_
      clear hK K
      refine wpAny_take (i := 3) (v := .int .i64 y) rfl (by kernel_rfl) (by kernel_rfl) (by kernel_rfl) (fun _ _ _ h => h) (Or.inl ⟨by rfl, by (intro w; go_simp)⟩) ?_
      refine wpAny_take (i := 4) (v := .int .i64 z) rfl (by kernel_rfl) (by kernel_rfl) (by kernel_rfl) (fun _ _ _ h => h) (Or.inl ⟨by rfl, by (intro w; go_simp)⟩) ?_
      refine wpAny_ready (rs := [5]) (by kernel_rfl) (by simp) ?_
      refine AllReady.cons rfl (fun K hK => ?_) AllReady.nil
      go_simp
      refine hn1.mono ?_
      rintro e W2 ⟨v2, rfl, p2, k2⟩
      have f2 := kd.trans k2
      have e92 := k2.cell e9
      have hn2 := num_int W2 bb.length (by omega)
      obtain ⟨x2, y2, rfl⟩ := ownsRow_slice p2
      try go_simp
      refine hK _ _ ?_
      clear hK K
      refine wpAny_ready (rs := [8]) (by kernel_rfl) (by simp) ?_
      refine AllReady.cons rfl (fun K hK => ?_) AllReady.nil
      go_simp
      refine hn2.mono ?_
      rintro e W3 ⟨v3, rfl, p3, k3⟩
      have f3 := f2.trans k3
      have e93 := k3.cell e92
      have t2 := (ownsRow_sl p2).keeps k3
      have t3 := ownsRow_sl p3
      have tb3 := tb.keeps f3
      obtain ⟨x3, y3, rfl⟩ := ownsRow_slice p3
      have kal : Keeps W3 (W3.alloc (.cells #[.slice x2 (lebOf g).length y2, .slice x3 (lebOf bb.length).length y3, .slice ab bb.length cb] 23)) := (Below.refl _ _).alloc (Nat.le_refl _) _
      have e9a := kal.cell e93
      have hcc := concat_three W3 _ _ _ _ _ _ t2 t3 tb3 23 (lebOf_pos g) (by omega)
      rw [← HHB.out] at hcc
      try go_simp
      refine hK _ _ ?_
      clear hK K
      refine wpAny_ready (rs := [10]) (by kernel_rfl) (by simp) ?_
      refine AllReady.cons rfl (fun K hK => ?_) AllReady.nil
      go_simp
      refine hK _ _ ?_
      clear hK K
      refine wpAny_ready (rs := [11]) (by kernel_rfl) (by simp) ?_
      refine AllReady.cons rfl (fun K hK => ?_) AllReady.nil
      go_simp
      refine hcc.mono ?_
      rintro e W4 ⟨v4, rfl, p4, k4⟩
      have f4 := f3.trans k4
      have e94 := k4.cell e93
      have t4 := ownsRow_sl p4
      have o6 := ownsRow_mods o4 (keeps_mods (S := fun _ => False) f4) (fun b _ => id)
      obtain ⟨x4, y4, rfl⟩ := ownsRow_slice p4
      try go_simp
      refine hK _ _ ?_
      clear hK K
      refine wpAny_ready (rs := [12]) (by kernel_rfl) (by simp) ?_
      refine AllReady.cons rfl (fun K hK => ?_) AllReady.nil
      have hb5 : b4 + 1 ≤ W4.heap.size := Nat.le_trans hsz1 f4.size
      refine step_append_sl rfl _ _ 23 rfl (b4 + 1) 5 i0 (.int .u8 0) 1 1 Try.underlying23 hi0 hz0 hz1 hz2 rfl (by decide) _ _ _ rfl o6 _ _ _ rfl t4 (bys_one _) (by unfold maxLen; omega) (by omega) hb5 ?_
      intro v5 W5 p5 hg5 _ _
      have m5 := Mods.of_grownBy (S := fun b => (Value.slice ov (encC E last PL).length cvv).ownBlock = some b) hg5 (fun k e => e)
      have q35 := (m5.block b2 (Nat.lt_of_lt_of_le (Array.getElem?_eq_some_iff.1 q31).1 f4.size) (fun e => by have := (hov _ e).1; omega)).trans (Keeps.heap f4 q31)
      have q15 := (m5.block w.heap.size (Nat.lt_of_lt_of_le (Array.getElem?_eq_some_iff.1 q11).1 f4.size) (fun e => by have := (hov _ e).1; omega)).trans (Keeps.heap f4 q11)
      have e95 : W5.cell? ⟨b2, 0, none⟩ = some (.slice ov (encC E last PL).length cvv) := by unfold World.cell?; simp only [q35]; rfl
      have g95 : W5.frozen? ⟨b2, 0, none⟩ = false := by unfold World.frozen?; simp only [q35]; simp
      have hv5 := fun b hb => ownsRow_base p5 (b := b) hb
      obtain ⟨x5, y5, rfl⟩ := ownsRow_slice p5
      try go_simp
      refine hK _ _ ?_
      clear hK K
      refine wpAny_ready (rs := [13]) (by kernel_rfl) (by simp) ?_
      refine AllReady.cons rfl (fun K hK => ?_) AllReady.nil
      go_simp
      refine hK _ _ ?_
      clear hK K
      refine wpAny_done (by kernel_rfl) ?_ _
      simp only [nOnly]
      have q16 := (heap_setCell_other W5 ⟨b2, 0, none⟩ w.heap.size (.slice x5 ((encC E last PL).length + hb.length) y5) (fun e => by simp only at e; omega)).trans q15
      have q36 := heap_setCell_same W5 b2 0 _ 23 (.slice x5 ((encC E last PL).length + hb.length) y5) q35
      have m6 : Mods (fun b => b = b2) W5 (W5.setCell ⟨b2, 0, none⟩ (.slice x5 ((encC E last PL).length + hb.length) y5)) := Mods.setCell _ _ _ _ (.inl rfl)
      generalize W5.setCell ⟨b2, 0, none⟩ (.slice x5 ((encC E last PL).length + hb.length) y5) = W6 at *
      have e16 : W6.cell? ⟨w.heap.size, 0, none⟩ = some (.int .i64 la) := by unfold World.cell?; simp only [q16]; rfl
      have g16 : W6.frozen? ⟨w.heap.size, 0, none⟩ = false := by unfold World.frozen?; simp only [q16]; simp
      have q37 := (heap_setCell_other W6 ⟨w.heap.size, 0, none⟩ b2 (.int .i64 d) (fun e => by simp only at e; omega)).trans q36
      have q17 := heap_setCell_same W6 w.heap.size 0 _ 2 (.int .i64 d) q16
      have m7 : Mods (fun b => b = w.heap.size) W6 (W6.setCell ⟨w.heap.size, 0, none⟩ (.int .i64 d)) := Mods.setCell _ _ _ _ (.inl rfl)
      have mall := (((keeps_mods (S := fun b => b = w.heap.size ∨ b = b2 ∨ (Value.slice ov (encC E last PL).length cvv).ownBlock = some b) (kb.trans f4)).trans (m5.mono (fun b _ h => .inr (.inr h)))).trans (m6.mono (fun b _ h => .inr (.inl h)))).trans (m7.mono (fun b _ h => .inl h))
      have p7 := ownsRow_mods (ownsRow_mods p5 m6 (fun b hb e => by have := (hv5 b hb).1; omega)) m7 (fun b hb e => by have := (hv5 b hb).1; omega)
      clear hn1 hn2 hcc e5 e9 e92 e93 e9a e94 e95 g95
      gi_wp2_with fail
      generalize W6.setCell ⟨w.heap.size, 0, none⟩ (.int .i64 d) = W7 at *
      exact FIN.out _ rfl _ _ W7 mall p7 q17 q37
    · go_simp
      refine hK _ _ ?_
      clear hK K
      refine wpAny_take (i := 3) (v := .int .i64 y) rfl (by kernel_rfl) (by kernel_rfl) (by kernel_rfl) (fun _ _ _ h => h) (Or.inl ⟨by rfl, by (intro w; go_simp)⟩) ?_
      refine wpAny_take (i := 4) (v := .int .i64 z) rfl (by kernel_rfl) (by kernel_rfl) (by kernel_rfl) (fun _ _ _ h => h) (Or.inl ⟨by rfl, by (intro w; go_simp)⟩) ?_
      refine wpAny_ready (rs := [0, 5]) (by kernel_rfl) (by simp) ?_
      refine AllReady.cons rfl (fun K hK => ?_) (AllReady.cons rfl (fun K hK => ?_) AllReady.nil)
      · go_simp
        refine hK _ _ ?_
        clear hK K
        refine wpAny_ready (rs := [5]) (by kernel_rfl) (by simp) ?_
        refine AllReady.cons rfl (fun K hK => ?_) AllReady.nil
        go_simp
        refine hn1.mono ?_
        rintro e W2 ⟨v2, rfl, p2, k2⟩
        have f2 := kd.trans k2
        have e92 := k2.cell e9
        have hn2 := num_int W2 bb.length (by omega)
        obtain ⟨x2, y2, rfl⟩ := ownsRow_slice p2
        try go_simp
        refine hK _ _ ?_
        clear hK K
        refine wpAny_ready (rs := [8]) (by kernel_rfl) (by simp) ?_
        refine AllReady.cons rfl (fun K hK => ?_) AllReady.nil
        go_simp
        refine hn2.mono ?_
        rintro e W3 ⟨v3, rfl, p3, k3⟩
        have f3 := f2.trans k3
        have e93 := k3.cell e92
        have t2 := (ownsRow_sl p2).keeps k3
        have t3 := ownsRow_sl p3
        have tb3 := tb.keeps f3
        obtain ⟨x3, y3, rfl⟩ := ownsRow_slice p3
        have kal : Keeps W3 (W3.alloc (.cells #[.slice x2 (lebOf g).length y2, .slice x3 (lebOf bb.length).length y3, .slice ab bb.length cb] 23)) := (Below.refl _ _).alloc (Nat.le_refl _) _
        have e9a := kal.cell e93
        have hcc := concat_three W3 _ _ _ _ _ _ t2 t3 tb3 23 (lebOf_pos g) (by omega)
        rw [← HHB.out] at hcc
        try go_simp
        refine hK _ _ ?_
        clear hK K
        refine wpAny_ready (rs := [10]) (by kernel_rfl) (by simp) ?_
        refine AllReady.cons rfl (fun K hK => ?_) AllReady.nil
        go_simp
        refine hK _ _ ?_
        clear hK K
        refine wpAny_ready (rs := [11]) (by kernel_rfl) (by simp) ?_
        refine AllReady.cons rfl (fun K hK => ?_) AllReady.nil
        go_simp
        refine hcc.mono ?_
        rintro e W4 ⟨v4, rfl, p4, k4⟩
        have f4 := f3.trans k4
        have e94 := k4.cell e93
        have t4 := ownsRow_sl p4
        have o6 := ownsRow_mods o4 (keeps_mods (S := fun _ => False) f4) (fun b _ => id)
        obtain ⟨x4, y4, rfl⟩ := ownsRow_slice p4
        try go_simp
        refine hK _ _ ?_
        clear hK K
        refine wpAny_ready (rs := [12]) (by kernel_rfl) (by simp) ?_
        refine AllReady.cons rfl (fun K hK => ?_) AllReady.nil
        have hb5 : b4 + 1 ≤ W4.heap.size := Nat.le_trans hsz1 f4.size
        refine step_append_sl rfl _ _ 23 rfl (b4 + 1) 5 i0 (.int .u8 0) 1 1 Try.underlying23 hi0 hz0 hz1 hz2 rfl (by decide) _ _ _ rfl o6 _ _ _ rfl t4 (bys_one _) (by unfold maxLen; omega) (by omega) hb5 ?_
        intro v5 W5 p5 hg5 _ _
        have m5 := Mods.of_grownBy (S := fun b => (Value.slice ov (encC E last PL).length cvv).ownBlock = some b) hg5 (fun k e => e)
        have q35 := (m5.block b2 (Nat.lt_of_lt_of_le (Array.getElem?_eq_some_iff.1 q31).1 f4.size) (fun e => by have := (hov _ e).1; omega)).trans (Keeps.heap f4 q31)
        have q15 := (m5.block w.heap.size (Nat.lt_of_lt_of_le (Array.getElem?_eq_some_iff.1 q11).1 f4.size) (fun e => by have := (hov _ e).1; omega)).trans (Keeps.heap f4 q11)
        have e95 : W5.cell? ⟨b2, 0, none⟩ = some (.slice ov (encC E last PL).length cvv) := by unfold World.cell?; simp only [q35]; rfl
        have g95 : W5.frozen? ⟨b2, 0, none⟩ = false := by unfold World.frozen?; simp only [q35]; simp
        have hv5 := fun b hb => ownsRow_base p5 (b := b) hb
        obtain ⟨x5, y5, rfl⟩ := ownsRow_slice p5
        try go_simp
        refine hK _ _ ?_
        clear hK K
        refine wpAny_ready (rs := [13]) (by kernel_rfl) (by simp) ?_
        refine AllReady.cons rfl (fun K hK => ?_) AllReady.nil
        go_simp
        refine hK _ _ ?_
        clear hK K
        refine wpAny_done (by kernel_rfl) ?_ _
        simp only [nOnly]
        have q16 := (heap_setCell_other W5 ⟨b2, 0, none⟩ w.heap.size (.slice x5 ((encC E last PL).length + hb.length) y5) (fun e => by simp only at e; omega)).trans q15
        have q36 := heap_setCell_same W5 b2 0 _ 23 (.slice x5 ((encC E last PL).length + hb.length) y5) q35
        have m6 : Mods (fun b => b = b2) W5 (W5.setCell ⟨b2, 0, none⟩ (.slice x5 ((encC E last PL).length + hb.length) y5)) := Mods.setCell _ _ _ _ (.inl rfl)
        generalize W5.setCell ⟨b2, 0, none⟩ (.slice x5 ((encC E last PL).length + hb.length) y5) = W6 at *
        have e16 : W6.cell? ⟨w.heap.size, 0, none⟩ = some (.int .i64 la) := by unfold World.cell?; simp only [q16]; rfl
        have g16 : W6.frozen? ⟨w.heap.size, 0, none⟩ = false := by unfold World.frozen?; simp only [q16]; simp
        have q37 := (heap_setCell_other W6 ⟨w.heap.size, 0, none⟩ b2 (.int .i64 d) (fun e => by simp only at e; omega)).trans q36
        have q17 := heap_setCell_same W6 w.heap.size 0 _ 2 (.int .i64 d) q16
        have m7 : Mods (fun b => b = w.heap.size) W6 (W6.setCell ⟨w.heap.size, 0, none⟩ (.int .i64 d)) := Mods.setCell _ _ _ _ (.inl rfl)
        have mall := (((keeps_mods (S := fun b => b = w.heap.size ∨ b = b2 ∨ (Value.slice ov (encC E last PL).length cvv).ownBlock = some b) (kb.trans f4)).trans (m5.mono (fun b _ h => .inr (.inr h)))).trans (m6.mono (fun b _ h => .inr (.inl h)))).trans (m7.mono (fun b _ h => .inl h))
        have p7 := ownsRow_mods (ownsRow_mods p5 m6 (fun b hb e => by have := (hv5 b hb).1; omega)) m7 (fun b hb e => by have := (hv5 b hb).1; omega)
        clear hn1 hn2 hcc e5 e9 e92 e93 e9a e94 e95 g95
        gi_wp2_with fail
        generalize W6.setCell ⟨w.heap.size, 0, none⟩ (.int .i64 d) = W7 at *
        exact FIN.out _ rfl _ _ W7 mall p7 q17 q37
      · go_simp
        refine hn1.mono ?_
        rintro e W2 ⟨v2, rfl, p2, k2⟩
        have f2 := kd.trans k2
        have e92 := k2.cell e9
        have hn2 := num_int W2 bb.length (by omega)
        obtain ⟨x2, y2, rfl⟩ := ownsRow_slice p2
        try go_simp
        refine hK _ _ ?_
        clear hK K
        refine wpAny_ready (rs := [0, 8]) (by kernel_rfl) (by simp) ?_
        refine AllReady.cons rfl (fun K hK => ?_) (AllReady.cons rfl (fun K hK => ?_) AllReady.nil)
        · go_simp
          refine hK _ _ ?_
          clear hK K
          refine wpAny_ready (rs := [8]) (by kernel_rfl) (by simp) ?_
          refine AllReady.cons rfl (fun K hK => ?_) AllReady.nil
          go_simp
          refine hn2.mono ?_
          rintro e W3 ⟨v3, rfl, p3, k3⟩
          have f3 := f2.trans k3
          have e93 := k3.cell e92
          have t2 := (ownsRow_sl p2).keeps k3
          have t3 := ownsRow_sl p3
          have tb3 := tb.keeps f3
          obtain ⟨x3, y3, rfl⟩ := ownsRow_slice p3
          have kal : Keeps W3 (W3.alloc (.cells #[.slice x2 (lebOf g).length y2, .slice x3 (lebOf bb.length).length y3, .slice ab bb.length cb] 23)) := (Below.refl _ _).alloc (Nat.le_refl _) _
          have e9a := kal.cell e93
          have hcc := concat_three W3 _ _ _ _ _ _ t2 t3 tb3 23 (lebOf_pos g) (by omega)
          rw [← HHB.out] at hcc
          try go_simp
          refine hK _ _ ?_
          clear hK K
          refine wpAny_ready (rs := [10]) (by kernel_rfl) (by simp) ?_
          refine AllReady.cons rfl (fun K hK => ?_) AllReady.nil
          go_simp
          refine hK _ _ ?_
          clear hK K
          refine wpAny_ready (rs := [11]) (by kernel_rfl) (by simp) ?_
          refine AllReady.cons rfl (fun K hK => ?_) AllReady.nil
          go_simp
          refine hcc.mono ?_
          rintro e W4 ⟨v4, rfl, p4, k4⟩
          have f4 := f3.trans k4
          have e94 := k4.cell e93
          have t4 := ownsRow_sl p4
          have o6 := ownsRow_mods o4 (keeps_mods (S := fun _ => False) f4) (fun b _ => id)
          obtain ⟨x4, y4, rfl⟩ := ownsRow_slice p4
          try go_simp
          refine hK _ _ ?_
          clear hK K
          refine wpAny_ready (rs := [12]) (by kernel_rfl) (by simp) ?_
          refine AllReady.cons rfl (fun K hK => ?_) AllReady.nil
          have hb5 : b4 + 1 ≤ W4.heap.size := Nat.le_trans hsz1 f4.size
          refine step_append_sl rfl _ _ 23 rfl (b4 + 1) 5 i0 (.int .u8 0) 1 1 Try.underlying23 hi0 hz0 hz1 hz2 rfl (by decide) _ _ _ rfl o6 _ _ _ rfl t4 (bys_one _) (by unfold maxLen; omega) (by omega) hb5 ?_
          intro v5 W5 p5 hg5 _ _
          have m5 := Mods.of_grownBy (S := fun b => (Value.slice ov (encC E last PL).length cvv).ownBlock = some b) hg5 (fun k e => e)
          have q35 := (m5.block b2 (Nat.lt_of_lt_of_le (Array.getElem?_eq_some_iff.1 q31).1 f4.size) (fun e => by have := (hov _ e).1; omega)).trans (Keeps.heap f4 q31)
          have q15 := (m5.block w.heap.size (Nat.lt_of_lt_of_le (Array.getElem?_eq_some_iff.1 q11).1 f4.size) (fun e => by have := (hov _ e).1; omega)).trans (Keeps.heap f4 q11)
          have e95 : W5.cell? ⟨b2, 0, none⟩ = some (.slice ov (encC E last PL).length cvv) := by unfold World.cell?; simp only [q35]; rfl
          have g95 : W5.frozen? ⟨b2, 0, none⟩ = false := by unfold World.frozen?; simp only [q35]; simp
          have hv5 := fun b hb => ownsRow_base p5 (b := b) hb
          obtain ⟨x5, y5, rfl⟩ := ownsRow_slice p5
          try go_simp
          refine hK _ _ ?_
          clear hK K
          refine wpAny_ready (rs := [13]) (by kernel_rfl) (by simp) ?_
          refine AllReady.cons rfl (fun K hK => ?_) AllReady.nil
          go_simp
          refine hK _ _ ?_
          clear hK K
          refine wpAny_done (by kernel_rfl) ?_ _
          simp only [nOnly]
          have q16 := (heap_setCell_other W5 ⟨b2, 0, none⟩ w.heap.size (.slice x5 ((encC E last PL).length + hb.length) y5) (fun e => by simp only at e; omega)).trans q15
          have q36 := heap_setCell_same W5 b2 0 _ 23 (.slice x5 ((encC E last PL).length + hb.length) y5) q35
          have m6 : Mods (fun b => b = b2) W5 (W5.setCell ⟨b2, 0, none⟩ (.slice x5 ((encC E last PL).length + hb.length) y5)) := Mods.setCell _ _ _ _ (.inl rfl)
          generalize W5.setCell ⟨b2, 0, none⟩ (.slice x5 ((encC E last PL).length + hb.length) y5) = W6 at *
          have e16 : W6.cell? ⟨w.heap.size, 0, none⟩ = some (.int .i64 la) := by unfold World.cell?; simp only [q16]; rfl
          have g16 : W6.frozen? ⟨w.heap.size, 0, none⟩ = false := by unfold World.frozen?; simp only [q16]; simp
          have q37 := (heap_setCell_other W6 ⟨w.heap.size, 0, none⟩ b2 (.int .i64 d) (fun e => by simp only at e; omega)).trans q36
          have q17 := heap_setCell_same W6 w.heap.size 0 _ 2 (.int .i64 d) q16
          have m7 : Mods (fun b => b = w.heap.size) W6 (W6.setCell ⟨w.heap.size, 0, none⟩ (.int .i64 d)) := Mods.setCell _ _ _ _ (.inl rfl)
          have mall := (((keeps_mods (S := fun b => b = w.heap.size ∨ b = b2 ∨ (Value.slice ov (encC E last PL).length cvv).ownBlock = some b) (kb.trans f4)).trans (m5.mono (fun b _ h => .inr (.inr h)))).trans (m6.mono (fun b _ h => .inr (.inl h)))).trans (m7.mono (fun b _ h => .inl h))
          have p7 := ownsRow_mods (ownsRow_mods p5 m6 (fun b hb e => by have := (hv5 b hb).1; omega)) m7 (fun b hb e => by have := (hv5 b hb).1; omega)
          clear hn1 hn2 hcc e5 e9 e92 e93 e9a e94 e95 g95
          gi_wp2_with fail
          generalize W6.setCell ⟨w.heap.size, 0, none⟩ (.int .i64 d) = W7 at *
          exact FIN.out _ rfl _ _ W7 mall p7 q17 q37
        · go_simp
          refine hn2.mono ?_
          rintro e W3 ⟨v3, rfl, p3, k3⟩
          have f3 := f2.trans k3
          have e93 := k3.cell e92
          have t2 := (ownsRow_sl p2).keeps k3
          have t3 := ownsRow_sl p3
          have tb3 := tb.keeps f3
          obtain ⟨x3, y3, rfl⟩ := ownsRow_slice p3
          have kal : Keeps W3 (W3.alloc (.cells #[.slice x2 (lebOf g).length y2, .slice x3 (lebOf bb.length).length y3, .slice ab bb.length cb] 23)) := (Below.refl _ _).alloc (Nat.le_refl _) _
          have e9a := kal.cell e93
          have hcc := concat_three W3 _ _ _ _ _ _ t2 t3 tb3 23 (lebOf_pos g) (by omega)
          rw [← HHB.out] at hcc
          try go_simp
          refine hK _ _ ?_
          clear hK K
          refine wpAny_ready (rs := [0, 10]) (by kernel_rfl) (by simp) ?_
          refine AllReady.cons rfl (fun K hK => ?_) (AllReady.cons rfl (fun K hK => ?_) AllReady.nil)
          · go_simp
            refine hK _ _ ?_
            clear hK K
            refine wpAny_ready (rs := [10]) (by kernel_rfl) (by simp) ?_
            refine AllReady.cons rfl (fun K hK => ?_) AllReady.nil
            go_simp
            refine hK _ _ ?_
            clear hK K
            refine wpAny_ready (rs := [11]) (by kernel_rfl) (by simp) ?_
            refine AllReady.cons rfl (fun K hK => ?_) AllReady.nil
            go_simp
            refine hcc.mono ?_
            rintro e W4 ⟨v4, rfl, p4, k4⟩
            have f4 := f3.trans k4
            have e94 := k4.cell e93
            have t4 := ownsRow_sl p4
            have o6 := ownsRow_mods o4 (keeps_mods (S := fun _ => False) f4) (fun b _ => id)
            obtain ⟨x4, y4, rfl⟩ := ownsRow_slice p4
            try go_simp
            refine hK _ _ ?_
            clear hK K
            refine wpAny_ready (rs := [12]) (by kernel_rfl) (by simp) ?_
            refine AllReady.cons rfl (fun K hK => ?_) AllReady.nil
            have hb5 : b4 + 1 ≤ W4.heap.size := Nat.le_trans hsz1 f4.size
            refine step_append_sl rfl _ _ 23 rfl (b4 + 1) 5 i0 (.int .u8 0) 1 1 Try.underlying23 hi0 hz0 hz1 hz2 rfl (by decide) _ _ _ rfl o6 _ _ _ rfl t4 (bys_one _) (by unfold maxLen; omega) (by omega) hb5 ?_
            intro v5 W5 p5 hg5 _ _
            have m5 := Mods.of_grownBy (S := fun b => (Value.slice ov (encC E last PL).length cvv).ownBlock = some b) hg5 (fun k e => e)
            have q35 := (m5.block b2 (Nat.lt_of_lt_of_le (Array.getElem?_eq_some_iff.1 q31).1 f4.size) (fun e => by have := (hov _ e).1; omega)).trans (Keeps.heap f4 q31)
            have q15 := (m5.block w.heap.size (Nat.lt_of_lt_of_le (Array.getElem?_eq_some_iff.1 q11).1 f4.size) (fun e => by have := (hov _ e).1; omega)).trans (Keeps.heap f4 q11)
            have e95 : W5.cell? ⟨b2, 0, none⟩ = some (.slice ov (encC E last PL).length cvv) := by unfold World.cell?; simp only [q35]; rfl
            have g95 : W5.frozen? ⟨b2, 0, none⟩ = false := by unfold World.frozen?; simp only [q35]; simp
            have hv5 := fun b hb => ownsRow_base p5 (b := b) hb
            obtain ⟨x5, y5, rfl⟩ := ownsRow_slice p5
            try go_simp
            refine hK _ _ ?_
            clear hK K
            refine wpAny_ready (rs := [13]) (by kernel_rfl) (by simp) ?_
            refine AllReady.cons rfl (fun K hK => ?_) AllReady.nil
            go_simp
            refine hK _ _ ?_
            clear hK K
            refine wpAny_done (by kernel_rfl) ?_ _
            simp only [nOnly]
            have q16 := (heap_setCell_other W5 ⟨b2, 0, none⟩ w.heap.size (.slice x5 ((encC E last PL).length + hb.length) y5) (fun e => by simp only at e; omega)).trans q15
            have q36 := heap_setCell_same W5 b2 0 _ 23 (.slice x5 ((encC E last PL).length + hb.length) y5) q35
            have m6 : Mods (fun b => b = b2) W5 (W5.setCell ⟨b2, 0, none⟩ (.slice x5 ((encC E last PL).length + hb.length) y5)) := Mods.setCell _ _ _ _ (.inl rfl)
            generalize W5.setCell ⟨b2, 0, none⟩ (.slice x5 ((encC E last PL).length + hb.length) y5) = W6 at *
            have e16 : W6.cell? ⟨w.heap.size, 0, none⟩ = some (.int .i64 la) := by unfold World.cell?; simp only [q16]; rfl
            have g16 : W6.frozen? ⟨w.heap.size, 0, none⟩ = false := by unfold World.frozen?; simp only [q16]; simp
            have q37 := (heap_setCell_other W6 ⟨w.heap.size, 0, none⟩ b2 (.int .i64 d) (fun e => by simp only at e; omega)).trans q36
            have q17 := heap_setCell_same W6 w.heap.size 0 _ 2 (.int .i64 d) q16
            have m7 : Mods (fun b => b = w.heap.size) W6 (W6.setCell ⟨w.heap.size, 0, none⟩ (.int .i64 d)) := Mods.setCell _ _ _ _ (.inl rfl)
            have mall := (((keeps_mods (S := fun b => b = w.heap.size ∨ b = b2 ∨ (Value.slice ov (encC E last PL).length cvv).ownBlock = some b) (kb.trans f4)).trans (m5.mono (fun b _ h => .inr (.inr h)))).trans (m6.mono (fun b _ h => .inr (.inl h)))).trans (m7.mono (fun b _ h => .inl h))
            have p7 := ownsRow_mods (ownsRow_mods p5 m6 (fun b hb e => by have := (hv5 b hb).1; omega)) m7 (fun b hb e => by have := (hv5 b hb).1; omega)
            clear hn1 hn2 hcc e5 e9 e92 e93 e9a e94 e95 g95
            gi_wp2_with fail
            generalize W6.setCell ⟨w.heap.size, 0, none⟩ (.int .i64 d) = W7 at *
            exact FIN.out _ rfl _ _ W7 mall p7 q17 q37
          · go_simp
            refine hK _ _ ?_
            clear hK K
            refine wpAny_ready (rs := [0, 11]) (by kernel_rfl) (by simp) ?_
            refine AllReady.cons rfl (fun K hK => ?_) (AllReady.cons rfl (fun K hK => ?_) AllReady.nil)
            · go_simp
              refine hK _ _ ?_
              clear hK K
              refine wpAny_ready (rs := [11]) (by kernel_rfl) (by simp) ?_
              refine AllReady.cons rfl (fun K hK => ?_) AllReady.nil
              go_simp
              refine hcc.mono ?_
              rintro e W4 ⟨v4, rfl, p4, k4⟩
              have f4 := f3.trans k4
              have e94 := k4.cell e93
              have t4 := ownsRow_sl p4
              have o6 := ownsRow_mods o4 (keeps_mods (S := fun _ => False) f4) (fun b _ => id)
              obtain ⟨x4, y4, rfl⟩ := ownsRow_slice p4
              try go_simp
              refine hK _ _ ?_
              clear hK K
              refine wpAny_ready (rs := [12]) (by kernel_rfl) (by simp) ?_
              refine AllReady.cons rfl (fun K hK => ?_) AllReady.nil
              have hb5 : b4 + 1 ≤ W4.heap.size := Nat.le_trans hsz1 f4.size
              refine step_append_sl rfl _ _ 23 rfl (b4 + 1) 5 i0 (.int .u8 0) 1 1 Try.underlying23 hi0 hz0 hz1 hz2 rfl (by decide) _ _ _ rfl o6 _ _ _ rfl t4 (bys_one _) (by unfold maxLen; omega) (by omega) hb5 ?_
              intro v5 W5 p5 hg5 _ _
              have m5 := Mods.of_grownBy (S := fun b => (Value.slice ov (encC E last PL).length cvv).ownBlock = some b) hg5 (fun k e => e)
              have q35 := (m5.block b2 (Nat.lt_of_lt_of_le (Array.getElem?_eq_some_iff.1 q31).1 f4.size) (fun e => by have := (hov _ e).1; omega)).trans (Keeps.heap f4 q31)
              have q15 := (m5.block w.heap.size (Nat.lt_of_lt_of_le (Array.getElem?_eq_some_iff.1 q11).1 f4.size) (fun e => by have := (hov _ e).1; omega)).trans (Keeps.heap f4 q11)
              have e95 : W5.cell? ⟨b2, 0, none⟩ = some (.slice ov (encC E last PL).length cvv) := by unfold World.cell?; simp only [q35]; rfl
              have g95 : W5.frozen? ⟨b2, 0, none⟩ = false := by unfold World.frozen?; simp only [q35]; simp
              have hv5 := fun b hb => ownsRow_base p5 (b := b) hb
              obtain ⟨x5, y5, rfl⟩ := ownsRow_slice p5
              try go_simp
              refine hK _ _ ?_
              clear hK K
              refine wpAny_ready (rs := [13]) (by kernel_rfl) (by simp) ?_
              refine AllReady.cons rfl (fun K hK => ?_) AllReady.nil
              go_simp
              refine hK _ _ ?_
              clear hK K
              refine wpAny_done (by kernel_rfl) ?_ _
              simp only [nOnly]
              have q16 := (heap_setCell_other W5 ⟨b2, 0, none⟩ w.heap.size (.slice x5 ((encC E last PL).length + hb.length) y5) (fun e => by simp only at e; omega)).trans q15
              have q36 := heap_setCell_same W5 b2 0 _ 23 (.slice x5 ((encC E last PL).length + hb.length) y5) q35
              have m6 : Mods (fun b => b = b2) W5 (W5.setCell ⟨b2, 0, none⟩ (.slice x5 ((encC E last PL).length + hb.length) y5)) := Mods.setCell _ _ _ _ (.inl rfl)
              generalize W5.setCell ⟨b2, 0, none⟩ (.slice x5 ((encC E last PL).length + hb.length) y5) = W6 at *
              have e16 : W6.cell? ⟨w.heap.size, 0, none⟩ = some (.int .i64 la) := by unfold World.cell?; simp only [q16]; rfl
              have g16 : W6.frozen? ⟨w.heap.size, 0, none⟩ = false := by unfold World.frozen?; simp only [q16]; simp
              have q37 := (heap_setCell_other W6 ⟨w.heap.size, 0, none⟩ b2 (.int .i64 d) (fun e => by simp only at e; omega)).trans q36
              have q17 := heap_setCell_same W6 w.heap.size 0 _ 2 (.int .i64 d) q16
              have m7 : Mods (fun b => b = w.heap.size) W6 (W6.setCell ⟨w.heap.size, 0, none⟩ (.int .i64 d)) := Mods.setCell _ _ _ _ (.inl rfl)
              have mall := (((keeps_mods (S := fun b => b = w.heap.size ∨ b = b2 ∨ (Value.slice ov (encC E last PL).length cvv).ownBlock = some b) (kb.trans f4)).trans (m5.mono (fun b _ h => .inr (.inr h)))).trans (m6.mono (fun b _ h => .inr (.inl h)))).trans (m7.mono (fun b _ h => .inl h))
              have p7 := ownsRow_mods (ownsRow_mods p5 m6 (fun b hb e => by have := (hv5 b hb).1; omega)) m7 (fun b hb e => by have := (hv5 b hb).1; omega)
              clear hn1 hn2 hcc e5 e9 e92 e93 e9a e94 e95 g95
              gi_wp2_with fail
              generalize W6.setCell ⟨w.heap.size, 0, none⟩ (.int .i64 d) = W7 at *
              exact FIN.out _ rfl _ _ W7 mall p7 q17 q37
            · go_simp
              refine hcc.mono ?_
              rintro e W4 ⟨v4, rfl, p4, k4⟩
              have f4 := f3.trans k4
              have e94 := k4.cell e93
              have t4 := ownsRow_sl p4
              have o6 := ownsRow_mods o4 (keeps_mods (S := fun _ => False) f4) (fun b _ => id)
              obtain ⟨x4, y4, rfl⟩ := ownsRow_slice p4
              try go_simp
              refine hK _ _ ?_
              clear hK K
              refine wpAny_ready (rs := [0]) (by kernel_rfl) (by simp) ?_
              refine AllReady.cons rfl (fun K hK => ?_) AllReady.nil
              go_simp
              refine hK _ _ ?_
              clear hK K
              refine wpAny_ready (rs := [12]) (by kernel_rfl) (by simp) ?_
              refine AllReady.cons rfl (fun K hK => ?_) AllReady.nil
              have hb5 : b4 + 1 ≤ W4.heap.size := Nat.le_trans hsz1 f4.size
              refine step_append_sl rfl _ _ 23 rfl (b4 + 1) 5 i0 (.int .u8 0) 1 1 Try.underlying23 hi0 hz0 hz1 hz2 rfl (by decide) _ _ _ rfl o6 _ _ _ rfl t4 (bys_one _) (by unfold maxLen; omega) (by omega) hb5 ?_
              intro v5 W5 p5 hg5 _ _
              have m5 := Mods.of_grownBy (S := fun b => (Value.slice ov (encC E last PL).length cvv).ownBlock = some b) hg5 (fun k e => e)
              have q35 := (m5.block b2 (Nat.lt_of_lt_of_le (Array.getElem?_eq_some_iff.1 q31).1 f4.size) (fun e => by have := (hov _ e).1; omega)).trans (Keeps.heap f4 q31)
              have q15 := (m5.block w.heap.size (Nat.lt_of_lt_of_le (Array.getElem?_eq_some_iff.1 q11).1 f4.size) (fun e => by have := (hov _ e).1; omega)).trans (Keeps.heap f4 q11)
              have e95 : W5.cell? ⟨b2, 0, none⟩ = some (.slice ov (encC E last PL).length cvv) := by unfold World.cell?; simp only [q35]; rfl
              have g95 : W5.frozen? ⟨b2, 0, none⟩ = false := by unfold World.frozen?; simp only [q35]; simp
              have hv5 := fun b hb => ownsRow_base p5 (b := b) hb
              obtain ⟨x5, y5, rfl⟩ := ownsRow_slice p5
              try go_simp
              refine hK _ _ ?_
              clear hK K
              refine wpAny_ready (rs := [13]) (by kernel_rfl) (by simp) ?_
              refine AllReady.cons rfl (fun K hK => ?_) AllReady.nil
              go_simp
              refine hK _ _ ?_
              clear hK K
              refine wpAny_done (by kernel_rfl) ?_ _
              simp only [nOnly]
              have q16 := (heap_setCell_other W5 ⟨b2, 0, none⟩ w.heap.size (.slice x5 ((encC E last PL).length + hb.length) y5) (fun e => by simp only at e; omega)).trans q15
              have q36 := heap_setCell_same W5 b2 0 _ 23 (.slice x5 ((encC E last PL).length + hb.length) y5) q35
              have m6 : Mods (fun b => b = b2) W5 (W5.setCell ⟨b2, 0, none⟩ (.slice x5 ((encC E last PL).length + hb.length) y5)) := Mods.setCell _ _ _ _ (.inl rfl)
              generalize W5.setCell ⟨b2, 0, none⟩ (.slice x5 ((encC E last PL).length + hb.length) y5) = W6 at *
              have e16 : W6.cell? ⟨w.heap.size, 0, none⟩ = some (.int .i64 la) := by unfold World.cell?; simp only [q16]; rfl
              have g16 : W6.frozen? ⟨w.heap.size, 0, none⟩ = false := by unfold World.frozen?; simp only [q16]; simp
              have q37 := (heap_setCell_other W6 ⟨w.heap.size, 0, none⟩ b2 (.int .i64 d) (fun e => by simp only at e; omega)).trans q36
              have q17 := heap_setCell_same W6 w.heap.size 0 _ 2 (.int .i64 d) q16
              have m7 : Mods (fun b => b = w.heap.size) W6 (W6.setCell ⟨w.heap.size, 0, none⟩ (.int .i64 d)) := Mods.setCell _ _ _ _ (.inl rfl)
              have mall := (((keeps_mods (S := fun b => b = w.heap.size ∨ b = b2 ∨ (Value.slice ov (encC E last PL).length cvv).ownBlock = some b) (kb.trans f4)).trans (m5.mono (fun b _ h => .inr (.inr h)))).trans (m6.mono (fun b _ h => .inr (.inl h)))).trans (m7.mono (fun b _ h => .inl h))
              have p7 := ownsRow_mods (ownsRow_mods p5 m6 (fun b hb e => by have := (hv5 b hb).1; omega)) m7 (fun b hb e => by have := (hv5 b hb).1; omega)
              clear hn1 hn2 hcc e5 e9 e92 e93 e9a e94 e95 g95
              gi_wp2_with fail
              generalize W6.setCell ⟨w.heap.size, 0, none⟩ (.int .i64 d) = W7 at *
              exact FIN.out _ rfl _ _ W7 mall p7 q17 q37
end Go.Proofs.Ytlmlanaobhfmbaa
