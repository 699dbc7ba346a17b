/- Which texts a node has: plain words; trie.New. -/
import Derived.Test.YtgofjdkpnmoedaaTrieH
set_option linter.unusedSimpArgs false
set_option linter.unusedVariables false
namespace Go.Proofs.Ytgofjdkpnmoedaa
open Go.RowKit Go.Vb

/-- is q met by a text, in the trie k? -/
def hit (k : Nat) (t q : List UInt8) : Bool :=
  if k = 0 then q.isPrefixOf t else if k = 1 then q.isPrefixOf t.reverse else (List.range (t.length + 1)).any fun j => q.isPrefixOf (t.drop j)
/-- the places among the first n texts. -/
def idsTo (k : Nat) (L : List (List UInt8)) (q : List UInt8) : Nat → List Int
  | 0 => []
  | n + 1 => idsTo k L q n ++ if hit k (L.getD n []) q then [(n : Int)] else []
theorem idsTo_lt (k : Nat) (L : List (List UInt8)) (q : List UInt8) (n : Nat) : ∀ x ∈ idsTo k L q n, x < (n : Int) := by
  induction n with
  | zero => simp [idsTo]
  | succ n ih =>
    intro x hx
    simp only [idsTo, List.mem_append] at hx
    rcases hx with h | h
    · have := ih x h; omega
    · split at h
      · simp at h; omega
      · simp at h
theorem addTo_new (k : Nat) (L : List (List UInt8)) (q : List UInt8) (n : Nat) : addTo (idsTo k L q n) n = idsTo k L q n ++ [(n : Int)] := by
  unfold addTo
  rw [if_neg]
  intro h
  have := idsTo_lt k L q n _ (List.mem_of_getLast? h)
  omega
theorem addTo_again (xs : List Int) (i : Int) : addTo (xs ++ [i]) i = xs ++ [i] := by simp [addTo]
theorem idsTo_length (k : Nat) (L : List (List UInt8)) (q : List UInt8) (n : Nat) : (idsTo k L q n).length ≤ n := by
  induction n with
  | zero => simp [idsTo]
  | succ n ih => simp only [idsTo, List.length_append]; split <;> simp <;> omega
theorem isPrefix_iff (q t : List UInt8) : q.isPrefixOf t = true ↔ q <+: t := List.isPrefixOf_iff_prefix

/-- behind j of the ends of the n-th text. -/
def midsTo (L : List (List UInt8)) (q : List UInt8) (n j : Nat) : List Int :=
  idsTo 2 L q n ++ if (List.range j).any fun i => q.isPrefixOf ((L.getD n []).drop i) then [(n : Int)] else []
theorem midsTo_zero (L : List (List UInt8)) (q : List UInt8) (n : Nat) : midsTo L q n 0 = idsTo 2 L q n := by simp [midsTo]
theorem midsTo_end (L : List (List UInt8)) (q : List UInt8) (n : Nat) : midsTo L q n ((L.getD n []).length + 1) = idsTo 2 L q (n + 1) := by simp only [midsTo, idsTo, hit]; simp
theorem midsTo_step (L : List (List UInt8)) (q : List UInt8) (n j : Nat) : (if q <+: (L.getD n []).drop j then addTo (midsTo L q n j) n else midsTo L q n j) = midsTo L q n (j + 1) := by
  have h1 := isPrefix_iff q ((L.getD n []).drop j)
  unfold midsTo
  rw [List.range_succ, List.any_append]
  simp only [List.any_cons, List.any_nil, Bool.or_false]
  cases hA : (List.range j).any fun i => q.isPrefixOf ((L.getD n []).drop i) with
  | true =>
    simp only [if_true, Bool.true_or]
    split
    · exact addTo_again _ _
    · rfl
  | false =>
    simp only [Bool.false_eq_true, if_false, Bool.false_or, List.append_nil]
    by_cases h : q <+: (L.getD n []).drop j
    · rw [if_pos h, if_pos (h1.2 h)]; exact addTo_new 2 L q n
    · rw [if_neg h, if_neg (fun e => h (h1.1 e))]; simp
theorem idsTo_step (k : Nat) (hk : k < 2) (L : List (List UInt8)) (q : List UInt8) (n : Nat) : (if q <+: (if k = 0 then L.getD n [] else (L.getD n []).reverse) then addTo (idsTo k L q n) n else idsTo k L q n) = idsTo k L q (n + 1) := by
  have h1 : hit k (L.getD n []) q = true ↔ q <+: (if k = 0 then L.getD n [] else (L.getD n []).reverse) := by
    unfold hit
    by_cases h0 : k = 0
    · simp only [h0, if_true]; exact isPrefix_iff _ _
    · rw [if_neg h0, if_neg h0, if_pos (by omega)]; exact isPrefix_iff _ _
  rw [idsTo]
  by_cases h : q <+: (if k = 0 then L.getD n [] else (L.getD n []).reverse)
  · rw [if_pos h, if_pos (h1.2 h)]; exact addTo_new k L q n
  · rw [if_neg h, if_neg (fun e => h (h1.1 e))]; simp

/-- The roots of a trie whose block is T. -/
def Roots (T : Nat) (N : Nodes) : Prop := ∀ k, k < 3 → ∃ n, N k [] = some n ∧ n.at_ = ⟨T, 2 * k, none⟩
theorem Roots.put {T : Nat} {N N' : Nodes} {k : Nat} {p : List UInt8} {i : Int} (h : Roots T N) (g : PutTo N N' k p i) : Roots T N' := by
  intro k' hk'
  obtain ⟨n, h1, h2⟩ := h k' hk'
  obtain ⟨n', h3, h4⟩ := g.root k' n h1
  exact ⟨n', h3, h4.trans h2⟩
/-- A trie of L in memory. -/
structure TrieAt (w : World) (base T : Nat) (L : List (List UInt8)) (N : Nodes) : Prop where
  forest : Forest w base N
  roots : Roots T N
  xs : ∀ k, k < 3 → ∀ q, xsOf N k q = idsTo k L q L.length

def N0 (T : Nat) : Nodes := fun k p => if p = [] ∧ k < 3 then some ⟨T, k, .slice none 0 0, [], none⟩ else none
theorem xsOf_N0 (T k : Nat) (q : List UInt8) : xsOf (N0 T) k q = [] := by unfold xsOf N0; split <;> rename_i h <;> split at h <;> simp_all <;> rw [← h]
theorem roots_N0 (T : Nat) : Roots T (N0 T) := fun k hk => ⟨⟨T, k, .slice none 0 0, [], none⟩, by simp [N0, hk], rfl⟩
theorem forest_N0 (w : World) : Forest (w.alloc (.cells #[.slice none 0 0, .map none, .slice none 0 0, .map none, .slice none 0 0, .map none] 61)) w.heap.size (N0 w.heap.size) := by
  have hb := heap_alloc_new w (.cells #[.slice none 0 0, .map none, .slice none 0 0, .map none, .slice none 0 0, .map none] 61)
  have inv : ∀ k p n, N0 w.heap.size k p = some n → p = [] ∧ k < 3 ∧ n = ⟨w.heap.size, k, .slice none 0 0, [], none⟩ := by
    intro k p n h
    unfold N0 at h
    split at h
    · rename_i hc; exact ⟨hc.1, hc.2, (Option.some.inj h).symm⟩
    · cases h
  refine ⟨fun k p n h => ?_, fun k p n h => ?_, fun k p k' p' n n' h h' hne => ?_, fun k p c _ => by simp [N0]⟩
  · obtain ⟨_, hk, rfl⟩ := inv k p n h
    refine ⟨Nat.le_refl _, ⟨_, 61, hb, .inr rfl, ?_, ?_⟩, World.ownsRow_nil _ _ _ _, fun m h => by cases h⟩ <;> (have : k = 0 ∨ k = 1 ∨ k = 2 := by omega) <;> rcases this with rfl | rfl | rfl <;> rfl
  · obtain ⟨_, hk, rfl⟩ := inv k p n h
    intro c; simp [N0]
  · obtain ⟨rfl, hk, rfl⟩ := inv k p n h
    obtain ⟨rfl, hk', rfl⟩ := inv k' p' n' h'
    exact ⟨.inr fun e => hne ⟨e, rfl⟩, .inl rfl, .inl rfl⟩

theorem new_long (w : World) (v : Value) (L : List (List UInt8)) (vs : List Value) (hM : Mat w v L vs) (h : ¬ (L.length ≤ 512 ∧ ∀ t ∈ L, t.length ≤ 16)) :
    Calls Try.prog 15 #[v] w fun e w' => e = .returned (.pointer none) ∧ w = w' := by
  obtain ⟨ao, c, rfl, _⟩ := hM.outer.value
  have hcl := containsLong w _ L vs hM
  by_cases hlong : ∃ t ∈ L, 16 < t.length
  · have hd : decide (∃ t ∈ L, 16 < t.length) = true := by simpa using hlong
    rw [hd] at hcl
    have HH := hid h
    have HL := hid hlong
    have HD := hid hd
    clear h hlong hd
    go_enter Try.func15, Try.ntmps15
    go_wp2_with fail
    refine hcl.mono ?_
    rintro e w' ⟨rfl, rfl⟩
    go_wp2
    all_goals go_ret
    all_goals exact ⟨rfl, rfl⟩
  · have hd : decide (∃ t ∈ L, 16 < t.length) = false := by simpa using hlong
    rw [hd] at hcl
    have h5 : 512 < L.length := by
      rcases Nat.lt_or_ge 512 L.length with h1 | h1
      · exact h1
      · exact absurd ⟨h1, fun t ht => by rcases Nat.lt_or_ge 16 t.length with h2 | h2; exact absurd ⟨t, ht, h2⟩ hlong; exact h2⟩ h
    have HH := hid h
    have HL := hid hlong
    have HD := hid hd
    clear h hlong hd
    go_enter Try.func15, Try.ntmps15
    go_wp2_with fail
    refine hcl.mono ?_
    rintro e w' ⟨rfl, rfl⟩
    go_wp2
    go_ret
    exact ⟨rfl, rfl⟩

theorem keeps_m5 {w wr w1 : World} (hk : Keeps w wr) (h : M5 w.heap.size wr w1) : Keeps w w1 :=
  Below.trans hk (h.mods.below hk.size fun k hk' => by omega)
theorem PutTo.keep {N N' : Nodes} {k k' : Nat} {p : List UInt8} {i : Int} (g : PutTo N N' k p i) (h : k' ≠ k) (q : List UInt8) : xsOf N' k' q = xsOf N k' q := by
  rw [g.xs, if_neg (fun e => h e.1)]
theorem PutTo.next {N N' : Nodes} {k : Nat} {p : List UInt8} {i : Int} (g : PutTo N N' k p i) (q : List UInt8) : xsOf N' k q = if q <+: p then addTo (xsOf N k q) i else xsOf N k q := by
  rw [g.xs]; simp

set_option maxHeartbeats 2000000 in
set_option maxRecDepth 100000 in
theorem new_any (w : World) (v : Value) (L : List (List UInt8)) (vs : List Value) (hM : Mat w v L vs) (h5 : L.length ≤ 512) (h16 : ∀ t ∈ L, t.length ≤ 16) :
    Calls Try.prog 15 #[v] w fun e w' => ∃ T N, e = .returned (.pointer (some ⟨T, 0, none⟩)) ∧ TrieAt w' w.heap.size T L N ∧ Keeps w w' := by
  obtain ⟨ao, c, rfl, _⟩ := hM.outer.value
  have hcl := containsLong w _ L vs hM
  have hd : decide (∃ t ∈ L, 16 < t.length) = false := by simp; intro t ht; have := h16 t ht; omega
  rw [hd] at hcl
  have HD := hid hd
  clear hd
  have hk1 : Keeps w (w.alloc (.cells #[.slice none 0 0, .map none, .slice none 0 0, .map none, .slice none 0 0, .map none] 61)) := (Below.refl _ _).alloc (Nat.le_refl _) _
  have HF := hid (forest_N0 w)
  rcases hM.outer.none_or (by decide) with ⟨h0, _⟩ | ⟨hp, b, off, rfl, hb, hc⟩
  · have hL : L = [] := List.eq_nil_of_length_eq_zero h0
    subst hL
    go_enter Try.func15, Try.ntmps15
    go_wp2_with fail
    refine hcl.mono ?_
    rintro e w' ⟨rfl, rfl⟩
    go_wp2
    refine wp_loop_rounds 1 ?_
    rw [rounds_succ]
    go_wp2
    go_ret
    exact ⟨w.heap.size, N0 w.heap.size, rfl, ⟨HF.out, roots_N0 _, fun k _ q => by rw [xsOf_N0]; rfl⟩, hk1⟩
  · go_enter Try.func15, Try.ntmps15
    go_wp2_with fail
    refine hcl.mono ?_
    rintro e w' ⟨rfl, rfl⟩
    go_wp2
    go_loopw [20] (fun t wr => ∃ (i : Nat) (N : Nodes), i ≤ L.length ∧ t = .int .i64 (i : Int) ∧ Forest wr w.heap.size N ∧ Roots w.heap.size N ∧ (∀ k, k < 3 → ∀ q, xsOf N k q = idsTo k L q i) ∧ Keeps w wr) (fun t _ => L.length - (intOf t).toNat)
    case atStart => exact ⟨0, N0 w.heap.size, by omega, rfl, HF.out, roots_N0 _, fun k _ q => by rw [xsOf_N0]; rfl, hk1⟩
    case round =>
      obtain ⟨i, N, hi, rfl, Fr, Ro, hX, hk⟩ := hrel
      by_cases hlt : i < L.length
      · obtain ⟨u, hu, hs⟩ := hM.inner i hlt
        have hcell := Keeps.cell hk (hc i u hu)
        obtain ⟨ao', c', rfl, _⟩ := hs.value
        have hs1 := hs.keeps hk
        have h16' : (L[i]'hlt).length ≤ 16 := h16 _ (List.getElem_mem _)
        have hget : L.getD i [] = L[i]'hlt := by simp [hlt]
        generalize L[i]'hlt = t at *
        have has : 0 < t.length → ∀ wx, Aside w.heap.size wx (.slice ao' t.length c') := by
          intro hp wx b hb
          obtain ⟨b', off', rfl, hb', _⟩ := hs.open (by rw [bys_length]; exact hp)
          simp [Value.ownBlock] at hb
          left; omega
        have hlen : ∀ k, k < 3 → ∀ p, (xsOf N k p).length ≤ 1099511627776 := fun k hk p => by
          rw [hX k hk]; have := idsTo_length k L p i; omega
        obtain ⟨r0, hr0, ha0⟩ := Ro 0 (by omega)
        have hput0 := put_any wr w.heap.size N 0 t r0 _ i Fr hr0 hs1 (fun h => has h wr) (by omega) hk.size (hlen 0 (by omega))
        rw [ha0] at hput0
        simp only [Nat.mul_zero] at hput0
        have HG := hid hget
        have HU := hid hu
        have HX := hid hX
        have HL := hid hlen
        have HA := hid has
        have HR := hid Ro
        clear hget hu hX hlen has Ro hr0 ha0
        go_wp2_with fail
        refine hput0.mono ?_
        rintro e w1 ⟨rfl, N1, F1, P1, hm1⟩
        have hkk1 := keeps_m5 hk hm1
        have hs2 : Sl w1.drew (.slice ao' t.length c') 1 t.length (bys t) := hs.keeps (hkk1.trans (keeps_drewN w1 1))
        have hturn := turned_any w1.drew _ t.length t hs2 (by omega)
        have HP1 := hid P1
        have HM1 := hid hkk1
        have R1 := HR.out.put P1
        obtain ⟨r1, hr1, ha1⟩ := R1 1 (by omega)
        have HPUT := hid (show ∀ w2 v', w2.ownsRow w1.drew.heap.size 5 1 v' t.length (bys t.reverse) → Keeps w1.drew w2 → Calls Try.prog 38 #[.pointer (some ⟨w.heap.size, 2, none⟩), v', .int .i64 i] w2 (fun e w' => e = .returned (.tuple #[]) ∧ ∃ N', Forest w' w.heap.size N' ∧ PutTo N1 N' 1 t.reverse i ∧ M5 w.heap.size w2 w') from by
          intro w2 v' ho hk2
          have h := put_any w2 w.heap.size N1 1 t.reverse r1 v' i (F1.keeps ((keeps_drewN w1 1).trans hk2)) hr1 (by rw [List.length_reverse]; exact ownsRow_sl ho) (fun _ => aside_row ho) (by simp; omega) (Nat.le_trans hk.size (Nat.le_trans hm1.mods.size hk2.size)) (fun p => by rw [P1.keep (by omega)]; exact HL.out 1 (by omega) p)
          rw [ha1] at h
          exact h)
        have HR1 := hid R1
        have HF1 := hid F1
        clear P1 hkk1 hput0 hm1 R1 hr1 ha1 F1
        go_wp2
        go_region_with (first | (go_at_call 39; refine hturn.mono ?_; rintro e w2 ⟨v', rfl, hown2, hk2⟩) | (go_at_call 38; refine (HPUT.out _ _ hown2 hk2).mono ?_; rintro e w3 ⟨rfl, N2, F2, P2, hm2⟩))
        have hkk3 : Keeps w w3 := keeps_m5 ((HM1.out.trans (keeps_drewN w1 1)).trans hk2) hm2
        have R2 := HR1.out.put P2
        have X0 : ∀ q, xsOf N2 0 q = idsTo 0 L q (i + 1) := fun q => by
          rw [P2.keep (by omega), HP1.out.next, HX.out 0 (by omega), ← idsTo_step 0 (by omega), HG.out]; rfl
        have X1 : ∀ q, xsOf N2 1 q = idsTo 1 L q (i + 1) := fun q => by
          rw [P2.next, HP1.out.keep (by omega), HX.out 1 (by omega), ← idsTo_step 1 (by omega), HG.out]; rfl
        have X2 : ∀ q, xsOf N2 2 q = midsTo L q i 0 := fun q => by
          rw [P2.keep (by omega), HP1.out.keep (by omega), HX.out 2 (by omega), midsTo_zero]
        have HX0 := hid X0
        have HX1 := hid X1
        have HX2 := hid X2
        have HR2 := hid R2
        clear X0 X1 X2 R2 P2 hm2 hown2 hk2 hturn hs2
        go_wp2
        obtain ⟨w3', hw3⟩ : ∃ w3', w3' = w3 := ⟨_, rfl⟩
        go_loopw [41] (fun q wr2 => ∃ (j : Nat) (N' : Nodes), j ≤ t.length + 1 ∧ q = .int .i64 (j : Int) ∧ Forest wr2 w.heap.size N' ∧ Roots w.heap.size N' ∧ (∀ q, xsOf N' 0 q = idsTo 0 L q (i + 1)) ∧ (∀ q, xsOf N' 1 q = idsTo 1 L q (i + 1)) ∧ (∀ q, xsOf N' 2 q = midsTo L q i j) ∧ Keeps w wr2) (fun q _ => t.length + 1 - (intOf q).toNat)
        case atStart => exact ⟨0, N2, by omega, rfl, F2, HR2.out, HX0.out, HX1.out, HX2.out, hkk3⟩
        case round =>
          clear HX0 HX1 HX2 HR2 hkk3 F2
          obtain ⟨j, N', hj, rfl, Fj, Rj, Y0, Y1, Y2, hkj⟩ := hrel
          by_cases hlj : j < t.length + 1
          · have hjc : (j : Int) ≤ (c' : Int) := by have := hs.value; obtain ⟨_, _, e, h1, _⟩ := this; injection e with _ _ e; omega
            have hjl : (j : Int) ≤ (t.length : Int) := by omega
            obtain ⟨r2, hr2, ha2⟩ := Rj 2 (by omega)
            have hcd : Keeps w wr.drew := hkj.trans (keeps_drewN wr 1)
            obtain ⟨A, hsl1, hsl2, hslr, hslb⟩ := slice_low (P := Try.prog) (t := 23) (e := 5) (size := 1) Try.underlying23 (fun w => by kernel_rfl) ao' t.length c' j (by omega)
            have hsd := hslr _ _ (hs.keeps hcd)
            rw [Nat.mul_one, show (bys t).drop j = bys (t.drop j) by simp [bys], show t.length - j = (t.drop j).length by simp] at hsd
            have hput2 := put_any wr.drew w.heap.size N' 2 (t.drop j) r2 _ i (Fj.keeps (keeps_drewN wr 1)) hr2 hsd (fun hp b hb => HA.out (by simp at hp; omega) wr.drew b (hslb b (by rw [List.length_drop] at hb; exact hb))) (by simp; omega) hkj.size (fun p => by rw [Y2]; simp only [midsTo, List.length_append]; have := idsTo_length 2 L p i; split <;> simp <;> omega)
            rw [ha2, List.length_drop] at hput2
            have HR2 := hid Rj
            have HY0 := hid Y0
            have HY1 := hid Y1
            have HY2 := hid Y2
            have HCD := hid hcd
            clear Rj Y0 Y1 Y2 hcd hsd hr2 ha2 hslr hslb
            go_wp2
            go_region_with (go_at_call 38; refine hput2.mono ?_; rintro e w5 ⟨rfl, N5, F5, P5, hm5⟩)
            have HP5 := hid P5
            clear P5
            go_wp2
            go_roundw
            case rel => exact ⟨j + 1, N5, by omega, by go_num, F5, HR2.out.put HP5.out, fun q => by rw [HP5.out.keep (by omega), HY0.out], fun q => by rw [HP5.out.keep (by omega), HY1.out], fun q => by rw [HP5.out.next, HY2.out, ← midsTo_step, HG.out], keeps_m5 HCD.out hm5⟩
            case measure => simp [intOf]; omega
          · have : j = t.length + 1 := by omega
            subst this
            have HR2 := hid Rj
            have HY0 := hid Y0
            have HY1 := hid Y1
            have HY2 := hid Y2
            clear Rj Y0 Y1 Y2
            go_wp2
            go_roundw
            case rel =>
              refine ⟨i + 1, N', by omega, by go_num, Fj, HR2.out, fun k hk q => ?_, hkj⟩
              have h2 := HY2.out q
              rw [show t.length = (L.getD i []).length by rw [HG.out], midsTo_end] at h2
              have : k = 0 ∨ k = 1 ∨ k = 2 := by omega
              rcases this with rfl | rfl | rfl
              · exact HY0.out q
              · exact HY1.out q
              · exact h2
            case measure => simp [intOf]; omega
      · have : i = L.length := by omega
        subst this
        have HX := hid hX
        have HR := hid Ro
        clear hX Ro
        go_wp2
        go_ret
        exact ⟨w.heap.size, N, rfl, ⟨Fr, HR.out, HX.out⟩, hk⟩
end Go.Proofs.Ytgofjdkpnmoedaa
