/- The law TrieTells, walked. -/
import Derived.Test.YtgofjdkpnmoedaaTrieO
import Derived.Lib.OwnKind
set_option linter.unusedSimpArgs false
set_option linter.unusedVariables false
namespace Go.Proofs.Ytgofjdkpnmoedaa
open Go.RowKit Go.Vb

theorem info23 : (Try.prog.info? 23).map (fun i => (i.zero, i.size, i.bytes)) = some (some (.slice none 0 0), 1, 24) := by kernel_rfl
/-- Like Forest.keeps, of a step that changes only blocks ahead of the trie's. -/
theorem Forest.mods {w w' : World} {base : Nat} {N : Nodes} {S : Nat → Prop} (F : Forest w base N) (hk : Mods S w w') (hS : ∀ b, S b → b < base) : Forest w' base N := by
  have hb : ∀ g, base ≤ g → g < w.heap.size → w'.heap[g]? = w.heap[g]? := fun g h1 h2 => hk.block g h2 fun h => by have := hS g h; omega
  refine ⟨fun k p n h => ?_, fun k p n h => ?_, F.apart, F.closed⟩
  · have := F.node k p n h
    obtain ⟨cur, ty, hbk, r⟩ := this.block
    exact ⟨this.low, ⟨cur, ty, (hb _ this.low (Array.getElem?_eq_some_iff.1 hbk).1).trans hbk, r⟩, ownsRow_same this.row fun g hg => hb g (this.row.lt g hg).1 (this.row.lt g hg).2, this.mapb⟩
  · exact (F.map k p n h).same fun m hm => hb m ((F.node k p n h).mapb m hm) (by have := F.map k p n h; rw [hm] at this; exact this.lt)
theorem TrieAt.mods {w w' : World} {base T : Nat} {L : List (List UInt8)} {N : Nodes} {S : Nat → Prop} (h : TrieAt w base T L N) (hk : Mods S w w') (hS : ∀ b, S b → b < base) : TrieAt w' base T L N := ⟨h.forest.mods hk hS, h.roots, h.xs⟩

/-- A row of bytes, whichever. -/
def BRow (w : World) (base : Nat) (u : Value) : Prop := ∃ g n c cs, u = .slice (some ⟨g, 0, none⟩) n c ∧ base ≤ g ∧ n ≤ 20000 ∧ w.heap[g]? = some (.cells cs 5 (0, 0)) ∧ ∀ k, k < n → ∃ b : UInt8, cs[k]? = some (.int .u8 b.toNat)
theorem BRow.mods {w w' : World} {base : Nat} {u : Value} {S : Nat → Prop} (h : BRow w base u) (hk : Mods S w w') (hn : ∀ g, u.ownBlock = some g → ¬ S g) : BRow w' base u := by
  obtain ⟨g, n, c, cs, rfl, h1, h2, h3, h4⟩ := h
  exact ⟨g, n, c, cs, rfl, h1, h2, (hk.block g (Array.getElem?_eq_some_iff.1 h3).1 (hn g rfl)).trans h3, h4⟩
theorem BRow.stored {w : World} {base : Nat} {u : Value} (h : BRow w base u) (g k : Nat) (b : UInt8) : BRow (w.setCell ⟨g, k, none⟩ (.int .u8 b.toNat)) base u := by
  obtain ⟨g', n, c, cs, rfl, h1, h2, h3, h4⟩ := h
  by_cases he : g' = g
  · subst he
    refine ⟨g', n, c, _, rfl, h1, h2, heap_setCell_same w g' k cs 5 _ h3, fun i hi => ?_⟩
    rw [Array.getElem?_setIfInBounds]
    split
    · split
      · exact ⟨b, rfl⟩
      · obtain ⟨b', hb'⟩ := h4 i hi
        have := (Array.getElem?_eq_some_iff.1 hb').1
        omega
    · exact h4 i hi
  · exact ⟨g', n, c, cs, rfl, h1, h2, (heap_setCell_other w ⟨g, k, none⟩ g' _ (fun e => he e)).trans h3, h4⟩
theorem BRow.of_owns {w : World} {base b0 : Nat} {u : Value} {t : List UInt8} {n : Nat} (h : w.ownsRow b0 5 1 u n (bys t)) (hb : base ≤ b0) (hn : n ≤ 20000) (hne : u ≠ .slice none 0 0) : BRow w base u := by
  rcases h.2 with ⟨h0, _⟩ | ⟨g, cap, cur, hv, hbg, hg, hnc, hc, hcs, ht⟩
  · exact absurd h0 hne
  · refine ⟨g, n, cap, cur, hv, by omega, hn, hg, fun k hk => ?_⟩
    have h1 := h.1
    rw [bys_length] at h1
    have : (bys t)[k]? = some (.int .u8 ((t[k]'(by omega)).toNat : Nat)) := by simp [bys, show k < t.length by omega]
    rw [← ht, List.getElem?_take_of_lt (by omega)] at this
    exact ⟨t[k]'(by omega), by simpa using this⟩
theorem BRow.block {w : World} {base : Nat} {u : Value} (h : BRow w base u) {o : Value} {b0 j : Nat} {vs : List Value} (ho : w.ownsRow b0 23 1 o j vs) : ∀ g, u.ownBlock = some g → ¬ o.ownBlock = some g := by
  obtain ⟨g, n, c, cs, rfl, h1, h2, h3, h4⟩ := h
  intro g' hg' ho'
  obtain rfl : g = g' := by simpa [Value.ownBlock] using hg'
  obtain ⟨c', fz, hk⟩ := Go.Lib.ownsRow_kind ho g ho'
  rw [hk] at h3
  injection h3 with h3
  injection h3 with _ h3 _
  exact absurd h3 (by decide)
theorem u8_up (b : UInt8) : IntKind.u8.wrap ((b.toNat : Int) + 1) = (((b + 1).toNat : Nat) : Int) := by
  rw [IntKind.wrap_u8, UInt8.toNat_add]
  have : (1 : UInt8).toNat = 1 := rfl
  rw [this]
  omega

def NewOf (L : List (List UInt8)) (B : Nat) (e : Ending) (w' : World) : Prop :=
  ∃ tv, e = .returned tv ∧ (((L.length ≤ 512 ∧ ∀ t ∈ L, t.length ≤ 16) ∧ ∃ T N, tv = .pointer (some ⟨T, 0, none⟩) ∧ TrieAt w' B T L N) ∨ (¬ (L.length ≤ 512 ∧ ∀ t ∈ L, t.length ≤ 16) ∧ tv = .pointer none))
theorem new_either (w : World) (v : Value) (L : List (List UInt8)) (vs : List Value) (hM : Mat w v L vs) :
    Calls Try.prog 15 #[v] w fun e w' => NewOf L w.heap.size e w' ∧ Keeps w w' := by
  by_cases hR : L.length ≤ 512 ∧ ∀ t ∈ L, t.length ≤ 16
  · refine (new_any w v L vs hM hR.1 hR.2).mono ?_
    rintro e w2 ⟨T, N, rfl, TA, k2⟩
    exact ⟨⟨_, rfl, .inl ⟨hR, T, N, rfl, TA⟩⟩, k2⟩
  · refine (new_long w v L vs hM hR).mono ?_
    rintro e w2 ⟨rfl, rfl⟩
    exact ⟨⟨_, rfl, .inr ⟨hR, rfl⟩⟩, Below.refl _ _⟩

set_option maxHeartbeats 4000000 in
set_option maxRecDepth 100000 in
theorem tells_walk (w : World) (v sv : Value) (L : List (List UInt8)) (vs0 : List Value) (s : List UInt8) (hM : Mat w v L vs0) (_hLl : L.length * 24 ≤ 140737488351232) (hs : Sl w sv 1 s.length (bys s)) (hsl : s.length ≤ 140737488351232) :
    Calls Try.prog 3 #[v, sv] w fun e w' => e = .returned (.bool true) ∧ Keeps w w' := by
  obtain ⟨i5, h5i, h5z, h5s, h5b⟩ := info_parts info5
  obtain ⟨i23, h23i, h23z, h23s, h23b⟩ := info_parts info23
  obtain ⟨aos, cs, rfl, _⟩ := hs.value
  have hLs := Sl.size_le hM.outer
  go_enter Try.func3, Try.ntmps3
  go_wp2_with fail
  refine (head_any w).mono ?_
  rintro e w1 ⟨rfl, k1⟩
  have hM1 := hM.keeps k1
  have hs1 := hs.keeps k1
  go_wp2_with fail
  refine (great_small w1 v _ L vs0 _ _ hM1 hs1).mono ?_
  rintro e w2 ⟨⟨b, rfl, hsm⟩, rfl⟩
  cases b with
  | true =>
    go_wp2
    go_ret
    exact ⟨rfl, k1⟩
  | false =>
    obtain ⟨hL2, hLt⟩ := hsm rfl
    have HLT := hid hLt
    clear hLt hsm
    obtain ⟨ao, c, rfl, _⟩ := hM.outer.value
    go_wp2_with fail
    go_loopw [6, 7] (fun o q wr => ∃ (j : Nat) (vs : List Value), j ≤ L.length ∧ q = .int .i64 (j : Int) ∧ wr.ownsRow w1.heap.size 23 1 o j vs ∧ (∀ i (h : i < L.length), i < j → ∃ u, vs[i]? = some u ∧ Sl wr u 1 (L[i]'h).length (bys (L[i]'h)) ∧ BRow wr w1.heap.size u) ∧ Keeps w1 wr) (fun _ q _ => L.length - (intOf q).toNat)
    case atStart => exact ⟨0, [], by omega, rfl, World.ownsRow_nil _ _ _ _, fun i h h2 => by omega, Below.refl _ _⟩
    case round =>
      obtain ⟨j, vs, hj, rfl, ho, hin, hk⟩ := hrel
      by_cases hlt : j < L.length
      · have hMr := hM1.keeps hk
        obtain ⟨b, off, rfl, hb, hc⟩ := hMr.outer.open (by have := hM.outer.len; omega)
        obtain ⟨u, hu, hst⟩ := hMr.inner j hlt
        have hcell := hc j u hu
        have hl2 : (L[j]'hlt).length < 20000 := HLT.out _ (List.getElem_mem _)
        obtain ⟨ao3, c3, rfl, _⟩ := hst.value
        obtain ⟨oo, oc, rfl⟩ := ownsRow_slice ho
        have HIN := hid hin
        have ka := keeps_alloc wr (.cells #[] 5)
        have hsa := hst.keeps ka
        have hcell' := ka.cell hcell
        have HE := hid (show L[j]'hlt ∈ L from List.getElem_mem _)
        clear hc hu hin
        go_wp2_with (at_builtin; refine wpList_append_sl _ rfl _ _ 23 rfl wr.heap.size 5 i5 (.int .u8 0) 1 1 Try.underlying23 h5i h5z h5s h5b rfl (by decide) _ 0 [] rfl (World.ownsRow_lit wr #[] 0 (Nat.le_refl _) (by unfold maxLen; omega) rfl) _ (L[j]'hlt).length (bys (L[j]'hlt)) rfl hsa (bys_one _) (by unfold maxLen; omega) (by omega) (by simp) ?_)
        intro v4 w4 ho4 hg4 hnil4 _
        have k4 : Keeps wr w4 := ka.grown hg4 (by simp) (fun k e => by simp [Value.ownBlock] at e; omega)
        have ho' := ownsRow_mods ho (keeps_mods (S := fun _ => False) k4) (fun _ _ h => h)
        have hne4 : v4 ≠ .slice none 0 0 := hnil4
        have hsz4 := k4.size
        have hszk := hk.size
        obtain ⟨ao4, c4, rfl⟩ := ownsRow_slice ho4
        go_wp2_with (at_builtin; refine wpList_append_sl _ rfl _ _ 22 rfl w1.heap.size 23 i23 (.slice none 0 0) 1 24 Try.underlying22 h23i h23z h23s h23b rfl (by decide) _ j vs rfl (ho'.alloc _) _ 1 [.slice ao4 (L[j]'hlt).length c4] rfl (sl_one _ _ _) (by simp [Value.oneCell']) (by unfold maxLen; omega) (by omega) (by simp; omega) ?_)
        intro v5 w5 ho5 hg5 _ _
        have k45 := keeps_alloc w4 (.cells #[.slice ao4 (L[j]'hlt).length c4] 23)
        have k5 : Keeps w1 w5 := ((hk.trans k4).trans k45).grown hg5 (by simp; omega) (fun k e => (ownsRow_base ho e).1)
        have M5 : Mods (fun g => (Value.slice oo j oc).ownBlock = some g) w4 w5 := (keeps_mods k45).trans (Mods.of_grownBy hg5 fun _ h => h)
        have B4 : BRow w4 w1.heap.size (.slice ao4 (L[j]'hlt).length c4) := BRow.of_owns ho4 hszk (by omega) hne4
        have hsl4 := ownsRow_sl ho4
        have hvl : vs.length = j := by simpa using ho.1
        go_wp2
        go_roundw
        case rel =>
          refine ⟨j + 1, vs ++ [.slice ao4 (L[j]'hlt).length c4], by omega, by go_num, ho5, fun i hi hij => ?_, k5⟩
          by_cases hij' : i < j
          · obtain ⟨u, h1, h2, h3⟩ := HIN.out i hi hij'
            have h3' : BRow w4 w1.heap.size u := h3.mods (keeps_mods (S := fun _ => False) k4) (fun _ _ h => h)
            refine ⟨u, by rw [List.getElem?_append_left (by omega)]; exact h1, (h2.keeps k4).mods M5 (h3'.block ho'), h3'.mods M5 (h3'.block ho')⟩
          · obtain rfl : i = j := by omega
            refine ⟨_, by rw [List.getElem?_append_right (by omega), hvl]; simp, hsl4.mods M5 (B4.block ho'), B4.mods M5 (B4.block ho')⟩
        case measure => simp [intOf]; omega
      · obtain rfl : j = L.length := by omega
        obtain ⟨oo, oc, rfl⟩ := ownsRow_slice ho
        have hMo : Mat wr (.slice oo L.length oc) L vs := ⟨ownsRow_sl ho, fun i hi => by obtain ⟨u, h1, h2, _⟩ := hin i hi hi; exact ⟨u, h1, h2⟩⟩
        have hB : ∀ u ∈ vs, BRow wr w1.heap.size u := fun u hu => by
          obtain ⟨i, hi, rfl⟩ := List.getElem_of_mem hu
          have hvl : vs.length = L.length := by simpa using ho.1
          obtain ⟨u, h1, _, h3⟩ := hin i (by omega) (by omega)
          rw [List.getElem?_eq_getElem hi] at h1
          obtain rfl := Option.some.inj h1
          exact h3
        clear hin
        go_wp2_with fail
        refine (new_either wr _ L vs hMo).mono ?_
        rintro e w6 ⟨⟨tv, rfl, hor⟩, k6⟩
        have HOR := hid hor
        have hB6 : ∀ u ∈ vs, BRow w6 w1.heap.size u := fun u hu => (hB u hu).mods (keeps_mods (S := fun _ => False) k6) (fun _ _ h => h)
        have hBo : ∀ u ∈ vs, ∀ g, u.ownBlock = some g → g < wr.heap.size ∧ w1.heap.size ≤ g ∧ ¬ (Value.slice oo L.length oc).ownBlock = some g := fun u hu g hg => by
          have h1 := hB u hu
          refine ⟨?_, ?_, h1.block ho g hg⟩
          · obtain ⟨g', n, c, cs, rfl, h1, h2, h3, h4⟩ := h1
            obtain rfl : g' = g := by simpa [Value.ownBlock] using hg
            exact (Array.getElem?_eq_some_iff.1 h3).1
          · obtain ⟨g', n, c, cs, rfl, h1, h2, h3, h4⟩ := h1
            obtain rfl : g' = g := by simpa [Value.ownBlock] using hg
            exact h1
        have hso : Sl w6 (.slice oo L.length oc) 1 L.length vs := hMo.outer.keeps k6
        have hvl : vs.length = L.length := by simpa using ho.1
        have K6 := hk.trans k6
        have HB := hid hB6
        have HBO := hid hBo
        obtain ⟨S, hS⟩ : ∃ S : Nat → Prop, S = fun b => w1.heap.size ≤ b ∧ b < wr.heap.size ∧ ¬ (Value.slice oo L.length oc).ownBlock = some b := ⟨_, rfl⟩
        have hSin : ∀ u ∈ vs, ∀ g, u.ownBlock = some g → S g := fun u hu g hg => by rw [hS]; obtain ⟨a, b, c⟩ := hBo u hu g hg; exact ⟨b, a, c⟩
        have hSout : ∀ b, (Value.slice oo L.length oc).ownBlock = some b → ¬ S b := fun b hb h => by rw [hS] at h; exact h.2.2 hb
        have hSlow : ∀ b, S b → w1.heap.size ≤ b ∧ b < wr.heap.size := fun b h => by rw [hS] at h; exact ⟨h.1, h.2.1⟩
        have HSI := hid hSin
        have HSO := hid hSout
        have HSL := hid hSlow
        clear hor hB hB6 hBo hMo hSin hSout hSlow hS ho
        go_wp2_with fail
        go_loopw [9] (fun q w7 => ∃ (i : Nat), i ≤ L.length ∧ q = .int .i64 (i : Int) ∧ Mods S w6 w7 ∧ ∀ u ∈ vs, BRow w7 w1.heap.size u) (fun q _ => L.length - (intOf q).toNat)
        case atStart => exact ⟨0, by omega, rfl, Mods.refl _ _, HB.out⟩
        case round =>
          obtain ⟨i, hi, rfl, hm7, hb7⟩ := hrel
          by_cases hlt : i < L.length
          · obtain ⟨u, hu⟩ : ∃ u, vs[i]? = some u := ⟨_, List.getElem?_eq_getElem (by omega)⟩
            have hum := List.mem_of_getElem? hu
            have hb8 := hb7 u hum
            obtain ⟨g, n, cn, cs7, rfl, hg1, hg2, _, _⟩ := hb8
            have HB7 := hid hb7
            have HU := hid hu
            have HUM := hid hum
            clear hb7 hu hum
            go_wp2_with fail
            go_loopw [10] (fun q w8 => ∃ (k : Nat), k ≤ n ∧ q = .int .i64 (k : Int) ∧ Mods S w6 w8 ∧ ∀ u ∈ vs, BRow w8 w1.heap.size u) (fun q _ => n - (intOf q).toNat)
            case atStart => exact ⟨0, by omega, rfl, hm7, HB7.out⟩
            case round =>
              obtain ⟨k, hkn, rfl, hm8, hb8⟩ := hrel
              obtain ⟨go_, goff, e', _, hc⟩ := (hso.mods hm8 HSO.out).open (by omega)
              subst e'
              have hcell := hc i _ HU.out
              have HB8 := hid hb8
              obtain ⟨g', n', cn', cs8, e8, hg1, hg2, hg3, hg4⟩ := hb8 _ HUM.out
              injection e8 with e8 e9 e10
              obtain rfl : g = g' := by injection e8 with e8; injection e8
              subst e9 e10
              by_cases hlt2 : k < n
              · obtain ⟨b, hbk⟩ := hg4 k hlt2
                have hcb : wr.cell? ⟨g, k, none⟩ = some (.int .u8 b.toNat) := by
                  unfold World.cell?
                  simp only [hg3]
                  exact hbk
                have hfz : wr.frozen? ⟨g, k, none⟩ = false := by
                  unfold World.frozen?
                  simp only [hg3]
                  simp
                have hup := u8_up b
                have hSg : S g := HSI.out _ HUM.out g rfl
                have HSg := hid hSg
                clear hb8 hc hg3 hg4 hSg
                go_wp2_with fail
                go_roundw
                case rel =>
                  have e1 : (((b.toNat : Int) + 1) % 256) = (((b + 1).toNat : Nat) : Int) := by rw [← hup, IntKind.wrap_u8]
                  rw [e1]
                  exact ⟨k + 1, by omega, by go_num, hm8.trans (Mods.setCell S _ _ _ (.inl HSg.out)), fun u hu => (HB8.out u hu).stored g k (b + 1)⟩
                case measure => simp [intOf]; omega
              · clear hb8 hc hg3 hg4
                go_wp2_with fail
                go_roundw
                case rel => exact ⟨i + 1, by omega, by go_num, hm8, HB8.out⟩
                case measure => simp [intOf]; omega
          · have K8 : Keeps w1 wr := ((keeps_mods (S := S) K6).trans hm7).below (Nat.le_refl _) fun k hk h => by have := HSL.out k h; omega
            have hM8 := hM1.keeps K8
            have hs8 := hs1.keeps K8
            have hL20 : L.length ≤ 20000 := by omega
            have hT20 : ∀ t ∈ L, t.length ≤ 20000 := fun t ht => by have := HLT.out t ht; omega
            have HT20 := hid hT20
            have hsl' : s.length ≤ 140737488355328 := by omega
            have hright := right_any wr _ L vs0 hM8
            clear hb7 hT20
            rcases HOR.out with ⟨hR, T, N, rfl, TA⟩ | ⟨hR, rfl⟩
            · have h512 := hR.1
              have TA8 := TA.mods hm7 (fun b h => (HSL.out b h).2)
              rw [decide_eq_true hR] at hright
              have HR := hid hR
              clear hR TA
              go_wp2_with fail
              refine hright.mono ?_
              rintro e w9 ⟨rfl, rfl⟩
              go_wp2_with fail
              refine (prefix_any TA8 h512 _ s hs8 (by omega)).mono ?_
              rintro e w10 ⟨va, rfl, oa, k10⟩
              go_wp2_with fail
              refine (ref_prefix w10 _ _ L vs0 s (hM8.keeps k10) hL20 (hs8.keeps k10) hsl').mono ?_
              rintro e w11 ⟨⟨vb, rfl, ob⟩, k11⟩
              have sa := (ownsRow_sl oa).keeps k11
              go_wp2_with fail
              refine (same_ints w11 _ _ _ sa ob).mono ?_
              rintro e w12 ⟨rfl, k12⟩
              have k812 := (k10.trans k11).trans k12
              clear oa ob sa k10 k11 k12
              go_wp2_with fail
              refine (suffix_any (TA8.keeps k812) h512 _ s (hs8.keeps k812) (by omega)).mono ?_
              rintro e w13 ⟨vc, B, rfl, oc', _, k13⟩
              have k813 := k812.trans k13
              go_wp2_with fail
              refine (ref_suffix w13 _ _ L vs0 s (hM8.keeps k813) hL20 (hs8.keeps k813) hsl' HT20.out).mono ?_
              rintro e w14 ⟨⟨vd, rfl, od⟩, k14⟩
              have sc := (ownsRow_sl oc').keeps k14
              go_wp2_with fail
              refine (same_ints w14 _ _ _ sc od).mono ?_
              rintro e w15 ⟨rfl, k15⟩
              have k815 := (k813.trans k14).trans k15
              clear oc' od sc k13 k14 k15 k812 k813
              go_wp2_with fail
              refine (infix_any (TA8.keeps k815) h512 _ s (hs8.keeps k815) (by omega)).mono ?_
              rintro e w16 ⟨ve, rfl, oe, k16⟩
              have k816 := k815.trans k16
              go_wp2_with fail
              refine (ref_infix w16 _ _ L vs0 s (hM8.keeps k816) hL20 (hs8.keeps k816) hsl' HT20.out).mono ?_
              rintro e w17 ⟨⟨vf, rfl, of⟩, k17⟩
              have se := (ownsRow_sl oe).keeps k17
              go_wp2_with fail
              refine (same_ints w17 _ _ _ se of).mono ?_
              rintro e w18 ⟨rfl, k18⟩
              go_wp2
              go_ret
              exact ⟨rfl, (k1.trans K8).trans ((k816.trans k17).trans k18)⟩
            · rw [decide_eq_false hR] at hright
              have HR := hid hR
              clear hR
              go_wp2_with fail
              refine hright.mono ?_
              rintro e w9 ⟨rfl, rfl⟩
              go_wp2
              go_ret
              exact ⟨rfl, k1.trans K8⟩
end Go.Proofs.Ytgofjdkpnmoedaa
