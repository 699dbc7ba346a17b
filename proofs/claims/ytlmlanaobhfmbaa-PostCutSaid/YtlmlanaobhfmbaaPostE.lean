/- block of package post: a block's bytes. -/
import Derived.Test.YtlmlanaobhfmbaaPostD
import Derived.Test.YtlmlanaobhfmbaaConcatA
import Derived.Test.YtlmlanaobhfmbaaReg
import Derived.Deep.RegionHeldLaw
set_option linter.unusedSimpArgs false
set_option linter.unusedVariables false
namespace Go.Proofs.Ytlmlanaobhfmbaa
open Go.RowKit Go.Vb
def postOf (last : Int) (p : Post) : List UInt8 := lebOf (u64Of (p.1 - last - 1)) ++ (rowOf (p.2.map Prod.fst) ++ rowOf (p.2.map Prod.snd))
def postsOf : Int → List Post → List UInt8
  | _, [] => []
  | last, p :: t => postOf last p ++ postsOf p.1 t
/-- what holds of each posting that came in. -/
structure Fine (p : Post) : Prop where
  few : p.2.length ≤ 4096
  posM : ∀ s ∈ p.2, s.1 ≤ 9223372036854775807
  atM : ∀ s ∈ p.2, s.2 ≤ 9223372036854775807
  doc : -9223372036854775808 ≤ p.1 ∧ p.1 ≤ 9223372036854775807
def docsOk : Int → List Post → Prop
  | _, [] => True
  | last, p :: t => last < p.1 ∧ p.1 ≤ 4294967296 ∧ docsOk p.1 t
theorem row_len (sel : Spot → Int) (l : List Spot) (hl : l.length ≤ 4096) (hx : ∀ s ∈ l, sel s ≤ 9223372036854775807) : (rowOf (l.map sel)).length ≤ 40970 := by
  unfold rowOf
  split
  · rename_i hr
    have h1 := gaps_le (l.map sel) (-1) hr (by intro x hx'; obtain ⟨s, hs, rfl⟩ := List.mem_map.1 hx'; exact hx s hs) (by omega)
    have h2 := lebOf_len 9 l.length (by omega)
    rw [List.length_append]
    simp only [List.length_map] at *
    omega
  · simp
theorem post_len (last : Int) (p : Post) (h : Fine p) : (postOf last p).length ≤ 82000 := by
  have h1 := row_len _ _ h.few h.posM
  have h2 := row_len _ _ h.few h.atM
  have h3 := lebOf_len 9 (u64Of (p.1 - last - 1)) (by have := u64Of_lt (p.1 - last - 1); omega)
  unfold postOf
  rw [List.length_append, List.length_append]
  omega
theorem posts_len : ∀ (ps : List Post) (last : Int), (∀ p ∈ ps, Fine p) → (postsOf last ps).length ≤ 82000 * ps.length
  | [], _, _ => by simp [postsOf]
  | p :: t, last, hf => by
    have h1 := post_len last p (hf p (by simp))
    have h2 := posts_len t p.1 (fun q hq => hf q (by simp [hq]))
    simp only [postsOf, List.length_append, List.length_cons]
    omega
def lastOf (last : Int) (ps : List Post) : Int := (ps.map Prod.fst).getLastD last
theorem lastOf_snoc (last : Int) (ps : List Post) (p : Post) : lastOf last (ps ++ [p]) = p.1 := by
  unfold lastOf; rw [List.map_append]; exact List.getLastD_concat ..
theorem lastOf_cons (last : Int) (p : Post) (t : List Post) : lastOf last (p :: t) = lastOf p.1 t := by
  unfold lastOf; cases t <;> simp [List.getLastD]
theorem postsOf_append : ∀ (a b : List Post) (last : Int), postsOf last (a ++ b) = postsOf last a ++ postsOf (lastOf last a) b
  | [], b, last => by simp [postsOf, lastOf]
  | p :: t, b, last => by rw [List.cons_append, postsOf, postsOf_append t b p.1, lastOf_cons, postsOf, List.append_assoc]
theorem docsOk_append : ∀ (a b : List Post) (last : Int), docsOk last (a ++ b) ↔ docsOk last a ∧ docsOk (lastOf last a) b
  | [], b, last => by simp [docsOk, lastOf]
  | p :: t, b, last => by rw [List.cons_append, docsOk, docsOk_append t b p.1, lastOf_cons, docsOk]; constructor <;> (intro h; simp_all)
theorem docsOk_last : ∀ (ps : List Post) (last : Int), docsOk last ps → last ≤ lastOf last ps
  | [], last, _ => by simp [lastOf]
  | p :: t, last, h => by rw [lastOf_cons]; have := docsOk_last t p.1 h.2.2; have := h.1; omega
theorem docsOk_lastle : ∀ (ps : List Post) (last : Int), last ≤ 4294967296 → docsOk last ps → lastOf last ps ≤ 4294967296
  | [], last, hl, _ => by simpa [lastOf] using hl
  | p :: t, last, _, h => by rw [lastOf_cons]; exact docsOk_lastle t p.1 h.2.1 h.2.2
theorem mat_three {w : World} {u v x : Value} {a b c : List UInt8} (h1 : Sl w u 1 a.length (bys a)) (h2 : Sl w v 1 b.length (bys b)) (h3 : Sl w x 1 c.length (bys c)) (t : TypeId) :
    Mat (w.alloc (.cells #[u, v, x] t)) (.slice (some ⟨w.heap.size, 0, none⟩) 3 3) [a, b, c] [u, v, x] := by
  have ka : Keeps w (w.alloc (.cells #[u, v, x] t)) := (Below.refl _ _).alloc (Nat.le_refl _) _
  have hn := heap_alloc_new w (.cells #[u, v, x] t)
  refine ⟨⟨rfl, _, 3, rfl, Nat.le_refl _, by unfold maxLen; omega, (fun h => by cases h), fun ad had j y hy => ?_⟩, fun i hi => ?_⟩
  · obtain rfl := Option.some.inj had
    rw [Addr.add_lit]
    unfold World.cell?
    simp only [hn]
    have : j < 3 := (List.getElem?_eq_some_iff.1 hy).1
    have : j = 0 ∨ j = 1 ∨ j = 2 := by omega
    rcases this with rfl | rfl | rfl <;> exact hy
  · have hi3 : i < 3 := hi
    have : i = 0 ∨ i = 1 ∨ i = 2 := by omega
    rcases this with rfl | rfl | rfl
    · exact ⟨_, rfl, h1.keeps ka⟩
    · exact ⟨_, rfl, h2.keeps ka⟩
    · exact ⟨_, rfl, h3.keeps ka⟩
theorem concat_three (w : World) (u v x : Value) (a b c : List UInt8) (h1 : Sl w u 1 a.length (bys a)) (h2 : Sl w v 1 b.length (bys b)) (h3 : Sl w x 1 c.length (bys c)) (t : TypeId) (h0 : 0 < a.length) (hl : a.length + b.length + c.length ≤ 70368744177664) :
    Calls Try.prog 101 #[.slice (some ⟨w.heap.size, 0, none⟩) 3 3] (w.alloc (.cells #[u, v, x] t)) fun e w' => ∃ v', e = .returned v' ∧ w'.ownsRow w.heap.size 5 1 v' (a ++ (b ++ c)).length (bys (a ++ (b ++ c))) ∧ Keeps w w' := by
  have ka : Keeps w (w.alloc (.cells #[u, v, x] t)) := (Below.refl _ _).alloc (Nat.le_refl _) _
  have e : [a, b, c].flatten = a ++ (b ++ c) := by simp
  refine (concat_any _ _ [a, b, c] _ (mat_three h1 h2 h3 t) (by rw [e, List.length_append]; omega) (by rw [e, List.length_append, List.length_append]; omega)).mono ?_
  rintro e' w' ⟨v', rfl, o, k⟩
  rw [e] at o
  exact ⟨v', rfl, Go.World.ownsRow.mono o ka.size, ka.trans k⟩
set_option maxRecDepth 100000 in
set_option maxHeartbeats 1000000 in
theorem block_any (w : World) (v : Value) (L : List Post) (cs : List Value) (last : Int) (hP : Posts w v L cs) (hf : ∀ p ∈ L, Fine p) (hl : L.length ≤ 4096) (hlast : -9223372036854775808 ≤ last ∧ last ≤ 9223372036854775807) :
    Calls Try.prog 62 #[v, .int .i64 last] w fun e w' => ∃ v', e = .returned v' ∧ w'.ownsRow w.heap.size 5 1 v' (postsOf last L).length (bys (postsOf last L)) ∧ Keeps w w' := by
  obtain ⟨i0, hi, hz0, hz1, hz2⟩ := info_parts infoByte
  obtain ⟨ao, c, rfl, h1, h2, _⟩ := hP.outer.value
  have HF := hid hf
  clear hf
  go_enter Try.func62, Try.ntmps62
  go_wp2_with fail
  go_loopw [1, 5, 10] (fun n o i wr => ∃ (j : Nat) (la : Int), j ≤ L.length ∧ i = .int .i64 (j : Int) ∧ n = .int .i64 la ∧ (-9223372036854775808 ≤ la ∧ la ≤ 9223372036854775807) ∧ la = lastOf last (L.take j) ∧ (postsOf last (L.take j)).length ≤ 82000 * j ∧ wr.ownsRow w.heap.size 5 1 o (postsOf last (L.take j)).length (bys (postsOf last (L.take j))) ∧ Keeps w wr) (fun _ _ i _ => L.length - (intOf i).toNat)
  case atStart => exact ⟨0, last, by omega, rfl, rfl, hlast, rfl, by simp [postsOf], World.ownsRow_nil _ _ _ _, Below.refl _ _⟩
  case round =>
    obtain ⟨j, la, hj, rfl, rfl, hla0, hla, hlen, ho, hk⟩ := hrel
    obtain ⟨oo, oc, rfl⟩ := ownsRow_slice ho
    have HLA := hid hla
    clear hla
    by_cases hlt : j < L.length
    · obtain ⟨b, off, rfl, hb, hc⟩ := (hP.keeps hk).open (by omega)
      obtain ⟨c0, u, c1, g3⟩ := hc j hlt
      have hfp := HF.out _ (List.getElem_mem hlt)
      have hmt : L.take (j + 1) = L.take j ++ [L[j]'hlt] := by rw [List.take_add_one, List.getElem?_eq_getElem hlt, Option.toList_some]
      obtain ⟨x, l, hxl⟩ : ∃ x l, L[j]'hlt = (x, l) := ⟨_, _, rfl⟩
      rw [hxl] at c0 g3 hmt hfp
      simp only at c0 g3
      have hp0 : postsOf last (L.take (j + 1)) = postsOf last (L.take j) ++ postOf la (x, l) := by rw [hmt, postsOf_append, ← HLA.out]; simp [postsOf]
      have hla1 : lastOf last (L.take (j + 1)) = x := by rw [hmt, lastOf_snoc]
      have HMT := hid hp0
      have HL1 := hid hla1
      have hplen := post_len la (x, l) hfp
      have hdoc := hfp.doc
      simp only at hdoc
      obtain ⟨au, cu, rfl, hu1, hu2, _⟩ := g3.value
      clear hc hxl hmt hp0 hla1
      have ka : Keeps wr (wr.alloc (.cells #[.int .i64 x, .slice au l.length cu] 36)) := (Below.refl _ _).alloc (Nat.le_refl _) _
      have hnew := heap_alloc_new wr (.cells #[.int .i64 x, .slice au l.length cu] 36)
      obtain ⟨y, hy⟩ : ∃ y, IntKind.i64.wrap (x - la) = y := ⟨_, rfl⟩
      obtain ⟨z, hz⟩ : ∃ z, IntKind.i64.wrap (y - 1) = z := ⟨_, rfl⟩
      obtain ⟨g, hgg⟩ : ∃ g, g = u64Of (x - la - 1) := ⟨_, rfl⟩
      have hgz : u64Of z = g := by rw [hgg, ← hz, ← hy, IntKind.wrap_i64, IntKind.wrap_i64]; unfold u64Of; congr 1; omega
      have hgn : g ≤ 18446744073709551615 := by rw [hgg]; exact u64Of_lt _
      have hpo : postOf la (x, l) = lebOf g ++ (rowOf (l.map Prod.fst) ++ rowOf (l.map Prod.snd)) := by unfold postOf; rw [← hgg]
      have HPO := hid hpo
      clear hpo hgg
      have g4 := g3.keeps ka
      have hka := hk.trans ka
      have hobx : ∀ b, (Value.slice oo (postsOf last (L.take j)).length oc).ownBlock = some b → b < wr.heap.size := fun b hb => (ownsRow_base ho hb).2
      have oa := ownsRow_mods ho (keeps_mods (S := fun _ => False) ka) (fun b _ => id)
      go_wp2_with fail
      generalize wr.alloc (.cells #[.int .i64 x, .slice au l.length cu] 36) = wa at *
      generalize wr.heap.size = Bx at *
      have kd : Keeps wa wa.drew := keeps_drewN wa 1
      have hnum := num_64 wa.drew z
      rw [hgz] at hnum
      clear hgz
      have hbx := Keeps.heap kd hnew
      have cellsOf : ∀ wx, Keeps wa wx → wx.cell? ⟨Bx, 0, none⟩ = some (.int .i64 x) ∧ wx.cell? ⟨Bx, 1, none⟩ = some (.slice au l.length cu) := fun wx kx => by
        have hb := Keeps.heap kx hnew
        unfold World.cell?; simp only [hb]; exact ⟨rfl, rfl⟩
      have CEL := hid cellsOf
      have s0 := CEL.out _ kd
      have hposl : l.length ≤ 4096 := hfp.few
      have hrp := fun wx (kx : Keeps wa wx) => row_any _ _ pos_any wx _ l (g4.keeps kx) hfp.posM (by omega)
      have hra := fun wx (kx : Keeps wa wx) => row_any _ _ at_any wx _ l (g4.keeps kx) hfp.atM (by omega)
      have HRP := hid hrp
      have HRA := hid hra
      have hll := lebOf_len 9 g (by omega)
      have hl1 := row_len _ _ hfp.few hfp.posM
      have hl2 := row_len _ _ hfp.few hfp.atM
      have hlp := lebOf_pos g
      clear cellsOf hrp hra g3 hnew
      go_region_held_law (fun w' => w'.cell? ⟨Bx, 0, none⟩ = some (.int .i64 x) ∧ w'.cell? ⟨Bx, 1, none⟩ = some (.slice au l.length cu)) (first | exact s0 | exact s5 | exact s6 | exact s7 | exact s8 | exact s9 | exact s10 | go_keep)
        (first
          | (go_at_call 102; refine hnum.mono ?_; rintro e w5 ⟨v5, rfl, o5, k5⟩; have k05 := kd.trans k5; have s5 := CEL.out _ k05; have hr1 := HRP.out _ k05; obtain ⟨a5, c5, rfl⟩ := ownsRow_slice o5)
          | (go_at_call 103; refine hr1.mono ?_; clear hr1; rintro e w6 ⟨v6, rfl, o6, k6⟩; have k06 := k05.trans k6; have s6 := CEL.out _ k06; have hr2 := HRA.out _ k06; obtain ⟨a6, c6, rfl⟩ := ownsRow_slice o6)
          | (go_at_call 103; refine hr2.mono ?_; rintro e w7 ⟨v7, rfl, o7, k7⟩; have k07 := k06.trans k7; have s7 := CEL.out _ k07; have t7 := ownsRow_sl o7; have t6 := (ownsRow_sl o6).keeps k7; have t5 := ((ownsRow_sl o5).keeps k6).keeps k7; obtain ⟨a7, c7, rfl⟩ := ownsRow_slice o7; have hcc := concat_three w7 _ _ _ _ _ _ t5 t6 t7 23 hlp (by omega); rw [← HPO.out] at hcc)
          | (go_at_call 101; refine hcc.mono ?_; rintro e w9 ⟨v9, rfl, o9, k9⟩; have k09 := k07.trans k9; have s9 := CEL.out _ k09; have t9 := ownsRow_sl o9; obtain ⟨a9, c9, rfl⟩ := ownsRow_slice o9; have ob := ownsRow_mods oa (keeps_mods (S := fun _ => False) k09) (fun b _ => id); have hwb : w.heap.size ≤ w9.heap.size := Nat.le_trans hka.size k09.size)
          | (refine step_append_sl rfl _ _ 23 rfl w.heap.size 5 i0 (.int .u8 0) 1 1 Try.underlying23 hi hz0 hz1 hz2 rfl (by decide) _ _ _ rfl ob _ _ _ rfl t9 (bys_one _) (by unfold maxLen; omega) (by omega) hwb ?_; intro v10 w10 o10 hg10 _ _; have m10 := Mods.of_grownBy (S := fun b => (Value.slice oo (postsOf last (L.take j)).length oc).ownBlock = some b) hg10 (fun k e => e); have s10 := And.intro (m10.cell s9.1 (fun e => Nat.lt_irrefl _ (hobx _ e))) (m10.cell s9.2 (fun e => Nat.lt_irrefl _ (hobx _ e)))))
      have k10 : Keeps w w10 := (hka.trans k09).grown hg10 (hka.trans k09).size (fun k e => (ownsRow_base ho e).1)
      have e1 := s10.1
      have e2 := s10.2
      obtain ⟨a10, c10, rfl⟩ := ownsRow_slice o10
      clear s0 s5 s6 s7 s9 s10 hcc hnum
      go_wp2
      go_roundw
      case rel =>
        refine ⟨j + 1, x, by omega, by go_num, rfl, hdoc, HL1.out.symm, by rw [HMT.out, List.length_append]; omega, ?_, k10⟩
        rw [HMT.out, List.length_append, bys_append]
        exact o10
      case measure => simp [intOf]; omega
    · obtain rfl : j = L.length := by omega
      rw [List.take_length] at ho
      go_wp2
      go_ret
      refine ⟨_, rfl, ?_, hk⟩
      simpa using ho
end Go.Proofs.Ytlmlanaobhfmbaa
