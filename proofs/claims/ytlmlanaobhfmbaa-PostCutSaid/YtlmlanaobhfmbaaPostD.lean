/- number, leb.PutRising, row. -/
import Derived.Test.YtlmlanaobhfmbaaPostB
import Derived.Test.YtlmlanaobhfmbaaLebC
import Derived.Deep.Onto
set_option linter.unusedSimpArgs false
set_option linter.unusedVariables false
namespace Go.Proofs.Ytlmlanaobhfmbaa
open Go.RowKit Go.Vb
theorem _root_.Go.Vb.Keeps.trans' {w a b : World} (h : Keeps w a) (k : Below w.heap.size a b) : Keeps w b := Below.trans h k
theorem num_int (w : World) (n : Nat) (hn : n ≤ 9223372036854775807) :
    Calls Try.prog 63 #[.int .i64 (n : Int)] w fun e w' => ∃ v', e = .returned v' ∧ w'.ownsRow w.heap.size 5 1 v' (lebOf n).length (bys (lebOf n)) ∧ Keeps w w' := by
  have h := leb_Put w n (by omega)
  have hw : IntKind.u64.wrap (n : Int) = (n : Int) := IntWalk.u64_in _ (by omega)
  go_enter Try.func63, Try.ntmps63
  go_wp2_with fail
  refine h.mono ?_
  rintro e w1 ⟨v1, rfl, o1, k1⟩
  obtain ⟨ao, c, rfl⟩ := ownsRow_slice o1
  go_wp2
  go_ret
  exact ⟨_, rfl, o1, k1⟩
def u64Of (z : Int) : Nat := (z % 18446744073709551616).toNat
theorem u64Of_lt (z : Int) : u64Of z ≤ 18446744073709551615 := by unfold u64Of; omega
theorem u64Of_wrap (z : Int) : IntKind.u64.wrap z = (u64Of z : Int) := by unfold u64Of; rw [IntKind.wrap_u64]; omega
theorem num_64 (w : World) (z : Int) :
    Calls Try.prog 102 #[.int .i64 z] w fun e w' => ∃ v', e = .returned v' ∧ w'.ownsRow w.heap.size 5 1 v' (lebOf (u64Of z)).length (bys (lebOf (u64Of z))) ∧ Keeps w w' := by
  have h := leb_Put w (u64Of z) (u64Of_lt z)
  have hw := u64Of_wrap z
  go_enter Try.func102, Try.ntmps102
  go_wp2_with fail
  refine h.mono ?_
  rintro e w1 ⟨v1, rfl, o1, k1⟩
  obtain ⟨ao, c, rfl⟩ := ownsRow_slice o1
  go_wp2
  go_ret
  exact ⟨_, rfl, o1, k1⟩
theorem info64 : (Try.prog.info? 2).map (fun i => (i.zero, i.size, i.bytes)) = some (some (.int .i64 0), 1, 8) := by kernel_rfl
def gapsOf : Int → List Int → List UInt8
  | _, [] => []
  | last, x :: t => lebOf (x - last - 1).toNat ++ gapsOf x t
def risesL : Int → List Int → Bool
  | _, [] => true
  | last, x :: t => decide (last < x) && risesL x t
def rowOf (l : List Int) : List UInt8 := if risesL (-1) l = true then lebOf l.length ++ gapsOf (-1) l else []
def riseE (l : List Int) : Nat := if risesL (-1) l = true then 0 else 1
theorem risesL_snoc : ∀ (a : List Int) (x last : Int), risesL last (a ++ [x]) = (risesL last a && decide (a.getLastD last < x))
  | [], x, last => by simp [risesL]
  | y :: t, x, last => by
    have e : (y :: t).getLastD last = t.getLastD y := by cases t <;> simp [List.getLastD]
    simp only [List.cons_append, risesL, risesL_snoc t x y, e, Bool.and_assoc]
theorem risesL_map (sel : Spot → Int) : ∀ (l : List Spot) (last : Int), risesL last (l.map sel) = risesB sel last l
  | [], _ => rfl
  | s :: t, last => by simp only [List.map_cons, risesL, risesB, risesL_map sel t]
theorem gaps_le : ∀ (l : List Int) (last : Int), risesL last l = true → (∀ x ∈ l, x ≤ 9223372036854775807) → -1 ≤ last → (gapsOf last l).length ≤ 10 * l.length
  | [], _, _, _, _ => by simp [gapsOf]
  | x :: t, last, h, hx, hl => by
    simp only [risesL, Bool.and_eq_true, decide_eq_true_eq] at h
    have h1 := gaps_le t x h.2 (fun y hy => hx y (by simp [hy])) (by omega)
    have h2 := lebOf_len 9 (x - last - 1).toNat (by have := hx x (by simp); omega)
    simp only [gapsOf, List.length_append, List.length_cons]
    omega
def preGaps (l : List Int) (j : Nat) : List UInt8 := lebOf l.length ++ gapsOf (-1) (l.take j)
theorem gaps_append : ∀ (a b : List Int) (last : Int), gapsOf last (a ++ b) = gapsOf last a ++ gapsOf (a.getLastD last) b
  | [], b, last => by simp [gapsOf]
  | x :: t, b, last => by
    simp only [List.cons_append, gapsOf, gaps_append t b x, List.append_assoc]
    congr 2
    cases t <;> simp [List.getLastD]
theorem gaps_take (l : List Int) (j : Nat) (h : j < l.length) (last : Int) (hl : last = (l.take j).getLastD (-1)) : preGaps l (j + 1) = preGaps l j ++ lebOf (l[j]'h - last - 1).toNat := by
  unfold preGaps
  rw [List.take_add_one, List.getElem?_eq_getElem h, Option.toList_some, gaps_append, ← hl, ← List.append_assoc]
  simp [gapsOf]
theorem getLastD_take (l : List Int) (j : Nat) (h : j < l.length) (d : Int) : (l.take (j + 1)).getLastD d = l[j]'h := by
  rw [List.take_add_one, List.getElem?_eq_getElem h, Option.toList_some]
  exact List.getLastD_concat ..
theorem rises_drop : ∀ (l : List Int) (last : Int) (j : Nat) (h : j < l.length), risesL last l = true → (l.take j).getLastD last < l[j]'h ∧ last ≤ (l.take j).getLastD last
  | x :: t, last, 0, h, hr => by simp [risesL] at hr ⊢; exact hr.1
  | x :: t, last, j + 1, h, hr => by
    simp only [risesL, Bool.and_eq_true, decide_eq_true_eq] at hr
    have := rises_drop t x j (by simpa using h) hr.2
    simp only [List.take_succ_cons, List.getElem_cons_succ]
    have e : (x :: t.take j).getLastD last = (t.take j).getLastD x := by cases t.take j <;> simp [List.getLastD]
    rw [e]
    exact ⟨this.1, by omega⟩
set_option maxRecDepth 100000 in
set_option maxHeartbeats 1000000 in
theorem putRising_any (w : World) (v : Value) (l : List Int) (hv : Sl w v 1 l.length (ints .i64 l)) (hx : ∀ x ∈ l, x ≤ 9223372036854775807) (hl : l.length ≤ 1000000) :
    Calls Try.prog 120 #[v] w fun e w' => ∃ v', e = .returned (.tuple #[v', .int .i64 (riseE l : Int)]) ∧ w'.ownsRow w.heap.size 5 1 v' (rowOf l).length (bys (rowOf l)) ∧ Keeps w w' := by
  have hput := leb_Put w l.length (by omega)
  have hw : IntKind.u64.wrap (l.length : Int) = (l.length : Int) := IntWalk.u64_in _ (by omega)
  have hpl : ∀ j, risesL (-1) (l.take j) = true → (preGaps l j).length ≤ 10 + 10 * 1000000 := fun j h1 => by
    have h2 := gaps_le (l.take j) (-1) h1 (fun x hxx => hx x (List.mem_of_mem_take hxx)) (by omega)
    have h3 := lebOf_len 9 l.length (by omega)
    have h4 : (l.take j).length ≤ l.length := by simp; omega
    unfold preGaps
    rw [List.length_append]
    omega
  have hdr := rises_drop l (-1)
  have HX := hid hx
  have HPL := hid hpl
  have HDR := hid hdr
  obtain ⟨ao, c, rfl, h1, h2, _⟩ := hv.value
  clear hx hpl hdr
  go_enter Try.func120, Try.ntmps120
  go_wp2_with fail
  refine hput.mono ?_
  rintro e w1 ⟨v1, rfl, o1, k1⟩
  have o1' : w1.ownsRow w.heap.size 5 1 v1 (preGaps l 0).length (bys (preGaps l 0)) := by simpa [preGaps, gapsOf] using o1
  obtain ⟨a1, c1, rfl⟩ := ownsRow_slice o1
  clear o1
  go_wp2_with fail
  go_loopw [4, 5, 7, 14] (fun b n _ i wr => ∃ (j : Nat) (last : Int), j ≤ l.length ∧ i = .int .i64 (j : Int) ∧ n = .int .i64 last ∧ last = (l.take j).getLastD (-1) ∧ -1 ≤ last ∧ risesL (-1) (l.take j) = true ∧ wr.ownsRow w.heap.size 5 1 b (preGaps l j).length (bys (preGaps l j)) ∧ Keeps w wr) (fun _ _ _ i _ => l.length - (intOf i).toNat)
  case atStart => exact ⟨0, -1, by omega, rfl, rfl, rfl, by omega, rfl, by simpa [preGaps, gapsOf] using o1', k1⟩
  case round =>
    obtain ⟨j, last, hj, rfl, rfl, hla, hl1, hri, ho, hk⟩ := hrel
    have HLA := hid hla
    have HRI := hid hri
    obtain ⟨ob, oc, rfl⟩ := ownsRow_slice ho
    clear hla hri
    by_cases hlt : j < l.length
    · obtain ⟨b, off, rfl, _, hc⟩ := (hv.keeps hk).open (by rw [ints_length]; omega)
      have hcell := hc j (.int .i64 (l[j]'hlt)) (by simp [ints, hlt])
      have q3 := HX.out _ (List.getElem_mem hlt)
      have hg := gaps_take l j hlt last HLA.out
      have hgl := getLastD_take l j hlt (-1)
      have hsn : risesL (-1) (l.take (j + 1)) = (risesL (-1) (l.take j) && decide (last < l[j]'hlt)) := by
        rw [List.take_add_one, List.getElem?_eq_getElem hlt, Option.toList_some, risesL_snoc, ← HLA.out]
      have hwh : risesL (-1) l = true → last < l[j]'hlt := fun h => by have := (HDR.out j hlt h).1; rw [← HLA.out] at this; exact this
      obtain ⟨x, hxx⟩ : ∃ x, x = l[j]'hlt := ⟨_, rfl⟩
      rw [← hxx] at hcell q3 hg hgl hsn hwh
      have HWH := hid hwh
      have HSN := hid hsn
      clear hwh hsn
      by_cases hbad : x ≤ last
      · have hno : risesL (-1) l = false := by
          cases h : risesL (-1) l with
          | false => rfl
          | true => have := HWH.out h; omega
        have HNO := hid hno
        clear hc hxx hg hgl hno
        go_wp2
        go_ret2
        refine ⟨.slice none 0 0, ?_, ?_, hk⟩
        · unfold riseE; rw [HNO.out]; rfl
        · unfold rowOf; rw [HNO.out]; exact World.ownsRow_nil _ _ _ _
      · have q1 : last < x := by omega
        obtain ⟨g, hgg⟩ : ∃ g, g = (x - last - 1).toNat := ⟨_, rfl⟩
        rw [← hgg] at hg
        have hgI : x - last - 1 = (g : Int) := by omega
        have hgn : g ≤ 9223372036854775807 := by omega
        obtain ⟨y, hy⟩ : ∃ y, IntKind.i64.wrap (x - last) = y := ⟨_, rfl⟩
        have hy2 : IntKind.i64.wrap (y - 1) = (g : Int) := by rw [← hy, IntKind.wrap_i64, IntKind.wrap_i64]; omega
        have hu : IntKind.u64.wrap (g : Int) = (g : Int) := IntWalk.u64_in _ (by omega)
        have hle := HPL.out j HRI.out
        have hri1 : risesL (-1) (l.take (j + 1)) = true := by rw [HSN.out, HRI.out]; simp [q1]
        have HRI1 := hid hri1
        have HG := hid hg
        have HGL := hid hgl
        have hput2 := leb_put w.heap.size wr _ _ _ g ho hk.size (by omega) (by omega)
        clear hc hxx hgg hg hgl hgI hri1
        go_wp2_with fail
        refine hput2.mono ?_
        rintro e w3 ⟨v3, rfl, o3, b3⟩
        have k3 : Keeps w w3 := hk.trans' b3
        obtain ⟨a3, c3, rfl⟩ := ownsRow_slice o3
        go_wp2
        go_roundw
        case rel =>
          refine ⟨j + 1, x, by omega, by go_num, rfl, HGL.out.symm, by omega, HRI1.out, ?_, k3⟩
          rw [HG.out, List.length_append, bys_append]
          exact o3
        case measure => simp [intOf]; omega
    · obtain rfl : j = l.length := by omega
      have hri := HRI.out
      rw [List.take_length] at hri
      have HRL := hid hri
      clear hri
      go_wp2
      go_ret2
      have e : preGaps l l.length = rowOf l := by unfold preGaps rowOf; rw [if_pos HRL.out, List.take_length]
      refine ⟨.slice ob (preGaps l l.length).length oc, by unfold riseE; rw [HRL.out]; rfl, ?_, hk⟩
      rw [← e]
      exact ho
set_option maxRecDepth 100000 in
set_option maxHeartbeats 1000000 in
theorem row_any (fv : Nat) (sel : Spot → Int) (hof : IsOf fv sel) (w : World) (v : Value) (l : List Spot) (hv : Sl w v 2 l.length (spotCells l)) (hx : ∀ s ∈ l, sel s ≤ 9223372036854775807) (hl : l.length ≤ 1000000) :
    Calls Try.prog 103 #[v, .func (.func fv) #[] #[]] w fun e w' => ∃ v', e = .returned v' ∧ w'.ownsRow w.heap.size 5 1 v' (rowOf (l.map sel)).length (bys (rowOf (l.map sel))) ∧ Keeps w w' := by
  obtain ⟨eg, hof⟩ := hof
  obtain ⟨i0, hi, hz0, hz1, hz2⟩ := info_parts info64
  have hpr := fun w v (h : Sl w v 1 (l.map sel).length (ints .i64 (l.map sel))) => putRising_any w v (l.map sel) h (by intro x hx'; obtain ⟨s, hs, rfl⟩ := List.mem_map.1 hx'; exact hx s hs) (by simpa using hl)
  have hml : (l.map sel).length = l.length := by simp
  generalize hM : l.map sel = M at *
  obtain ⟨ao, c, rfl, h1, h2, _⟩ := hv.value
  have HPR := hid hpr
  have HMM := hid hM
  clear hpr hM hx
  go_enter Try.func103, Try.ntmps103
  go_wp2_with fail
  go_loopw [5, 7, 12] (fun o _ i wr => ∃ j : Nat, j ≤ l.length ∧ i = .int .i64 (j : Int) ∧ wr.ownsRow w.heap.size 2 1 o j (ints .i64 (M.take j)) ∧ Keeps w wr) (fun _ _ i _ => l.length - (intOf i).toNat)
  case atStart => exact ⟨0, by omega, rfl, World.ownsRow_nil _ _ _ _, Below.refl _ _⟩
  case round =>
    obtain ⟨j, hj, rfl, ho, hk⟩ := hrel
    obtain ⟨ob, oc, rfl⟩ := ownsRow_slice ho
    by_cases hlt : j < l.length
    · have hst := hv.keeps hk
      obtain ⟨b, off, rfl, hb, hc⟩ := spots_open hst (by omega)
      obtain ⟨c1, c2⟩ := hc j hlt
      obtain ⟨p, hp⟩ : ∃ p, p = l[j]'hlt := ⟨_, rfl⟩
      have hmt : M.take (j + 1) = M.take j ++ [sel p] := by
        rw [hp, ← HMM.out, List.take_add_one, List.getElem?_eq_getElem (by simpa using hlt), Option.toList_some, List.getElem_map]
      have HMT := hid hmt
      rw [← hp] at c1 c2
      clear hc hp hst hmt
      obtain ⟨x, hx⟩ : ∃ x, x = sel p := ⟨_, rfl⟩
      have hof' := fun w => hof w p
      rw [← hx] at hof' HMT
      clear hx
      have ka : Keeps wr (wr.alloc (.cells #[.int .i64 p.1, .int .i64 p.2] 87)) := (Below.refl _ _).alloc (Nat.le_refl _) _
      go_wp2_with fail
      refine (hof' _).mono ?_
      rintro e w2 ⟨rfl, k2⟩
      have hk2 := (hk.trans ka).trans k2
      have o2 := ownsRow_mods ho (keeps_mods (S := fun _ => False) (ka.trans k2)) (fun b _ => id)
      have hwk := hk2.size
      go_wp2_with (at_builtin; refine wpList_append_sl _ rfl _ _ 42 rfl w.heap.size 2 i0 (.int .i64 0) 1 8 Try.underlying42 hi hz0 hz1 hz2 rfl (by decide) _ _ _ rfl (o2.alloc _) _ 1 [.int .i64 x] rfl (sl_one _ _ _) (by simp [Value.oneCell']) (by unfold maxLen; omega) (by omega) (by simp; omega) ?_)
      intro v3 w3 o3 hg3 _ _
      have k3 : Keeps w w3 := (hk2.trans ((Below.refl _ _).alloc (Nat.le_refl _) _)).grown hg3 (by simp; omega) (fun k e => (ownsRow_base ho e).1)
      obtain ⟨a3, c3, rfl⟩ := ownsRow_slice o3
      go_wp2
      go_roundw
      case rel => exact ⟨j + 1, by omega, by go_num, by rw [HMT.out, ints_append]; exact o3, k3⟩
      case measure => simp [intOf]; omega
    · obtain rfl : j = l.length := by omega
      rw [← hml, List.take_length] at ho
      have hp2 := HPR.out wr _ (ownsRow_sl ho)
      rw [hml] at hp2
      go_wp2_with fail
      refine hp2.mono ?_
      rintro e w2 ⟨v2, rfl, o2, k2⟩
      have hsz := hk.size
      obtain ⟨a2, c2, rfl⟩ := ownsRow_slice o2
      go_wp2
      go_ret
      exact ⟨_, rfl, Go.World.ownsRow.mono o2 hsz, hk.trans k2⟩
end Go.Proofs.Ytlmlanaobhfmbaa
