/- pos, at, rises, check of package post. -/
import Derived.Test.YtlmlanaobhfmbaaPostA
import Derived.Shelf.Abstract
set_option linter.unusedSimpArgs false
set_option linter.unusedVariables false
namespace Go.Proofs.Ytlmlanaobhfmbaa
open Go.RowKit Go.Vb
def IsOf (fv : Nat) (sel : Spot → Int) : Prop := (∀ args w, (callFunc fv args).run Try.prog w = .ok (.enter fv args) w) ∧ ∀ w p, Calls Try.prog fv #[.agg #[.int .i64 p.1, .int .i64 p.2]] w fun e w' => e = .returned (.int .i64 (sel p)) ∧ Keeps w w'
theorem pos_any : IsOf 98 Prod.fst := by
  refine ⟨enters_of Try.func98 (by kernel_rfl) rfl, ?_⟩
  rintro w ⟨p, a⟩
  go_enter Try.func98, Try.ntmps98
  go_wp2
  go_ret
  exact ⟨rfl, (Below.refl _ _).alloc (Nat.le_refl _) _⟩
theorem at_any : IsOf 99 Prod.snd := by
  refine ⟨enters_of Try.func99 (by kernel_rfl) rfl, ?_⟩
  rintro w ⟨p, a⟩
  go_enter Try.func99, Try.ntmps99
  go_wp2
  go_ret
  exact ⟨rfl, (Below.refl _ _).alloc (Nat.le_refl _) _⟩
def risesB (sel : Spot → Int) : Int → List Spot → Bool
  | _, [] => true
  | last, s :: t => decide (last < sel s) && risesB sel (sel s) t
set_option maxRecDepth 100000 in
theorem rises_any (fv : Nat) (sel : Spot → Int) (hof : IsOf fv sel) (w : World) (v : Value) (l : List Spot) (hv : Sl w v 2 l.length (spotCells l)) (hl : l.length ≤ 9223372036854775807) :
    Calls Try.prog 97 #[v, .func (.func fv) #[] #[]] w fun e w' => e = .returned (.bool (risesB sel (-1) l)) ∧ Keeps w w' := by
  obtain ⟨eg, hof⟩ := hof
  obtain ⟨ao, c, rfl, h1, h2, _⟩ := hv.value
  go_enter Try.func97, Try.ntmps97
  go_wp2_with fail
  go_loopw [5, 10] (fun n i wr => ∃ (j : Nat) (last : Int), j ≤ l.length ∧ i = .int .i64 (j : Int) ∧ n = .int .i64 last ∧ risesB sel (-1) l = risesB sel last (l.drop j) ∧ Keeps w wr) (fun _ i _ => l.length - (intOf i).toNat)
  case atStart => exact ⟨0, -1, by omega, rfl, rfl, rfl, Below.refl _ _⟩
  case round =>
    obtain ⟨j, last, hj, rfl, rfl, hr, hk⟩ := hrel
    have HR := hid hr
    clear hr
    by_cases hlt : j < l.length
    · have hst := hv.keeps hk
      obtain ⟨b, off, rfl, hb, hc⟩ := spots_open hst (by omega)
      obtain ⟨c1, c2⟩ := hc j hlt
      obtain ⟨p, hp⟩ : ∃ p, p = l[j]'hlt := ⟨_, rfl⟩
      have hdr : l.drop j = p :: l.drop (j + 1) := by rw [hp]; exact List.drop_eq_getElem_cons hlt
      have HD := hid hdr
      rw [← hp] at c1 c2
      clear hc hdr hp hst
      go_wp2_with fail
      obtain ⟨x, hx⟩ : ∃ x, x = sel p := ⟨_, rfl⟩
      have hof' := fun w => hof w p
      rw [← hx] at hof'
      have HX := hid hx
      clear hx
      have ka : Keeps wr (wr.alloc (.cells #[.int .i64 p.1, .int .i64 p.2] 87)) := (Below.refl _ _).alloc (Nat.le_refl _) _
      have hnew := heap_alloc_new wr (.cells #[.int .i64 p.1, .int .i64 p.2] 87)
      refine (hof' _).mono ?_
      rintro e w2 ⟨rfl, k2⟩
      have hb2 := Keeps.heap k2 hnew
      have d0 : w2.cell? ⟨wr.heap.size, 0, none⟩ = some (.int .i64 p.1) := by unfold World.cell?; simp only [hb2]; rfl
      have d1 : w2.cell? ⟨wr.heap.size, 1, none⟩ = some (.int .i64 p.2) := by unfold World.cell?; simp only [hb2]; rfl
      have hk2 := (hk.trans ka).trans k2
      by_cases hle : x ≤ last
      · have hf : risesB sel last (l.drop j) = false := by
          rw [HD.out]; unfold risesB; rw [← HX.out]; simp [show ¬ last < x by omega]
        have HF := hid hf
        clear hf
        go_wp2
        go_ret
        exact ⟨by rw [HR.out, HF.out]; rfl, hk2⟩
      · have hle' : last < x := by omega
        have hf : risesB sel last (l.drop j) = risesB sel x (l.drop (j + 1)) := by
          rw [HD.out, risesB, ← HX.out]; simp [hle']
        have HF := hid hf
        clear hf
        go_wp2_with fail
        refine (hof' _).mono ?_
        rintro e w3 ⟨rfl, k3⟩
        go_wp2
        go_roundw
        case rel => exact ⟨j + 1, x, by omega, by go_num, rfl, by rw [HR.out, HF.out], hk2.trans k3⟩
        case measure => simp [intOf]; omega
    · have hd : l.drop j = [] := List.drop_eq_nil_of_le (by omega)
      have HD := hid hd
      clear hd
      go_wp2
      go_ret
      refine ⟨?_, hk⟩
      rw [HR.out, HD.out]; rfl
theorem chk_one (w : World) (d : Int) (ao : Option Addr) (n c : Nat) :
    Calls Try.prog 96 #[.agg #[.int .i64 d, .slice ao n c]] w fun e w' => e = .returned (.bool (decide (4096 < n))) ∧ Keeps w w' := by
  go_enter Try.func96, Try.ntmps96
  go_wp2
  go_ret
  refine ⟨?_, (Below.refl _ _).alloc (Nat.le_refl _) _⟩
  by_cases h : 4096 < n
  · simp [h, show (4096 : Int) < (n : Int) by omega]
  · simp [h, show ¬ (4096 : Int) < (n : Int) by omega]
def anyBig (L : List Post) : Bool := L.any fun p => decide (4096 < p.2.length)
theorem anyBig_take (L : List Post) (j : Nat) (h : j < L.length) (hn : anyBig (L.take j) = false) (hp : ¬ 4096 < (L[j]'h).2.length) : anyBig (L.take (j + 1)) = false := by
  unfold anyBig at *
  rw [List.take_add_one, List.getElem?_eq_getElem h, Option.toList_some, List.any_append, hn]
  simp [hp]
theorem anyBig_has (L : List Post) (j : Nat) (h : j < L.length) (hp : 4096 < (L[j]'h).2.length) : anyBig L = true := by
  unfold anyBig
  rw [List.any_eq_true]
  exact ⟨_, List.getElem_mem h, by simpa using hp⟩
set_option maxRecDepth 100000 in
theorem index_any (w : World) (v : Value) (L : List Post) (cs : List Value) (hP : Posts w v L cs) (hL : L.length ≤ 9223372036854775807) :
    Calls Try.prog 117 #[v, .func (.func 96) #[] #[]] w fun e w' => (∃ r : Int, e = .returned (.int .i64 r) ∧ decide (0 ≤ r) = anyBig L) ∧ Keeps w w' := by
  obtain ⟨ao, c, rfl, h1, h2, _⟩ := hP.outer.value
  go_enter Try.func117, Try.ntmps117
  go_wp2_with fail
  go_loopw [5, 8] (fun _ i wr => ∃ j : Nat, j ≤ L.length ∧ i = .int .i64 (j : Int) ∧ anyBig (L.take j) = false ∧ Keeps w wr) (fun _ i _ => L.length - (intOf i).toNat)
  case atStart => exact ⟨0, by omega, rfl, rfl, Below.refl _ _⟩
  case round =>
    obtain ⟨j, hj, rfl, hno, hk⟩ := hrel
    have HNO := hid hno
    clear hno
    by_cases hlt : j < L.length
    · obtain ⟨b, off, rfl, hb, hc⟩ := (hP.keeps hk).open (by omega)
      obtain ⟨c0, u, c1, g3⟩ := hc j hlt
      obtain ⟨au, cu, rfl, hu1, hu2, _⟩ := g3.value
      have hmore := anyBig_take L j hlt HNO.out
      have hhas := anyBig_has L j hlt
      obtain ⟨d, hd⟩ : ∃ d, d = (L[j]'hlt).2.length := ⟨_, rfl⟩
      obtain ⟨x, hx⟩ : ∃ x, x = (L[j]'hlt).1 := ⟨_, rfl⟩
      rw [← hd] at c1 hmore hhas
      rw [← hx] at c0
      clear hc g3 hd hx
      go_wp2_with fail
      refine (chk_one _ x au d cu).mono ?_
      rintro e w2 ⟨rfl, k2⟩
      by_cases hbig : 4096 < d
      · have HB := hid (hhas hbig)
        clear hmore hhas
        go_wp2
        go_ret
        refine ⟨⟨_, rfl, ?_⟩, hk.trans k2⟩
        rw [HB.out]; simp
      · have HB := hid (hmore hbig)
        clear hmore hhas
        go_wp2
        go_roundw
        case rel => exact ⟨j + 1, by omega, by go_num, HB.out, hk.trans k2⟩
        case measure => simp [intOf]; omega
    · obtain rfl : j = L.length := by omega
      go_wp2
      go_ret
      refine ⟨⟨-1, rfl, ?_⟩, hk⟩
      have := HNO.out
      rw [List.take_length] at this
      rw [this]; rfl
theorem contains_any (w : World) (v : Value) (L : List Post) (cs : List Value) (hP : Posts w v L cs) (hL : L.length ≤ 9223372036854775807) :
    Calls Try.prog 95 #[v, .func (.func 96) #[] #[]] w fun e w' => e = .returned (.bool (anyBig L)) ∧ Keeps w w' := by
  have hidx := index_any w v L cs hP hL
  obtain ⟨ao, c, rfl, h1, h2, _⟩ := hP.outer.value
  go_enter Try.func95, Try.ntmps95
  go_wp2_with fail
  refine hidx.mono ?_
  rintro e w1 ⟨⟨r, rfl, hr⟩, k1⟩
  have HR := hid hr
  clear hr
  go_wp2
  go_ret
  exact ⟨by rw [← HR.out]; rfl, k1⟩
end Go.Proofs.Ytlmlanaobhfmbaa
