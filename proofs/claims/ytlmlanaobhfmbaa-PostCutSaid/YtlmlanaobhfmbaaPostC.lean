/- check of package post. -/
import Derived.Test.YtlmlanaobhfmbaaPostB
set_option linter.unusedSimpArgs false
set_option linter.unusedVariables false
namespace Go.Proofs.Ytlmlanaobhfmbaa
open Go.RowKit Go.Vb
def okPost (last : Int) (p : Post) : Bool := decide (last < p.1) && decide (p.1 ≤ 4294967296) && !(p.2.isEmpty) && risesB Prod.fst (-1) p.2 && risesB Prod.snd (-1) p.2
def okFrom : Int → List Post → Bool
  | _, [] => true
  | last, p :: t => okPost last p && okFrom p.1 t
def checkE (L : List Post) : Nat := if anyBig L = true ∨ 4096 < L.length then 2 else if okFrom (-1) L = true then 0 else 1
set_option maxRecDepth 100000 in
set_option maxHeartbeats 1000000 in
theorem check_any (w : World) (v : Value) (L : List Post) (cs : List Value) (hP : Posts w v L cs) :
    Calls Try.prog 59 #[v] w fun e w' => e = .returned (.int .i64 (checkE L : Int)) ∧ Keeps w w' := by
  have hcon := contains_any w v L cs hP
  obtain ⟨ao, c, rfl, h1, h2, _⟩ := hP.outer.value
  have hLm : L.length ≤ 9223372036854775807 := by unfold maxLen at h2; omega
  have hcon := hcon hLm
  go_enter Try.func59, Try.ntmps59
  go_wp2_with fail
  refine hcon.mono ?_
  rintro e w1 ⟨rfl, k1⟩
  cases hbig : anyBig L with
  | true =>
    have HE : Hid (checkE L = 2) := by unfold checkE; simp [hbig, Hid]
    clear hbig hcon
    go_wp2
    go_ret
    exact ⟨by rw [HE.out]; rfl, k1⟩
  | false =>
    by_cases hlong : 4096 < L.length
    · have hlong' : (4096 : Int) < (L.length : Int) := by omega
      have HE : Hid (checkE L = 2) := by unfold checkE; simp [hlong, Hid]
      clear hbig hcon
      go_wp2
      go_ret
      exact ⟨by rw [HE.out]; rfl, k1⟩
    · have hlong' : (L.length : Int) ≤ 4096 := by omega
      have HE : Hid (checkE L = if okFrom (-1) L = true then 0 else 1) := by unfold checkE; simp [hbig, hlong, Hid]
      have hsm : ∀ j (h : j < L.length), (L[j]'h).2.length ≤ 4096 := fun j h => by
        by_cases hh : 4096 < (L[j]'h).2.length
        · have := anyBig_has L j h hh; rw [hbig] at this; cases this
        · omega
      have HSM := hid hsm
      clear hbig hcon hsm
      go_wp2_with fail
      go_loopw [4, 17] (fun n i wr => ∃ (j : Nat) (last : Int), j ≤ L.length ∧ i = .int .i64 (j : Int) ∧ n = .int .i64 last ∧ okFrom (-1) L = okFrom last (L.drop j) ∧ Keeps w wr) (fun _ i _ => L.length - (intOf i).toNat)
      case atStart => exact ⟨0, -1, by omega, rfl, rfl, rfl, k1⟩
      case round =>
        obtain ⟨j, last, hj, rfl, rfl, hr, hk⟩ := hrel
        have HR := hid hr
        clear hr
        by_cases hlt : j < L.length
        · obtain ⟨b, off, rfl, hb, hc⟩ := (hP.keeps hk).open (by omega)
          obtain ⟨c0, u, c1, g3⟩ := hc j hlt
          have hsl := HSM.out j hlt
          have hdr : L.drop j = L[j]'hlt :: L.drop (j + 1) := List.drop_eq_getElem_cons hlt
          obtain ⟨x, l, hxl⟩ : ∃ x l, L[j]'hlt = (x, l) := ⟨_, _, rfl⟩
          rw [hxl] at c0 g3 hsl hdr
          simp only at c0 g3 hsl
          have HD := hid hdr
          obtain ⟨au, cu, rfl, hu1, hu2, _⟩ := g3.value
          clear hc hdr hxl
          have ka : Keeps wr (wr.alloc (.cells #[.int .i64 x, .slice au l.length cu] 36)) := (Below.refl _ _).alloc (Nat.le_refl _) _
          have hnew := heap_alloc_new wr (.cells #[.int .i64 x, .slice au l.length cu] 36)
          have k4 := hk.trans ka
          have g4 := g3.keeps ka
          have hp1 := fun wx (kx : Keeps _ wx) => rises_any _ _ pos_any wx _ l (g4.keeps kx) (by omega)
          have hp2 := fun wx (kx : Keeps _ wx) => rises_any _ _ at_any wx _ l (g4.keeps kx) (by omega)
          have bad : okPost last (x, l) = false → checkE L = 1 := fun h => by
            rw [HE.out, HR.out, HD.out, okFrom, h]; simp
          have good : okPost last (x, l) = true → okFrom (-1) L = okFrom x (L.drop (j + 1)) := fun h => by
            rw [HR.out, HD.out, okFrom, h]; simp
          have BAD := hid bad
          have GOOD := hid good
          clear bad good
          by_cases q1 : x ≤ last
          · have HB := hid (BAD.out (by simp [okPost, show ¬ last < x by omega]))
            go_wp2
            go_ret
            exact ⟨by rw [HB.out]; rfl, k4⟩
          · by_cases q2 : 4294967296 < x
            · have HB := hid (BAD.out (by simp [okPost, show ¬ x ≤ 4294967296 by omega]))
              have q1' : last < x := by omega
              go_wp2
              go_ret
              exact ⟨by rw [HB.out]; rfl, k4⟩
            · have q1' : last < x := by omega
              have q2' : x ≤ 4294967296 := by omega
              by_cases q3 : l = []
              · subst q3
                have HB := hid (BAD.out (by simp [okPost]))
                go_wp2
                go_ret
                exact ⟨by rw [HB.out]; rfl, k4⟩
              · have hpos : 0 < l.length := List.length_pos_iff.2 q3
                have hpos' : ((l.length : Int) == 0) = false := by rw [beq_eq_false_iff_ne]; omega
                have hemp : l.isEmpty = false := by cases l with | nil => exact absurd rfl q3 | cons => rfl
                have HEM := hid hemp
                clear hemp q3
                go_wp2_with fail
                refine (hp1 _ (Below.refl _ _)).mono ?_
                rintro e w2 ⟨rfl, k2⟩
                have hb2 := Keeps.heap k2 hnew
                have d0 : w2.cell? ⟨wr.heap.size, 0, none⟩ = some (.int .i64 x) := by unfold World.cell?; simp only [hb2]; rfl
                have d1 : w2.cell? ⟨wr.heap.size, 1, none⟩ = some (.slice au l.length cu) := by unfold World.cell?; simp only [hb2]; rfl
                cases q4 : risesB Prod.fst (-1) l with
                | false =>
                  have HB := hid (BAD.out (by simp [okPost, q4]))
                  clear q4 hp1 hp2
                  go_wp2
                  go_ret
                  exact ⟨by rw [HB.out]; rfl, k4.trans k2⟩
                | true =>
                  go_wp2_with fail
                  refine (hp2 _ k2).mono ?_
                  rintro e w3 ⟨rfl, k3⟩
                  have d0' := k3.cell d0
                  cases q5 : risesB Prod.snd (-1) l with
                  | false =>
                    have HB := hid (BAD.out (by simp [okPost, q5]))
                    clear q4 q5 hp1 hp2
                    go_wp2
                    go_ret
                    exact ⟨by rw [HB.out]; rfl, (k4.trans k2).trans k3⟩
                  | true =>
                    have HG := hid (GOOD.out (by simp [okPost, q4, q5, q1', q2', HEM.out]))
                    clear q4 q5 hp1 hp2
                    go_wp2
                    go_roundw
                    case rel => exact ⟨j + 1, x, by omega, by go_num, rfl, HG.out, (k4.trans k2).trans k3⟩
                    case measure => simp [intOf]; omega
        · have hd : L.drop j = [] := List.drop_eq_nil_of_le (by omega)
          have hz : checkE L = 0 := by rw [HE.out, HR.out, hd]; simp [okFrom]
          have HZ := hid hz
          clear hd hz
          go_wp2
          go_ret
          exact ⟨by rw [HZ.out]; rfl, hk⟩
end Go.Proofs.Ytlmlanaobhfmbaa
