/- The live question of the laws of post. -/
import Derived.Test.YtlmlanaobhfmbaaGetD
set_option linter.unusedSimpArgs false
set_option linter.unusedVariables false
namespace Go.Proofs.Ytlmlanaobhfmbaa
open Go.RowKit Go.Vb
def hL : List Post := [(3, [(2, 5)])]
theorem putOf_nil : putOf [] = [0] := by
  rw [putOf_flat, flat, List.append_nil, List.length_nil, lebOf_end 0 (by omega)]; rfl
theorem row_2 : rowOf [2] = [1, 2] := by
  unfold rowOf
  rw [if_pos (by decide), List.length_singleton, lebOf_end 1 (by omega), gapsOf, gapsOf, lebOf_end _ (by decide)]
  rfl
theorem row_5 : rowOf [5] = [1, 5] := by
  unfold rowOf
  rw [if_pos (by decide), List.length_singleton, lebOf_end 1 (by omega), gapsOf, gapsOf, lebOf_end _ (by decide)]
  rfl
theorem post_hL : postOf (-1) (3, [(2, 5)]) = [3, 1, 2, 1, 5] := by
  unfold postOf
  rw [show ([(2, 5)] : List Spot).map Prod.fst = [2] from rfl, show ([(2, 5)] : List Spot).map Prod.snd = [5] from rfl, row_2, row_5, lebOf_end _ (by decide)]
  rfl
theorem posts_hL : postsOf (-1) hL = [3, 1, 2, 1, 5] := by
  unfold hL; rw [postsOf, postsOf, post_hL]; rfl
theorem last_hL : lastOf (-1) hL = 3 := rfl
theorem parts_hL (E : Int → List Post → List UInt8) (size : Nat) (hs : 0 < size) : partsOf E size (-1) hL = headOf (-1) hL (E (-1) hL) := by
  have h1 : hL.take size = hL := List.take_of_length_le (by simp [hL]; omega)
  have h2 : hL.drop size = [] := List.drop_eq_nil_of_le (by simp [hL]; omega)
  rw [partsOf_step E size hs (-1) hL (by simp [hL]), h1, h2, partsOf_nil E size hs, List.append_nil]
theorem putOf_hL : putOf hL = [1, 3, 7, 3, 5, 3, 1, 2, 1, 5] := by
  unfold putOf
  have e1 : partsOf postsOf 4 (-1) hL = [3, 5, 3, 1, 2, 1, 5] := by
    rw [parts_hL _ _ (by omega), posts_hL]
    unfold headOf
    rw [last_hL, lebOf_end _ (by decide), lebOf_end _ (by decide)]
    rfl
  rw [parts_hL _ _ (by omega), e1]
  unfold headOf
  rw [last_hL, lebOf_end _ (by decide), lebOf_end _ (by decide), lebOf_end _ (by decide)]
  rfl
theorem good_hL : GoodP hL := ⟨by decide, by
  intro p hp
  rw [show p = (3, [(2, 5)]) from by simpa [hL] using hp]
  exact ⟨by simp, by simp, by simp⟩⟩
theorem not_one (L : List Post) (h : GoodP L) : ([1] : List UInt8) ≠ putOf L := by
  intro e
  rw [putOf_flat] at e
  have h1 : ([1] : List UInt8) = lebOf 1 ++ [] := by rw [lebOf_end 1 (by omega)]; rfl
  obtain ⟨q1, q2⟩ := leb_inj _ _ _ _ (by omega) (by have := (checkE_zero h.ok).2.1; omega) (h1.symm.trans e)
  match L, q1, q2 with
  | p :: t, _, q2 =>
    rw [flat] at q2
    have := congrArg List.length q2
    unfold h16 head16 at this
    simp only [Nat.zero_mod, if_true, List.length_append, List.length_nil] at this
    have := lebOf_pos (u64Of (lastOf (-1) ((p :: t).take 16) - -1 - 1))
    omega
end Go.Proofs.Ytlmlanaobhfmbaa
