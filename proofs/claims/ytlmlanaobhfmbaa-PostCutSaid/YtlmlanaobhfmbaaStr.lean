/- string(b) of []byte. -/
import Derived.Test.YtlmlanaobhfmbaaBase
import Derived.Laws.IdiomStrings
import Derived.Laws.BytesArg
set_option linter.unusedSimpArgs false
set_option linter.unusedVariables false
namespace Go.Vb
open Go.RowKit
theorem conv_bytes {P : Program} {w : World} {src dst e : TypeId} {v : Value} {s : List UInt8} (hs : P.underlying src = some (.slice e)) (he : P.underlying e = some (.int .u8)) (hd : P.underlying dst = some .string) (h : Sl w v 1 s.length (bys s)) :
    (convert src dst v).run P w = .ok (.string ⟨s.toArray⟩) w := by
  obtain ⟨hl, ao, c, rfl, h1, h2, h3, h4⟩ := h
  cases ao with
  | none =>
    obtain ⟨h0, rfl⟩ := h3 rfl
    have : s = [] := List.eq_nil_of_length_eq_zero h0
    subst this
    exact run_convert_bytes_nil w src e hs he _ _ dst hd
  | some a =>
    refine run_convert_bytes_back w src dst e a c s hs he hd fun j hj => h4 a rfl j _ ?_
    simp [bys, hj]
end Go.Vb
