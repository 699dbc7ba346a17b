/- bytes.Equal. -/
import Derived.Test.YtlmlanaobhfmbaaLebA
import Derived.Test.YtlmlanaobhfmbaaStr
set_option linter.unusedSimpArgs false
set_option linter.unusedVariables false
namespace Go.Proofs.Ytlmlanaobhfmbaa
open Go.RowKit Go.Vb

theorem equal_any (w : World) (v u : Value) (s t : List UInt8) (hv : Sl w v 1 s.length (bys s)) (hu : Sl w u 1 t.length (bys t)) :
    Calls Try.prog 70 #[v, u] w fun e w' => e = .returned (.bool (s == t)) ∧ w' = w := by
  have c1 := conv_bytes Try.underlying23 Try.underlying5 Try.underlying9 hv
  have c2 := conv_bytes Try.underlying23 Try.underlying5 Try.underlying9 hu
  obtain ⟨ao, c, rfl, _⟩ := hv.value
  obtain ⟨ao2, c2', rfl, _⟩ := hu.value
  go_enter Try.func70, Try.ntmps70
  go_wp2
  go_ret
  exact ⟨rfl, rfl⟩
end Go.Proofs.Ytlmlanaobhfmbaa
