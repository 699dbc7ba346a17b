/- A region that draws its order, in a round of a range over a function: by the laws that go outside of one. -/
import Derived.Test.YtlmlanaobhfmbaaBase
import Derived.RangeFuncCalls
import Derived.RangeFuncBox
import Derived.OrdersIn
import Derived.OrdersHeld
set_option linter.unusedSimpArgs false
set_option linter.unusedVariables false
namespace Go.Vb
open Go.RowKit
/-- It goes on, and nothing else. -/
def nOnly (K : Act → World → Prop) : Exit → Act → World → Prop
  | .normal, a, w => K a w
  | _, _, _ => False
def noDefer (o : Oper) : Bool := match o.op with | .defer _ => false | _ => true
theorem noDefer_spec {o : Oper} (h : noDefer o = true) : ∀ c, o.op ≠ .defer c := fun c e => by unfold noDefer at h; rw [e] at h; cases h
theorem letsOut_nOnly {K : Act → World → Prop} (h : LetsOut (nOnly K)) : False := by obtain ⟨a, w, h⟩ := h; exact h
theorem rows_wide {n l : Nat} {P : Program} {row : String} {args : Array Value} {w : World} {R R' : Value → World → Prop} (h : Rows P row args w R) (hR : ∀ v w, R v w → R' v w) : RowsIn (Fence.wide.inRound l) n P row args w R' := by
  intro c cs _
  obtain ⟨v, w', r, s⟩ := h c cs
  exact ⟨v, w', hR _ _ r, stepsIn_wide.2 s⟩
theorem calls_round {n l : Nat} {P : Program} {f : FuncId} {args : Array Value} {w : World} {R : Ending → World → Prop} (h : Calls P f args w R) : CallsIn (Fence.wide.inRound l) n P f args w R := CallsIn.inRound l (callsIn_wide.2 h)
theorem wpOp_round {l n : Nat} {P : Program} {ops : Array Oper} {Q : Exit → Act → World → Prop} {i : Nat} {K0 K K' : Act → World → Prop} {a : Act} {w : World}
    (hd : ∀ (i : Nat) o, ops[i]? = some o → noDefer o = true) (h : wpOp P ops (nOnly K0) i K a w) (hK : ∀ a w, K a w → K' a w) : wpOpIn (Fence.wide.inRound l) n P ops Q i K' a w := by
  unfold wpOp at h
  unfold wpOpIn
  cases ho : ops[i]? with
  | none => simp only [ho] at h; exact hK _ _ h
  | some o =>
    simp only [ho] at h ⊢
    by_cases hw : Region.wanted o (yielded ops a.tmps) = true
    · rw [if_pos hw] at h ⊢
      rcases h with h | ⟨_, h⟩
      · refine ⟨fun _ _ => trivial, ?_⟩
        rw [Oper.semAt_eq _ _ _ (noDefer_spec (hd i o ho))]
        unfold Oper.wp at h
        generalize (execOp a.eval o).run P w = r at *
        cases r with
        | ok x w' =>
          cases x with
          | value v => exact hK _ _ h
          | skip => exact hK _ _ h
          | defer d => exact hK _ _ h
          | enter f args =>
            refine ⟨(fun hh => nomatch hh), calls_round (Calls.mono h fun e w'' he => ?_)⟩
            cases e with
            | returned v => exact hK _ _ he
            | panicked c => exact he.elim
            | outgrown => exact (letsOut_nOnly he).elim
          | row row args => exact ⟨(fun hh => nomatch hh), rows_wide h fun v w'' he => hK _ _ he⟩
          | _ => exact h.elim
        | halt x w' =>
          cases x <;> exact h.elim
      · exact (letsOut_nOnly h).elim
    · rw [if_neg hw] at h ⊢
      exact ⟨fun _ _ => trivial, hK _ _ h⟩
theorem wpAny_round {l n : Nat} {P : Program} {md : Region.Mode} {ops : Array Oper} {Q : Exit → Act → World → Prop} {K : Act → World → Prop}
    (hd : ∀ (i : Nat) o, ops[i]? = some o → noDefer o = true) (hQ : ∀ a w, K a w → Q .normal a w) : ∀ (fuel : Nat) (listed : Array Bool) (a : Act) (w : World), wpAny P md ops (nOnly K) fuel listed a w → wpAnyIn (Fence.wide.inRound l) n P md ops Q fuel listed a w
  | 0, _, _, _, h => ⟨h.1, hQ _ _ h.2⟩
  | fuel + 1, listed, a, w, h => ⟨fun hr => hQ _ _ (h.1 hr), fun i hi => wpOp_round hd (h.2 i hi) fun a w hh => wpAny_round hd hQ fuel _ a w hh⟩
theorem region_round {l n id : Nat} {P : Program} {ops : List Oper} {Q : Exit → Act → World → Prop} {K : Act → World → Prop} {S : World → Prop} {a : Act} {w : World} (hm : P.follows .mixedOrders = true)
    (hd : ops.all noDefer = true) (hQ : ∀ a w, K a w → Q .normal a w) (h : wpAnyH P .any ops.toArray (nOnly K) S ops.toArray.size (Array.replicate ops.toArray.size false) a w.drew) : (Code.region id ops.toArray true).wpIn (Fence.wide.inRound l) n P Q a w :=
  wpIn_region_any hm (wpAny_round (fun i o ho => List.all_eq_true.1 hd o (List.mem_of_getElem? (by simpa using ho))) hQ _ _ _ _ (wpAny_of_held _ _ _ _ h))
theorem region_round_any {l n id : Nat} {P : Program} {ops : List Oper} {Q : Exit → Act → World → Prop} {K : Act → World → Prop} {a : Act} {w : World} (hm : P.follows .mixedOrders = true)
    (hd : ops.all noDefer = true) (hQ : ∀ a w, K a w → Q .normal a w) (h : wpAny P .any ops.toArray (nOnly K) ops.toArray.size (Array.replicate ops.toArray.size false) a w.drew) : (Code.region id ops.toArray true).wpIn (Fence.wide.inRound l) n P Q a w :=
  wpIn_region_any hm (wpAny_round (fun i o ho => List.all_eq_true.1 hd o (List.mem_of_getElem? (by simpa using ho))) hQ _ _ _ _ h)
end Go.Vb
