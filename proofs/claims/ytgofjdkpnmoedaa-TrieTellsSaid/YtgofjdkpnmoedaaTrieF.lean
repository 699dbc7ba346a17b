/- (*node).find. -/
import Derived.Test.YtgofjdkpnmoedaaTrieE
set_option linter.unusedSimpArgs false
set_option linter.unusedVariables false
namespace Go.Proofs.Ytgofjdkpnmoedaa
open Go.RowKit Go.Vb

theorem fam5 : KeyFam Try.prog 5 kb (fun _ => True) := u8_fam Try.underlying5
theorem zero77 (w : World) : (zeroValue 77).run Try.prog w = .ok (.pointer none) w := by kernel_rfl

/-- the pointer that a look-up at a node gives. -/
def ptrOf : Option Nd → Value
  | some n => .pointer (some n.at_)
  | none => .pointer none
theorem node_lookup {w : World} {base : Nat} {N : Nodes} (F : Forest w base N) {k : Nat} {p : List UInt8} {n : Nd} (hn : N k p = some n) (c : UInt8) :
    (Instr.lookup 57 (.map n.mp) (kb c) false).run Try.prog w = .ok (ptrOf (N k (p ++ [c]))) w := by
  have hm := F.map k p n hn
  cases hmp : n.mp with
  | none =>
    rw [hmp] at hm
    have : N k (p ++ [c]) = none := hm c
    rw [this]
    exact lookup_nil fam5 Try.underlying57 (zero77 w) c trivial
  | some m =>
    rw [hmp] at hm
    have := MapAs.lookup hm fam5 Try.underlying57 (zero77 w) c trivial
    rw [this]
    show Result.ok ((Option.map (fun n => Value.pointer (some n.at_)) (N k (p ++ [c]))).getD (.pointer none)) w = _
    cases N k (p ++ [c]) <;> rfl

theorem bys_get (s : List UInt8) (j : Nat) (h : j < s.length) : (bys s)[j]? = some (.int .u8 (s[j]'h).toNat) := by simp [bys, h]
theorem take_snoc {α : Type} (s : List α) (j : Nat) (h : j < s.length) : s.take (j + 1) = s.take j ++ [s[j]'h] := by
  rw [List.take_succ_eq_append_getElem h]

set_option maxHeartbeats 400000 in
theorem find_any (w : World) (base : Nat) (N : Nodes) (k : Nat) (s : List UInt8) (r : Nd) (v : Value) (F : Forest w base N) (hr : N k [] = some r) (hv : Sl w v 1 s.length (bys s)) (hl : s.length ≤ 140737488355328) (hx : ∀ n, N k s = some n → n.xs.length * 8 ≤ 140737488355328) :
    Calls Try.prog 40 #[.pointer (some r.at_), v] w fun e w' => ∃ v', e = .returned v' ∧ w'.ownsRow w.heap.size 3 1 v' (xsOf N k s).length (ints .i64 (xsOf N k s)) ∧ Keeps w w' := by
  obtain ⟨ao, c, rfl, _⟩ := hv.value
  rcases hv.none_or (by decide) with ⟨h0, hnil⟩ | ⟨hp, b, off, rfl, hb, hc⟩
  · have hs : s = [] := List.eq_nil_of_length_eq_zero h0
    subst hs
    have no := F.node _ _ _ hr
    obtain ⟨c1, c2, c3, c4⟩ := no.cell
    have e1 : xsOf N k [] = r.xs := by simp [xsOf, hr]
    rw [e1]
    have hcl := cloneI w r.row _ _ (ownsRow_sl no.row) (ints_one _ _) (hx r hr)
    go_enter Try.func40, Try.ntmps40
    go_wp2
    refine wp_loop_rounds 1 ?_
    rw [rounds_succ]
    go_wp2_with fail
    refine hcl.mono ?_
    rintro e w1 ⟨v', rfl, ho, hk⟩
    go_wp2
    go_ret
    exact ⟨_, rfl, ho, hk⟩
  · go_enter Try.func40, Try.ntmps40
    go_wp2
    go_loop [0, 9] (fun q i => ∃ (j : Nat) (n : Nd), j ≤ s.length ∧ i = .int .i64 (j : Int) ∧ N k (s.take j) = some n ∧ q = .pointer (some n.at_)) (fun _ i => s.length - (intOf i).toNat)
    case atStart => exact ⟨0, r, by omega, rfl, by simpa using hr, rfl⟩
    case round =>
      obtain ⟨j, n, hj, rfl, hn, rfl⟩ := hrel
      have no := F.node _ _ _ hn
      obtain ⟨c1, c2, c3, c4⟩ := no.cell
      by_cases hlt : j < s.length
      · have hcell := hc j _ (bys_get s j hlt)
        have hlk := node_lookup F hn s[j]
        rw [← take_snoc s j hlt] at hlk
        have HN := hid hn
        clear hn
        cases hnx : N k (s.take (j + 1)) with
        | none =>
          have hno : xsOf N k s = [] := by
            have := F.none_of hnx (s.drop (j + 1))
            rw [List.take_append_drop] at this
            simp [xsOf, this]
          rw [hnx] at hlk
          simp only [ptrOf] at hlk
          have H2 := hid hno
          clear hnx hno
          go_wp2
          go_ret
          rw [H2.out]
          exact ⟨_, rfl, World.ownsRow_nil _ _ _ _, Below.refl _ _⟩
        | some n' =>
          rw [hnx] at hlk
          simp only [ptrOf] at hlk
          have H2 := hid hnx
          clear hnx
          go_wp2
          go_round
          case rel => exact ⟨j + 1, n', by omega, by go_num, H2.out, rfl⟩
          case measure => simp [intOf]; omega
      · have : j = s.length := by omega
        subst this
        have hns : N k s = some n := by simpa using hn
        have e1 : xsOf N k s = n.xs := by simp [xsOf, hns]
        have hcl := cloneI w n.row _ _ (ownsRow_sl no.row) (ints_one _ _) (hx n hns)
        have HE := hid e1
        clear e1 hns hn
        go_wp2_with fail
        refine hcl.mono ?_
        rintro e w1 ⟨v', rfl, ho, hk⟩
        go_wp2
        go_ret
        rw [HE.out]
        exact ⟨_, rfl, ho, hk⟩
end Go.Proofs.Ytgofjdkpnmoedaa
