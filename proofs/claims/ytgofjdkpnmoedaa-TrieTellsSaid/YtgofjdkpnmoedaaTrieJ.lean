/- (*Trie).Prefix, Suffix, Infix. -/
import Derived.Test.YtgofjdkpnmoedaaTrieI
set_option linter.unusedSimpArgs false
set_option linter.unusedVariables false
namespace Go.Proofs.Ytgofjdkpnmoedaa
open Go.RowKit Go.Vb

theorem TrieAt.keeps {w w' : World} {base T : Nat} {L : List (List UInt8)} {N : Nodes} (h : TrieAt w base T L N) (k : Keeps w w') : TrieAt w' base T L N := ⟨h.forest.keeps k, h.roots, h.xs⟩
/-- what a find at root k gives. -/
theorem find_root {w : World} {base T : Nat} {L : List (List UInt8)} {N : Nodes} (h : TrieAt w base T L N) (h5 : L.length ≤ 512) (k : Nat) (hk : k < 3) (v : Value) (s : List UInt8) (hv : Sl w v 1 s.length (bys s)) (hl : s.length ≤ 140737488355328) :
    Calls Try.prog 40 #[.pointer (some ⟨T, 2 * k, none⟩), v] w fun e w' => ∃ v', e = .returned v' ∧ w'.ownsRow w.heap.size 3 1 v' (idsTo k L s L.length).length (ints .i64 (idsTo k L s L.length)) ∧ Keeps w w' := by
  obtain ⟨r, hr, ha⟩ := h.roots k hk
  have hx := h.xs k hk s
  have := find_any w base N k s r v h.forest hr hv hl (fun n hn => by
    have h1 : n.xs = idsTo k L s L.length := by rw [← hx]; simp [xsOf, hn]
    have := idsTo_length k L s L.length
    rw [h1]; omega)
  rw [ha, hx] at this
  exact this

/-- the answer: 0 begins with, 1 ends with, 2 has within. -/
def ans (k : Nat) (L : List (List UInt8)) (s : List UInt8) : List Int := idsTo k L (if k = 1 then s.reverse else s) L.length

theorem prefix_any {w : World} {base T : Nat} {L : List (List UInt8)} {N : Nodes} (h : TrieAt w base T L N) (h5 : L.length ≤ 512) (v : Value) (s : List UInt8) (hv : Sl w v 1 s.length (bys s)) (hl : s.length ≤ 140737488355328) :
    Calls Try.prog 18 #[.pointer (some ⟨T, 0, none⟩), v] w fun e w' => ∃ v', e = .returned v' ∧ w'.ownsRow w.heap.size 3 1 v' (ans 0 L s).length (ints .i64 (ans 0 L s)) ∧ Keeps w w' := by
  have hf := find_root h h5 0 (by omega) v s hv hl
  obtain ⟨ao, c, rfl, _⟩ := hv.value
  go_enter Try.func18, Try.ntmps18
  go_wp2_with fail
  refine hf.mono ?_
  rintro e w' ⟨v', rfl, ho, hk⟩
  go_wp2
  go_ret
  exact ⟨v', rfl, ho, hk⟩

theorem infix_any {w : World} {base T : Nat} {L : List (List UInt8)} {N : Nodes} (h : TrieAt w base T L N) (h5 : L.length ≤ 512) (v : Value) (s : List UInt8) (hv : Sl w v 1 s.length (bys s)) (hl : s.length ≤ 140737488355328) :
    Calls Try.prog 22 #[.pointer (some ⟨T, 0, none⟩), v] w fun e w' => ∃ v', e = .returned v' ∧ w'.ownsRow w.heap.size 3 1 v' (ans 2 L s).length (ints .i64 (ans 2 L s)) ∧ Keeps w w' := by
  have hf := find_root h h5 2 (by omega) v s hv hl
  obtain ⟨ao, c, rfl, _⟩ := hv.value
  go_enter Try.func22, Try.ntmps22
  go_wp2_with fail
  refine hf.mono ?_
  rintro e w' ⟨v', rfl, ho, hk⟩
  go_wp2
  go_ret
  exact ⟨v', rfl, ho, hk⟩

theorem suffix_any {w : World} {base T : Nat} {L : List (List UInt8)} {N : Nodes} (h : TrieAt w base T L N) (h5 : L.length ≤ 512) (v : Value) (s : List UInt8) (hv : Sl w v 1 s.length (bys s)) (hl : s.length ≤ 140737488355328) :
    Calls Try.prog 20 #[.pointer (some ⟨T, 0, none⟩), v] w fun e w' => ∃ v' B, e = .returned v' ∧ w'.ownsRow B 3 1 v' (ans 1 L s).length (ints .i64 (ans 1 L s)) ∧ w.heap.size ≤ B ∧ Keeps w w' := by
  obtain ⟨ao, c, rfl, _⟩ := hv.value
  have hd := keeps_drewN w 1
  have hturn := turned_any w.drew _ s.length s (hv.keeps hd) hl
  have HF := hid (show ∀ w2 v', w2.ownsRow w.drew.heap.size 5 1 v' s.length (bys s.reverse) → Keeps w.drew w2 → Calls Try.prog 40 #[.pointer (some ⟨T, 2, none⟩), v'] w2 (fun e w' => ∃ v', e = .returned v' ∧ w'.ownsRow w2.heap.size 3 1 v' (ans 1 L s).length (ints .i64 (ans 1 L s)) ∧ Keeps w2 w') from by
    intro w2 v' ho hk
    exact find_root (h.keeps (hd.trans hk)) h5 1 (by omega) v' s.reverse (by rw [List.length_reverse]; exact ownsRow_sl ho) (by simpa using hl))
  go_enter Try.func20, Try.ntmps20
  go_wp2
  go_region_with (first | (go_at_call 39; refine hturn.mono ?_; rintro e w2 ⟨v2, rfl, ho2, hk2⟩) | (go_at_call 40; refine (HF.out _ _ ho2 hk2).mono ?_; rintro e w3 ⟨v3, rfl, ho3, hk3⟩))
  go_wp2
  go_ret
  exact ⟨v3, _, rfl, ho3, hk2.size, (hd.trans hk2).trans hk3⟩
end Go.Proofs.Ytgofjdkpnmoedaa
