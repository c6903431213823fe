/- Candidates that came in. -/
import Derived.Test.YtofmmbjkpenaaaaPickS
import Derived.Test.YtofmmbjkpenaaaaArgs
set_option linter.unusedVariables false
set_option linter.unusedSimpArgs false
namespace Go.Proofs.Ytofmmbjkpenaaaa
def candOf (a : Int × Int × Int × Int × Unit) : Cand := ⟨a.1, a.2.1, a.2.2.1, a.2.2.2.1⟩
theorem cand_open {W : World} {cs : List Value} {a : Int × Int × Int × Int × Unit} (h : R24 W cs a) : cs = (candOf a).cs ∧ (candOf a).ok := by
  obtain ⟨hl, h1, h2, h3, h4, -⟩ := h
  obtain ⟨x, y, z, u, rfl⟩ : ∃ x y z u, cs = [x, y, z, u] := by
    match cs, hl with
    | [x, y, z, u], _ => exact ⟨x, y, z, u, rfl⟩
  obtain ⟨a1, a2, a3, a4, a5⟩ := a
  simp only [RInt, List.drop_zero, List.drop_succ_cons, List.take_succ_cons, List.take_zero, List.cons.injEq, and_true] at h1 h2 h3 h4
  obtain ⟨rfl, -⟩ := h1
  obtain ⟨rfl, -⟩ := h2
  obtain ⟨rfl, -⟩ := h3
  obtain ⟨rfl, h5⟩ := h4
  refine ⟨rfl, ?_⟩
  simp [Lit.wf, IntKind.min, IntKind.max, IntKind.signed, IntKind.bits] at h5
  unfold Cand.ok candOf
  simp only
  omega
theorem cand_arg {W : World} {v : Array Value} (h : ∃ a, R24 W v.toList a) : ∃ c : Cand, Value.agg v = c.v ∧ c.ok := by
  obtain ⟨a, h⟩ := h
  obtain ⟨h1, h2⟩ := cand_open h
  refine ⟨candOf a, ?_, h2⟩
  rw [← Cand.v_eq, ← h1]
theorem cand_row {W : World} {v : Value} (h : ∃ a, R28 W [v] a) : ∃ l : List Cand, RdL 4 Cand.cs W v l ∧ (∀ c ∈ l, c.ok) ∧ l.length ≤ 140737488351232 := by
  obtain ⟨a, h⟩ := h
  obtain ⟨h1, h2⟩ := RdL.opened (f := Cand.cs) (g := candOf) h (by decide) Cand.cs_length (fun cs a h => (cand_open h).1)
  obtain ⟨hc, hb, xs, hr, hx⟩ := h
  refine ⟨a.2.map candOf, ?_, ?_, ?_⟩
  · rw [show v = a.1 from by simpa using h1]
    exact h2
  · intro c hc
    obtain ⟨y, hy, rfl⟩ := List.mem_map.1 hc
    obtain ⟨i, hi⟩ := List.getElem?_of_mem hy
    exact (cand_open (hx i y hi)).2
  · rw [List.length_map]
    omega
end Go.Proofs.Ytofmmbjkpenaaaa
