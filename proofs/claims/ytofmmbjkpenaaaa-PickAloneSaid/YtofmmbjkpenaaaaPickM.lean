/- Which of two alike is better; parts of a list. No program. -/
import Derived.Test.YtofmmbjkpenaaaaPickR
set_option linter.unusedVariables false
set_option linter.unusedSimpArgs false
namespace Go.Proofs.Ytofmmbjkpenaaaa
theorem less_better {c : Cand} {live : Int} (h1 : c.right = true) (h2 : ({ c with live := live } : Cand).right = true) (hl : live < c.live) (ho : c.ok) : better { c with live := live } c = true := by
  simp only [Cand.right, Bool.and_eq_true, decide_eq_true_eq] at h1 h2
  have hg : ({ c with live := live } : Cand).gains = true := by
    simp only [Cand.gains, Cand.right, Bool.and_eq_true, decide_eq_true_eq]
    omega
  cases hc : c.gains with
  | false => exact better_nogain hg hc
  | true =>
    refine (better_iff hg hc).2 (.inl ?_)
    have ha := (c.gain_in hc ho).1
    simp only [Cand.gain]
    generalize min c.age 4294967296 = A at *
    obtain ⟨cs, cl, p, ca⟩ := c
    simp only at *
    have e1 : (p - cl) * (live + 1) + (p + 1) * (cl - live) = (p - live) * (cl + 1) := by grind
    have e2 : 0 < (p + 1) * (cl - live) := Int.mul_pos (by omega) (by omega)
    have e3 : (p - cl) * (live + 1) < (p - live) * (cl + 1) := by omega
    have e4 := Int.mul_lt_mul_of_pos_right e3 (show 0 < A + 1 by omega)
    have e5 : (p - cl) * (A + 1) * (live + 1) = (p - cl) * (live + 1) * (A + 1) := by grind
    have e6 : (p - live) * (A + 1) * (cl + 1) = (p - live) * (cl + 1) * (A + 1) := by grind
    rw [e5, e6]
    exact e4
theorem old_better {c : Cand} {age : Int} (hc : c.gains = true) (ho : c.ok) (h1 : c.age < age) (h2 : c.age < 4294967296) : better { c with age := age } c = true := by
  have hg : ({ c with age := age } : Cand).gains = true := hc
  refine (better_iff hg hc).2 (.inl ?_)
  have hi := c.gains_in hc
  simp only [Cand.gain]
  have e1 : min c.age 4294967296 + 1 < min age 4294967296 + 1 := by omega
  have e2 := Int.mul_lt_mul_of_pos_left e1 (show 0 < c.pages - c.live by omega)
  exact Int.mul_lt_mul_of_pos_right e2 (show 0 < c.live + 1 by omega)
theorem nth_drop (l : List Cand) (f k : Nat) : nth (l.drop f) k = nth l (f + k) := by simp [nth]
theorem nth_take (l : List Cand) {m k : Nat} (h : k < m) : nth (l.take m) k = nth l k := by simp [nth, List.getElem?_take, h]
theorem Top.drop {l : List Cand} {i b f : Nat} (h : Top l i b) (hf : f ≤ b) : Top (l.drop f) (i - f) (b - f) := by
  obtain ⟨h1, h2, h3, h4⟩ := h
  refine ⟨by omega, ?_, fun k hk => ?_, fun k hk => ?_⟩
  · rw [nth_drop, show f + (b - f) = b from by omega]; exact h2
  · rw [nth_drop, nth_drop, show f + (b - f) = b from by omega]; exact h3 _ (by omega)
  · rw [nth_drop, nth_drop, show f + (b - f) = b from by omega]; exact h4 _ (by omega)
theorem Top.take {l : List Cand} {i b : Nat} (h : Top l i b) : Top (l.take (b + 1)) (b + 1) b := by
  obtain ⟨h1, h2, h3, h4⟩ := h
  refine ⟨by omega, ?_, fun k hk => ?_, fun k hk => ?_⟩
  · rw [nth_take l (by omega)]; exact h2
  · rw [nth_take l (by omega), nth_take l (by omega)]; exact h3 _ (by omega)
  · rw [nth_take l (by omega), nth_take l (by omega)]; exact h4 _ hk
theorem best_one (c : Cand) : bestN [c] 1 = if c.gains then 0 else -1 := by
  simp [bestN]
end Go.Proofs.Ytofmmbjkpenaaaa
