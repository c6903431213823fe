/- Which of two is better is an order; the best one. No program. -/
import Derived.Test.YtofmmbjkpenaaaaPickB
set_option linter.unusedVariables false
set_option linter.unusedSimpArgs false
namespace Go.Proofs.Ytofmmbjkpenaaaa
theorem cross_le {xa xb xc da db dc : Int} (ha : 0 < da) (hb : 0 < db) (hc : 0 < dc) (h1 : xb * da ≤ xa * db) (h2 : xc * db ≤ xb * dc) : xc * da ≤ xa * dc := by
  have e1 := Int.mul_le_mul_of_nonneg_right h2 (Int.le_of_lt ha)
  have e2 := Int.mul_le_mul_of_nonneg_right h1 (Int.le_of_lt hc)
  refine Int.le_of_mul_le_mul_right ?_ hb
  rw [show xc * da * db = xc * db * da from by rw [Int.mul_assoc, Int.mul_comm da, ← Int.mul_assoc], show xa * dc * db = xa * db * dc from by rw [Int.mul_assoc, Int.mul_comm dc, ← Int.mul_assoc]]
  rw [show xb * dc * da = xb * da * dc from by rw [Int.mul_assoc, Int.mul_comm dc, ← Int.mul_assoc]] at e1
  exact Int.le_trans e1 e2
theorem cross_lt1 {xa xb xc da db dc : Int} (ha : 0 < da) (hb : 0 < db) (hc : 0 < dc) (h1 : xb * da < xa * db) (h2 : xc * db ≤ xb * dc) : xc * da < xa * dc := by
  have e1 := Int.mul_le_mul_of_nonneg_right h2 (Int.le_of_lt ha)
  have e2 := Int.mul_lt_mul_of_pos_right h1 hc
  refine Int.lt_of_mul_lt_mul_right ?_ (Int.le_of_lt hb)
  rw [show xc * da * db = xc * db * da from by rw [Int.mul_assoc, Int.mul_comm da, ← Int.mul_assoc], show xa * dc * db = xa * db * dc from by rw [Int.mul_assoc, Int.mul_comm dc, ← Int.mul_assoc]]
  rw [show xb * dc * da = xb * da * dc from by rw [Int.mul_assoc, Int.mul_comm dc, ← Int.mul_assoc]] at e1
  exact Int.lt_of_le_of_lt e1 e2
theorem cross_lt2 {xa xb xc da db dc : Int} (ha : 0 < da) (hb : 0 < db) (hc : 0 < dc) (h1 : xb * da ≤ xa * db) (h2 : xc * db < xb * dc) : xc * da < xa * dc := by
  have e1 := Int.mul_lt_mul_of_pos_right h2 ha
  have e2 := Int.mul_le_mul_of_nonneg_right h1 (Int.le_of_lt hc)
  refine Int.lt_of_mul_lt_mul_right ?_ (Int.le_of_lt hb)
  rw [show xc * da * db = xc * db * da from by rw [Int.mul_assoc, Int.mul_comm da, ← Int.mul_assoc], show xa * dc * db = xa * db * dc from by rw [Int.mul_assoc, Int.mul_comm dc, ← Int.mul_assoc]]
  rw [show xb * dc * da = xb * da * dc from by rw [Int.mul_assoc, Int.mul_comm dc, ← Int.mul_assoc]] at e1
  exact Int.lt_of_lt_of_le e1 e2
/-- a stands at least as high as b. -/
def lo (a b : Cand) : Prop := b.gain * (a.live + 1) < a.gain * (b.live + 1) ∨ (a.gain * (b.live + 1) = b.gain * (a.live + 1) ∧ a.seg < b.seg)
theorem better_iff {a b : Cand} (ha : a.gains = true) (hb : b.gains = true) : better a b = true ↔ lo a b := by
  simp [better, ha, hb, lo]
theorem better_gains {a b : Cand} (h : better a b = true) : a.gains = true := by
  unfold better at h
  split at h
  · assumption
  · cases h
theorem better_nogain {a b : Cand} (ha : a.gains = true) (hb : b.gains = false) : better a b = true := by simp [better, ha, hb]
theorem better_irrefl (a : Cand) : better a a = false := by
  cases h : better a a with
  | false => rfl
  | true =>
    have hg := better_gains h
    have := (better_iff hg hg).1 h
    unfold lo at this
    omega
theorem better_trans {a b c : Cand} (h1 : better a b = true) (h2 : better b c = true) : better a c = true := by
  have ha := better_gains h1
  have hb := better_gains h2
  cases hc : c.gains with
  | false => exact better_nogain ha hc
  | true =>
    have pa : 0 < a.live + 1 := by have := a.gains_in ha; omega
    have pb : 0 < b.live + 1 := by have := b.gains_in hb; omega
    have pc : 0 < c.live + 1 := by have := c.gains_in hc; omega
    refine (better_iff ha hc).2 ?_
    rcases (better_iff ha hb).1 h1 with l1 | ⟨l1, s1⟩ <;> rcases (better_iff hb hc).1 h2 with l2 | ⟨l2, s2⟩
    · exact .inl (cross_lt1 pa pb pc l1 (by omega))
    · exact .inl (cross_lt1 pa pb pc l1 (by omega))
    · exact .inl (cross_lt2 pa pb pc (by omega) l2)
    · have h3 := cross_le pa pb pc (by omega : b.gain * (a.live + 1) ≤ a.gain * (b.live + 1)) (by omega : c.gain * (b.live + 1) ≤ b.gain * (c.live + 1))
      have h4 := cross_le pc pb pa (by omega : b.gain * (c.live + 1) ≤ c.gain * (b.live + 1)) (by omega : a.gain * (b.live + 1) ≤ b.gain * (a.live + 1))
      exact .inr ⟨by omega, by omega⟩
theorem better_asymm {a b : Cand} (h1 : better a b = true) : better b a = false := by
  cases h : better b a with
  | false => rfl
  | true => rw [← better_irrefl a, better_trans h1 h]
/-- What x is no better than, is lower than c if that is. -/
theorem better_of_not {c b x : Cand} (h1 : better c b = true) (h2 : better x b = false) (hb : b.gains = true) : better c x = true := by
  have hc := better_gains h1
  cases hx : x.gains with
  | false => exact better_nogain hc hx
  | true =>
    have pc : 0 < c.live + 1 := by have := c.gains_in hc; omega
    have pb : 0 < b.live + 1 := by have := b.gains_in hb; omega
    have px : 0 < x.live + 1 := by have := x.gains_in hx; omega
    have h3 : ¬ lo x b := fun h => by rw [(better_iff hx hb).2 h] at h2; cases h2
    unfold lo at h3
    refine (better_iff hc hx).2 ?_
    rcases (better_iff hc hb).1 h1 with l1 | ⟨l1, s1⟩
    · exact .inl (cross_lt1 pc pb px l1 (by omega))
    · by_cases he : x.gain * (b.live + 1) = b.gain * (x.live + 1)
      · have h4 := cross_le pc pb px (by omega : b.gain * (c.live + 1) ≤ c.gain * (b.live + 1)) (by omega : x.gain * (b.live + 1) ≤ b.gain * (x.live + 1))
        have h5 := cross_le px pb pc (by omega : b.gain * (x.live + 1) ≤ x.gain * (b.live + 1)) (by omega : c.gain * (b.live + 1) ≤ b.gain * (c.live + 1))
        exact .inr ⟨by omega, by omega⟩
      · exact .inl (cross_lt2 (xb := b.gain) pc pb px (by omega) (by omega))
theorem better_total {a b : Cand} (ha : a.gains = true) (hb : b.gains = true) (h1 : better a b = false) (h2 : better b a = false) : a.seg = b.seg := by
  have h3 : ¬ lo a b := fun h => by rw [(better_iff ha hb).2 h] at h1; cases h1
  have h4 : ¬ lo b a := fun h => by rw [(better_iff hb ha).2 h] at h2; cases h2
  unfold lo at h3 h4
  omega
def nth (l : List Cand) (k : Nat) : Cand := (l[k]?).getD ⟨0, 0, 0, 0⟩
theorem nth_get {l : List Cand} {k : Nat} (h : k < l.length) : nth l k = l[k] := by simp [nth, h]
theorem nth_out {l : List Cand} {k : Nat} (h : l.length ≤ k) : (nth l k).gains = false := by simp [nth, List.getElem?_eq_none h, Cand.gains, Cand.right]
theorem better_out {l : List Cand} {k : Nat} (h : l.length ≤ k) (c : Cand) : better (nth l k) c = false := by simp [better, nth_out h]
/-- Of the first i the one at b is the best one. -/
def Top (l : List Cand) (i b : Nat) : Prop := b < i ∧ (nth l b).gains = true ∧ (∀ k, k < i → better (nth l k) (nth l b) = false) ∧ ∀ k, k < b → better (nth l b) (nth l k) = true
theorem bestN_top (l : List Cand) : ∀ i : Nat, i ≤ l.length → (bestN l i = -1 ∧ ∀ k, k < i → (nth l k).gains = false) ∨ ∃ b : Nat, bestN l i = b ∧ Top l i b
  | 0, _ => .inl ⟨rfl, fun k h => absurd h (by omega)⟩
  | i + 1, hi => by
    have hget : l[i]? = some (nth l i) := by rw [nth_get (by omega)]; exact List.getElem?_eq_getElem _
    rw [bestN, hget, Option.any_some]
    cases hg : (nth l i).gains with
    | false =>
      simp only [Bool.false_and, Bool.false_eq_true, if_false]
      rcases bestN_top l i (by omega) with ⟨h1, h2⟩ | ⟨b, h1, h2, h3, h4, h5⟩
      · exact .inl ⟨h1, fun k hk => by
          by_cases he : k = i
          · rw [he]; exact hg
          · exact h2 k (by omega)⟩
      · refine .inr ⟨b, h1, by omega, h3, fun k hk => ?_, h5⟩
        by_cases he : k = i
        · rw [he]; simp [better, hg]
        · exact h4 k (by omega)
    | true =>
      simp only [Bool.true_and]
      rcases bestN_top l i (by omega) with ⟨h1, h2⟩ | ⟨b, h1, h2, h3, h4, h5⟩
      · rw [h1]
        refine .inr ⟨i, by simp, by omega, hg, fun k hk => ?_, fun k hk => better_nogain hg (h2 k hk)⟩
        by_cases he : k = i
        · rw [he]; exact better_irrefl _
        · simp [better, h2 k (by omega)]
      · have hgb : l[b]? = some (nth l b) := by rw [nth_get (by omega)]; exact List.getElem?_eq_getElem _
        rw [h1, Int.toNat_natCast, hgb, Option.any_some]
        have hnn : decide ((b : Int) < 0) = false := by simp
        rw [hnn, Bool.false_or]
        cases hbt : better (nth l i) (nth l b) with
        | true =>
          refine .inr ⟨i, by simp, by omega, hg, fun k hk => ?_, fun k hk => ?_⟩
          · by_cases he : k = i
            · rw [he]; exact better_irrefl _
            · cases hk2 : better (nth l k) (nth l i) with
              | false => rfl
              | true => rw [← h4 k (by omega), better_trans hk2 hbt]
          · exact better_of_not hbt (h4 k hk) h3
        | false =>
          refine .inr ⟨b, by simp, by omega, h3, fun k hk => ?_, h5⟩
          by_cases he : k = i
          · rw [he]; exact hbt
          · exact h4 k (by omega)
theorem Top.unique {l : List Cand} {i b b' : Nat} (h : Top l i b) (h' : Top l i b') : b = b' := by
  obtain ⟨a1, a2, a3, a4⟩ := h
  obtain ⟨c1, c2, c3, c4⟩ := h'
  rcases Nat.lt_trichotomy b b' with hlt | he | hlt
  · have := c4 b hlt
    rw [a3 b' c1] at this
    cases this
  · exact he
  · have := a4 b' hlt
    rw [c3 b a1] at this
    cases this
theorem Top.best {l : List Cand} {b : Nat} (h : Top l l.length b) : bestN l l.length = b := by
  rcases bestN_top l l.length (Nat.le_refl _) with ⟨h1, h2⟩ | ⟨b', h1, h2⟩
  · have := h2 b h.1
    rw [h.2.1] at this
    cases this
  · rw [h1, h.unique h2]
theorem bestN_none {l : List Cand} (h : ∀ k, k < l.length → (nth l k).gains = false) : bestN l l.length = -1 := by
  rcases bestN_top l l.length (Nat.le_refl _) with ⟨h1, h2⟩ | ⟨b', h1, h2⟩
  · exact h1
  · have := h b' h2.1
    rw [h2.2.1] at this
    cases this
end Go.Proofs.Ytofmmbjkpenaaaa
