/- The first few of some. -/
import Derived.Test.YtffbkmlgmmokiaaDenP
namespace Go.Proofs.Ytffbkmlgmmokiaa
section
variable {α : Type}
/-- How many: up to so many, of up to so much together. -/
def fewG (len : α → Nat) (mx : Nat) : List α → Nat → Nat → Nat
  | [], _, _ => 0
  | p :: l, i, left => if mx ≤ i ∨ left < len p then 0 else fewG len mx l (i + 1) (left - len p) + 1
def sumG (len : α → Nat) : List α → Nat
  | [] => 0
  | p :: l => len p + sumG len l
theorem fewG_drop {len : α → Nat} {mx : Nat} {l : List α} {j left : Nat} (hj : j < l.length) : fewG len mx (l.drop j) j left = if mx ≤ j ∨ left < len l[j] then 0 else fewG len mx (l.drop (j + 1)) (j + 1) (left - len l[j]) + 1 := by
  rw [List.drop_eq_getElem_cons hj]
  rfl
theorem fewG_end {len : α → Nat} {mx : Nat} {l : List α} {j left : Nat} (hj : l.length ≤ j) : fewG len mx (l.drop j) j left = 0 := by
  rw [List.drop_eq_nil_of_le hj]
  rfl
end
end Go.Proofs.Ytffbkmlgmmokiaa
