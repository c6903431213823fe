/- The register of the sums, bit by bit: it is linear, and each step can be run back. -/
import Derived.Test.YtfpjlinlmeojmaaCodecR
set_option linter.unusedVariables false
set_option linter.unusedSimpArgs false
namespace Go.Proofs.Ytfpjlinlmeojmaa
abbrev Rg := BitVec 32
def crcP : Rg := BitVec.ofNat 32 3988292384
def crcQ : Rg := BitVec.ofNat 32 3681617473
/-- A bit falls out. -/
def stp (r : Rg) : Rg := (r >>> 1) ^^^ (if r.getLsbD 0 = true then crcP else 0)
def bck (r : Rg) : Rg := (r <<< 1) ^^^ (if r.getLsbD 31 = true then crcQ else 0)
def stpN : Nat → Rg → Rg
  | 0, r => r
  | k + 1, r => stpN k (stp r)
def bckN : Nat → Rg → Rg
  | 0, r => r
  | k + 1, r => bckN k (bck r)
theorem xz (a : Rg) : a ^^^ 0 = a := BitVec.xor_zero
theorem xs (a : Rg) : a ^^^ a = 0 := BitVec.xor_self
theorem zx (a : Rg) : 0 ^^^ a = a := BitVec.zero_xor
theorem xlc (a b c : Rg) : a ^^^ (b ^^^ c) = b ^^^ (a ^^^ c) := by rw [← BitVec.xor_assoc, BitVec.xor_comm a b, BitVec.xor_assoc]
theorem stp_xor (a b : Rg) : stp (a ^^^ b) = stp a ^^^ stp b := by
  unfold stp
  rw [BitVec.ushiftRight_xor_distrib, BitVec.getLsbD_xor]
  generalize crcP = P
  generalize a >>> 1 = x
  generalize b >>> 1 = y
  cases a.getLsbD 0 <;> cases b.getLsbD 0 <;> simp only [Bool.xor_false, Bool.xor_true, Bool.not_false, Bool.not_true, Bool.false_eq_true, if_true, if_false, xz]
  · rw [BitVec.xor_assoc]
  · rw [BitVec.xor_assoc, BitVec.xor_assoc, BitVec.xor_comm P]
  · rw [BitVec.xor_assoc, xlc P, xs, xz]
theorem stpN_xor : ∀ (k : Nat) (a b : Rg), stpN k (a ^^^ b) = stpN k a ^^^ stpN k b
  | 0, a, b => rfl
  | k + 1, a, b => by rw [stpN, stp_xor, stpN_xor k, stpN, stpN]
theorem stpN_add : ∀ (k m : Nat) (a : Rg), stpN (k + m) a = stpN m (stpN k a)
  | 0, m, a => by rw [Nat.zero_add]; rfl
  | k + 1, m, a => by rw [Nat.add_right_comm, stpN, stpN_add k m, stpN]
theorem stpN_zero : ∀ k : Nat, stpN k 0 = 0
  | 0 => rfl
  | k + 1 => by rw [stpN, show stp 0 = 0 from by decide, stpN_zero k]
theorem stp_ker {r : Rg} (h : stp r = 0) : r = 0 := by
  unfold stp at h
  cases h0 : r.getLsbD 0 with
  | true =>
    rw [h0, if_pos rfl] at h
    have := congrArg (fun x : Rg => x.getLsbD 31) h
    simp only [BitVec.getLsbD_xor, BitVec.getLsbD_ushiftRight] at this
    rw [show crcP.getLsbD 31 = true from by decide, BitVec.getLsbD_of_ge r (1 + 31) (by omega)] at this
    exact absurd this (by decide)
  | false =>
    rw [h0, if_neg (by decide)] at h
    apply BitVec.eq_of_getLsbD_eq
    intro i hi
    cases i with
    | zero => rw [h0]; rfl
    | succ i =>
      have := congrArg (fun x : Rg => x.getLsbD i) h
      simp only [BitVec.getLsbD_xor, BitVec.getLsbD_ushiftRight] at this
      rw [Nat.add_comm]
      simpa using this
theorem stpN_ker : ∀ {k : Nat} {r : Rg}, stpN k r = 0 → r = 0
  | 0, r, h => h
  | k + 1, r, h => stp_ker (stpN_ker h)
theorem xor_eq_zero {a b : Rg} (h : a ^^^ b = 0) : a = b := by
  have := congrArg (· ^^^ b) h
  simpa [BitVec.xor_assoc] using this
theorem stpN_inj {k : Nat} {a b : Rg} (h : stpN k a = stpN k b) : a = b := by
  refine xor_eq_zero (stpN_ker (k := k) ?_)
  rw [stpN_xor, h, xs]
theorem stp_shl {x : Rg} (h : x.getLsbD 31 = false) : stp (x <<< 1) = x := by
  unfold stp
  rw [show (x <<< 1).getLsbD 0 = false from by simp [BitVec.getLsbD_shiftLeft], if_neg (by decide), xz]
  apply BitVec.eq_of_getLsbD_eq
  intro i hi
  rw [BitVec.getLsbD_ushiftRight, BitVec.getLsbD_shiftLeft]
  by_cases h31 : i = 31
  · subst h31; rw [h]; simp
  · have : 1 + i < 32 := by omega
    simp [this]
theorem stp_bck (r : Rg) : stp (bck r) = r := by
  unfold bck
  rw [stp_xor]
  cases h : r.getLsbD 31 with
  | false => rw [stp_shl h, if_neg (by decide), show stp 0 = 0 from by decide, xz]
  | true =>
    rw [if_pos rfl]
    have hs : r = (r ^^^ BitVec.ofNat 32 2147483648) ^^^ BitVec.ofNat 32 2147483648 := by rw [BitVec.xor_assoc, xs, xz]
    have h0 : (r ^^^ BitVec.ofNat 32 2147483648).getLsbD 31 = false := by rw [BitVec.getLsbD_xor, h]; decide
    generalize r ^^^ BitVec.ofNat 32 2147483648 = x at hs h0
    subst hs
    rw [BitVec.shiftLeft_xor_distrib, stp_xor, stp_shl h0, show stp (BitVec.ofNat 32 2147483648 <<< 1) = 0 from by decide, show stp crcQ = BitVec.ofNat 32 2147483648 from by decide, xz]
theorem stpN_succ (k : Nat) (r : Rg) : stpN (k + 1) r = stp (stpN k r) := stpN_add k 1 r
theorem stpN_bckN : ∀ (k : Nat) (r : Rg), stpN k (bckN k r) = r
  | 0, r => rfl
  | k + 1, r => by rw [bckN, stpN_succ, stpN_bckN k, stp_bck]
/-- Bits that stand high enough only move down. -/
theorem stpN_shl : ∀ (k : Nat) {x : Rg}, (∀ i, 32 - k ≤ i → x.getLsbD i = false) → k ≤ 32 → stpN k (x <<< k) = x
  | 0, x, h, hk => by simp [stpN]
  | k + 1, x, h, hk => by
    rw [stpN, show x <<< (k + 1) = (x <<< k) <<< 1 from by rw [BitVec.shiftLeft_add], stp_shl, stpN_shl k (fun i hi => h i (by omega)) (by omega)]
    rw [BitVec.getLsbD_shiftLeft]
    simp only [Bool.and_eq_false_iff]
    right
    exact h _ (by omega)
def bz (b : UInt8) : Rg := BitVec.ofNat 32 b.toNat
theorem bz_high (b : UInt8) {i : Nat} (h : 8 ≤ i) : (bz b).getLsbD i = false := by
  have hb := b.toNat_lt
  have : b.toNat < 2 ^ i := Nat.lt_of_lt_of_le hb (Nat.pow_le_pow_right (by omega) h)
  simp [bz, BitVec.getLsbD_ofNat, Nat.testBit_lt_two_pow this]
theorem bz_xor (a b : UInt8) : bz (a ^^^ b) = bz a ^^^ bz b := by
  unfold bz
  rw [UInt8.toNat_xor, BitVec.ofNat_xor]
/-- A byte goes through the register. -/
def upB (r : Rg) (b : UInt8) : Rg := stpN 8 (r ^^^ bz b)
def crcG : Rg → List UInt8 → Rg
  | r, [] => r
  | r, b :: l => crcG (upB r b) l
theorem crcG_append : ∀ (r : Rg) (a b : List UInt8), crcG r (a ++ b) = crcG (crcG r a) b
  | r, [], b => rfl
  | r, x :: a, b => crcG_append (upB r x) a b
theorem crcG_xor : ∀ (r d : Rg) (l : List UInt8), crcG (r ^^^ d) l = crcG r l ^^^ stpN (8 * l.length) d
  | r, d, [] => rfl
  | r, d, b :: l => by
    rw [crcG, crcG, upB, BitVec.xor_assoc, BitVec.xor_comm d, ← BitVec.xor_assoc, stpN_xor, show stpN 8 (r ^^^ bz b) = upB r b from rfl, crcG_xor, List.length_cons, Nat.mul_succ, Nat.add_comm, stpN_add]
theorem crcG_three : ∀ (r s t : Rg) (a b c d : List UInt8), a.length = d.length → b.length = d.length → c.length = d.length → (∀ i (h1 : i < a.length) (h2 : i < b.length) (h3 : i < c.length) (h4 : i < d.length), d[i] = a[i] ^^^ b[i] ^^^ c[i]) →
    crcG r a ^^^ crcG s b ^^^ crcG t c = crcG (r ^^^ s ^^^ t) d
  | r, s, t, [], [], [], [], _, _, _, _ => rfl
  | r, s, t, x :: a, y :: b, z :: c, u :: d, h1, h2, h3, h => by
    simp only [List.length_cons, Nat.add_right_cancel_iff] at h1 h2 h3
    rw [crcG, crcG, crcG, crcG, crcG_three (upB r x) (upB s y) (upB t z) a b c d h1 h2 h3 (fun i q1 q2 q3 q4 => h (i + 1) (by simp; omega) (by simp; omega) (by simp; omega) (by simp; omega))]
    congr 1
    have := h 0 (by simp) (by simp) (by simp) (by simp)
    simp only [List.getElem_cons_zero] at this
    subst this
    unfold upB
    rw [bz_xor, bz_xor, ← stpN_xor, ← stpN_xor]
    congr 1
    generalize bz x = X
    generalize bz y = Y
    generalize bz z = Z
    simp only [BitVec.xor_assoc]
    congr 1
    rw [xlc X s, xlc Y t, xlc X t]
  | r, s, t, [], _ :: _, _, [], _, h2, _, _ => by simp at h2
  | r, s, t, [], _, _ :: _, [], _, _, h3, _ => by simp at h3
  | r, s, t, _ :: _, _, _, [], h1, _, _, _ => by simp at h1
  | r, s, t, [], _, _, _ :: _, h1, _, _, _ => by simp at h1
  | r, s, t, _ :: _, [], _, _ :: _, _, h2, _, _ => by simp at h2
  | r, s, t, _ :: _, _ :: _, [], _ :: _, _, _, h3, _ => by simp at h3
def one32 : Rg := BitVec.ofNat 32 1
theorem stpN_one {k m : Nat} (hk : k ≤ m) (hm : m ≤ 32) (hk2 : k < 32) : stpN m (one32 <<< k) = stpN (m - k) one32 := by
  obtain ⟨j, rfl⟩ := Nat.exists_eq_add_of_le hk
  rw [stpN_add, stpN_shl k _ (by omega), Nat.add_sub_cancel_left]
  intro i hi
  have : i ≠ 0 := by omega
  simp only [one32, BitVec.getLsbD_ofNat, Bool.and_eq_false_iff]
  right
  cases hb : Nat.testBit 1 i with
  | false => rfl
  | true => exact absurd (Nat.testBit_one_eq_true_iff_self_eq_zero.1 hb) this
theorem crcG_flip : ∀ (r : Rg) (l : List UInt8) (i : Nat) (h : i / 8 < l.length), crcG r (l.set (i / 8) (l[i / 8] ^^^ UInt8.ofNat (2 ^ (i % 8)))) = crcG r l ^^^ stpN (8 * l.length - i) one32
  | r, [], i, h => by simp at h
  | r, b :: l, i, h => by
    by_cases hi : i < 8
    · have h0 : i / 8 = 0 := by omega
      have hb : bz (UInt8.ofNat (2 ^ (i % 8))) = one32 <<< i := by
        have key : ∀ i : Fin 8, bz (UInt8.ofNat (2 ^ (i.val % 8))) = one32 <<< i.val := by decide +kernel
        exact key ⟨i, hi⟩
      simp only [h0, List.getElem_cons_zero, List.set_cons_zero, crcG, upB]
      rw [bz_xor, hb, ← BitVec.xor_assoc, stpN_xor, crcG_xor, stpN_one (by omega) (by omega) (by omega), ← stpN_add, List.length_cons]
      congr 2
      omega
    · obtain ⟨j, rfl⟩ := Nat.exists_eq_add_of_le (show 8 ≤ i by omega)
      have h1 : (8 + j) / 8 = j / 8 + 1 := by omega
      have h2 : (8 + j) % 8 = j % 8 := by omega
      have hl : j / 8 < l.length := by rw [List.length_cons] at h; omega
      simp only [h1, h2, List.getElem_cons_succ, List.set_cons_succ, crcG]
      rw [crcG_flip (upB r b) l j hl, List.length_cons]
      congr 2
      omega
/-- Four bytes as a word. -/
def w4 : List UInt8 → Rg
  | [] => 0
  | b :: l => bz b ^^^ (w4 l <<< 8)
theorem xor_disj (b m : Nat) (h : b < 256) : b ^^^ (256 * m) = b + 256 * m := by
  apply Nat.eq_of_testBit_eq
  intro i
  rw [Nat.testBit_xor, show 256 = 2 ^ 8 from rfl, Nat.add_comm, Nat.testBit_two_pow_mul_add m (by simpa using h), Nat.testBit_two_pow_mul]
  by_cases hi : i < 8
  · simp [hi, Nat.not_le.2 hi]
  · have hlt : b < 2 ^ i := Nat.lt_of_lt_of_le h (by rw [show 256 = 2 ^ 8 from rfl]; exact Nat.pow_le_pow_right (by omega) (by omega))
    simp [hi, Nat.testBit_lt_two_pow hlt, Nat.not_lt.1 hi]
theorem w4_toNat : ∀ (l : List UInt8), l.length ≤ 4 → (w4 l).toNat = bnum l
  | [], _ => rfl
  | b :: l, h => by
    rw [List.length_cons] at h
    have ih := w4_toNat l (by omega)
    have hb := b.toNat_lt
    have hl := bnum_lt l
    have hp : 256 ^ l.length ≤ 256 ^ 3 := Nat.pow_le_pow_right (by omega) (by omega)
    rw [w4, BitVec.toNat_xor, BitVec.toNat_shiftLeft, ih, bnum, Nat.shiftLeft_eq, Nat.mod_eq_of_lt (by omega), Nat.mul_comm]
    rw [show (bz b).toNat = b.toNat from by simp only [bz, BitVec.toNat_ofNat]; omega]
    exact xor_disj _ _ hb
theorem bnum_inj : ∀ (a b : List UInt8), a.length = b.length → bnum a = bnum b → a = b
  | [], [], _, _ => rfl
  | x :: a, y :: b, hl, h => by
    simp only [bnum] at h
    have hx := x.toNat_lt
    have hy := y.toNat_lt
    rw [bnum_inj a b (by simpa using hl) (by omega), UInt8.toNat.inj (show x.toNat = y.toNat by omega)]
  | [], _ :: _, hl, _ => by simp at hl
  | _ :: _, [], hl, _ => by simp at hl
theorem w4_low {l : List UInt8} (h : l.length ≤ 3) {i : Nat} (hi : 24 ≤ i) : (w4 l).getLsbD i = false := by
  have h1 := w4_toNat l (by omega)
  have hl := bnum_lt l
  have hp : 256 ^ l.length ≤ 256 ^ 3 := Nat.pow_le_pow_right (by omega) h
  have : bnum l < 2 ^ i := Nat.lt_of_lt_of_le (Nat.lt_of_lt_of_le hl hp) (by rw [show 256 ^ 3 = 2 ^ 24 from by decide]; exact Nat.pow_le_pow_right (by omega) hi)
  rw [← BitVec.testBit_toNat, h1]
  exact Nat.testBit_lt_two_pow this
theorem crcG_w4 : ∀ (l : List UInt8) (r : Rg), l.length ≤ 4 → crcG r l = stpN (8 * l.length) (r ^^^ w4 l)
  | [], r, _ => by simp [crcG, w4, stpN]
  | b :: l, r, h => by
    rw [List.length_cons] at h
    rw [crcG, crcG_w4 l _ (by omega), w4, List.length_cons, Nat.mul_succ, Nat.add_comm, stpN_add, ← BitVec.xor_assoc, stpN_xor 8, stpN_shl 8 (fun i hi => w4_low (by omega) (by omega)) (by omega)]
    rfl
def crcM (sum : Rg) (l : List UInt8) : Rg := ~~~ crcG (~~~ sum) l
theorem crcM_append (sum : Rg) (a b : List UInt8) : crcM (crcM sum a) b = crcM sum (a ++ b) := by
  rw [crcM, crcM, crcM, BitVec.not_not, crcG_append]
/-- What the register is behind what was sealed. -/
def resid : Rg := stpN 32 (~~~ 0)
theorem sealed_iff (x y : List UInt8) (hy : y.length = 4) : crcG (~~~ 0) (x ++ y) = resid ↔ bnum y = (crcM 0 x).toNat := by
  rw [crcG_append, crcG_w4 y _ (by omega), hy, resid]
  constructor
  · intro h
    have := stpN_inj h
    rw [← w4_toNat y (by omega)]
    congr 1
    unfold crcM
    have h2 : w4 y = crcG (~~~ 0) x ^^^ ~~~ 0 := by
      have e : crcG (~~~ 0) x ^^^ (crcG (~~~ 0) x ^^^ w4 y) = w4 y := by rw [← BitVec.xor_assoc, xs, zx]
      rw [this] at e
      exact e.symm
    rw [h2]
    rw [show (~~~ (0 : Rg)) = BitVec.allOnes 32 from by decide, BitVec.xor_allOnes]
  · intro h
    congr 1
    have : w4 y = crcM 0 x := BitVec.eq_of_toNat_eq (by rw [w4_toNat y (by omega), h])
    rw [this, crcM, show (~~~ (0 : Rg)) = BitVec.allOnes 32 from by decide, ← BitVec.xor_allOnes, ← BitVec.xor_assoc, xs, zx]
theorem resid_not : ~~~ resid = BitVec.ofNat 32 558161692 := by decide +kernel
theorem xor_invol (a b : Rg) : a ^^^ b ^^^ b = a := by rw [BitVec.xor_assoc, xs, xz]
end Go.Proofs.Ytfpjlinlmeojmaa
