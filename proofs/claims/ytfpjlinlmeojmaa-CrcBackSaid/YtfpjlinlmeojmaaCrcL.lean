/- What the laws of the sums use. -/
import Derived.Test.YtfpjlinlmeojmaaCrc
import Derived.Test.YtfpjlinlmeojmaaEqv
import Derived.Test.YtfpjlinlmeojmaaArgs
set_option linter.unusedVariables false
set_option linter.unusedSimpArgs false
set_option maxRecDepth 10000
namespace Go.Proofs.Ytfpjlinlmeojmaa
theorem u32_row {W : World} {v : Value} (h : ∃ a, R22 W [v] a) : ∃ r : Rg, v = rv r := by
  obtain ⟨a, h1, w1⟩ := h
  obtain rfl : v = .int .u32 a := by simpa using h1
  simp [Lit.wf, IntKind.min, IntKind.max, IntKind.signed, IntKind.bits] at w1
  refine ⟨BitVec.ofNat 32 a.toNat, ?_⟩
  simp only [rv, BitVec.toNat_ofNat, Value.int.injEq, true_and]
  omega
theorem u64_row {W : World} {v : Value} (h : ∃ a, R29 W [v] a) : ∃ n : Nat, n < 18446744073709551616 ∧ v = .int .u64 n := by
  obtain ⟨a, h1, w1⟩ := h
  obtain rfl : v = .int .u64 a := by simpa using h1
  simp [Lit.wf, IntKind.min, IntKind.max, IntKind.signed, IntKind.bits] at w1
  refine ⟨a.toNat, by omega, ?_⟩
  simp only [Value.int.injEq, true_and]
  omega
theorem bytes_row {W : World} {v : Value} (h : ∃ a, R23 W [v] a) : ∃ l : List UInt8, RdB W v l ∧ l.length ≤ 140737488351232 := by
  obtain ⟨a0, h0⟩ := h
  obtain ⟨hv0, -, hml, hm⟩ := RSl.bytes' h0
  obtain rfl : v = a0.1 := by simpa using hv0
  exact ⟨_, hm, hml⟩
theorem arr_row {W : World} {v : Array Value} (h : ∃ a, R31 W v.toList a) : ∃ l : List UInt8, l.length = 4 ∧ v = (bcs l).toArray := by
  obtain ⟨a, h1, h2, h3⟩ := h
  refine ⟨u8s a, by simpa [u8s] using h2, ?_⟩
  apply Array.toList_inj.1
  refine List.ext_getElem? fun i => ?_
  by_cases hi : i < 4
  · have := h3 i a[i] (by simp [h2, hi])
    obtain ⟨h4, h5⟩ := this
    have h6 : v.toList[i]? = some (.int .u8 a[i]) := by
      have := congrArg (·[0]?) h4
      simpa using this
    rw [h6]
    simp [Lit.wf, IntKind.min, IntKind.max, IntKind.signed, IntKind.bits] at h5
    have hia : i < a.length := by omega
    simp only [bcs, u8s, List.map_map, List.getElem?_map, List.getElem?_eq_getElem hia, Option.map_some, Function.comp, bv, UInt8.toNat_ofNat', Option.some.injEq, Value.int.injEq, true_and]
    omega
  · rw [List.getElem?_eq_none (by omega), List.getElem?_eq_none (by simp [bcs, u8s]; omega)]
theorem crcM_inj4 {sum : Rg} {a b : List UInt8} (ha : a.length = 4) (hb : b.length = 4) : crcM sum a = crcM sum b ↔ a = b := by
  refine ⟨fun h => ?_, fun h => by rw [h]⟩
  unfold crcM at h
  have h := congrArg (~~~ ·) h
  simp only [BitVec.not_not] at h
  rw [crcG_w4 a _ (by omega), crcG_w4 b _ (by omega), ha, hb] at h
  have h := congrArg (~~~ sum ^^^ ·) (stpN_inj h)
  simp only [← BitVec.xor_assoc, xs, zx] at h
  have h := congrArg BitVec.toNat h
  rw [w4_toNat a (by omega), w4_toNat b (by omega)] at h
  exact bnum_inj a b (by omega) h
theorem rv_beq (a b : Rg) : (((a.toNat : Int) == (b.toNat : Int)) = decide (a = b)) := by
  rw [Bool.eq_iff_iff]
  simp only [beq_iff_eq, decide_eq_true_eq]
  exact ⟨fun h => BitVec.eq_of_toNat_eq (by omega), fun h => by rw [h]⟩
theorem openL_some (l : List UInt8) (h : 4 ≤ l.length) : (openL l).isSome = decide (crcG (~~~ 0) l = resid) := by
  have hd : (l.drop (l.length - 4)).length = 4 := by rw [List.length_drop]; omega
  have := sealed_iff (l.take (l.length - 4)) (l.drop (l.length - 4)) hd
  rw [List.take_append_drop] at this
  unfold openL
  by_cases hb : bnum (l.drop (l.length - 4)) = (crcM 0 (l.take (l.length - 4))).toNat
  · rw [if_pos ⟨h, hb⟩, decide_eq_true (this.2 hb)]
    rfl
  · rw [if_neg (fun hh => hb hh.2), decide_eq_false (fun hh => hb (this.1 hh))]
    rfl
theorem bnum_le4 (r : Rg) : bnum (le (r.toNat : Int) 4) = r.toNat := by
  have hr := r.isLt
  have := bnum_le 4 (r.toNat : Int) (by omega)
  omega
theorem sealL_res (l : List UInt8) : crcG (~~~ 0) (sealL l) = resid := (sealed_iff l _ (le_length _ _)).2 (bnum_le4 _)
theorem openL_seal (l : List UInt8) : openL (sealL l) = some l := by
  have hl := sealL_length l
  have ht : (sealL l).take ((sealL l).length - 4) = l := by
    rw [hl, Nat.add_sub_cancel]
    exact List.take_left
  have hd : (sealL l).drop ((sealL l).length - 4) = le ((crcM 0 l).toNat : Int) 4 := by
    rw [hl, Nat.add_sub_cancel]
    exact List.drop_left
  unfold openL
  rw [ht, hd, if_pos ⟨by omega, bnum_le4 _⟩]
end Go.Proofs.Ytfpjlinlmeojmaa
