/- Arrays of bytes, held against each other. -/
import Derived.Test.YtgebiedochlhmaaBase
import Derived.ChangeKeysEq
import Derived.Laws.StructEq
set_option linter.unusedVariables false
set_option linter.unusedSimpArgs false
namespace Go.Proofs.Ytgebiedochlhmaa
section
variable {P : Program} {w : World} {t e n : Nat} {l m : List UInt8}
theorem run_eqItems_bytes (d : Nat) (he : P.plainKey e = true) (hk : P.underlying e = some (.int .u8)) (hlm : l.length = m.length) : ∀ is : List Nat, (∀ i ∈ is, i < l.length) →
    (Op.eqItems (d + 1) e 1 (bcs l).toArray (bcs m).toArray is).run P w = .ok (is.all fun i => l[i]? == m[i]?) w
  | [], _ => by simp [Op.eqItems]
  | i :: is, h => by
    have hi := h i (by simp)
    have p1 := run_part_plain (P := P) w he (xs := (bcs l).toArray) (off := i) (v := bv l[i]) (by simpa using bcs_get l i hi)
    have p2 := run_part_plain (P := P) w he (xs := (bcs m).toArray) (off := i) (v := bv (m[i]'(by omega))) (by simpa using bcs_get m i (by omega))
    have p3 := run_equalIn_int (P := P) w d e .u8 .u8 (l[i].toNat : Int) ((m[i]'(by omega)).toNat : Int) hk
    have ih := run_eqItems_bytes d he hk hlm is (fun j hj => h j (by simp [hj]))
    unfold bv at p1 p2
    simp only [Op.eqItems, Nat.mul_one, Sem.run_bind, p1, p2, p3, Result.andThen_ok, List.all_cons, List.getElem?_eq_getElem hi, List.getElem?_eq_getElem (show i < m.length by omega)]
    have hb : ((l[i].toNat : Int) == ((m[i]'(by omega)).toNat : Int)) = (some l[i] == some (m[i]'(by omega))) := by
      rw [Bool.eq_iff_iff]
      simp only [beq_iff_eq, Option.some.injEq]
      constructor
      · intro h; exact UInt8.toNat.inj (by omega)
      · intro h; rw [h]
    rw [hb]
    cases (some l[i] == some (m[i]'(by omega)))
    · simp
    · simpa using ih
theorem equalIn_bytes (d : Nat) {i : TypeInfo} (hu : P.underlying t = some (.array n e)) (hi : P.info? e = some i) (he : P.plainKey e = true) (hk : P.underlying e = some (.int .u8)) (hc : P.cellsOf e = 1) (hl : l.length = n) (hm : m.length = n) :
    (Op.equalIn (d + 2) t (.agg (bcs l).toArray) (.agg (bcs m).toArray)).run P w = .ok (l == m) w := by
  rw [run_equalIn_array w (d + 1) _ _ hu hi, hc, run_eqItems_bytes d he hk (by omega) _ (by simp; omega)]
  congr 1
  rw [Bool.eq_iff_iff]
  simp only [List.all_eq_true, List.mem_range, beq_iff_eq]
  constructor
  · intro h
    refine List.ext_getElem? fun i => ?_
    by_cases hi : i < n
    · exact h i hi
    · rw [List.getElem?_eq_none (by omega), List.getElem?_eq_none (by omega)]
  · intro h i _
    rw [h]
theorem equal_bytes {i : TypeInfo} (hu : P.underlying t = some (.array n e)) (hi : P.info? e = some i) (he : P.plainKey e = true) (hk : P.underlying e = some (.int .u8)) (hc : P.cellsOf e = 1) (hl : l.length = n) (hm : m.length = n) :
    (Op.equal t (.agg (bcs l).toArray) (.agg (bcs m).toArray)).run P w = .ok (l == m) w := by
  show (Op.equalIn (9999 + 1) t (.agg (bcs l).toArray) (.agg (bcs m).toArray)).run P w = _
  rw [run_equalIn_array w 9999 _ _ hu hi, hc, run_eqItems_bytes 9998 he hk (by omega) _ (by simp; omega)]
  congr 1
  rw [Bool.eq_iff_iff]
  simp only [List.all_eq_true, List.mem_range, beq_iff_eq]
  constructor
  · intro h
    refine List.ext_getElem? fun i => ?_
    by_cases hi : i < n
    · exact h i hi
    · rw [List.getElem?_eq_none (by omega), List.getElem?_eq_none (by omega)]
  · intro h i _
    rw [h]
end
theorem u8sure : Try.prog.plainKey 5 = true ∧ Try.prog.cellsOf 5 = 1 := ⟨by kernel_rfl, by kernel_rfl⟩
theorem szU8 : szOf Try.prog 5 = some 1 := by kernel_rfl
section
variable {P : Program} {s : St} {F : List Asrt} {w : World} {K : Kn} {t g i n : Nat} {l m : List UInt8} {x : UInt8}
theorem eqB_sep {t n : Nat} {neg : Bool} (hu : Try.prog.underlying t = some (.array n 5)) (hl : l.length = n) (hm : m.length = n) (h : K (.bool (if neg then !(l == m) else l == m)) w) : eqvK Try.prog neg t (.agg (bcs l).toArray) (.agg (bcs m).toArray) K w := by
  have hi := info5
  simp only [Option.map_eq_some_iff, Prod.mk.injEq] at hi
  obtain ⟨i, hi, -⟩ := hi
  exact ⟨_, equal_bytes hu hi u8sure.1 Try.underlying5 u8sure.2 hl hm, h⟩
/-- A store into a block of bytes. -/
theorem stA1 (H : Holds s (Blk g t (bcs l).toArray :: F) w) (hi : i < l.length) (h : ∀ w', Holds s (Blk g t (bcs (l.set i x)).toArray :: F) w' → K undef w') : stK ⟨g, i, none⟩ (bv x) K w := by
  refine st_sep H (by simpa [bcs] using hi) rfl fun w' H' => h w' ?_
  rw [List.setIfInBounds_toArray, bcs_set] at H'
  exact H'
theorem lay_bcs {off : Nat} (h : off + m.length ≤ l.length) : lay (bcs l).toArray off (bcs m) = (bcs (l.take off ++ m ++ l.drop (off + m.length))).toArray := by
  apply Array.toList_inj.1
  rw [lay_list (by simpa [bcs] using h), bcs_append, bcs_append, bcs_length, bcs_take, bcs_drop]
theorem cellB (H : Holds s (Blk g t (bcs l).toArray :: F) w) (hi : i < l.length) : w.cell? ⟨g, i, none⟩ = some (bv l[i]) := by
  rw [H.cell, List.getElem?_toArray]
  exact bcs_get l i hi
/-- copy into a block of bytes. -/
theorem cpyA {off dn dc : Nat} {x : Value} (H : Holds s (Blk g n (bcs l).toArray :: F) w) (hx : RdB w x m) (hd : off + dn ≤ l.length)
    (h : ∀ w', Holds s (Blk g n (bcs (l.take off ++ m.take (min m.length dn) ++ l.drop (off + min m.length dn))).toArray :: F) w' → K (.int .i64 (min m.length dn : Nat)) w') :
    cpyK Try.prog 35 1 (.slice (some ⟨g, off, none⟩) dn dc) x K w := by
  refine cpyB_sep Try.underlying35 szU8 H hx (by simpa [bcs] using hd) (bcs_one m) fun w' H' => h w' ?_
  rw [Nat.mul_one, bcs_take, lay_bcs (by rw [List.length_take]; omega)] at H'
  rw [List.length_take] at H'
  rw [show min (min m.length dn) m.length = min m.length dn from by omega] at H'
  exact H'
theorem arrB (n : Nat) : Array.replicate n (Value.int .u8 0) = (bcs (List.replicate n 0)).toArray := by
  simp [bcs, bv]
end
end Go.Proofs.Ytgebiedochlhmaa
