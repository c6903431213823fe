/- Loops over bytes: each is turned by xor, or set. -/
import Derived.Test.YtgebiedochlhmaaDenO
import Derived.Laws.BitsAllLaws
set_option linter.unusedVariables false
set_option linter.unusedSimpArgs false
set_option maxRecDepth 4000
namespace Go.Proofs.Ytgebiedochlhmaa
theorem mixR_out {X E : Env} : ∀ {W : List (Nat × Nat)} {t : Nat}, inR W t = false → mixR W X E t = E t := by
  intro W
  induction W with
  | nil => intro t h; rfl
  | cons p W ih =>
    intro t h
    obtain ⟨a, b⟩ := p
    have hin : inR ((a, b) :: W) t = ((decide (a ≤ t) && decide (t ≤ b)) || inR W t) := rfl
    rw [hin, Bool.or_eq_false_iff] at h
    rw [mixR_cons, if_neg (by simpa using h.1), ih h.2]
theorem mixR_idem {X E : Env} {W : List (Nat × Nat)} : Same W E (mixR W X E) := fun t h => mixR_out h
theorem bv_xor (x : UInt8) (c : Nat) (hc : c < 256) : bits .xor .u8 (x.toNat : Int) (c : Int) = ((x ^^^ UInt8.ofNat c).toNat : Int) := by
  rw [Go.u8_xor_nat _ _ x.toNat_lt hc, UInt8.toNat_xor, UInt8.toNat_ofNat', Nat.mod_eq_of_lt hc]
theorem mkB_sep {s : St} {F : List Asrt} {w : World} {K : Kn} {e : Nat} {n : Int} (H : Holds s F w) (h0 : 0 ≤ n) (h1 : n ≤ 70368744177664)
    (h : ∀ g w', Holds s (BO e (.slice (some ⟨g, 0, none⟩) n.toNat n.toNat) (List.replicate n.toNat 0) :: F) w' → K (.slice (some ⟨g, 0, none⟩) n.toNat n.toNat) w') : mkSK e 1 1 #[.int .u8 0] n n K w := by
  refine mkS_sep H h0 (by omega) (by omega) fun g w' H' => h g w' ?_
  rw [mkZero_one, Nat.mul_one] at H'
  have := H'.blkO (n := n.toNat) (sz := 1) (by simp) (by unfold maxLen; omega)
  simpa [BO, bcs, bv] using this
def xorBody (b src idx blk bi c : Nat) : Cmd :=
  .seq (.ops [⟨some (b+3), none, .p (.cmp .lss), [.tmp (b+2), .tmp (b+1)]⟩])
  (.seq (.cond (.tmp (b+3)) .skip (.exit blk))
   (.seq (.block bi (.seq (.ops [⟨some (b+4), none, .p .mv, [.tmp (b+2)]⟩, ⟨some idx, none, .p .mv, [.tmp (b+4)]⟩])
      (.ops [⟨some (b+5), none, .p .mv, [.tmp src]⟩, ⟨some (b+6), none, .p .mv, [.tmp idx]⟩, ⟨some (b+7), none, .p (.iaddrS 1), [.tmp (b+5), .tmp (b+6)]⟩, ⟨some (b+8), none, .load1, [.tmp (b+7)]⟩,
        ⟨some (b+9), none, .p (.bin .xor), [.tmp (b+8), .const (.int .u8 c)]⟩, ⟨some (b+10), none, .p (.iaddrS 1), [.tmp (b+5), .tmp (b+6)]⟩, ⟨none, none, .store1, [.tmp (b+10), .tmp (b+9)]⟩])))
    (.ops [⟨some (b+11), none, .p (.bin .add), [.tmp (b+2), .const (.int .i64 1)]⟩, ⟨some (b+2), none, .p .mv, [.tmp (b+11)]⟩])))
def setBody (b src idx blk bi : Nat) (c : Operand) : Cmd :=
  .seq (.ops [⟨some (b+3), none, .p (.cmp .lss), [.tmp (b+2), .tmp (b+1)]⟩])
  (.seq (.cond (.tmp (b+3)) .skip (.exit blk))
   (.seq (.block bi (.seq (.ops [⟨some (b+4), none, .p .mv, [.tmp (b+2)]⟩, ⟨some idx, none, .p .mv, [.tmp (b+4)]⟩])
      (.ops [⟨some (b+5), none, .p .mv, [.tmp src]⟩, ⟨some (b+6), none, .p .mv, [.tmp idx]⟩, ⟨some (b+7), none, .p (.iaddrS 1), [.tmp (b+5), .tmp (b+6)]⟩, ⟨none, none, .store1, [.tmp (b+7), c]⟩])))
    (.ops [⟨some (b+8), none, .p (.bin .add), [.tmp (b+2), .const (.int .i64 1)]⟩, ⟨some (b+2), none, .p .mv, [.tmp (b+8)]⟩])))
section
variable {P : Program} {s : St} {F : List Asrt} {w : World} {E : Env} {Q : QT} {t b src idx blk bi c cap : Nat} {A : Option Addr} {l : List UInt8}
theorem BO.some (H : Holds s (BO t (.slice A l.length cap) l :: F) w) {j : Nat} (hj : j < l.length) : ∃ g o, A = .some ⟨g, o, none⟩ ∧ ∀ (i : Nat) (h : i < l.length), w.cell? ⟨g, o + i, none⟩ = .some (bv l[i]) := by
  obtain ⟨g, o, hA, hc⟩ := RdS.at (Holds.rdO H) hj
  exact ⟨g, o, hA, fun i h => hc i _ (bcs_get l i h)⟩
theorem stB_sep {K : Kn} {g o i : Nat} {x : UInt8} (H : Holds s (BO t (.slice (some ⟨g, o, none⟩) l.length cap) l :: F) w) (hi : i < l.length)
    (h : ∀ w', Holds s (BO t (.slice (some ⟨g, o, none⟩) l.length cap) (l.set i x) :: F) w' → K undef w') : stK ⟨g, o + i, none⟩ (bv x) K w := by
  refine stO_sep H hi rfl fun w' H' => h w' ?_
  unfold BO
  rw [List.length_set, ← bcs_set]
  exact H'
theorem map_take_set {f : UInt8 → UInt8} {l : List UInt8} {j : Nat} (hj : j < l.length) : ((l.take j).map f ++ l.drop j).set j (f l[j]) = (l.take (j + 1)).map f ++ l.drop (j + 1) := by
  rw [List.set_append, if_neg (by simp; omega)]
  have : j - ((l.take j).map f).length = 0 := by simp; omega
  rw [this, List.drop_eq_getElem_cons hj, List.set_cons_zero, List.take_succ_eq_append_getElem hj]
  simp only [List.map_append, List.map_cons, List.map_nil, List.append_assoc, List.cons_append, List.nil_append]
theorem xor_loop (hsi : src ≠ idx) (hs : src < b) (hi : idx < b) (hc : c < 256) (H : Holds s (BO t (.slice A l.length cap) l :: F) w) (hsrc : E src = .slice A l.length cap) (h1 : E (b + 1) = .int .i64 l.length) (h2 : E (b + 2) = .int .i64 0) (hl : l.length ≤ 140737488355328)
    (h : ∀ X w', Holds s (BO t (.slice A l.length cap) (l.map (· ^^^ UInt8.ofNat c)) :: F) w' → Q (.exit blk) (mixR [(idx, idx), (b + 2, b + 11)] X E) w') : loopQ P (xorBody b src idx blk bi c) Q E w := by
  refine loop_rule [(idx, idx), (b + 2, b + 11)] (by simp [xorBody, wCmd, wOps, inR]) (fun k X w => ∃ j : Nat, j + k = l.length ∧ X (b + 2) = .int .i64 j ∧ Holds s (BO t (.slice A l.length cap) ((l.take j).map (· ^^^ UInt8.ofNat c) ++ l.drop j) :: F) w) l.length ⟨0, by omega, h2, by simpa using H⟩ ?_
  intro k X w5 ⟨j, hk, hX, H⟩
  have e1 : mixR [(idx, idx), (b + 2, b + 11)] X E (b + 1) = .int .i64 l.length := by rw [mixR_out (by simp [inR]; omega), h1]
  have e2 : mixR [(idx, idx), (b + 2, b + 11)] X E (b + 2) = .int .i64 j := by rw [mixR_cons, if_neg (by omega), mixR_cons, if_pos (by omega), hX]
  have e3 : mixR [(idx, idx), (b + 2, b + 11)] X E src = .slice A l.length cap := by rw [mixR_out (by simp [inR]; omega), hsrc]
  have hY := mixR_idem (X := X) (E := E) (W := [(idx, idx), (b + 2, b + 11)])
  generalize mixR [(idx, idx), (b + 2, b + 11)] X E = Y at e1 e2 e3 hY ⊢
  have n1 : ∀ k, ¬ (b + k = src) := by omega
  have n2 : ∀ k, ¬ (b + k = idx) := by omega
  have n3 : ∀ k, ¬ (idx = b + k) := by omega
  have n4 : ¬ (idx = src) := by omega
  by_cases hj : (j : Int) < l.length
  · have hj' : j < l.length := by omega
    have hlen : ((l.take j).map (· ^^^ UInt8.ofNat c) ++ l.drop j).length = l.length := by simp; omega
    have H' := H
    rw [← hlen] at H'
    obtain ⟨g, o, rfl, hcell⟩ := BO.some H' (j := j) (by omega)
    have hcj := hcell j (by omega)
    rw [List.getElem_append_right (by simp; omega)] at hcj
    simp only [List.length_map, List.length_take, Nat.min_eq_left (Nat.le_of_lt hj'), Nat.sub_self, List.getElem_drop, Nat.add_zero] at hcj
    have hx := bv_xor l[j] c hc
    have hw : IntKind.i64.wrap ((j : Int) + 1) = (j : Int) + 1 := IntWalk.i64_in _ (by omega)
    simp only [xorBody, z00, z01, z02, z03, z04, z05, z06, z07, z08, z09, z10, z11, z12, z13, z14, z15, z16, z17, z18, z19, z20, z21, z22, z23, z24, z25, z26, z27, z28, z29, z30, z31, z32, z33, z34, z35, z36, z37, z38, z39, z40, z41, z42, z43, z44, z45, z46, z47, z48, z49, z50, z51, z52, z53, z54, z55, z56, z57, z58, z59, z60, z61, z62, z63, z64, z65, z66, z67, z68, z69, z70, z71, z72, z73, z74, z75, z76, z77, z78, z79, z80, z81, z82, z83, z84, z85, z86, z87, z88, z89, z90, z91, z92, z93, z94, z95, z96, z97, z98, List.setIfInBounds_toArray, List.set_cons_zero, List.set_cons_succ, Option.map_some, List.size_toArray, List.length_cons, List.length_nil, z99, y00, y01, y02, y03, y04, y05, y06, y07, y08, y09, y10, y11, y12, y13, y14, y15, y16, y17, y18, y19, y20, y21, y22, y23, y24, y25, y26, y27, y28, y29, y30, y31, y32, y33, y34, y35, y36, y37, y38, y39, y40, y41, y42, y43, y44, y45, y46, y47, y48, y49, y50, y51, y52, y53, y54, y55, List.map_cons, List.map_nil, Option.some.injEq, Value.bool.injEq, reduceCtorEq, ↓reduceIte, Nat.zero_add, Nat.reduceAdd, Nat.reduceSub, Nat.reduceMul, Nat.reduceEqDiff, Nat.reduceLeDiff, Nat.reduceLT, Int.reduceEq, Int.reduceNe, Int.reduceLT, Int.reduceLE, Int.reduceAdd, Int.reduceSub, Int.reduceMul, Int.reduceToNat, Int.reduceBEq, Int.reduceBNe, Int.reduceNeg, lit_cast0, lit_cast, and_self, decide_eq_true_eq, Bool.not_eq_true', Bool.not_eq_false', decide_eq_false_iff_not, beq_iff_eq, bne_iff_ne, Bool.and_eq_true, Bool.or_eq_true, beq_true, beq_false, Bool.not_true, Bool.not_false, Bool.not_not, and_true, true_and, Option.isNone_none, Option.isNone_some, List.getElem?_cons_zero, List.getElem?_cons_succ, List.getElem?_toArray, List.contains_cons, List.contains_nil, Bool.or_false, Nat.reduceBEq, Bool.or_true, Bool.true_or, Bool.false_or, Bool.false_eq_true, Bool.true_eq_false, Nat.add_left_cancel_iff, e1, e2, e3, n1, n2, n3, n4, hj, decide_true, show (0 : Int) ≤ j from by omega, Int.toNat_natCast, Nat.mul_one, hcj, bv, hx]
    refine stB_sep H' (by omega) fun w6 H6 => ?_
    rw [map_take_set hj', hlen] at H6
    simp only [z00, z01, z02, z03, z04, z05, z06, z07, z08, z09, z10, z11, z12, z13, z14, z15, z16, z17, z18, z19, z20, z21, z22, z23, z24, z25, z26, z27, z28, z29, z30, z31, z32, z33, z34, z35, z36, z37, z38, z39, z40, z41, z42, z43, z44, z45, z46, z47, z48, z49, z50, z51, z52, z53, z54, z55, z56, z57, z58, z59, z60, z61, z62, z63, z64, z65, z66, z67, z68, z69, z70, z71, z72, z73, z74, z75, z76, z77, z78, z79, z80, z81, z82, z83, z84, z85, z86, z87, z88, z89, z90, z91, z92, z93, z94, z95, z96, z97, z98, List.setIfInBounds_toArray, List.set_cons_zero, List.set_cons_succ, Option.map_some, List.size_toArray, List.length_cons, List.length_nil, z99, y00, y01, y02, y03, y04, y05, y06, y07, y08, y09, y10, y11, y12, y13, y14, y15, y16, y17, y18, y19, y20, y21, y22, y23, y24, y25, y26, y27, y28, y29, y30, y31, y32, y33, y34, y35, y36, y37, y38, y39, y40, y41, y42, y43, y44, y45, y46, y47, y48, y49, y50, y51, y52, y53, y54, y55, List.map_cons, List.map_nil, Option.some.injEq, Value.bool.injEq, reduceCtorEq, ↓reduceIte, Nat.zero_add, Nat.reduceAdd, Nat.reduceSub, Nat.reduceMul, Nat.reduceEqDiff, Nat.reduceLeDiff, Nat.reduceLT, Int.reduceEq, Int.reduceNe, Int.reduceLT, Int.reduceLE, Int.reduceAdd, Int.reduceSub, Int.reduceMul, Int.reduceToNat, Int.reduceBEq, Int.reduceBNe, Int.reduceNeg, lit_cast0, lit_cast, and_self, decide_eq_true_eq, Bool.not_eq_true', Bool.not_eq_false', decide_eq_false_iff_not, beq_iff_eq, bne_iff_ne, Bool.and_eq_true, Bool.or_eq_true, beq_true, beq_false, Bool.not_true, Bool.not_false, Bool.not_not, and_true, true_and, Option.isNone_none, Option.isNone_some, List.getElem?_cons_zero, List.getElem?_cons_succ, List.getElem?_toArray, List.contains_cons, List.contains_nil, Bool.or_false, Nat.reduceBEq, Bool.or_true, Bool.true_or, Bool.false_or, Bool.false_eq_true, Bool.true_eq_false, Nat.add_left_cancel_iff, e1, e2, e3, n1, n2, n3, n4, hw, lpK_normal]
    exact ⟨k - 1, by omega, j + 1, by omega, by simp, H6⟩
  · obtain rfl : j = l.length := by omega
    simp only [xorBody, z00, z01, z02, z03, z04, z05, z06, z07, z08, z09, z10, z11, z12, z13, z14, z15, z16, z17, z18, z19, z20, z21, z22, z23, z24, z25, z26, z27, z28, z29, z30, z31, z32, z33, z34, z35, z36, z37, z38, z39, z40, z41, z42, z43, z44, z45, z46, z47, z48, z49, z50, z51, z52, z53, z54, z55, z56, z57, z58, z59, z60, z61, z62, z63, z64, z65, z66, z67, z68, z69, z70, z71, z72, z73, z74, z75, z76, z77, z78, z79, z80, z81, z82, z83, z84, z85, z86, z87, z88, z89, z90, z91, z92, z93, z94, z95, z96, z97, z98, List.setIfInBounds_toArray, List.set_cons_zero, List.set_cons_succ, Option.map_some, List.size_toArray, List.length_cons, List.length_nil, z99, y00, y01, y02, y03, y04, y05, y06, y07, y08, y09, y10, y11, y12, y13, y14, y15, y16, y17, y18, y19, y20, y21, y22, y23, y24, y25, y26, y27, y28, y29, y30, y31, y32, y33, y34, y35, y36, y37, y38, y39, y40, y41, y42, y43, y44, y45, y46, y47, y48, y49, y50, y51, y52, y53, y54, y55, List.map_cons, List.map_nil, Option.some.injEq, Value.bool.injEq, reduceCtorEq, ↓reduceIte, Nat.zero_add, Nat.reduceAdd, Nat.reduceSub, Nat.reduceMul, Nat.reduceEqDiff, Nat.reduceLeDiff, Nat.reduceLT, Int.reduceEq, Int.reduceNe, Int.reduceLT, Int.reduceLE, Int.reduceAdd, Int.reduceSub, Int.reduceMul, Int.reduceToNat, Int.reduceBEq, Int.reduceBNe, Int.reduceNeg, lit_cast0, lit_cast, and_self, decide_eq_true_eq, Bool.not_eq_true', Bool.not_eq_false', decide_eq_false_iff_not, beq_iff_eq, bne_iff_ne, Bool.and_eq_true, Bool.or_eq_true, beq_true, beq_false, Bool.not_true, Bool.not_false, Bool.not_not, and_true, true_and, Option.isNone_none, Option.isNone_some, List.getElem?_cons_zero, List.getElem?_cons_succ, List.getElem?_toArray, List.contains_cons, List.contains_nil, Bool.or_false, Nat.reduceBEq, Bool.or_true, Bool.true_or, Bool.false_or, Bool.false_eq_true, Bool.true_eq_false, Nat.add_left_cancel_iff, e1, e2, n1, n2, n3, hj, decide_false]
    have := h (upd Y (some (b + 3)) (.bool false)) w5 (by simpa using H)
    rwa [mixR_same (hY.trans (Same.upd (by simp [inR]) _))] at this
theorem set_loop {o : Operand} {x : UInt8} (hsi : src ≠ idx) (hs : src < b) (hi : idx < b) (ho : ∀ Y : Env, (∀ t, t < b → t ≠ idx → Y t = E t) → evo Y o = bv x) (H : Holds s (BO t (.slice A l.length cap) l :: F) w) (hsrc : E src = .slice A l.length cap) (h1 : E (b + 1) = .int .i64 l.length) (h2 : E (b + 2) = .int .i64 0) (hl : l.length ≤ 140737488355328)
    (h : ∀ X w', Holds s (BO t (.slice A l.length cap) (List.replicate l.length x) :: F) w' → Q (.exit blk) (mixR [(idx, idx), (b + 2, b + 8)] X E) w') : loopQ P (setBody b src idx blk bi o) Q E w := by
  have hrep : ∀ l : List UInt8, l.map (fun _ => x) = List.replicate l.length x := fun l => List.map_const'
  refine loop_rule [(idx, idx), (b + 2, b + 8)] (by simp [setBody, wCmd, wOps, inR]) (fun k X w => ∃ j : Nat, j + k = l.length ∧ X (b + 2) = .int .i64 j ∧ Holds s (BO t (.slice A l.length cap) ((l.take j).map (fun _ => x) ++ l.drop j) :: F) w) l.length ⟨0, by omega, h2, by simpa using H⟩ ?_
  intro k X w5 ⟨j, hk, hX, H⟩
  have e1 : mixR [(idx, idx), (b + 2, b + 8)] X E (b + 1) = .int .i64 l.length := by rw [mixR_out (by simp [inR]; omega), h1]
  have e2 : mixR [(idx, idx), (b + 2, b + 8)] X E (b + 2) = .int .i64 j := by rw [mixR_cons, if_neg (by omega), mixR_cons, if_pos (by omega), hX]
  have e3 : mixR [(idx, idx), (b + 2, b + 8)] X E src = .slice A l.length cap := by rw [mixR_out (by simp [inR]; omega), hsrc]
  have e4 : ∀ t, t < b → t ≠ idx → mixR [(idx, idx), (b + 2, b + 8)] X E t = E t := fun t ht hti => mixR_out (by simp [inR]; omega)
  have hY := mixR_idem (X := X) (E := E) (W := [(idx, idx), (b + 2, b + 8)])
  generalize mixR [(idx, idx), (b + 2, b + 8)] X E = Y at e1 e2 e3 e4 hY ⊢
  have n1 : ∀ k, ¬ (b + k = src) := by omega
  have n2 : ∀ k, ¬ (b + k = idx) := by omega
  have n3 : ∀ k, ¬ (idx = b + k) := by omega
  have n4 : ¬ (idx = src) := by omega
  by_cases hj : (j : Int) < l.length
  · have hj' : j < l.length := by omega
    have hlen : ((l.take j).map (fun _ => x) ++ l.drop j).length = l.length := by simp; omega
    have H' := H
    rw [← hlen] at H'
    obtain ⟨g, o', rfl, hcell⟩ := BO.some H' (j := j) (by omega)
    have hw : IntKind.i64.wrap ((j : Int) + 1) = (j : Int) + 1 := IntWalk.i64_in _ (by omega)
    have hval : ∀ v3 v4 v5 v6 v7 v8, evo (upd (upd (upd (upd (upd (upd Y (some (b + 3)) v3) (some (b + 4)) v4) (some idx) v5) (some (b + 5)) v6) (some (b + 6)) v7) (some (b + 7)) v8) o = bv x := fun v3 v4 v5 v6 v7 v8 => ho _ fun t ht hti => by
      simp only [upd_app, Option.some.injEq]
      rw [if_neg (by omega), if_neg (by omega), if_neg (by omega), if_neg (Ne.symm hti), if_neg (by omega), if_neg (by omega), e4 t ht hti]
    simp only [setBody, z00, z01, z02, z03, z04, z05, z06, z07, z08, z09, z10, z11, z12, z13, z14, z15, z16, z17, z18, z19, z20, z21, z22, z23, z24, z25, z26, z27, z28, z29, z30, z31, z32, z33, z34, z35, z36, z37, z38, z39, z40, z41, z42, z43, z44, z45, z46, z47, z48, z49, z50, z51, z52, z53, z54, z55, z56, z57, z58, z59, z60, z61, z62, z63, z64, z65, z66, z67, z68, z69, z70, z71, z72, z73, z74, z75, z76, z77, z78, z79, z80, z81, z82, z83, z84, z85, z86, z87, z88, z89, z90, z91, z92, z93, z94, z95, z96, z97, z98, List.setIfInBounds_toArray, List.set_cons_zero, List.set_cons_succ, Option.map_some, List.size_toArray, List.length_cons, List.length_nil, z99, y00, y01, y02, y03, y04, y05, y06, y07, y08, y09, y10, y11, y12, y13, y14, y15, y16, y17, y18, y19, y20, y21, y22, y23, y24, y25, y26, y27, y28, y29, y30, y31, y32, y33, y34, y35, y36, y37, y38, y39, y40, y41, y42, y43, y44, y45, y46, y47, y48, y49, y50, y51, y52, y53, y54, y55, List.map_cons, List.map_nil, Option.some.injEq, Value.bool.injEq, reduceCtorEq, ↓reduceIte, Nat.zero_add, Nat.reduceAdd, Nat.reduceSub, Nat.reduceMul, Nat.reduceEqDiff, Nat.reduceLeDiff, Nat.reduceLT, Int.reduceEq, Int.reduceNe, Int.reduceLT, Int.reduceLE, Int.reduceAdd, Int.reduceSub, Int.reduceMul, Int.reduceToNat, Int.reduceBEq, Int.reduceBNe, Int.reduceNeg, lit_cast0, lit_cast, and_self, decide_eq_true_eq, Bool.not_eq_true', Bool.not_eq_false', decide_eq_false_iff_not, beq_iff_eq, bne_iff_ne, Bool.and_eq_true, Bool.or_eq_true, beq_true, beq_false, Bool.not_true, Bool.not_false, Bool.not_not, and_true, true_and, Option.isNone_none, Option.isNone_some, List.getElem?_cons_zero, List.getElem?_cons_succ, List.getElem?_toArray, List.contains_cons, List.contains_nil, Bool.or_false, Nat.reduceBEq, Bool.or_true, Bool.true_or, Bool.false_or, Bool.false_eq_true, Bool.true_eq_false, Nat.add_left_cancel_iff, e1, e2, e3, n1, n2, n3, n4, hj, decide_true, show (0 : Int) ≤ j from by omega, Int.toNat_natCast, Nat.mul_one, hval]
    refine stB_sep H' (by omega) fun w6 H6 => ?_
    rw [map_take_set (f := fun _ => x) hj', hlen] at H6
    simp only [z00, z01, z02, z03, z04, z05, z06, z07, z08, z09, z10, z11, z12, z13, z14, z15, z16, z17, z18, z19, z20, z21, z22, z23, z24, z25, z26, z27, z28, z29, z30, z31, z32, z33, z34, z35, z36, z37, z38, z39, z40, z41, z42, z43, z44, z45, z46, z47, z48, z49, z50, z51, z52, z53, z54, z55, z56, z57, z58, z59, z60, z61, z62, z63, z64, z65, z66, z67, z68, z69, z70, z71, z72, z73, z74, z75, z76, z77, z78, z79, z80, z81, z82, z83, z84, z85, z86, z87, z88, z89, z90, z91, z92, z93, z94, z95, z96, z97, z98, List.setIfInBounds_toArray, List.set_cons_zero, List.set_cons_succ, Option.map_some, List.size_toArray, List.length_cons, List.length_nil, z99, y00, y01, y02, y03, y04, y05, y06, y07, y08, y09, y10, y11, y12, y13, y14, y15, y16, y17, y18, y19, y20, y21, y22, y23, y24, y25, y26, y27, y28, y29, y30, y31, y32, y33, y34, y35, y36, y37, y38, y39, y40, y41, y42, y43, y44, y45, y46, y47, y48, y49, y50, y51, y52, y53, y54, y55, List.map_cons, List.map_nil, Option.some.injEq, Value.bool.injEq, reduceCtorEq, ↓reduceIte, Nat.zero_add, Nat.reduceAdd, Nat.reduceSub, Nat.reduceMul, Nat.reduceEqDiff, Nat.reduceLeDiff, Nat.reduceLT, Int.reduceEq, Int.reduceNe, Int.reduceLT, Int.reduceLE, Int.reduceAdd, Int.reduceSub, Int.reduceMul, Int.reduceToNat, Int.reduceBEq, Int.reduceBNe, Int.reduceNeg, lit_cast0, lit_cast, and_self, decide_eq_true_eq, Bool.not_eq_true', Bool.not_eq_false', decide_eq_false_iff_not, beq_iff_eq, bne_iff_ne, Bool.and_eq_true, Bool.or_eq_true, beq_true, beq_false, Bool.not_true, Bool.not_false, Bool.not_not, and_true, true_and, Option.isNone_none, Option.isNone_some, List.getElem?_cons_zero, List.getElem?_cons_succ, List.getElem?_toArray, List.contains_cons, List.contains_nil, Bool.or_false, Nat.reduceBEq, Bool.or_true, Bool.true_or, Bool.false_or, Bool.false_eq_true, Bool.true_eq_false, Nat.add_left_cancel_iff, e1, e2, e3, n1, n2, n3, n4, hw, lpK_normal]
    exact ⟨k - 1, by omega, j + 1, by omega, by simp, H6⟩
  · obtain rfl : j = l.length := by omega
    simp only [setBody, z00, z01, z02, z03, z04, z05, z06, z07, z08, z09, z10, z11, z12, z13, z14, z15, z16, z17, z18, z19, z20, z21, z22, z23, z24, z25, z26, z27, z28, z29, z30, z31, z32, z33, z34, z35, z36, z37, z38, z39, z40, z41, z42, z43, z44, z45, z46, z47, z48, z49, z50, z51, z52, z53, z54, z55, z56, z57, z58, z59, z60, z61, z62, z63, z64, z65, z66, z67, z68, z69, z70, z71, z72, z73, z74, z75, z76, z77, z78, z79, z80, z81, z82, z83, z84, z85, z86, z87, z88, z89, z90, z91, z92, z93, z94, z95, z96, z97, z98, List.setIfInBounds_toArray, List.set_cons_zero, List.set_cons_succ, Option.map_some, List.size_toArray, List.length_cons, List.length_nil, z99, y00, y01, y02, y03, y04, y05, y06, y07, y08, y09, y10, y11, y12, y13, y14, y15, y16, y17, y18, y19, y20, y21, y22, y23, y24, y25, y26, y27, y28, y29, y30, y31, y32, y33, y34, y35, y36, y37, y38, y39, y40, y41, y42, y43, y44, y45, y46, y47, y48, y49, y50, y51, y52, y53, y54, y55, List.map_cons, List.map_nil, Option.some.injEq, Value.bool.injEq, reduceCtorEq, ↓reduceIte, Nat.zero_add, Nat.reduceAdd, Nat.reduceSub, Nat.reduceMul, Nat.reduceEqDiff, Nat.reduceLeDiff, Nat.reduceLT, Int.reduceEq, Int.reduceNe, Int.reduceLT, Int.reduceLE, Int.reduceAdd, Int.reduceSub, Int.reduceMul, Int.reduceToNat, Int.reduceBEq, Int.reduceBNe, Int.reduceNeg, lit_cast0, lit_cast, and_self, decide_eq_true_eq, Bool.not_eq_true', Bool.not_eq_false', decide_eq_false_iff_not, beq_iff_eq, bne_iff_ne, Bool.and_eq_true, Bool.or_eq_true, beq_true, beq_false, Bool.not_true, Bool.not_false, Bool.not_not, and_true, true_and, Option.isNone_none, Option.isNone_some, List.getElem?_cons_zero, List.getElem?_cons_succ, List.getElem?_toArray, List.contains_cons, List.contains_nil, Bool.or_false, Nat.reduceBEq, Bool.or_true, Bool.true_or, Bool.false_or, Bool.false_eq_true, Bool.true_eq_false, Nat.add_left_cancel_iff, e1, e2, n1, n2, n3, hj, decide_false]
    have := h (upd Y (some (b + 3)) (.bool false)) w5 (by rw [← hrep]; simpa using H)
    rwa [mixR_same (hY.trans (Same.upd (by simp [inR]) _))] at this
end
end Go.Proofs.Ytgebiedochlhmaa
