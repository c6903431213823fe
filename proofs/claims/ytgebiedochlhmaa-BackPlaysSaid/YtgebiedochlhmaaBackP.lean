/- Disks, in plain terms: what acts keep, what crashes leave; the acts that were handed in. -/
import Derived.Test.YtgebiedochlhmaaBackS
set_option linter.unusedVariables false
set_option linter.unusedSimpArgs false
set_option maxRecDepth 10000
namespace Go.Proofs.Ytgebiedochlhmaa
/-- A disk of 10 blocks behind at most so many acts. -/
structure TI (d : DS) (j : Nat) : Prop where
  now : d.now.length = 10
  safe : d.safe.length = 10
  wr : ∀ p ∈ d.wr, p.1 < 10
  many : d.wr.length ≤ j
  done : 0 ≤ d.done ∧ d.done ≤ j
  fuse : -1 ≤ d.fuse ∧ d.fuse ≤ 9223372036854775807
theorem TI.ok {d : DS} {j : Nat} (h : TI d j) (hj : j ≤ 1000000) : d.Ok := ⟨by rw [h.safe, h.now], by rw [h.now]; exact h.wr, by have := h.many; omega, by rw [h.now]; decide, by have := h.done; omega, h.fuse⟩
theorem TI.mono {d : DS} {j : Nat} (h : TI d j) : TI d (j + 1) := ⟨h.now, h.safe, h.wr, by have := h.many; omega, by have := h.done; omega, h.fuse⟩
theorem TI.new : TI (newD 10) 0 := ⟨rfl, rfl, by simp [newD], by simp [newD], by simp [newD], by simp [newD]⟩
theorem TI.pw {d : DS} {j : Nat} (h : TI d j) : TI d.pw.1 (j + 1) ∧ d.pw.1.wr.length ≤ j := by
  obtain ⟨e1, e2, e3⟩ := d.pw_same
  refine ⟨⟨by rw [e1]; exact h.now, by rw [e2]; exact h.safe, by rw [e3]; exact h.wr, by rw [e3]; have := h.many; omega, ?_, ?_⟩, by rw [e3]; exact h.many⟩
  · have := h.done
    unfold DS.pw
    split
    · have : d.off.done = d.done := by unfold DS.off; split <;> rfl
      simp only; omega
    · have : d.off.tick.done = d.done + 1 := by unfold DS.off DS.tick; split <;> rfl
      simp only; omega
  · have := h.fuse
    have h2 : d.off.fuse = if d.fuse = 0 then -1 else d.fuse := by unfold DS.off; split <;> rfl
    unfold DS.pw
    split
    · simp only; rw [h2]; split <;> omega
    · show -1 ≤ (if 0 < d.off.fuse then d.off.fuse - 1 else d.off.fuse) ∧ (if 0 < d.off.fuse then d.off.fuse - 1 else d.off.fuse) ≤ 9223372036854775807
      rw [h2]; split <;> split <;> omega
theorem DS.pl_cases (d : DS) (n : Int) : d.pl n = 0 ∨ d.pl n = 1 := by unfold DS.pl; split <;> simp
/-- What a write may be. -/
theorem DS.write_cases {d : DS} {j : Nat} (h : TI d j) (at_ : Int) (m : List UInt8) :
    (d.write at_ m = (d, 1)) ∨ (d.pw.2 ≠ 0 ∧ d.write at_ m = d.pw) ∨ (d.pw.2 = 0 ∧ 0 ≤ at_ ∧ at_ ≤ 9 ∧ ∃ hm : m.length = 256, d.write at_ m = ({ d.pw.1 with now := d.now.set at_.toNat ⟨m, hm⟩, wr := d.wr ++ [(at_.toNat, ⟨m, hm⟩)] }, 0)) := by
  obtain ⟨e1, e2, e3⟩ := d.pw_same
  unfold DS.write
  by_cases hp : d.pl at_ = 0
  · rw [if_neg (by simp [hp])]
    obtain ⟨h1, h2⟩ := DS.pl_zero hp
    rw [h.now] at h2
    by_cases hm : m.length = 256
    · rw [dif_pos hm]
      by_cases hw : d.pw.2 = 0
      · rw [if_neg (by simp [hw]), e1, e3]
        exact .inr (.inr ⟨hw, h1, by omega, hm, rfl⟩)
      · rw [if_pos hw]
        exact .inr (.inl ⟨hw, rfl⟩)
    · rw [dif_neg hm]
      exact .inl rfl
  · rw [if_pos hp]
    rcases d.pl_cases at_ with h0 | h1
    · exact absurd h0 hp
    · rw [h1]; exact .inl rfl
theorem TI.write {d : DS} {j : Nat} (h : TI d j) (at_ : Int) (m : List UInt8) : TI (d.write at_ m).1 (j + 1) := by
  rcases d.write_cases h at_ m with e | ⟨hw, e⟩ | ⟨hw, h1, h2, hm, e⟩ <;> rw [e]
  · exact h.mono
  · exact h.pw.1
  · have hp := h.pw.1
    refine ⟨by rw [List.length_set]; exact h.now, hp.safe, fun p hpm => ?_, by rw [List.length_append, List.length_singleton]; have := h.many; omega, hp.done, hp.fuse⟩
    rcases List.mem_append.1 hpm with hpm | hpm
    · exact h.wr p hpm
    · rw [List.mem_singleton.1 hpm]; show at_.toNat < 10; omega
theorem TI.barrier {d : DS} {j : Nat} (h : TI d j) : TI d.barrier.1 (j + 1) := by
  have hp := h.pw.1
  unfold DS.barrier
  split
  · exact hp
  · exact ⟨hp.now, hp.now, by simp, by simp, hp.done, hp.fuse⟩
theorem TI.cut {d : DS} {j : Nat} (h : TI d j) {n : Int} (hn : n ≤ 9223372036854775807) : TI (d.cut n) (j + 1) := by
  unfold DS.cut
  split
  · exact h.mono
  · exact ⟨h.now, h.safe, h.wr, h.mono.many, h.mono.done, by simp only; split <;> omega⟩
theorem TI.crash {d : DS} {j : Nat} (h : TI d j) (n : Int) : TI (d.crash n) (j + 1) :=
  ⟨by rw [DS.crash, someS_length]; exact h.safe, by rw [DS.crash, someS_length]; exact h.safe, by simp [DS.crash], by simp [DS.crash], h.mono.done, by simp [DS.crash]⟩
theorem TI.act {d : DS} {j : Nat} (h : TI d j) {a : Ac} (ha : a.Ok) : TI (d.act a).1 (j + 1) := by
  unfold DS.act
  split
  · exact h.write _ _
  split
  · exact h.barrier
  split
  · exact h.cut ha.n.2
  split
  · exact h.crash _
  · exact h.mono
def strs (l : List B256) : List Value := l.map fun b => bstr b.1
theorem strs_len (l : List B256) : (strs l).length = l.length := List.length_map _
theorem strs_set (l : List B256) (i : Nat) (b : B256) : (strs l).toArray.setIfInBounds i (bstr b.1) = (strs (l.set i b)).toArray := by
  rw [List.setIfInBounds_toArray, strs, strs, List.map_set]
theorem strs_get {l : List B256} {i : Nat} (h : i < l.length) : (strs l).toArray[i]? = some (bstr l[i].1) := by
  rw [List.getElem?_toArray, strs, List.getElem?_map, List.getElem?_eq_getElem h]; rfl
theorem DS.read_in {d : DS} {i : Nat} (hi : i < d.now.length) (hd : d.dead = false) : d.read i = (d.now[i].1, 0) := by
  have hp : d.pl i = 0 := by rw [DS.pl, if_neg (by omega)]
  rw [DS.read, if_neg (by simp [hp]), if_neg (by simp [hd]), List.getD_eq_getElem?_getD, Int.toNat_natCast, List.getElem?_eq_getElem hi]
  rfl
theorem bit0 (i : Nat) : bitB 0 i = false := by
  unfold bitB
  rw [Int.zero_fdiv]
  rfl
theorem someS_zero : ∀ (l : List (Nat × B256)) (i : Nat) (s : List B256), someS 0 i l s = s
  | [], i, s => rfl
  | p :: l, i, s => by rw [someS, bit0, if_neg (by decide), someS_zero l]
section
variable {s : St} {F : List Asrt} {w : World} {K : Kn} {b : Nat} {d : DS} {v x : Value} {L : List Ac} {R : World → Prop}
theorem few_ok (H : Holds s F w) (hR : ∀ w', Holds s F w' → R w') (hx : ∀ w', R w' → RdL 6 av w' x L) :
    Calls Try.prog 10 #[x] w fun e w' => ∃ A c, e = .returned (.slice A (L.take 100).length c) ∧ (∀ w', R w' → RdL 6 av w' (.slice A (L.take 100).length c) (L.take 100)) ∧ Holds s F w' := by
  obtain ⟨A, c, rfl, hc⟩ := (hx w (hR w H)).shape
  refine calls_of_ir follows Try.func10 ir10_ok (by simp [ir10]) ?_
  have hcut : ∀ w', R w' → RdL 6 av w' (.slice (cutAddr A 0 c 6) (L.take 100).length c) (L.take 100) := fun w' h => by
    have := (hx w' h).cut av_len (lo := 0) (hi := min 100 L.length) (by omega) (by omega)
    have e : L.take (min 100 L.length) = L.take 100 := by
      by_cases h : 100 ≤ L.length
      · rw [Nat.min_eq_left h]
      · rw [Nat.min_eq_right (by omega), List.take_length, List.take_of_length_le (by omega)]
    rw [List.drop_zero, Nat.sub_zero, Nat.sub_zero, e] at this
    rwa [List.length_take]
  have hl : (L.take 100).length = min 100 L.length := List.length_take
  by_cases h : (100 : Int) < L.length
  · have h2 : ¬ ((L.length : Int) < 100) := by omega
    have h3 : ((L.take 100).length : Int) = 100 := by rw [hl]; omega
    simp only [ir10, z00, z01, z02, z03, z04, z05, z06, z07, z08, z09, z10, z11, z12, z13, z14, z15, z16, z17, z18, z19, z20, z21, z22, z23, z24, z25, z26, z27, z28, z29, z30, z31, z32, z33, z34, z35, z36, z37, z38, z39, z40, z41, z42, z43, z44, z45, z46, z47, z48, z49, z50, z51, z52, z53, z54, z55, z56, z57, z58, z59, z60, z61, z62, z63, z64, z65, z66, z67, z68, z69, z70, z71, z72, z73, z74, z75, z76, z77, z78, z79, z80, z81, z82, z83, z84, z85, z86, z87, z88, z89, z90, z91, z92, z93, z94, z95, z96, z97, z98, List.setIfInBounds_toArray, List.set_cons_zero, List.set_cons_succ, Option.map_some, List.size_toArray, List.length_cons, List.length_nil, z99, y00, y01, y02, y03, y04, y05, y06, y07, y08, y09, y10, y11, y12, y13, y14, y15, y16, y17, y18, y19, y20, y21, y22, y23, y24, y25, y26, y27, y28, y29, y30, y31, y32, y33, y34, y35, y36, y37, y38, y39, y40, y41, y42, y43, y44, y45, y46, y47, y48, y49, y50, y51, y52, y53, y54, y55, List.map_cons, List.map_nil, Option.some.injEq, Value.bool.injEq, reduceCtorEq, ↓reduceIte, Nat.zero_add, Nat.reduceAdd, Nat.reduceSub, Nat.reduceMul, Nat.reduceEqDiff, Nat.reduceLeDiff, Nat.reduceLT, Int.reduceEq, Int.reduceNe, Int.reduceLT, Int.reduceLE, Int.reduceAdd, Int.reduceSub, Int.reduceMul, Int.reduceToNat, Int.reduceBEq, Int.reduceBNe, Int.reduceNeg, lit_cast0, lit_cast, and_self, decide_eq_true_eq, Bool.not_eq_true', Bool.not_eq_false', decide_eq_false_iff_not, beq_iff_eq, bne_iff_ne, Bool.and_eq_true, Bool.or_eq_true, beq_true, beq_false, Bool.not_true, Bool.not_false, Bool.not_not, and_true, true_and, Option.isNone_none, Option.isNone_some, List.getElem?_cons_zero, List.getElem?_cons_succ, List.getElem?_toArray, List.contains_cons, List.contains_nil, Bool.or_false, Nat.reduceBEq, Bool.or_true, Bool.true_or, Bool.false_or, Bool.false_eq_true, Bool.true_eq_false, h, h2]
    exact ⟨by omega, cutAddr A 0 c 6, c, by rw [show (L.take 100).length = 100 from by omega], hcut, H⟩
  · have h3 : L.take 100 = L := List.take_of_length_le (by omega)
    by_cases h4 : (L.length : Int) < 100
    · simp only [ir10, z00, z01, z02, z03, z04, z05, z06, z07, z08, z09, z10, z11, z12, z13, z14, z15, z16, z17, z18, z19, z20, z21, z22, z23, z24, z25, z26, z27, z28, z29, z30, z31, z32, z33, z34, z35, z36, z37, z38, z39, z40, z41, z42, z43, z44, z45, z46, z47, z48, z49, z50, z51, z52, z53, z54, z55, z56, z57, z58, z59, z60, z61, z62, z63, z64, z65, z66, z67, z68, z69, z70, z71, z72, z73, z74, z75, z76, z77, z78, z79, z80, z81, z82, z83, z84, z85, z86, z87, z88, z89, z90, z91, z92, z93, z94, z95, z96, z97, z98, List.setIfInBounds_toArray, List.set_cons_zero, List.set_cons_succ, Option.map_some, List.size_toArray, List.length_cons, List.length_nil, z99, y00, y01, y02, y03, y04, y05, y06, y07, y08, y09, y10, y11, y12, y13, y14, y15, y16, y17, y18, y19, y20, y21, y22, y23, y24, y25, y26, y27, y28, y29, y30, y31, y32, y33, y34, y35, y36, y37, y38, y39, y40, y41, y42, y43, y44, y45, y46, y47, y48, y49, y50, y51, y52, y53, y54, y55, List.map_cons, List.map_nil, Option.some.injEq, Value.bool.injEq, reduceCtorEq, ↓reduceIte, Nat.zero_add, Nat.reduceAdd, Nat.reduceSub, Nat.reduceMul, Nat.reduceEqDiff, Nat.reduceLeDiff, Nat.reduceLT, Int.reduceEq, Int.reduceNe, Int.reduceLT, Int.reduceLE, Int.reduceAdd, Int.reduceSub, Int.reduceMul, Int.reduceToNat, Int.reduceBEq, Int.reduceBNe, Int.reduceNeg, lit_cast0, lit_cast, and_self, decide_eq_true_eq, Bool.not_eq_true', Bool.not_eq_false', decide_eq_false_iff_not, beq_iff_eq, bne_iff_ne, Bool.and_eq_true, Bool.or_eq_true, beq_true, beq_false, Bool.not_true, Bool.not_false, Bool.not_not, and_true, true_and, Option.isNone_none, Option.isNone_some, List.getElem?_cons_zero, List.getElem?_cons_succ, List.getElem?_toArray, List.contains_cons, List.contains_nil, Bool.or_false, Nat.reduceBEq, Bool.or_true, Bool.true_or, Bool.false_or, Bool.false_eq_true, Bool.true_eq_false, h, h4, Int.toNat_natCast, show (0 : Int) ≤ L.length from by omega, show (L.length : Int) ≤ c from by omega]
      exact ⟨cutAddr A 0 c 6, c, by rw [h3], hcut, H⟩
    · simp only [ir10, z00, z01, z02, z03, z04, z05, z06, z07, z08, z09, z10, z11, z12, z13, z14, z15, z16, z17, z18, z19, z20, z21, z22, z23, z24, z25, z26, z27, z28, z29, z30, z31, z32, z33, z34, z35, z36, z37, z38, z39, z40, z41, z42, z43, z44, z45, z46, z47, z48, z49, z50, z51, z52, z53, z54, z55, z56, z57, z58, z59, z60, z61, z62, z63, z64, z65, z66, z67, z68, z69, z70, z71, z72, z73, z74, z75, z76, z77, z78, z79, z80, z81, z82, z83, z84, z85, z86, z87, z88, z89, z90, z91, z92, z93, z94, z95, z96, z97, z98, List.setIfInBounds_toArray, List.set_cons_zero, List.set_cons_succ, Option.map_some, List.size_toArray, List.length_cons, List.length_nil, z99, y00, y01, y02, y03, y04, y05, y06, y07, y08, y09, y10, y11, y12, y13, y14, y15, y16, y17, y18, y19, y20, y21, y22, y23, y24, y25, y26, y27, y28, y29, y30, y31, y32, y33, y34, y35, y36, y37, y38, y39, y40, y41, y42, y43, y44, y45, y46, y47, y48, y49, y50, y51, y52, y53, y54, y55, List.map_cons, List.map_nil, Option.some.injEq, Value.bool.injEq, reduceCtorEq, ↓reduceIte, Nat.zero_add, Nat.reduceAdd, Nat.reduceSub, Nat.reduceMul, Nat.reduceEqDiff, Nat.reduceLeDiff, Nat.reduceLT, Int.reduceEq, Int.reduceNe, Int.reduceLT, Int.reduceLE, Int.reduceAdd, Int.reduceSub, Int.reduceMul, Int.reduceToNat, Int.reduceBEq, Int.reduceBNe, Int.reduceNeg, lit_cast0, lit_cast, and_self, decide_eq_true_eq, Bool.not_eq_true', Bool.not_eq_false', decide_eq_false_iff_not, beq_iff_eq, bne_iff_ne, Bool.and_eq_true, Bool.or_eq_true, beq_true, beq_false, Bool.not_true, Bool.not_false, Bool.not_not, and_true, true_and, Option.isNone_none, Option.isNone_some, List.getElem?_cons_zero, List.getElem?_cons_succ, List.getElem?_toArray, List.contains_cons, List.contains_nil, Bool.or_false, Nat.reduceBEq, Bool.or_true, Bool.true_or, Bool.false_or, Bool.false_eq_true, Bool.true_eq_false, h, h4, Int.toNat_natCast, show (0 : Int) ≤ L.length from by omega, show (L.length : Int) ≤ c from by omega, show (100 : Int) ≤ c from by omega]
      exact ⟨cutAddr A 0 c 6, c, by rw [h3, show L.length = 100 from by omega], hcut, H⟩
/-- An act that was handed in. -/
def gA (a : Int × Int × Int × Int × Bool × Int × Unit) : Ac := ⟨UInt8.ofNat a.1.toNat, a.2.1, a.2.2.1, UInt8.ofNat a.2.2.2.1.toNat, a.2.2.2.2.1, a.2.2.2.2.2.1⟩
theorem act_g {W : World} {cs : List Value} {a : Int × Int × Int × Int × Bool × Int × Unit} (h : R31 W cs a) : cs = av (gA a) ∧ (gA a).Ok := by
  obtain ⟨a1, a2, a3, a4, a5, a6, _⟩ := a
  obtain ⟨hl, h1, h2, h3, h4, h5, h6, -⟩ := h
  obtain ⟨x, y, z, u, v, q, rfl⟩ : ∃ x y z u v q, cs = [x, y, z, u, v, q] := by
    match cs, hl with
    | [x, y, z, u, v, q], _ => exact ⟨x, y, z, u, v, q, rfl⟩
  simp only [RInt, RBool, List.drop_zero, List.drop_succ_cons, List.take_succ_cons, List.take_zero, List.cons.injEq, and_true] at h1 h2 h3 h4 h5 h6
  obtain ⟨rfl, w1⟩ := h1
  obtain ⟨rfl, w2⟩ := h2
  obtain ⟨rfl, w3⟩ := h3
  obtain ⟨rfl, w4⟩ := h4
  obtain ⟨rfl, w6⟩ := h6
  subst h5
  simp [Lit.wf, IntKind.min, IntKind.max, IntKind.signed, IntKind.bits] at w1 w2 w3 w4 w6
  refine ⟨?_, ⟨by simp only [gA]; omega, by simp only [gA]; omega, by simp only [gA]; omega⟩⟩
  simp only [gA, av, bv, UInt8.toNat_ofNat', List.cons.injEq, Value.int.injEq, true_and, and_true]
  omega
theorem acts_row {W : World} {v : Value} (h : ∃ a, R22 W [v] a) : ∃ L : List Ac, RdL 6 av W v L ∧ ∀ a ∈ L, a.Ok := by
  obtain ⟨a, h⟩ := h
  obtain ⟨hc, hr⟩ := RdL.opened (f := av) (g := gA) h (by decide) av_len (fun cs a h => (act_g h).1)
  obtain rfl : v = a.1 := by simpa using hc
  refine ⟨_, hr, fun x hx => ?_⟩
  obtain ⟨y, hy, rfl⟩ := List.mem_map.1 hx
  obtain ⟨i, hi⟩ := List.getElem?_of_mem hy
  obtain ⟨-, -, xs, -, hch⟩ := h
  exact (act_g (hch i y hi)).2
end
end Go.Proofs.Ytgebiedochlhmaa
