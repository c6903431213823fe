/- The typed form of an operation is sound. -/
import Derived.Test.YtgebiedochlhmaaDenB
set_option linter.unusedVariables false
set_option linter.unusedSimpArgs false
set_option maxRecDepth 4000
namespace Go.Proofs.Ytgebiedochlhmaa
section
variable {P : Program} {E : Env} {w : World} {K : Kn}

theorem liftO_iff {o : Option Value} {k : Value → Prop} : liftO o k ↔ ∃ v, o = some v ∧ k v := Iff.rfl

theorem bin_sound {op : BinOp} {t : TypeId} {x y : Operand} {v : Value}
    (h : fBin op [evo E x, evo E y] = some v) : (do eqGuard op t x y (evo E x) (evo E y); binOp op t (evo E x) (evo E y) : Sem Value).run P w = .ok v w := by
  cases hx : evo E x <;> simp only [hx, fBin, reduceCtorEq] at h
  rename_i k a
  cases hy : evo E y <;> simp only [hy, fBin, reduceCtorEq] at h
  rename_i k' b
  simp only [eqGuard_at_int, pure_bind]
  cases op <;> simp only [binI, shiftI, reduceCtorEq, if_false] at h
  all_goals first
    | (by_cases hk : k = k'
       · subst hk
         simp only [if_true] at h
         first
           | (cases h; simp [binOp, Op.intArith, Op.intBits, bits]; done)
           | (cases h; simp [binOp, Op.intArith]; rfl)
           | (cases h; rfl)
           | (split at h
              · cases h
              · rename_i hb; cases h; simp [binOp, Op.intDiv, hb])
       · simp [hk] at h; done)
    | (split at h
       · cases h
       · rename_i hb; cases h; first | (simp [binOp, Op.shift, hb]; done) | (simp [binOp, Op.shift, hb]; rfl))
    | (exfalso; split at h <;> simp at h)
theorem cmp_sound {op : BinOp} {t : TypeId} {x y : Operand} {v : Value}
    (h : fCmp op [evo E x, evo E y] = some v) : (do eqGuard op t x y (evo E x) (evo E y); binOp op t (evo E x) (evo E y) : Sem Value).run P w = .ok v w := by
  cases hx : evo E x <;> simp only [hx, fCmp, reduceCtorEq] at h
  rename_i k a
  cases hy : evo E y <;> simp only [hy, fCmp, reduceCtorEq] at h
  rename_i k' b
  simp only [eqGuard_at_int, pure_bind]
  by_cases hk : k = k'
  · subst hk
    simp only [if_true] at h
    cases op <;> simp only [cmpI, reduceCtorEq] at h <;> (injection h with h; subst h; simp [binOp, Op.intCmp])
  · simp [hk] at h
theorem equalIn_bool {t : TypeId} (hu : P.underlying t = some .bool) (a b : Bool) (d : Nat) : (Op.equalIn (d + 1) t (.bool a) (.bool b)).run P w = .ok (a == b) w := by
  simp only [Op.equalIn, Sem.run_bind, run_underlying hu, Result.andThen_ok, Sem.run_pure]
theorem equal_bool {t : TypeId} (hu : P.underlying t = some .bool) (a b : Bool) : (Op.equal t (.bool a) (.bool b)).run P w = .ok (a == b) w := equalIn_bool hu a b 9999
theorem equalIn_nil {t e : TypeId} (hu : P.underlying t = some (.pointer e)) (a : Option Addr) (d : Nat) : (Op.equalIn (d + 1) t (.pointer a) (.pointer none)).run P w = .ok a.isNone w := by
  cases a <;> simp only [Op.equalIn, Sem.run_bind, run_underlying hu, Result.andThen_ok, Sem.run_pure, Option.isNone]
theorem equal_nil {t e : TypeId} (hu : P.underlying t = some (.pointer e)) (a : Option Addr) : (Op.equal t (.pointer a) (.pointer none)).run P w = .ok a.isNone w := equalIn_nil hu a 9999
theorem beq_sound {op : BinOp} {t : TypeId} {x y : Operand} {v : Value} (neg : Bool) (hop : op = if neg then .neq else .eql) (hu : P.underlying t = some .bool)
    (h : fBeq neg [evo E x, evo E y] = some v) : (do eqGuard op t x y (evo E x) (evo E y); binOp op t (evo E x) (evo E y) : Sem Value).run P w = .ok v w := by
  cases hx : evo E x <;> simp only [hx, fBeq, reduceCtorEq] at h
  rename_i a
  cases hy : evo E y <;> simp only [hy, fBeq, reduceCtorEq, Option.some.injEq] at h
  rename_i b
  subst h
  subst hop
  have he := equal_bool (w := w) hu a b
  cases neg <;> simp only [eqGuard_at_bool, pure_bind, if_true, Bool.false_eq_true, if_false, binOp, Sem.run_bind, he, Result.andThen_ok, Sem.run_pure, bne]
theorem seq_sound {op : BinOp} {t : TypeId} {x y : Operand} {v : Value} (neg : Bool) (hop : op = if neg then .neq else .eql)
    (h : fSeq neg [evo E x, evo E y] = some v) : (do eqGuard op t x y (evo E x) (evo E y); binOp op t (evo E x) (evo E y) : Sem Value).run P w = .ok v w := by
  cases hx : evo E x <;> simp only [hx, fSeq, reduceCtorEq] at h
  rename_i a
  cases hy : evo E y <;> simp only [hy, fSeq, reduceCtorEq, Option.some.injEq] at h
  rename_i b
  subst h
  subst hop
  cases neg <;> simp only [eqGuard_at_string, pure_bind, if_true, Bool.false_eq_true, if_false] <;> rfl
theorem sadd_sound {t : TypeId} {x y : Operand} {v : Value}
    (h : fSadd [evo E x, evo E y] = some v) : (do eqGuard .add t x y (evo E x) (evo E y); binOp .add t (evo E x) (evo E y) : Sem Value).run P w = .ok v w := by
  cases hx : evo E x <;> simp only [hx, fSadd, reduceCtorEq] at h
  rename_i a
  cases hy : evo E y <;> simp only [hy, fSadd, reduceCtorEq] at h
  rename_i b
  split at h
  · rename_i hs
    simp only [Option.some.injEq] at h
    subst h
    have hn : ¬ ((a.size + b.size : Nat) : Int) > 9223372036854775807 := by omega
    simp only [eqGuard_at_string, pure_bind, binOp, Op.stringOp, IntKind.max_i64, if_neg hn, Sem.run_pure]
  · simp at h
theorem isnil_sound {op : BinOp} {t e : TypeId} {x : Operand} {v : Value} (neg : Bool) (hop : op = if neg then .neq else .eql) (hu : P.underlying t = some (.pointer e))
    (h : fIsnil neg [evo E x, .pointer none] = some v) : (do eqGuard op t x (.const (.pointer none)) (evo E x) (.pointer none); binOp op t (evo E x) (.pointer none) : Sem Value).run P w = .ok v w := by
  cases hx : evo E x <;> simp only [hx, fIsnil, reduceCtorEq, Option.some.injEq] at h
  rename_i a
  subst h
  subst hop
  have he := equal_nil (w := w) hu a
  cases neg <;> simp only [eqGuard_at_pointer, pure_bind, if_true, Bool.false_eq_true, if_false, binOp, Sem.run_bind, he, Result.andThen_ok, Sem.run_pure]
theorem equalIn_nilS {t e : TypeId} (hu : P.underlying t = some (.slice e)) (a : Option Addr) (n c d : Nat) : (Op.equalIn (d + 1) t (.slice a n c) (.slice none 0 0)).run P w = .ok a.isNone w := by
  cases a <;> simp only [Op.equalIn, Sem.run_bind, run_underlying hu, Result.andThen_ok, Sem.run_pure, Option.isNone]
theorem equal_nilS {t e : TypeId} (hu : P.underlying t = some (.slice e)) (a : Option Addr) (n c : Nat) : (Op.equal t (.slice a n c) (.slice none 0 0)).run P w = .ok a.isNone w := equalIn_nilS hu a n c 9999
theorem isnilS_sound {op : BinOp} {t e : TypeId} {x : Operand} {v : Value} (neg : Bool) (hop : op = if neg then .neq else .eql) (hu : P.underlying t = some (.slice e))
    (h : fIsnil neg [evo E x, .slice none 0 0] = some v) : (do eqGuard op t x (.const (.slice none 0 0)) (evo E x) (.slice none 0 0); binOp op t (evo E x) (.slice none 0 0) : Sem Value).run P w = .ok v w := by
  cases hx : evo E x <;> simp only [hx, fIsnil, reduceCtorEq, Option.some.injEq] at h
  rename_i a n c
  subst h
  subst hop
  have he := equal_nilS (w := w) hu a n c
  cases neg <;> simp only [eqGuard_at_slice, pure_bind, if_true, Bool.false_eq_true, if_false, binOp, Sem.run_bind, he, Result.andThen_ok, Sem.run_pure]

theorem binOp_sound {op : BinOp} {t yt : TypeId} {x y : Operand} {p : POp} {v : Value} (h : cBin P op t y = some (.p p)) (hv : pureV p [evo E x, evo E y] = some v) :
    (do eqGuard op t x y (evo E x) (evo E y); binOp op t (evo E x) (evo E y) : Sem Value).run P w = .ok v w := by
  unfold cBin at h
  cases hu : P.underlying t with
  | none => simp [hu] at h
  | some d =>
    simp only [hu] at h
    cases d <;> try (simp at h; done)
    case int k0 =>
      cases op <;> (injection h with h; injection h with h; subst h; first | exact bin_sound hv | exact cmp_sound hv)
    case bool =>
      cases op <;> first
        | (simp at h; done)
        | (injection h with h; injection h with h; subst h; first | exact beq_sound false rfl hu hv | exact beq_sound true rfl hu hv)
    case string =>
      cases op <;> first
        | (simp at h; done)
        | (injection h with h; injection h with h; subst h; first | exact sadd_sound hv | exact seq_sound false rfl hv | exact seq_sound true rfl hv)
    case pointer e =>
      cases op <;> first
        | (simp at h; done)
        | (cases y with
           | const c =>
             cases c <;> first
               | (simp at h; done)
               | (rename_i a
                  cases a <;> first
                    | (simp at h; done)
                    | (injection h with h; injection h with h; subst h; first | exact isnil_sound false rfl hu hv | exact isnil_sound true rfl hu hv))
           | _ => simp at h)
    case slice e =>
      dsimp only at h
      split at h
      · injection h with h; injection h with h; subst h; exact isnilS_sound false rfl hu hv
      · injection h with h; injection h with h; subst h; exact isnilS_sound true rfl hu hv
      · cases h
    all_goals (cases hg : P.eqGuardType P.depth t <;> cases op <;> simp [hg] at h)
end
end Go.Proofs.Ytgebiedochlhmaa
