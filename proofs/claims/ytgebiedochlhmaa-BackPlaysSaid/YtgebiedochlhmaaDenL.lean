/- Functions: their typed form, and a call. -/
import Derived.Test.YtgebiedochlhmaaDenK
set_option linter.unusedVariables false
set_option linter.unusedSimpArgs false
set_option maxRecDepth 4000
set_option maxHeartbeats 1000000
namespace Go.Proofs.Ytgebiedochlhmaa

inductive RV where
  | t (s : Nat) | c1 (s : Nat) | cN (s n : Nat)
  deriving Inhabited
structure FIR where
  n : Nat
  body : Cmd
  res : List RV
def cRes (P : Program) : ResultVar → Option RV
  | .tmp t => some (.t t)
  | .cell a ty => match aggT P ty, szOf P ty with
    | some true, some n => some (.cN a n)
    | some false, _ => some (.c1 a)
    | _, _ => none
def cFn (P : Program) (fn : Func) : Option FIR :=
  match fn.body with
  | some c => match cCode P fn.ntmps c, fn.results.toList.mapM (cRes P) with
    | some b, some rs => some ⟨fn.ntmps, b, rs⟩
    | _, _ => none
  | none => none
def emp : Env := fun _ => undef
def iniE : List Value → Nat → Env → Env
  | [], _, E => E
  | v :: l, i, E => iniE l (i + 1) (upd E (some i) v)
def pack : List Value → Value
  | [v] => v
  | vs => .tuple vs.toArray
def cellV (v : Value) (w : World) (k : Value → Prop) : Prop := gLoad1 w (fun v _ => k v) [v]
def cellsV (n : Nat) (v : Value) (w : World) (k : Value → Prop) : Prop := gLoadN n w (fun v _ => k v) [v]
def resV : List RV → Env → World → (List Value → Prop) → Prop
  | [], E, w, k => k []
  | .t s :: rs, E, w, k => resV rs E w fun vs => k (E s :: vs)
  | .c1 s :: rs, E, w, k => cellV (E s) w fun v => resV rs E w fun vs => k (v :: vs)
  | .cN s n :: rs, E, w, k => cellsV n (E s) w fun v => resV rs E w fun vs => k (v :: vs)
def retQ (rs : List RV) (R : Ending → World → Prop) : QT := fun x E w =>
  match x with
  | .normal | .ret => resV rs E w fun vs => R (.returned (pack vs)) w
  | .exit _ => False
section
variable {P : Program} {w : World}
theorem iniE_get : ∀ (l : List Value) (i : Nat) (E : Env) (t : Nat), iniE l i E t = if i ≤ t ∧ t < i + l.length then l.getD (t - i) undef else E t
  | [], i, E, t => by simp [iniE]; intro h1 h2; omega
  | v :: l, i, E, t => by
    simp only [iniE, iniE_get l (i + 1), upd, Option.some.injEq, List.length_cons]
    by_cases h1 : i = t
    · subst h1
      simp
      omega
    · by_cases h2 : i + 1 ≤ t ∧ t < i + 1 + l.length
      · rw [if_pos h2, if_pos (by omega)]
        obtain ⟨m, rfl⟩ : ∃ m, t = i + 1 + m := ⟨t - (i + 1), by omega⟩
        rw [show i + 1 + m - (i + 1) = m from by omega, show i + 1 + m - i = m + 1 from by omega]
        simp
      · rw [if_neg h2, if_neg h1, if_neg (by omega)]
theorem rep_ini {args : List Value} {n : Nat} (h : args.length ≤ n) : Rep n { tmps := args.toArray ++ Array.replicate (n - args.toArray.size) undef, defers := [] } (iniE args 0 emp) := by
  refine ⟨by simp; omega, rfl, fun t => ?_⟩
  rw [iniE_get]
  simp only [Array.getD_eq_getD_getElem?, Array.getElem?_append, List.size_toArray, Nat.zero_le, true_and, Nat.zero_add, emp]
  by_cases ht : t < args.length
  · simp [ht]
  · simp [ht, Array.getElem?_replicate]
    split <;> simp
theorem res_sound {rs : List ResultVar} : ∀ {rvs : List RV} {E : Env} {tmps : Array Value} {k : List Value → Prop}, rs.mapM (cRes P) = some rvs → (∀ t, tmps.getD t undef = E t) → resV rvs E w k →
    ∃ vs, (rs.mapM (fun | .tmp t => pure (tmps.getD t undef) | .cell a t => do loadVar t (← asAddr (tmps.getD a undef)) : ResultVar → Sem Value)).run P w = .ok vs w ∧ k vs := by
  induction rs with
  | nil => intro rvs E tmps k hc hE h; simp at hc; subst hc; exact ⟨[], by simp, h⟩
  | cons r rs ih =>
    intro rvs E tmps k hc hE h
    simp only [List.mapM_cons] at hc
    cases hr : cRes P r with
    | none => simp [hr] at hc
    | some rv =>
      cases hrs : rs.mapM (cRes P) with
      | none => simp [hr, hrs] at hc
      | some rvs' =>
        simp [hr, hrs] at hc
        subst hc
        cases r with
        | tmp t =>
          simp only [cRes, Option.some.injEq] at hr
          subst hr
          obtain ⟨vs, h1, h2⟩ := ih (k := fun vs => k (E t :: vs)) hrs hE h
          exact ⟨_, by simp only [List.mapM_cons, Sem.run_bind, Sem.run_pure, Result.andThen_ok, h1, hE t], h2⟩
        | cell a ty =>
          simp only [cRes] at hr
          cases ha : aggT P ty with
          | none => simp [ha] at hr
          | some b =>
            simp only [ha] at hr
            cases b
            · simp only [Option.some.injEq] at hr
              subst hr
              simp only [resV, cellV] at h
              cases hx : E a <;> simp only [hx, gLoad1] at h
              rename_i ad
              cases ad <;> simp only [gLoad1] at h
              obtain ⟨v, hv, h⟩ := h
              obtain ⟨vs, h1, h2⟩ := ih (k := fun vs => k (v :: vs)) hrs hE h
              have had : ∀ w, (asAddr (tmps.getD a undef)).run P w = .ok _ w := fun w => by rw [hE, hx]; rfl
              exact ⟨_, by simp only [List.mapM_cons, Sem.run_bind, Sem.run_pure, Result.andThen_ok, h1, had, run_loadVar1 ha hv], h2⟩
            · cases hs : szOf P ty with
              | none => simp [hs] at hr
              | some m =>
                simp only [hs, Option.some.injEq] at hr
                subst hr
                simp only [resV, cellsV] at h
                cases hx : E a <;> simp only [hx, gLoadN] at h
                rename_i ad
                cases ad <;> simp only [gLoadN] at h
                obtain ⟨cs, hn, hcs, h⟩ := h
                obtain ⟨vs, h1, h2⟩ := ih (k := fun vs => k (.agg cs.toArray :: vs)) hrs hE h
                have had : ∀ w, (asAddr (tmps.getD a undef)).run P w = .ok _ w := fun w => by rw [hE, hx]; rfl
                exact ⟨_, by simp only [List.mapM_cons, Sem.run_bind, Sem.run_pure, Result.andThen_ok, h1, had, run_loadVarN ha hs hn hcs], h2⟩

theorem calls_of_ir {f : FuncId} {fn : Func} {ir : FIR} {args : List Value} {R : Ending → World → Prop} (hm : P.follows .mixedOrders = true) (hf : P.funcs[f]? = some fn) (hc : cFn P fn = some ir) (ha : args.length ≤ ir.n)
    (h : den P ir.body (retQ ir.res R) (iniE args 0 emp) w) : Calls P f args.toArray w R := by
  unfold cFn at hc
  cases hb : fn.body with
  | none => simp [hb] at hc
  | some c =>
    simp only [hb] at hc
    cases hcc : cCode P fn.ntmps c with
    | none => simp [hcc] at hc
    | some b =>
      cases hrs : fn.results.toList.mapM (cRes P) with
      | none => simp [hcc, hrs] at hc
      | some rs =>
        simp only [hcc, hrs, Option.some.injEq] at hc
        subst hc
        refine calls_of_wp hf hb (wp_mono (den_sound hm c b _ _ _ w hcc (rep_ini ha) h) ?_)
        have fin : ∀ a' w' E', Rep fn.ntmps a' E' → resV rs E' w' (fun vs => R (.returned (pack vs)) w') → a'.defers = [] ∧ ∃ v, (results fn a'.tmps).run P w' = .ok v w' ∧ R (.returned v) w' := by
          intro a' w' E' hr hq
          refine ⟨hr.defers, ?_⟩
          obtain ⟨vs, h1, h2⟩ := res_sound (w := w') hrs hr.get hq
          refine ⟨_, ?_, h2⟩
          unfold results
          rw [Array.mapM_eq_mapM_toList]
          simp only [Sem.run_bind, Sem.run_map, Sem.run_pure]
          refine Eq.trans (congrArg (fun r : Result (List Value) => (r.andThen fun a w' => Result.ok a.toArray w').andThen fun a w' => Result.ok (if h : a.size = 1 then a[0] else Value.tuple a) w') h1) ?_
          simp only [Result.andThen_ok]
          congr 1
          clear h1 h2 hq
          match vs with
          | [] => rfl
          | [v] => rfl
          | a :: b :: l => simp [pack]
        intro e a' w' hq
        cases e with
        | normal => obtain ⟨E', hr, hq⟩ := hq; exact fin _ _ _ hr hq
        | ret => obtain ⟨E', hr, hq⟩ := hq; exact fin _ _ _ hr hq
        | exit id => obtain ⟨E', hr, hq⟩ := hq; exact hq.elim
        | goto l => exact hq.elim
        | panic c => exact hq.elim
        | outgrown => exact hq.elim
end
end Go.Proofs.Ytgebiedochlhmaa
