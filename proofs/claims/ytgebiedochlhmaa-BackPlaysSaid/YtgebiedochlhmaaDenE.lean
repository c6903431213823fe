/- The typed form of an operation is sound: all operations together. -/
import Derived.Test.YtgebiedochlhmaaDenD
set_option linter.unusedVariables false
set_option linter.unusedSimpArgs false
set_option maxRecDepth 4000
set_option maxHeartbeats 1000000
namespace Go.Proofs.Ytgebiedochlhmaa
section
variable {P : Program} {E : Env} {w : World} {K : Kn}

theorem run_v {s : Sem Value} {v : Value} {w' : World} (h : s.run P w = .ok v w') : (do pure (Next.value (← s)) : Sem Next).run P w = .ok (.value v) w' := by
  simp only [Sem.run_bind, h, Result.andThen_ok, Sem.run_pure]
theorem map_pair {t : Option TOp} {p : TOp} {xs ys : List Operand} (h : t.map (·, xs) = some (p, ys)) : t = some p ∧ xs = ys := by
  cases t <;> simp at h
  exact ⟨by rw [h.1], h.2⟩

theorem conv_sound {s d : TypeId} {x : Operand} {p : POp} {v : Value} (hc : cConv P s d = some (.p p)) (hv : pureV p [evo E x] = some v) :
    (convert s d (evo E x)).run P w = .ok v w := by
  unfold cConv at hc
  cases hs : P.underlying s with
  | none => simp [hs] at hc
  | some a =>
    cases hd : P.underlying d with
    | none => simp [hs, hd] at hc
    | some b =>
      simp only [hs, hd] at hc
      cases a <;> cases b <;> try (simp at hc; done)
      case int.int k1 k2 =>
        injection hc with hc
        injection hc with hc
        subst hc
        simp only [pureV] at hv
        cases hx : evo E x <;> simp only [hx, fConv, reduceCtorEq, Option.some.injEq] at hv
        subst hv
        simp [convert, run_underlying hs, run_underlying hd, Conv.intToInt]
      case string.string =>
        injection hc with hc
        injection hc with hc
        subst hc
        simp only [pureV] at hv
        cases hx : evo E x <;> simp only [hx, fStrid, reduceCtorEq, Option.some.injEq] at hv
        subst hv
        simp [convert, run_underlying hs, run_underlying hd]
      case slice.string e =>
        simp only at hc
        split at hc <;> simp at hc
      case string.slice e =>
        simp only at hc
        split at hc <;> simp at hc
      case slice.slice e1 e2 =>
        simp only at hc
        split at hc
        · split at hc <;> simp at hc
        · simp at hc

theorem cop_pure {o : Oper} {p : POp} {xs : List Operand} {v : Value} (hc : cop P o.op o.type = some (.p p, xs)) (hv : pureV p (xs.map (evo E)) = some v) :
    (execOp (evo E) o).run P w = .ok (.value v) w := by
  obtain ⟨dst, op, ty, pos, after, guard⟩ := o
  simp only at hc
  unfold execOp
  cases op <;> simp only [cop] at hc
  case move x => cases hc; simp only [List.map_cons, List.map_nil, pureV, fMv, Option.some.injEq] at hv; subst hv; rfl
  case assign x => cases hc; simp only [List.map_cons, List.map_nil, pureV, fMv, Option.some.injEq] at hv; subst hv; rfl
  case pick c a b =>
    cases hc
    simp only [List.map_cons, List.map_nil, pureV] at hv
    cases hx : evo E c <;> simp only [hx, fPick, reduceCtorEq, Option.some.injEq] at hv
    rename_i t
    subst hv
    cases t <;> simp [asBool, hx]
  case nilCheck x =>
    cases hc
    simp only [List.map_cons, List.map_nil, pureV] at hv
    cases hx : evo E x <;> simp only [hx, fNilchk, reduceCtorEq] at hv
    rename_i a
    cases a <;> simp only [fNilchk, reduceCtorEq, Option.some.injEq] at hv
    subst hv
    simp [hx]
  case binOp op t x y yt =>
    obtain ⟨h1, rfl⟩ := map_pair hc
    exact run_v (binOp_sound (yt := yt) h1 (by simpa using hv))
  case unOp op t x =>
    cases op <;> simp only [reduceCtorEq] at hc
    · cases hc
      simp only [List.map_cons, List.map_nil, pureV] at hv
      cases hx : evo E x <;> simp only [hx, fInv, reduceCtorEq, Option.some.injEq] at hv
      subst hv
      exact run_v (by simp [hx, Op.unary, Op.intBits, bits])
    · cases hc
      simp only [List.map_cons, List.map_nil, pureV] at hv
      cases hx : evo E x <;> simp only [hx, fNot, reduceCtorEq, Option.some.injEq] at hv
      subst hv
      exact run_v (by simp [hx, Op.unary])
  case convert s d x =>
    obtain ⟨h1, rfl⟩ := map_pair hc
    exact run_v (conv_sound h1 (by simpa using hv))
  case sliceToArrayPointer d x =>
    split at hc <;> simp only [reduceCtorEq, Option.some.injEq, Prod.mk.injEq, TOp.p.injEq] at hc
    rename_i n e hu
    obtain ⟨rfl, rfl⟩ := hc
    simp only [List.map_cons, List.map_nil, pureV] at hv
    cases hx : evo E x <;> simp only [hx, fToArr, reduceCtorEq] at hv
    rename_i a len cap
    split at hv <;> simp only [reduceCtorEq, Option.some.injEq] at hv
    rename_i hle
    subst hv
    exact run_v (by simp [hx, Instr.arrayAt, run_underlying hu]; omega)
  case load t a => split at hc <;> simp at hc
  case store t a x => split at hc <;> simp at hc
  case fieldAddr s x f =>
    cases hu : P.underlying s with
    | none => simp [hu] at hc
    | some d =>
      simp only [hu] at hc
      cases d <;> simp only [reduceCtorEq] at hc
      rename_i fs
      cases hf : fs[f]? with
      | none => simp [hf] at hc
      | some fd =>
        simp only [hf] at hc
        cases hs : szOf P fd.type with
        | none => simp [hs] at hc
        | some n =>
          simp only [hs] at hc
          split at hc <;> simp only [reduceCtorEq, Option.some.injEq, Prod.mk.injEq, TOp.p.injEq] at hc
          rename_i hn
          obtain ⟨rfl, rfl⟩ := hc
          simp only [List.map_cons, List.map_nil, pureV] at hv
          cases hx : evo E x <;> simp only [hx, fFaddr, reduceCtorEq] at hv
          rename_i a
          cases a <;> simp only [fFaddr, reduceCtorEq, Option.some.injEq] at hv
          subst hv
          exact run_v (by simp [hx, Instr.fieldAt, run_underlying hu, hf, Instr.sureAddr, fieldPlace, run_sizeOf' hs, hn])
  case indexAddr t x i =>
    cases hu : P.underlying t with
    | none => simp [hu] at hc
    | some d =>
      simp only [hu] at hc
      cases d <;> simp only [reduceCtorEq] at hc
      case slice e =>
        simp only [Option.map_eq_some_iff, Prod.mk.injEq, TOp.p.injEq] at hc
        obtain ⟨s, hs, rfl, rfl⟩ := hc
        simp only [List.map_cons, List.map_nil, pureV] at hv
        cases hx : evo E x <;> simp only [hx, fIaddrS, reduceCtorEq] at hv
        rename_i a n c
        cases a <;> try (simp [fIaddrS] at hv; done)
        cases hi : evo E i <;> simp only [hi, fIaddrS, reduceCtorEq] at hv
        split at hv <;> simp only [reduceCtorEq, Option.some.injEq] at hv
        rename_i hb
        subst hv
        exact run_v (by simp [hx, hi, Instr.indexAt, run_underlying hu, asIntOf, hb, run_sizeOf' hs])
      case array n e =>
        simp only [Option.map_eq_some_iff, Prod.mk.injEq, TOp.p.injEq] at hc
        obtain ⟨s, hs, rfl, rfl⟩ := hc
        simp only [List.map_cons, List.map_nil, pureV] at hv
        cases hx : evo E x <;> simp only [hx, fIaddrA, reduceCtorEq] at hv
        rename_i a
        cases a <;> try (simp [fIaddrA] at hv; done)
        cases hi : evo E i <;> simp only [hi, fIaddrA, reduceCtorEq] at hv
        split at hv <;> simp only [reduceCtorEq, Option.some.injEq] at hv
        rename_i hb
        subst hv
        exact run_v (by simp [hx, hi, Instr.indexAt, run_underlying hu, asIntOf, hb, run_sizeOf' hs, Instr.sureAddr])
  case extract t i =>
    cases hc
    simp only [List.map_cons, List.map_nil, pureV] at hv
    cases hx : evo E t <;> simp only [hx, fExt, reduceCtorEq] at hv
    exact run_v (by simp [hx, Instr.extract, hv])
  case slice t x lo hi mx =>
    obtain ⟨h1, rfl⟩ := map_pair hc
    exact run_v (slice_sound h1 (by simpa using hv))
  case field t x f =>
    cases hu : P.underlying t with
    | none => simp [hu] at hc
    | some d =>
      simp only [hu] at hc
      cases d <;> simp only [reduceCtorEq] at hc
      rename_i fs
      cases hf : fs[f]? with
      | none => simp [hf] at hc
      | some fd =>
        simp only [hf] at hc
        cases ha : aggT P fd.type with
        | none => simp [ha] at hc
        | some b =>
          simp only [ha] at hc
          cases b
          · simp only [Option.some.injEq, Prod.mk.injEq, TOp.p.injEq] at hc
            obtain ⟨rfl, rfl⟩ := hc
            simp only [List.map_cons, List.map_nil, pureV] at hv
            cases hx : evo E x <;> simp only [hx, fFld1, reduceCtorEq] at hv
            exact run_v (by simp [hx, Instr.field, run_underlying hu, hf, asAgg, part, run_isAgg ha, hv])
          · cases hs : szOf P fd.type with
            | none => simp [hs] at hc
            | some n =>
              simp only [hs, Option.some.injEq, Prod.mk.injEq, TOp.p.injEq] at hc
              obtain ⟨rfl, rfl⟩ := hc
              simp only [List.map_cons, List.map_nil, pureV] at hv
              cases hx : evo E x <;> simp only [hx, fFldN, reduceCtorEq, Option.some.injEq] at hv
              subst hv
              exact run_v (by simp [hx, Instr.field, run_underlying hu, hf, asAgg, part, run_isAgg ha, run_sizeOf' hs])
  case index t x i =>
    cases hu : P.underlying t with
    | none => simp [hu] at hc
    | some d =>
      simp only [hu] at hc
      cases d <;> simp only [reduceCtorEq] at hc
      case string =>
        simp only [Option.some.injEq, Prod.mk.injEq, TOp.p.injEq] at hc
        obtain ⟨rfl, rfl⟩ := hc
        simp only [List.map_cons, List.map_nil, pureV] at hv
        cases hx : evo E x <;> simp only [hx, fIdxStr, reduceCtorEq] at hv
        rename_i s
        cases hi : evo E i <;> simp only [hi, fIdxStr, reduceCtorEq] at hv
        rename_i k j
        split at hv <;> try (simp at hv; done)
        rename_i h0
        cases hb : s[j.toNat]? with
        | none => simp [hb] at hv
        | some c =>
          simp only [hb, Option.map_some, Option.some.injEq] at hv
          subst hv
          exact run_v (by simp [hx, hi, Instr.index, run_underlying hu, asIntOf, h0, hb])
      case array n e =>
        cases ha : aggT P e with
        | none => simp [ha] at hc
        | some b =>
          cases hs : szOf P e with
          | none => cases b <;> simp [ha, hs] at hc
          | some sz =>
            simp only [ha, hs] at hc
            cases b
            · by_cases h1 : sz = 1
              · subst h1
                simp only [Option.some.injEq, Prod.mk.injEq, TOp.p.injEq] at hc
                obtain ⟨rfl, rfl⟩ := hc
                simp only [List.map_cons, List.map_nil, pureV] at hv
                cases hx : evo E x <;> simp only [hx, fIdxA1, reduceCtorEq] at hv
                cases hi : evo E i <;> simp only [hi, fIdxA1, reduceCtorEq] at hv
                split at hv <;> try (simp at hv; done)
                rename_i hb
                exact run_v (by simp [hx, hi, Instr.index, run_underlying hu, asIntOf, hb, run_sizeOf' hs, part, run_isAgg ha, hv])
              · exfalso
                split at hc <;> simp_all
            · simp only [Option.some.injEq, Prod.mk.injEq, TOp.p.injEq] at hc
              obtain ⟨rfl, rfl⟩ := hc
              simp only [List.map_cons, List.map_nil, pureV] at hv
              cases hx : evo E x <;> simp only [hx, fIdxAN, reduceCtorEq] at hv
              cases hi : evo E i <;> simp only [hi, fIdxAN, reduceCtorEq] at hv
              split at hv <;> simp only [reduceCtorEq, Option.some.injEq] at hv
              rename_i hb
              subst hv
              exact run_v (by simp [hx, hi, Instr.index, run_underlying hu, asIntOf, hb, run_sizeOf' hs, part, run_isAgg ha])
  case build t parts =>
    cases hi : P.info? t with
    | none => simp [hi] at hc
    | some i =>
      simp only [hi] at hc
      cases hz : i.zero with
      | none => simp [hz] at hc
      | some z =>
        cases hu : P.underlying t with
        | none => simp [hz, hu] at hc
        | some d =>
          simp only [hz, hu] at hc
          have hparts : (parts.map fun (i, x) => (i, evo E x)).toList = zipIx (parts.toList.map (·.1)) ((parts.toList.map (·.2)).map (evo E)) := by
            rw [zipIx_map, Array.toList_map]
          cases d <;> simp only [reduceCtorEq] at hc
          case array n e =>
            simp only [Option.map_eq_some_iff, Prod.mk.injEq, TOp.p.injEq] at hc
            obtain ⟨s, hs, rfl, rfl⟩ := hc
            simp only [pureV, Option.map_eq_some_iff] at hv
            obtain ⟨cells, hf, rfl⟩ := hv
            rw [← hparts] at hf
            refine run_v ?_
            unfold Instr.build
            simp only [Sem.run_bind, run_zero' hi hz, Result.andThen_ok, run_underlying hu, run_sizeOf' hs, hf, Sem.run_pure]
          case struct fs =>
            simp only [Option.map_eq_some_iff, Prod.mk.injEq, TOp.p.injEq] at hc
            obtain ⟨pl, hpl, rfl, rfl⟩ := hc
            simp only [pureV, Option.map_eq_some_iff] at hv
            obtain ⟨cells, hf, rfl⟩ := hv
            rw [← hparts] at hf
            have hm : (fs.mapM fun f => do pure (f.offset, ← sizeOf f.type) : Sem (Array (Nat × Nat))).run P w = .ok pl.toArray w := by
              rw [Array.mapM_eq_mapM_toList]
              simp only [Sem.run_map, fields_run fs.toList pl hpl w, Result.andThen_ok]
            refine run_v ?_
            unfold Instr.build
            simp only [Sem.run_bind, run_zero' hi hz, Result.andThen_ok, run_underlying hu, hm, hf, Sem.run_pure]
  case alloc e =>
    cases hi : P.info? e with
    | none => simp [hi] at hc
    | some i => cases hz : i.zero <;> simp [hi, hz] at hc
  case buildSlice t len parts =>
    exfalso
    cases hu : P.underlying t with
    | none => simp [hu] at hc
    | some d =>
      simp only [hu] at hc
      cases d <;> simp only [reduceCtorEq] at hc
      rename_i e
      cases hi : P.info? e with
      | none => simp [hi] at hc
      | some i =>
        simp only [hi] at hc
        cases hz : i.zero with
        | none => simp [hz] at hc
        | some z =>
          simp only [hz] at hc
          split at hc
          · split at hc <;> simp at hc
          · simp at hc
  case makeSlice t l c =>
    exfalso
    cases hu : P.underlying t with
    | none => simp [hu] at hc
    | some d =>
      simp only [hu] at hc
      cases d <;> simp only [reduceCtorEq] at hc
      rename_i e
      cases hi : P.info? e with
      | none => simp [hi] at hc
      | some i => cases hz : i.zero <;> simp [hi, hz] at hc
  case makeMap t r => cases r <;> simp at hc
  case call c =>
    obtain ⟨callee, args, argTypes⟩ := c
    cases callee with
    | builtin b =>
      obtain ⟨h1, rfl⟩ := map_pair hc
      cases b <;> simp only [cBuiltin, reduceCtorEq] at h1
      case append => exfalso; iterate 7 (all_goals (try (first | (simp at h1; done) | split at h1)))
      case copy => exfalso; iterate 7 (all_goals (try (first | (simp at h1; done) | split at h1)))
      case delete => simp at h1
      case clear => simp at h1
      case len =>
        obtain ⟨targs⟩ := argTypes
        cases targs with
        | nil => simp at h1
        | cons t ts =>
          simp only [List.getElem?_cons_zero, Option.bind_some] at h1
          obtain ⟨largs⟩ := args
          have hl : ∀ (a : Operand) (l : List Operand), ((Array.mk (a :: l)).map (evo E))[0]? = some (evo E a) := fun a l => by simp
          cases hu : P.underlying t with
          | none => simp [hu] at h1
          | some d =>
            simp only [hu] at h1
            cases d <;> simp only [reduceCtorEq, Option.some.injEq, TOp.p.injEq] at h1 <;> subst h1 <;> simp only [pureV] at hv
            all_goals
              (cases largs with
               | nil => simp [fLenS, fLenStr, fLenK] at hv
               | cons a l =>
                 cases l with
                 | cons b l => simp [fLenS, fLenStr, fLenK] at hv
                 | nil =>
                   simp only [List.map_cons, List.map_nil] at hv
                   cases hx : evo E a <;> simp only [hx, fLenS, fLenStr, fLenK, reduceCtorEq, Option.some.injEq] at hv <;> subst hv <;>
                     simp [resolve, invoke, builtin, Builtin.len_, run_underlying hu, hx, goInt])
      case min =>
        split at h1 <;> simp only [reduceCtorEq, Option.some.injEq, TOp.p.injEq] at h1
        subst h1
        obtain ⟨largs⟩ := args
        simp only [pureV] at hv
        simp only [resolve, invoke, builtin, Builtin.min_, Sem.run_bind, Sem.run_pure, Result.andThen_ok, Array.toList_map]
        match largs, hv with
        | [], hv => simp [fMin] at hv
        | [a], hv => simp [fMin] at hv
        | [a, b], hv =>
          simp only [List.map_cons, List.map_nil] at hv ⊢
          cases ha : evo E a <;> try (simp [ha, fMin] at hv; done)
          cases hb : evo E b <;> simp only [ha, hb, fMin, reduceCtorEq, Option.some.injEq] at hv
          subst hv
          simp [Builtin.min2]
        | [a, b, c], hv =>
          simp only [List.map_cons, List.map_nil] at hv ⊢
          cases ha : evo E a <;> try (simp [ha, fMin] at hv; done)
          cases hb : evo E b <;> try (simp [ha, hb, fMin] at hv; done)
          cases hc' : evo E c <;> simp only [ha, hb, hc', fMin, reduceCtorEq, Option.some.injEq] at hv
          subst hv
          simp [Builtin.min2]
        | [a, b, c, d], hv =>
          simp only [List.map_cons, List.map_nil] at hv ⊢
          cases ha : evo E a <;> try (simp [ha, fMin] at hv; done)
          cases hb : evo E b <;> try (simp [ha, hb, fMin] at hv; done)
          cases hc' : evo E c <;> try (simp [ha, hb, hc', fMin] at hv; done)
          cases hd : evo E d <;> simp only [ha, hb, hc', hd, fMin, reduceCtorEq, Option.some.injEq] at hv
          subst hv
          simp [Builtin.min2]
        | a :: b :: c :: d :: e :: l, hv => simp [fMin] at hv
      case max =>
        split at h1 <;> simp only [reduceCtorEq, Option.some.injEq, TOp.p.injEq] at h1
        subst h1
        obtain ⟨largs⟩ := args
        simp only [pureV] at hv
        simp only [resolve, invoke, builtin, Builtin.max_, Sem.run_bind, Sem.run_pure, Result.andThen_ok, Array.toList_map]
        match largs, hv with
        | [], hv => simp [fMax] at hv
        | [a], hv => simp [fMax] at hv
        | [a, b], hv =>
          simp only [List.map_cons, List.map_nil] at hv ⊢
          cases ha : evo E a <;> try (simp [ha, fMax] at hv; done)
          cases hb : evo E b <;> simp only [ha, hb, fMax, reduceCtorEq, Option.some.injEq] at hv
          subst hv
          simp [Builtin.max2]
        | [a, b, c], hv =>
          simp only [List.map_cons, List.map_nil] at hv ⊢
          cases ha : evo E a <;> try (simp [ha, fMax] at hv; done)
          cases hb : evo E b <;> try (simp [ha, hb, fMax] at hv; done)
          cases hc' : evo E c <;> simp only [ha, hb, hc', fMax, reduceCtorEq, Option.some.injEq] at hv
          subst hv
          simp [Builtin.max2]
        | a :: b :: c :: d :: l, hv => simp [fMax] at hv
    | value f =>
      exfalso
      cases f with
      | tmp t => simp at hc
      | const v => simp at hc
      | global g => simp at hc
      | func f =>
        obtain ⟨h1, rfl⟩ := map_pair hc
        unfold cCallF at h1
        split at h1
        · split at h1
          · simp at h1
          · split at h1 <;> simp at h1
        · simp at h1
    | invoke r m => simp at hc
  all_goals (simp at hc)
end
end Go.Proofs.Ytgebiedochlhmaa
