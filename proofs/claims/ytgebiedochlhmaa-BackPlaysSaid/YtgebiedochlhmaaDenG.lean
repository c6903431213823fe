/- The typed form of an operation is sound: the theorem. -/
import Derived.Test.YtgebiedochlhmaaDenF
set_option linter.unusedVariables false
set_option linter.unusedSimpArgs false
set_option maxRecDepth 4000
set_option maxHeartbeats 1000000
namespace Go.Proofs.Ytgebiedochlhmaa
section
variable {P : Program} {E : Env} {w : World} {K : Kn}

theorem cBin_form {op : BinOp} {t : TypeId} {y : Operand} {tt : TOp} (h : cBin P op t y = some tt) : (∃ p, tt = .p p) ∨ ∃ neg t', tt = .eqv neg t' := by
  unfold cBin at h
  split at h
  all_goals first
    | (injection h with h; exact .inl ⟨_, h.symm⟩)
    | (split at h <;> first
        | (injection h with h; exact .inl ⟨_, h.symm⟩)
        | cases h
        | (split at h <;> first
            | (injection h with h; exact .inr ⟨_, _, h.symm⟩)
            | cases h))
    | cases h
theorem cSlice_form {t : TypeId} {a b c : Bool} {tt : TOp} (h : cSlice P t a b c = some tt) : ∃ p, tt = .p p := by
  unfold cSlice at h
  split at h
  · split at h <;> simp at h; exact ⟨_, h.symm⟩
  · simp only [Option.map_eq_some_iff] at h; obtain ⟨_, _, h⟩ := h; exact ⟨_, h.symm⟩
  · simp only [Option.map_eq_some_iff] at h; obtain ⟨_, _, h⟩ := h; exact ⟨_, h.symm⟩
  · simp at h

theorem builtin_gives {b : Builtin} {args : Array Operand} {argTypes : Array TypeId} {ty : TypeId} {t : TOp} {dst : Option Tmp} {pos : String} {after : Array Edge} {guard : Option (Nat × Bool)}
    (h1 : cBuiltin P b argTypes.toList ty args.toList = some t) (hd : denV P t (args.toList.map (evo E)) w K) (hp : ∀ p, t ≠ .p p) :
    gives P ((execOp (evo E) ⟨dst, .call { callee := .builtin b, args, argTypes }, ty, pos, after, guard⟩).run P w) K := by
  cases b <;> simp only [cBuiltin, reduceCtorEq] at h1
  case append =>
    obtain ⟨largs⟩ := args
    obtain ⟨ts⟩ := argTypes
    simp only at h1 hd
    split at h1 <;> try (simp at h1; done)
    rename_i t0 u0
    split at h1 <;> try (simp at h1; done)
    rename_i e hu
    split at h1 <;> try (simp at h1; done)
    rename_i i hi
    split at h1 <;> try (simp at h1; done)
    rename_i z hz
    split at h1 <;> try (simp at h1; done)
    rename_i htu
    split at h1 <;> try (simp at h1; done)
    rename_i hty
    subst htu
    subst hty
    simp only [Option.some.injEq] at h1
    subst h1
    match largs, hd with
    | [], hd => simp [denV, two] at hd
    | [a], hd => simp [denV, two] at hd
    | [a, b], hd =>
      simp only [denV, two, List.map_cons, List.map_nil] at hd
      unfold execOp
      simp only [resolve, invoke, builtin, Sem.run_bind, Sem.run_pure, Result.andThen_ok, List.map_toArray, List.map_cons, List.map_nil]
      unfold runsV at hd
      cases hr : (Builtin.append_ #[ty, ty] ty #[evo E a, evo E b]).run P w with
      | ok v w' => rw [hr] at hd; exact hd
      | halt x w' => rw [hr] at hd; exact hd.elim
    | a :: b :: c :: l, hd => simp [denV, two] at hd
  case copy =>
    obtain ⟨largs⟩ := args
    obtain ⟨ts⟩ := argTypes
    simp only at h1 hd
    split at h1 <;> try (simp at h1; done)
    rename_i t0 u0
    split at h1 <;> try (simp at h1; done)
    rename_i e hu
    split at h1 <;> try (simp at h1; done)
    rename_i i hi
    split at h1 <;> try (simp at h1; done)
    rename_i htu
    split at h1 <;> try (simp at h1; done)
    rename_i hty
    subst htu
    subst hty
    simp only [Option.some.injEq] at h1
    subst h1
    match largs, hd with
    | [], hd => simp [denV, two] at hd
    | [a], hd => simp [denV, two] at hd
    | [a, b], hd =>
      simp only [denV, two, List.map_cons, List.map_nil] at hd
      unfold execOp
      simp only [resolve, invoke, builtin, Sem.run_bind, Sem.run_pure, Result.andThen_ok, List.map_toArray, List.map_cons, List.map_nil]
      unfold runsV at hd
      cases hr : (Builtin.copy_ #[t0, t0] 3 #[evo E a, evo E b]).run P w with
      | ok v w' => rw [hr] at hd; exact hd
      | halt x w' => rw [hr] at hd; exact hd.elim
    | a :: b :: c :: l, hd => simp [denV, two] at hd
  case delete =>
    simp only [Option.some.injEq] at h1
    subst h1
    simp only [denV, withArgs] at hd
    unfold execOp at hd ⊢
    simp only [resolve, invoke, builtin, Sem.run_bind, Sem.run_pure, Result.andThen_ok] at hd ⊢
    have he : (List.map Operand.const (List.map (evo E) args.toList)).toArray.map idC = args.map (evo E) := by
      apply Array.ext'
      simp [idC, Function.comp_def]
    rw [he] at hd
    exact hd
  case clear =>
    simp only [Option.some.injEq] at h1
    subst h1
    simp only [denV, withArgs] at hd
    unfold execOp at hd ⊢
    simp only [resolve, invoke, builtin, Sem.run_bind, Sem.run_pure, Result.andThen_ok] at hd ⊢
    have he : (List.map Operand.const (List.map (evo E) args.toList)).toArray.map idC = args.map (evo E) := by
      apply Array.ext'
      simp [idC, Function.comp_def]
    rw [he] at hd
    exact hd
  case len => exfalso; split at h1 <;> simp at h1 <;> exact hp _ h1.symm
  case min => exfalso; split at h1 <;> simp at h1 <;> exact hp _ h1.symm
  case max => exfalso; split at h1 <;> simp at h1 <;> exact hp _ h1.symm

theorem cop_sound {o : Oper} {t : TOp} {xs : List Operand} (hc : cop P o.op o.type = some (t, xs)) (hd : denV P t (xs.map (evo E)) w K) :
    gives P ((execOp (evo E) o).run P w) K := by
  by_cases hp : ∃ p, t = .p p
  · obtain ⟨p, rfl⟩ := hp
    obtain ⟨v, hv, hK⟩ := hd
    rw [cop_pure hc hv]
    exact hK
  have hp' : ∀ p, t ≠ .p p := fun p h => hp ⟨p, h⟩
  obtain ⟨dst, op, ty, pos, after, guard⟩ := o
  simp only at hc
  cases op <;> simp only [cop] at hc
  case move x => cases hc; exact absurd rfl (hp' _)
  case assign x => cases hc; exact absurd rfl (hp' _)
  case pick c a b => cases hc; exact absurd rfl (hp' _)
  case nilCheck x => cases hc; exact absurd rfl (hp' _)
  case binOp op t' x y yt =>
    obtain ⟨h1, rfl⟩ := map_pair hc
    rcases cBin_form h1 with ⟨p, rfl⟩ | ⟨neg, t', rfl⟩
    · exact absurd rfl (hp' _)
    · simp only [denV, two, List.map_cons, List.map_nil] at hd
      obtain ⟨b, hb, hK⟩ := hd
      exact gives_of (eqv_sound (yt := yt) h1 hb) hK
  case unOp op t' x => cases op <;> simp only [reduceCtorEq] at hc <;> cases hc <;> exact absurd rfl (hp' _)
  case convert s d x =>
    obtain ⟨h1, rfl⟩ := map_pair hc
    exact gives_runsV (conv_gives h1 (by simpa using hd))
  case sliceToArrayPointer d x => split at hc <;> cases hc; exact absurd rfl (hp' _)
  case load t' a =>
    cases ha : aggT P t' with
    | none => simp [ha] at hc
    | some b =>
      simp only [ha] at hc
      cases b
      · simp only [Option.some.injEq, Prod.mk.injEq] at hc
        obtain ⟨rfl, rfl⟩ := hc
        simp only [denV, List.map_cons, List.map_nil] at hd
        cases hx : evo E a <;> simp only [hx, eLoad1] at hd
        rename_i a'
        cases a' <;> simp only [eLoad1] at hd
        obtain ⟨v, hv, hK⟩ := hd
        exact gives_of (by simp [hx, Instr.loadAt, Instr.sureAddr, run_loadVar1 ha hv]) hK
      · cases hs : szOf P t' with
        | none => simp [hs] at hc
        | some n =>
          simp only [hs, Option.some.injEq, Prod.mk.injEq] at hc
          obtain ⟨rfl, rfl⟩ := hc
          simp only [denV, List.map_cons, List.map_nil] at hd
          cases hx : evo E a <;> simp only [hx, eLoadN] at hd
          rename_i a'
          cases a' <;> simp only [eLoadN] at hd
          obtain ⟨cs, hn, hcs, hK⟩ := hd
          exact gives_of (by simp [hx, Instr.loadAt, Instr.sureAddr, run_loadVarN ha hs hn hcs]) hK
  case store t' a x =>
    cases ha : aggT P t' with
    | none => simp [ha] at hc
    | some b =>
      simp only [ha] at hc
      cases b
      · cases hs : szOf P t' with
        | none => simp [hs] at hc
        | some n =>
          by_cases h1 : n = 1
          · subst h1
            simp only [hs, Option.some.injEq, Prod.mk.injEq] at hc
            obtain ⟨rfl, rfl⟩ := hc
            simp only [denV, List.map_cons, List.map_nil] at hd
            cases hx : evo E a <;> simp only [hx, eStore1] at hd
            rename_i a'
            cases a' <;> simp only [eStore1] at hd
            obtain ⟨h1, h2, h3, hK⟩ := hd
            refine gives_u ?_
            simp [runsU, hx, Instr.storeAt, Instr.sureAddr, run_storeVar1 hs h1 h2 h3]
            exact hK
          · exfalso
            rw [hs] at hc
            split at hc <;> simp_all
      · cases hs : szOf P t' with
        | none => simp [hs] at hc
        | some n =>
          simp only [hs, Option.some.injEq, Prod.mk.injEq] at hc
          obtain ⟨rfl, rfl⟩ := hc
          simp only [denV, List.map_cons, List.map_nil] at hd
          cases hx : evo E a <;> try (simp only [hx, eStoreN] at hd; done)
          rename_i a'
          cases a' <;> try (simp only [hx, eStoreN] at hd; done)
          cases hy : evo E x <;> simp only [hx, hy, eStoreN] at hd
          refine gives_u ?_
          have h2 := hd.2
          unfold runsU at h2 ⊢
          simp only [hx, hy, Instr.storeAt, Instr.sureAddr, Sem.run_bind, Sem.run_pure, Result.andThen_ok, run_storeVarN hs hd.1]
          exact h2
  case fieldAddr s x f =>
    exfalso
    iterate 5 (all_goals (try (first | (simp at hc; done) | split at hc)))
    simp only [Option.some.injEq, Prod.mk.injEq] at hc
    exact hp' _ hc.1.symm
  case indexAddr t' x i =>
    exfalso
    split at hc
    · simp only [Option.map_eq_some_iff, Prod.mk.injEq] at hc; obtain ⟨_, _, h, _⟩ := hc; exact hp' _ h.symm
    · simp only [Option.map_eq_some_iff, Prod.mk.injEq] at hc; obtain ⟨_, _, h, _⟩ := hc; exact hp' _ h.symm
    · simp at hc
  case field t' x f =>
    exfalso
    iterate 5 (all_goals (try (first | (simp at hc; done) | split at hc)))
    all_goals (simp only [Option.some.injEq, Prod.mk.injEq] at hc; exact hp' _ hc.1.symm)
  case index t' x i =>
    exfalso
    iterate 5 (all_goals (try (first | (simp at hc; done) | split at hc)))
    all_goals (simp only [Option.some.injEq, Prod.mk.injEq] at hc; exact hp' _ hc.1.symm)
  case extract t' i => cases hc; exact absurd rfl (hp' _)
  case slice t' x lo hi mx =>
    obtain ⟨h1, rfl⟩ := map_pair hc
    obtain ⟨p, rfl⟩ := cSlice_form h1
    exact absurd rfl (hp' _)
  case build t' parts =>
    exfalso
    split at hc
    · split at hc
      · simp only [Option.map_eq_some_iff, Prod.mk.injEq] at hc; obtain ⟨_, _, h, _⟩ := hc; exact hp' _ h.symm
      · simp only [Option.map_eq_some_iff, Prod.mk.injEq] at hc; obtain ⟨_, _, h, _⟩ := hc; exact hp' _ h.symm
      · simp at hc
    · simp at hc
  case buildSlice t' len parts =>
    cases hu : P.underlying t' with
    | none => simp [hu] at hc
    | some d =>
      simp only [hu] at hc
      cases d <;> simp only [reduceCtorEq] at hc
      rename_i e
      cases hi : P.info? e with
      | none => simp [hi] at hc
      | some i =>
        simp only [hi] at hc
        cases hz : i.zero with
        | none => simp [hz] at hc
        | some z =>
          simp only [hz] at hc
          split at hc
          · rename_i hle
            have hsz : szOf P e = some i.size := by simp [szOf, hi]
            have hparts : (parts.map fun (i, x) => (i, evo E x)).toList = zipIx (parts.toList.map (·.1)) ((parts.toList.map (·.2)).map (evo E)) := by
              rw [zipIx_map, Array.toList_map]
            have go : ∀ zero : Array Value, (Array.range (len * i.size)).map ((if len * i.size = 0 then #[] else z.cells)[· % (if len * i.size = 0 then #[] else z.cells : Array Value).size]!) = zero →
                denV P (.bldSl e len i.size zero (parts.toList.map (·.1))) ((parts.toList.map (·.2)).map (evo E)) w K →
                gives P ((execOp (evo E) ⟨dst, .buildSlice t' len parts, ty, pos, after, guard⟩).run P w) K := by
              intro zero hzero hd
              simp only [denV] at hd
              obtain ⟨cs, hf, hK⟩ := hd
              rw [← hparts] at hf
              refine gives_of (w' := w.alloc (.cells cs e)) ?_ hK
              unfold Instr.buildSlice
              simp only [Sem.run_bind, run_underlying hu, Result.andThen_ok, run_sizeOf' hsz]
              rw [if_neg (by omega)]
              rw [Array.toList_map] at hf
              by_cases h0 : len * i.size = 0
              · simp only [if_pos h0] at hzero
                rw [if_pos h0]
                simp only [pure_bind, hzero, Array.toList_map, hf, Sem.run_bind, Sem.run_pure, Result.andThen_ok, newRow, run_newObj, World.alloc_eq]
              · simp only [if_neg h0] at hzero
                rw [if_neg h0]
                simp only [Sem.run_bind, run_zero' hi hz, Result.andThen_ok, pure_bind, hzero, Array.toList_map, hf, Sem.run_pure, newRow, run_newObj, World.alloc_eq]
            split at hc
            · rename_i h0
              simp only [Option.some.injEq, Prod.mk.injEq] at hc
              obtain ⟨rfl, rfl⟩ := hc
              exact go _ (by rw [h0]; simp) hd
            · rename_i h0
              simp only [Option.some.injEq, Prod.mk.injEq] at hc
              obtain ⟨rfl, rfl⟩ := hc
              exact go _ (by simp only [if_neg h0]) hd
          · simp at hc
  case alloc e =>
    cases hi : P.info? e with
    | none => simp [hi] at hc
    | some i =>
      simp only [hi] at hc
      cases hz : i.zero with
      | none => simp [hz] at hc
      | some z =>
        simp only [hz, Option.some.injEq, Prod.mk.injEq] at hc
        obtain ⟨rfl, rfl⟩ := hc
        simp only [denV] at hd
        exact gives_of (by simp [Instr.alloc, run_zero' hi hz, newVar, newRow]) hd
  case box e x =>
    cases hc
    simp only [denV, List.map_cons, List.map_nil, eBox] at hd
    exact gives_of (by simp [Instr.box, newVar, newRow]) hd
  case makeSlice t' l c =>
    cases hu : P.underlying t' with
    | none => simp [hu] at hc
    | some d =>
      simp only [hu] at hc
      cases d <;> simp only [reduceCtorEq] at hc
      rename_i e
      cases hi : P.info? e with
      | none => simp [hi] at hc
      | some i =>
        simp only [hi] at hc
        cases hz : i.zero with
        | none => simp [hz] at hc
        | some z =>
          simp only [hz, Option.some.injEq, Prod.mk.injEq] at hc
          obtain ⟨rfl, rfl⟩ := hc
          have hsz : szOf P e = some i.size := by simp [szOf, hi]
          simp only [denV, List.map_cons, List.map_nil] at hd
          cases hx : evo E l <;> try (simp [hx, eMkS] at hd; done)
          rename_i k n
          cases k <;> try (simp [hx, eMkS] at hd; done)
          cases hy : evo E c <;> try (simp [hx, hy, eMkS] at hd; done)
          rename_i k' n'
          cases k' <;> try (simp [hx, hy, eMkS] at hd; done)
          simp only [hx, hy, eMkS] at hd
          obtain ⟨rfl, h0, h1, h2, hK⟩ := hd
          have hw : IntKind.i64.wrap n = n := IntWalk.i64_in _ (by omega)
          refine gives_of ?_ hK
          unfold Instr.makeSlice
          simp only [Sem.run_bind, run_underlying hu, Result.andThen_ok, hx, hy, asInt, asIntOf, Sem.run_pure, run_typeInfo' hi, hw]
          have hcond : (decide (n < 0) || decide ((i.bytes : Int) * n > 2 ^ 48)) = false := by
            simp only [Bool.or_eq_false_iff, decide_eq_false_iff_not]; omega
          have hm := mkZero_eq (w := w) (n := n.toNat * i.size) hi hz
          have hcond2 : ¬ ((decide (n < 0) || decide ((i.bytes : Int) * n > 2 ^ 48)) || decide (n < 0) || decide (n > n)) = true := by
            rw [hcond]; simp; omega
          rw [if_neg hcond2]
          simp only [Sem.run_bind, run_askRoom, Result.andThen_ok, run_sizeOf' hsz]
          by_cases hz0 : n.toNat * i.size = 0
          · rw [if_pos hz0]
            simp only [Sem.run_bind, Sem.run_pure, Result.andThen_ok, newRow, run_newObj, World.alloc_eq, mkZero, hz0, Array.range_zero', Array.map_empty, if_true]
          · rw [if_neg hz0]
            simp only [Sem.run_bind, run_zero' hi hz, Sem.run_pure, Result.andThen_ok, newRow, run_newObj, World.alloc_eq, mkZero, if_neg hz0]
  case lookup t' m k ok =>
    cases hc
    simp only [denV, withArgs, List.map_cons, List.map_nil, List.getD_cons_zero, List.getD_cons_succ] at hd
    exact hd
  case mapUpdate t' m k v =>
    cases hc
    simp only [denV, withArgs, List.map_cons, List.map_nil, List.getD_cons_zero, List.getD_cons_succ] at hd
    exact hd
  case makeMap t' r =>
    cases r with
    | some r => simp at hc
    | none =>
      simp only [Option.some.injEq, Prod.mk.injEq] at hc
      obtain ⟨rfl, rfl⟩ := hc
      simp only [denV, withArgs] at hd
      exact hd
  case call c =>
    obtain ⟨callee, args, argTypes⟩ := c
    cases callee with
    | builtin b =>
      obtain ⟨h1, rfl⟩ := map_pair hc
      exact builtin_gives h1 hd hp'
    | value f =>
      cases f with
      | tmp t' =>
        simp only [Option.some.injEq, Prod.mk.injEq] at hc
        obtain ⟨rfl, rfl⟩ := hc
        simp only [denV, List.map_cons] at hd
        cases hx : evo E (.tmp t') <;> simp only [hx, eCallv] at hd
        rename_i fn fs cs
        cases fn <;> simp only [eCallv] at hd
        rename_i f
        obtain ⟨hf, hcall⟩ := hd
        unfold execOp
        simp only [resolve, hx, Deferred.ofValue, Sem.run_bind, Sem.run_pure, Result.andThen_ok, invoke]
        refine gives_callF hf ?_
        have he : args.map (evo E) = (args.toList.map (evo E)).toArray := by apply Array.ext'; simp
        rw [he]
        exact hcall
      | const v => simp at hc
      | global g => simp at hc
      | func f =>
        obtain ⟨h1, rfl⟩ := map_pair hc
        have ht : t = .call f := by
          unfold cCallF at h1
          split at h1
          · split at h1
            · simp at h1
            · split at h1
              · simp at h1
              · simpa using h1.symm
          · simp at h1
        subst ht
        simp only [denV] at hd
        unfold execOp
        simp only [resolve, evo, Deferred.ofValue, Sem.run_bind, Sem.run_pure, Result.andThen_ok, invoke]
        refine gives_callF h1 ?_
        have he : #[] ++ args.map (evo E) ++ #[] = (args.toList.map (evo E)).toArray := by apply Array.ext'; simp
        rw [he]
        exact hd
    | invoke r m => simp at hc
  all_goals (simp at hc)
end
end Go.Proofs.Ytgebiedochlhmaa
