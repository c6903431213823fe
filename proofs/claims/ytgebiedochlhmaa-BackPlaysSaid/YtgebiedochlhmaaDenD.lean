/- The typed form of an operation is sound: slices, structs, and all operations together. -/
import Derived.Test.YtgebiedochlhmaaDenC
set_option linter.unusedVariables false
set_option linter.unusedSimpArgs false
set_option maxRecDepth 4000
namespace Go.Proofs.Ytgebiedochlhmaa
section
variable {P : Program} {E : Env} {w : World} {K : Kn}

theorem bnds_sound (isS : Bool) (len cap : Nat) (lo hi mx : Option Operand) {l h m : Nat}
    (hb : bnds len cap (flag lo) (flag hi) (flag mx) ((optL lo ++ optL hi ++ optL mx).map (evo E)) = some (l, h, m)) :
    (Instr.sliceBounds isS len cap (lo.map (evo E)) (hi.map (evo E)) (mx.map (evo E))).run P w = .ok (l, h, m) w := by
  have key : ∀ (v : Value) (k : IntKind) (i : Int) (y : Nat) (c : BoundsCode), v = .int k i → 0 ≤ i → i ≤ y → (Instr.sliceBound v y c).run P w = .ok i.toNat w := by
    intro v k i y c hv h0 h1
    subst hv
    simp [Instr.sliceBound, asIntOf, h0, h1]
  cases lo <;> cases hi <;> cases mx <;> simp only [flag, optL, List.append_nil, List.nil_append, List.map_nil, List.map_cons, List.cons_append, bnds, reduceCtorEq, Option.some.injEq, Prod.mk.injEq] at hb
  · obtain ⟨rfl, rfl, rfl⟩ := hb
    simp [Instr.sliceBounds]
  · rename_i b
    cases hv : evo E b <;> simp only [hv, reduceCtorEq] at hb
    split at hb <;> simp only [reduceCtorEq, Option.some.injEq, Prod.mk.injEq] at hb
    rename_i hc
    obtain ⟨rfl, rfl, rfl⟩ := hb
    simp [Instr.sliceBounds, key _ _ _ _ _ hv hc.1 hc.2]
  · rename_i b
    cases hv : evo E b <;> simp only [hv, reduceCtorEq] at hb
    split at hb <;> simp only [reduceCtorEq, Option.some.injEq, Prod.mk.injEq] at hb
    rename_i hc
    obtain ⟨rfl, rfl, rfl⟩ := hb
    simp [Instr.sliceBounds, key _ _ _ _ _ hv hc.1 hc.2]
  · rename_i a b
    cases hu : evo E a <;> simp only [hu, reduceCtorEq] at hb
    rename_i ka ia
    cases hv : evo E b <;> simp only [hv, reduceCtorEq] at hb
    rename_i kb ib
    split at hb <;> simp only [reduceCtorEq, Option.some.injEq, Prod.mk.injEq] at hb
    rename_i hc
    obtain ⟨rfl, rfl, rfl⟩ := hb
    obtain ⟨h1, h2, h3, h4⟩ := hc
    simp [Instr.sliceBounds, key _ _ _ _ _ hv h1 h2, key _ _ _ ib.toNat _ hu h3 (by omega)]
  · rename_i a b c
    cases hu : evo E a <;> simp only [hu, reduceCtorEq] at hb
    rename_i ka ia
    cases hv : evo E b <;> simp only [hv, reduceCtorEq] at hb
    rename_i kb ib
    cases hw : evo E c <;> simp only [hw, reduceCtorEq] at hb
    rename_i kc ic
    split at hb <;> simp only [reduceCtorEq, Option.some.injEq, Prod.mk.injEq] at hb
    rename_i hc
    obtain ⟨rfl, rfl, rfl⟩ := hb
    obtain ⟨h1, h2, h3, h4, h5, h6⟩ := hc
    simp [Instr.sliceBounds, key _ _ _ _ _ hw h1 h2, key _ _ _ ic.toNat _ hv h3 (by omega), key _ _ _ ib.toNat _ hu h5 (by omega)]

theorem slice_sound {t : TypeId} {x : Operand} {lo hi mx : Option Operand} {p : POp} {v : Value} (hc : cSlice P t (flag lo) (flag hi) (flag mx) = some (.p p))
    (hv : pureV p (evo E x :: (optL lo ++ optL hi ++ optL mx).map (evo E)) = some v) :
    (Instr.sliceAt t (evo E x) (lo.map (evo E)) (hi.map (evo E)) (mx.map (evo E))).run P w = .ok v w := by
  unfold cSlice at hc
  cases hu : P.underlying t with
  | none => simp [hu] at hc
  | some d =>
    simp only [hu] at hc
    cases d <;> try (simp at hc; done)
    case string =>
      cases mx with
      | some m => simp [flag] at hc
      | none =>
        simp [flag] at hc
        subst hc
        simp only [pureV] at hv
        cases hx : evo E x <;> simp only [hx, fCutStr, reduceCtorEq] at hv
        rename_i s
        simp only [Option.map_eq_some_iff] at hv
        obtain ⟨⟨l, h, m⟩, hb, rfl⟩ := hv
        have hb' := bnds_sound (P := P) (w := w) (E := E) false s.size s.size lo hi none (by simpa [flag] using hb)
        simp only [Option.map_none] at hb'
        simp [Instr.sliceAt, Instr.slice, run_underlying hu, hb']
    case slice e =>
      simp only [Option.map_eq_some_iff] at hc
      obtain ⟨n, hn, hp⟩ := hc
      injection hp with hp
      subst hp
      simp only [pureV] at hv
      cases hx : evo E x <;> simp only [hx, fCutS, reduceCtorEq] at hv
      simp only [Option.map_eq_some_iff] at hv
      obtain ⟨⟨l, h, m⟩, hb, rfl⟩ := hv
      have hb' := bnds_sound (P := P) (w := w) (E := E) true _ _ lo hi mx hb
      simp [Instr.sliceAt, Instr.slice, run_underlying hu, hb', run_sizeOf' hn, cutAddr]
    case array n e =>
      simp only [Option.map_eq_some_iff] at hc
      obtain ⟨s, hn, hp⟩ := hc
      injection hp with hp
      subst hp
      simp only [pureV] at hv
      cases hx : evo E x <;> simp only [hx, fCutA, reduceCtorEq] at hv
      rename_i a
      cases a <;> simp only [fCutA, reduceCtorEq, Option.map_eq_some_iff] at hv
      obtain ⟨⟨l, h, m⟩, hb, rfl⟩ := hv
      have hb' := bnds_sound (P := P) (w := w) (E := E) false _ _ lo hi mx hb
      simp [Instr.sliceAt, run_underlying hu, Instr.sureAddr, hb', run_sizeOf' hn, cutAddr]
      split <;> simp

theorem fields_run : ∀ (fs : List Field) (pl : List (Nat × Nat)), (fs.mapM fun f => (szOf P f.type).map fun s => (f.offset, s)) = some pl →
    ∀ (w : World), (fs.mapM fun f => do pure (f.offset, ← sizeOf f.type) : Sem (List (Nat × Nat))).run P w = .ok pl w
  | [], pl, h, w => by simp at h; subst h; simp
  | f :: fs, pl, h, w => by
    simp only [List.mapM_cons] at h
    cases hs : szOf P f.type with
    | none => simp [hs] at h
    | some s =>
      simp only [hs, Option.map_some, Option.bind_eq_bind, Option.bind_some] at h
      cases hr : (fs.mapM fun f => (szOf P f.type).map fun s => (f.offset, s)) with
      | none => simp [hr] at h
      | some pl' =>
        simp only [hr, Option.bind_some, Option.pure_def, Option.some.injEq] at h
        subst h
        have ih := fields_run fs pl' hr w
        simp only [List.mapM_cons, Sem.run_bind, run_sizeOf' hs, Result.andThen_ok, Sem.run_pure, ih]
theorem zipIx_map : ∀ (l : List (Nat × Operand)), zipIx (l.map (·.1)) ((l.map (·.2)).map (evo E)) = l.map fun (i, x) => (i, evo E x)
  | [] => rfl
  | (i, x) :: l => by
    show (i, evo E x) :: zipIx (l.map (·.1)) ((l.map (·.2)).map (evo E)) = _
    rw [zipIx_map l]
    rfl
end
end Go.Proofs.Ytgebiedochlhmaa
