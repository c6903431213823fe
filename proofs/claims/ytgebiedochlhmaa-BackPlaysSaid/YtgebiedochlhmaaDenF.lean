/- The typed form of an operation is sound: whatever it does to memory. -/
import Derived.Test.YtgebiedochlhmaaDenE
set_option linter.unusedVariables false
set_option linter.unusedSimpArgs false
set_option maxRecDepth 4000
set_option maxHeartbeats 1000000
namespace Go.Proofs.Ytgebiedochlhmaa
section
variable {P : Program} {E : Env} {w : World} {K : Kn}

theorem gives_of {s : Sem Value} {v : Value} {w' : World} (h : s.run P w = .ok v w') (hK : K v w') : gives P ((do pure (Next.value (← s)) : Sem Next).run P w) K := by
  rw [run_v h]; exact hK
theorem gives_u {s : Sem Unit} (h : runsU P s w K) : gives P ((do s; pure Next.skip : Sem Next).run P w) K := by
  unfold runsU at h
  simp only [Sem.run_bind]
  cases hs : s.run P w with
  | ok a w' => rw [hs] at h; exact h
  | halt x w' => rw [hs] at h; exact h.elim
theorem gives_runsV {s : Sem Value} (h : runsV P s w K) : gives P ((do pure (Next.value (← s)) : Sem Next).run P w) K := by
  exact gives_v.2 h
theorem gives_callF {f : FuncId} {args : Array Value} (hf : cCallF P f = some (.call f)) (h : Calls P f args w fun e w' => ∃ v, e = .returned v ∧ K v w') :
    gives P ((callFunc f args).run P w) K := by
  unfold cCallF at hf
  cases hfn : P.funcs[f]? with
  | none => simp [hfn] at hf
  | some fn =>
    simp only [hfn] at hf
    split at hf
    · simp at hf
    · rename_i hname
      split at hf
      · simp at hf
      · rename_i hbody
        simp only [callFunc, Sem.run_bind, run_program, Result.andThen_ok, hfn]
        rw [if_neg hname, if_neg hbody]
        exact h
theorem mkZero_eq {n : Nat} {z : Value} {e : TypeId} {i : TypeInfo} (hi : P.info? e = some i) (hz : i.zero = some z) :
    ((if n = 0 then pure #[] else do pure (← zeroValue e).cells : Sem (Array Value)).run P w) = .ok (if n = 0 then #[] else z.cells) w := by
  by_cases h : n = 0
  · simp [h]
  · simp [h, run_zero' hi hz]
theorem mkZero_val {z : Array Value} {n : Nat} : (Array.range n).map ((if n = 0 then #[] else z)[· % (if n = 0 then #[] else z : Array Value).size]!) = mkZero z n := by
  unfold mkZero
  by_cases h : n = 0
  · subst h; simp
  · simp [h]

theorem eqv_sound {neg : Bool} {t tt yt : TypeId} {op : BinOp} {x y : Operand} (hc : cBin P op t y = some (.eqv neg tt)) {b : Bool} (hb : (Op.equal tt (evo E x) (evo E y)).run P w = .ok b w) :
    (do eqGuard op t x y (evo E x) (evo E y); binOp op t (evo E x) (evo E y) : Sem Value).run P w = .ok (.bool (if neg then !b else b)) w := by
  have main : P.eqGuardType P.depth t = false ∧ tt = t ∧ op = (if neg then .neq else .eql) ∧ ((∃ fs, P.underlying t = some (.struct fs)) ∨ ∃ n e, P.underlying t = some (.array n e)) := by
    unfold cBin at hc
    cases hu : P.underlying t with
    | none => simp [hu] at hc
    | some d =>
      simp only [hu] at hc
      cases hg : P.eqGuardType P.depth t <;> cases d <;> cases op <;> simp [hg] at hc
      all_goals first
        | (obtain ⟨rfl, rfl⟩ := hc; exact ⟨rfl, rfl, rfl, .inl ⟨_, rfl⟩⟩)
        | (obtain ⟨rfl, rfl⟩ := hc; exact ⟨rfl, rfl, rfl, .inr ⟨_, _, rfl⟩⟩)
        | (exfalso; split at hc <;> first | (cases hc; done) | (simp at hc; done))
  obtain ⟨hg, rfl, rfl, hu⟩ := main
  have hagg : ∃ xs ys, evo E x = .agg xs ∧ evo E y = .agg ys := by
    have hb' : (Op.equalIn (9999 + 1) tt (evo E x) (evo E y)).run P w = .ok b w := hb
    revert hb'
    generalize 9999 = d
    intro hb'
    unfold Op.equalIn at hb'
    rcases hu with ⟨fs, hu⟩ | ⟨n, e, hu⟩ <;> simp only [Sem.run_bind, run_underlying hu, Result.andThen_ok] at hb' <;>
      cases hx : evo E x <;> simp only [hx, run_stuck, reduceCtorEq] at hb' <;> cases hy : evo E y <;> simp only [hy, run_stuck, reduceCtorEq] at hb' <;> exact ⟨_, _, rfl, rfl⟩
  obtain ⟨xs, ys, hx, hy⟩ := hagg
  rw [hx, hy] at hb ⊢
  have hgd : ∀ o : BinOp, (eqGuard o tt x y (.agg xs) (.agg ys)).run P w = .ok () w := by
    intro o
    unfold eqGuard
    cases o <;> simp [hg]
  cases neg <;> simp only [if_true, Bool.false_eq_true, if_false, Sem.run_bind, hgd, Result.andThen_ok, binOp, hb, Sem.run_pure]

theorem conv_gives {s d : TypeId} {x : Operand} {t : TOp} (hc : cConv P s d = some t) (hd : denV P t [evo E x] w K) : runsV P (convert s d (evo E x)) w K := by
  cases t with
  | p p =>
    obtain ⟨v, hv, hK⟩ := hd
    rw [runsV_ok (conv_sound hc hv)]; exact hK
  | b2s =>
    simp only [denV] at hd
    cases hx : evo E x <;> simp only [hx, eB2s] at hd
    unfold cConv at hc
    cases hs : P.underlying s with
    | none => simp [hs] at hc
    | some a =>
      cases hdd : P.underlying d with
      | none => simp [hs, hdd] at hc
      | some b =>
        simp only [hs, hdd] at hc
        cases a <;> cases b <;> try (simp at hc; done)
        case slice.string e =>
          simp only at hc
          split at hc <;> simp at hc
          rename_i he
          unfold runsV at hd ⊢
          rename_i pa pn pc _
          have : (convert s d (.slice pa pn pc)).run P w = (Conv.bytesToString (.slice pa pn pc)).run P w := by
            simp [convert, run_underlying hs, run_underlying hdd, run_underlying he]
          rw [this]; exact hd
        case string.slice e => simp only at hc; split at hc <;> simp at hc
        case slice.slice e1 e2 =>
          simp only at hc
          split at hc
          · split at hc <;> simp at hc
          · simp at hc
  | s2b e0 =>
    simp only [denV] at hd
    cases hx : evo E x <;> simp only [hx, eS2b] at hd
    rename_i str
    unfold cConv at hc
    cases hs : P.underlying s with
    | none => simp [hs] at hc
    | some a =>
      cases hdd : P.underlying d with
      | none => simp [hs, hdd] at hc
      | some b =>
        simp only [hs, hdd] at hc
        cases a <;> cases b <;> try (simp at hc; done)
        case slice.string e => simp only at hc; split at hc <;> simp at hc
        case string.slice e =>
          simp only at hc
          split at hc <;> simp at hc
          rename_i he
          subst hc
          have : (convert s d (.string str)).run P w = (Conv.stringToBytes e str).run P w := by
            simp [convert, run_underlying hs, run_underlying hdd, run_underlying he]
          unfold runsV at hd ⊢
          rw [this]; exact hd
        case slice.slice e1 e2 =>
          simp only at hc
          split at hc
          · split at hc <;> simp at hc
          · simp at hc
  | mark =>
    simp only [denV] at hd
    cases hx : evo E x <;> simp only [hx, eMark] at hd
    rename_i a n c
    cases a <;> simp only [eMark] at hd
    rename_i a
    unfold cConv at hc
    cases hs : P.underlying s with
    | none => simp [hs] at hc
    | some a' =>
      cases hdd : P.underlying d with
      | none => simp [hs, hdd] at hc
      | some b =>
        simp only [hs, hdd] at hc
        cases a' <;> cases b <;> try (simp at hc; done)
        case slice.string e => simp only at hc; split at hc <;> simp at hc
        case string.slice e => simp only at hc; split at hc <;> simp at hc
        case slice.slice e1 e2 =>
          simp only at hc
          split at hc
          · rename_i hsd
            subst hsd
            obtain rfl : e1 = e2 := by rw [hs] at hdd; simpa using hdd
            split at hc <;> simp at hc
            rename_i he
            have : (convert s s (.slice (some a) n c)).run P w = (do markStringish a; pure (Value.slice (some a) n c) : Sem Value).run P w := by
              simp [convert, run_underlying hs, run_underlying hdd, run_underlying he]
            unfold runsV at hd ⊢
            rw [this]; exact hd
          · simp at hc
  | _ =>
    exfalso
    unfold cConv at hc
    cases hs : P.underlying s with
    | none => simp [hs] at hc
    | some a =>
      cases hdd : P.underlying d with
      | none => simp [hs, hdd] at hc
      | some b =>
        simp only [hs, hdd] at hc
        cases a <;> cases b <;> try (simp at hc; done)
        all_goals (simp only at hc; split at hc <;> first | (simp at hc; done) | (split at hc <;> simp at hc))
end
end Go.Proofs.Ytgebiedochlhmaa
