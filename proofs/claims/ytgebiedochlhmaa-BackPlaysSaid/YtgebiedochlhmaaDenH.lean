/- Regions: in the text's order, and in whatever order the tape draws. -/
import Derived.Test.YtgebiedochlhmaaDenG
set_option linter.unusedVariables false
set_option linter.unusedSimpArgs false
set_option maxRecDepth 4000
set_option maxHeartbeats 1000000
namespace Go.Proofs.Ytgebiedochlhmaa

/-- An operation in its place: the slot that it writes, the slot that guards it, what it is, its operands. -/
structure TO where
  d : Option Nat
  g : Option (Nat × Bool)
  op : TOp
  xs : List Operand
  deriving Inhabited
def wantedE (E : Env) : Option (Nat × Bool) → Bool
  | none => true
  | some (s, b) => match E s with
    | .bool c => c == b
    | _ => false
/-- A frame whose slots are as the environment says. -/
structure Rep (n : Nat) (a : Act) (E : Env) : Prop where
  size : a.tmps.size = n
  defers : a.defers = []
  get : ∀ t, a.tmps.getD t undef = E t

def cOper (P : Program) (n : Nat) (ops : Array Oper) (o : Oper) : Option TO :=
  match cop P o.op o.type with
  | some (t, xs) =>
    if o.dst.all (· < n) then
      match o.guard with
      | none => some ⟨o.dst, none, t, xs⟩
      | some (j, b) => match (ops[j]?).bind (·.dst) with
        | some s => some ⟨o.dst, some (s, b), t, xs⟩
        | none => none
    else none
  | none => none

section
variable {P : Program} {n : Nat} {a : Act} {E : Env} {w : World}
theorem Rep.eval (h : Rep n a E) : a.eval = evo E := by
  funext x
  cases x with
  | tmp t => exact h.get t
  | _ => rfl
theorem Rep.put (h : Rep n a E) {d : Option Nat} (hd : d.all (· < n) = true) (v : Value) : Rep n (a.put d v) (upd E d v) := by
  cases d with
  | none => exact ⟨h.size, h.defers, fun t => by simpa [Act.put, upd] using h.get t⟩
  | some d =>
    simp at hd
    refine ⟨by simp [Act.put, h.size], h.defers, fun t => ?_⟩
    have hs := h.size
    simp only [Act.put, upd, Option.some.injEq, Array.getD_eq_getD_getElem?]
    by_cases hdt : d = t
    · subst hdt
      rw [Array.getElem?_setIfInBounds_self_of_lt (by omega)]
      simp
    · rw [Array.getElem?_setIfInBounds_ne hdt, if_neg hdt]
      have := h.get t
      rwa [Array.getD_eq_getD_getElem?] at this
theorem Rep.wanted {ops : Array Oper} {o : Oper} {to : TO} (h : Rep n a E) (hc : cOper P n ops o = some to) : Region.wanted o (yielded ops a.tmps) = wantedE E to.g := by
  unfold cOper at hc
  split at hc
  · split at hc
    · cases hg : o.guard with
      | none =>
        rw [hg] at hc
        simp only [Option.some.injEq] at hc
        subst hc
        simp [Region.wanted, hg, wantedE]
      | some jb =>
        obtain ⟨j, b⟩ := jb
        rw [hg] at hc
        simp only at hc
        cases hs : (ops[j]?).bind (·.dst) with
        | none => simp [hs] at hc
        | some s =>
          simp only [hs, Option.some.injEq] at hc
          subst hc
          have hget := h.get s
          rw [Array.getD_eq_getD_getElem?] at hget
          simp only [Region.wanted, hg, wantedE, yielded, hs, Option.bind_some]
          rw [← hget]
          cases ht : a.tmps[s]? with
          | none => simp [undef]
          | some v => cases v <;> simp
    · simp at hc
  · simp at hc
theorem cOper_parts {ops : Array Oper} {o : Oper} {to : TO} (hc : cOper P n ops o = some to) : cop P o.op o.type = some (to.op, to.xs) ∧ o.dst = to.d ∧ to.d.all (· < n) = true := by
  unfold cOper at hc
  cases hcp : cop P o.op o.type with
  | none => simp [hcp] at hc
  | some tx =>
    obtain ⟨t, xs⟩ := tx
    simp only [hcp] at hc
    split at hc
    · rename_i hd
      split at hc
      · simp only [Option.some.injEq] at hc; subst hc; exact ⟨rfl, rfl, hd⟩
      · split at hc
        · simp only [Option.some.injEq] at hc; subst hc; exact ⟨rfl, rfl, hd⟩
        · simp at hc
    · simp at hc
theorem wp_of_gives {o : Oper} {K : Kn} {Q : Exit → Act → World → Prop} {K' : Act → World → Prop} (h : gives P ((execOp a.eval o).run P w) K) (hK : ∀ v w', K v w' → K' (a.put o.dst v) w') :
    o.wp P a w K' Q := by
  unfold Oper.wp
  generalize (execOp a.eval o).run P w = r at *
  cases r with
  | ok nx w' =>
    cases nx <;> simp only [gives] at h <;> simp only [Oper.upon]
    case value v => exact hK _ _ h
    case skip => exact hK _ _ h
    case enter f args => exact h.mono fun e w'' ⟨v, he, hv⟩ => by subst he; exact hK _ _ hv
  | halt x w' => exact h.elim

/-- The operations of a region in the text's order. -/
def denOps (P : Program) : List TO → (Env → World → Prop) → Env → World → Prop
  | [], Q, E, w => Q E w
  | o :: l, Q, E, w => if wantedE E o.g = true then denV P o.op (o.xs.map (evo E)) w (fun v w' => denOps P l Q (upd E o.d v) w') else denOps P l Q (upd E o.d undef) w
def opsK (P : Program) (l : List TO) (Q : Env → World → Prop) (E : Env) (d : Option Nat) : Kn := fun v w' => denOps P l Q (upd E d v) w'
theorem denOps_nil (Q : Env → World → Prop) : denOps P [] Q E w = Q E w := rfl
theorem denOps_cons (o : TO) (l : List TO) (Q : Env → World → Prop) :
    denOps P (o :: l) Q E w = if wantedE E o.g = true then denV P o.op (o.xs.map (evo E)) w (opsK P l Q E o.d) else denOps P l Q (upd E o.d undef) w := rfl
theorem opsK_app (l : List TO) (Q : Env → World → Prop) (d : Option Nat) (v : Value) : opsK P l Q E d v w = denOps P l Q (upd E d v) w := rfl

theorem denOps_sound {ops : Array Oper} {QE : Env → World → Prop} {Q : Exit → Act → World → Prop} (hQ : ∀ a E w, Rep n a E → QE E w → Q .normal a w) :
    ∀ (l : List Oper) (tl : List TO) (a : Act) (E : Env) (w : World), l.mapM (cOper P n ops) = some tl → Rep n a E → denOps P tl QE E w → wpList P ops Q l a w
  | [], tl, a, E, w, hc, hr, h => by
    simp at hc; subst hc
    exact hQ _ _ _ hr h
  | o :: l, tl, a, E, w, hc, hr, h => by
    simp only [List.mapM_cons] at hc
    cases ho : cOper P n ops o with
    | none => simp [ho] at hc
    | some to =>
      cases hl : l.mapM (cOper P n ops) with
      | none => simp [ho, hl] at hc
      | some tl' =>
        simp [ho, hl] at hc
        subst hc
        obtain ⟨h1, h2, h3⟩ := cOper_parts ho
        unfold wpList
        rw [hr.wanted ho]
        unfold denOps at h
        by_cases hw : wantedE E to.g = true
        · rw [if_pos hw] at h ⊢
          refine .inl (wp_of_gives (K := fun v w' => denOps P tl' QE (upd E to.d v) w') ?_ ?_)
          · rw [hr.eval]; exact cop_sound h1 h
          · intro v w' hk
            rw [h2]
            exact denOps_sound hQ l tl' _ _ _ hl (hr.put h3 v) hk
        · rw [if_neg hw] at h ⊢
          rw [h2]
          exact denOps_sound hQ l tl' _ _ _ hl (hr.put h3 _) h
end
end Go.Proofs.Ytgebiedochlhmaa
