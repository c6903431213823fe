/- Regions whose order the tape draws: what looks at values alone is taken first, then loads (what they loaded must go on holding behind whatever does not wait for them), then whatever acts, in each order that is left. -/
import Derived.Test.YtgebiedochlhmaaDenH
set_option linter.unusedVariables false
set_option linter.unusedSimpArgs false
set_option maxRecDepth 4000
set_option maxHeartbeats 1000000
namespace Go.Proofs.Ytgebiedochlhmaa
open Region (ready free noSelect binds)

def dwaits (ops : Array Oper) (i j : Nat) : Bool := ((ops[i]?).map (·.after.any fun e => binds .any e && e.on == j)).getD false
section
variable {P : Program} {ops : Array Oper} {Q : Exit → Act → World → Prop}
abbrev Conds := List (Nat × (World → Prop))
def anyT (P : Program) (ops : Array Oper) (Q : Exit → Act → World → Prop) : Nat → Array Bool → Conds → Act → World → Prop
  | 0, listed, T, a, w => ready .any ops listed = [] ∧ Q .normal a w
  | fuel + 1, listed, T, a, w =>
    (ready .any ops listed = [] → Q .normal a w) ∧
    ∀ i ∈ ready .any ops listed, wpOp P ops Q i (fun a' w' => (∀ p ∈ T, dwaits ops i p.1 = false → p.2 w') ∧ anyT P ops Q fuel (listed.setIfInBounds i true) (T.filter fun p => !dwaits ops i p.1) a' w') a w
theorem anyT_any : ∀ (fuel : Nat) (listed : Array Bool) (T : Conds) (a : Act) (w : World), anyT P ops Q fuel listed T a w → wpAny P .any ops Q fuel listed a w
  | 0, _, _, _, _, h => h
  | fuel + 1, listed, T, a, w, h => ⟨h.1, fun i hi => wpOp_mono (fun a' w' h' => anyT_any fuel _ _ a' w' h'.2) (h.2 i hi)⟩
theorem anyT_weak : ∀ (fuel : Nat) (listed : Array Bool) (T T' : Conds) (a : Act) (w : World), (∀ p ∈ T, p ∈ T') → anyT P ops Q fuel listed T' a w → anyT P ops Q fuel listed T a w
  | 0, _, _, _, _, _, _, h => h
  | fuel + 1, listed, T, T', a, w, hT, h =>
    ⟨h.1, fun i hi => wpOp_mono (fun a' w' h' => ⟨fun p hp hd => h'.1 p (hT p hp) hd, anyT_weak fuel _ _ _ a' w' (fun p hp => by
      simp only [List.mem_filter] at hp ⊢
      exact ⟨hT p hp.1, hp.2⟩) h'.2⟩) (h.2 i hi)⟩
theorem anyT_true : ∀ (fuel : Nat) (listed : Array Bool) (T : Conds) (a : Act) (w : World) (T' : Conds), (∀ p ∈ T', p ∈ T ∨ ∀ w, p.2 w) → anyT P ops Q fuel listed T a w → anyT P ops Q fuel listed T' a w
  | 0, _, _, _, _, _, _, h => h
  | fuel + 1, listed, T, a, w, T', hT, h =>
    ⟨h.1, fun i hi => wpOp_mono (fun a' w' h' => ⟨fun p hp hd => (hT p hp).elim (fun h1 => h'.1 p h1 hd) (fun h1 => h1 w'), anyT_true fuel _ _ a' w' _ (fun p hp => by
      simp only [List.mem_filter] at hp ⊢
      exact (hT p hp.1).imp (fun h1 => ⟨h1, hp.2⟩) id) h'.2⟩) (h.2 i hi)⟩
theorem anyT_first {i : Nat} {oi : Oper} {v : Value} {S : World → Prop} (hi : ops[i]? = some oi) (hsel : ∀ (j : Nat) (o : Oper) cs b, ops[j]? = some o → o.op ≠ .select cs b)
    (hQ : ∀ c a w, Q (.panic c) (a.put oi.dst v) w → Q (.panic c) a w) :
    ∀ (fuel : Nat) (listed : Array Bool) (T : Conds) (a : Act) (w : World),
      (∀ j oj, ops[j]? = some oj → j ≠ i → listed.getD j true = false → (∀ e ∈ oj.after, binds .any e = true → e.on ≠ i) → oi.apart ops oj = true) →
      i ∈ ready .any ops listed → YieldsIf P ops S oi v a → S w → (∀ p ∈ T, p.2 w) →
      anyT P ops Q fuel (listed.setIfInBounds i true) ((i, S) :: T) (a.put oi.dst v) w → anyT P ops Q (fuel + 1) listed T a w := by
  intro fuel
  induction fuel with
  | zero =>
    intro listed T a w _ hr hy hS hT H
    refine ⟨fun h => (by rw [h] at hr; cases hr), fun j hj => ?_⟩
    by_cases hji : j = i
    · subst hji
      exact hy.wpOp hi hS ⟨fun p hp _ => hT p hp, anyT_weak _ _ _ _ _ _ (fun p hp => List.mem_cons_of_mem _ (List.mem_filter.1 hp).1) H⟩
    · have := ready_mono hj hji
      rw [H.1] at this
      cases this
  | succ fuel ih =>
    intro listed T a w hfree hr hy hS hT H
    refine ⟨fun h => (by rw [h] at hr; cases hr), fun j hj => ?_⟩
    by_cases hji : j = i
    · subst hji
      exact hy.wpOp hi hS ⟨fun p hp _ => hT p hp, anyT_weak _ _ _ _ _ _ (fun p hp => List.mem_cons_of_mem _ (List.mem_filter.1 hp).1) H⟩
    · have h1 := H.2 j (ready_mono hj hji)
      obtain ⟨hjun, oj, hoj, hall⟩ := mem_ready.1 hj
      have hnot : ∀ e ∈ oj.after, binds .any e = true → e.on ≠ i := fun e he hb heq => by
        have h1 := hall e he hb
        have h0 := (mem_ready.1 hr).1
        rw [heq] at h1
        rcases Nat.lt_or_ge i listed.size with h' | h'
        · simp [h'] at h0 h1; rw [h0] at h1; cases h1
        · simp [Array.getElem?_eq_none h'] at h1
      have hdw : dwaits ops j i = false := by
        unfold dwaits
        rw [hoj]
        simp only [Option.map_some, Option.getD_some, Array.any_eq_false']
        intro e he
        cases hb : binds .any e with
        | false => simp
        | true => simpa using hnot e he hb
      have h2 := wpOp_putIf hoj (hfree j oj hoj hji hjun hnot) (fun cs b => hsel i oi cs b hi) (fun cs b => hsel j oj cs b hoj) hQ hy h1
      have hfree' : ∀ k ok, ops[k]? = some ok → k ≠ i → (listed.setIfInBounds j true).getD k true = false →
          (∀ e ∈ ok.after, binds .any e = true → e.on ≠ i) → oi.apart ops ok = true := fun k ok hk hki hun hno => by
        refine hfree k ok hk hki ?_ hno
        by_cases hjk : j = k
        · subst hjk; exact hjun
        · rw [getD_set_ne true hjk] at hun; exact hun
      refine wpOp_mono (fun a' w' h3 => ?_) h2
      obtain ⟨hy', hc, H'⟩ := h3
      have hS' : S w' := hc (i, S) List.mem_cons_self hdw
      have hT' : ∀ p ∈ T, dwaits ops j p.1 = false → p.2 w' := fun p hp hd => hc p (List.mem_cons_of_mem _ hp) hd
      refine ⟨hT', ih (listed.setIfInBounds j true) (T.filter fun p => !dwaits ops j p.1) a' w' hfree' (ready_mono hr (Ne.symm hji)) hy' hS' (fun p hp => ?_) ?_⟩
      · simp only [List.mem_filter, Bool.not_eq_true'] at hp
        exact hT' p hp.1 hp.2
      · rw [Array.setIfInBounds_comm _ _ hji]
        refine anyT_weak _ _ _ _ _ _ (fun p hp => ?_) H'
        simpa [List.filter_cons, hdw] using hp
end

/-- In which order: values alone; loads; then what acts, alternative by alternative. -/
inductive Sch where
  | done
  | pu (i : Nat) (rest : Sch)
  | fl (i : Nat) (rest : Sch)
  | act (hd : Bool) (i : Nat) (ws : List Nat) (rest alt : Sch)
  | stop
  deriving Inhabited, Repr
def Sch.alts : Sch → List Nat
  | .act _ i _ _ alt => i :: alt.alts
  | _ => []
def waitsL (ops : Array Oper) (i : Nat) : List Nat := (List.range ops.size).filter (dwaits ops i)
def isP : TOp → Bool
  | .p _ => true
  | _ => false
def isL : TOp → Bool
  | .load1 | .loadN _ => true
  | _ => false
def Sch.isAlt : Sch → Bool
  | .stop => true
  | .act false _ _ _ _ => true
  | _ => false
def schOK (ops : Array Oper) (tl : List TO) : Sch → Nat → Array Bool → Bool
  | .done, _, listed => (ready .any ops listed).isEmpty
  | .stop, _, _ => true
  | .pu i rest, fuel, listed => match fuel with
    | fuel + 1 => (ready .any ops listed).contains i && free .any ops listed i && ((tl[i]?).map fun (o : TO) => isP o.op).getD false && !rest.isAlt && schOK ops tl rest fuel (listed.setIfInBounds i true)
    | 0 => false
  | .fl i rest, fuel, listed => match fuel with
    | fuel + 1 => (ready .any ops listed).contains i && free .any ops listed i && !rest.isAlt && schOK ops tl rest fuel (listed.setIfInBounds i true)
    | 0 => false
  | .act hd i ws rest alt, fuel, listed => match fuel with
    | fuel + 1 => (!hd || ready .any ops listed == i :: alt.alts) && ws == waitsL ops i && !rest.isAlt && schOK ops tl rest fuel (listed.setIfInBounds i true) && schOK ops tl alt (fuel + 1) listed && alt.isAlt
    | 0 => false

/-- The order is made by program. -/
def mkSch (ops : Array Oper) (tl : List TO) : Nat → Array Bool → Sch
  | 0, _ => .done
  | fuel + 1, listed =>
    let rs := ready .any ops listed
    if rs.isEmpty then .done else
    match rs.find? (fun i => ((tl[i]?).map fun (o : TO) => isP o.op).getD false && free .any ops listed i) with
    | some i => .pu i (mkSch ops tl fuel (listed.setIfInBounds i true))
    | none => match rs.find? (fun i => ((tl[i]?).map fun (o : TO) => isL o.op).getD false && free .any ops listed i) with
      | some i => .fl i (mkSch ops tl fuel (listed.setIfInBounds i true))
      | none => (rs.foldr (fun i (acc : Sch) => .act false i (waitsL ops i) (mkSch ops tl fuel (listed.setIfInBounds i true)) acc) .stop) |> fun s => match s with
        | .act _ i ws r a => .act true i ws r a
        | s => s
def schOf (ops : Array Oper) (tl : List TO) : Sch := mkSch ops tl ops.size (Array.replicate ops.size false)

def holdAll : Conds → World → Prop
  | [], _ => True
  | (_, c) :: T, w => c w ∧ holdAll T w
theorem holdAll_iff {T : Conds} {w : World} : holdAll T w ↔ ∀ p ∈ T, p.2 w := by
  induction T with
  | nil => simp [holdAll]
  | cons p T ih => obtain ⟨i, c⟩ := p; simp [holdAll, ih]
def keepC (ws : List Nat) (T : Conds) : Conds := T.filter fun p => !ws.contains p.1
def denS (P : Program) (tl : List TO) (Q : Env → World → Prop) : Sch → Conds → Env → World → Prop
  | .done, T, E, w => Q E w
  | .stop, T, E, w => True
  | .pu i rest, T, E, w => match tl[i]? with
    | some o => if wantedE E o.g = true then denV P o.op (o.xs.map (evo E)) w (fun v w' => denS P tl Q rest T (upd E o.d v) w') else denS P tl Q rest T (upd E o.d undef) w
    | none => False
  | .fl i rest, T, E, w => match tl[i]? with
    | some o => if wantedE E o.g = true then denF o.op (o.xs.map (evo E)) w (fun v C => denS P tl Q rest ((i, C) :: T) (upd E o.d v) w) else denS P tl Q rest T (upd E o.d undef) w
    | none => False
  | .act _ i ws rest alt, T, E, w => match tl[i]? with
    | some o => (if wantedE E o.g = true then denV P o.op (o.xs.map (evo E)) w (fun v w' => holdAll (keepC ws T) w' ∧ denS P tl Q rest (keepC ws T) (upd E o.d v) w') else denS P tl Q rest (keepC ws T) (upd E o.d undef) w) ∧ denS P tl Q alt T E w
    | none => False
end Go.Proofs.Ytgebiedochlhmaa
