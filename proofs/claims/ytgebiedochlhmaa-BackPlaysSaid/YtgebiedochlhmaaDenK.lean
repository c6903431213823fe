/- Code, and calls. -/
import Derived.Test.YtgebiedochlhmaaDenJ
set_option linter.unusedVariables false
set_option linter.unusedSimpArgs false
set_option maxRecDepth 4000
set_option maxHeartbeats 1000000
namespace Go.Proofs.Ytgebiedochlhmaa

inductive Cmd where
  | skip
  | ops (l : List TO)
  | draw (l : List TO) (s : Sch)
  | seq (a b : Cmd)
  | cond (c : Operand) (a b : Cmd)
  | block (id : Nat) (a : Cmd)
  | loop (a : Cmd)
  | exit (id : Nat)
  | ret
  deriving Inhabited
inductive XT where
  | normal
  | exit (id : Nat)
  | ret

def cCode (P : Program) (n : Nat) : Code → Option Cmd
  | .skip => some .skip
  | .region _ ops false => (ops.toList.mapM (cOper P n ops)).map .ops
  | .region _ ops true => match ops.toList.mapM (cOper P n ops) with
    | some tl => if Region.noSelect ops && schOK ops tl (schOf ops tl) ops.size (Array.replicate ops.size false) && !(schOf ops tl).isAlt then some (.draw tl (schOf ops tl)) else none
    | none => none
  | .seq a b => match cCode P n a, cCode P n b with
    | some x, some y => some (.seq x y)
    | _, _ => none
  | .cond c a b => match cCode P n a, cCode P n b with
    | some x, some y => some (.cond c x y)
    | _, _ => none
  | .block id a => (cCode P n a).map (.block id)
  | .loop a => (cCode P n a).map .loop
  | .exit id => some (.exit id)
  | .ret => some .ret
  | _ => none

abbrev QT := XT → Env → World → Prop
def seqK (nx : Env → World → Prop) (Q : QT) : QT
  | .normal, E, w => nx E w
  | x, E, w => Q x E w
def blkK (id : Nat) (Q : QT) : QT
  | .exit i, E, w => if i = id then Q .normal E w else Q (.exit i) E w
  | x, E, w => Q x E w
def lpK (I : Nat → Env → World → Prop) (k : Nat) (Q : QT) : QT
  | .normal, E, w => ∃ k', k' < k ∧ I k' E w
  | x, E, w => Q x E w
/-- A loop: rounds that are told by a number that goes down. -/
def LoopD (body : QT → Env → World → Prop) (Q : QT) (E : Env) (w : World) : Prop :=
  ∃ (I : Nat → Env → World → Prop) (k : Nat), I k E w ∧ ∀ k E w, I k E w → body (lpK I k Q) E w
def den (P : Program) : Cmd → QT → Env → World → Prop
  | .skip, Q, E, w => Q .normal E w
  | .ops l, Q, E, w => denOps P l (Q .normal) E w
  | .draw l s, Q, E, w => denS P l (Q .normal) s [] E w.drew
  | .seq a b, Q, E, w => den P a (seqK (den P b Q) Q) E w
  | .cond c a b, Q, E, w => ∃ t, evo E c = .bool t ∧ if t = true then den P a Q E w else den P b Q E w
  | .block id a, Q, E, w => den P a (blkK id Q) E w
  | .loop a, Q, E, w => LoopD (den P a) Q E w
  | .exit id, Q, E, w => Q (.exit id) E w
  | .ret, Q, E, w => Q .ret E w

section
variable {P : Program} {n : Nat}
/-- What a frame's exit is, told of its environment. -/
def liftQ (n : Nat) (Q : QT) : Exit → Act → World → Prop
  | .normal, a, w => ∃ E, Rep n a E ∧ Q .normal E w
  | .exit id, a, w => ∃ E, Rep n a E ∧ Q (.exit id) E w
  | .ret, a, w => ∃ E, Rep n a E ∧ Q .ret E w
  | _, _, _ => False

/-- A loop whose rounds are told by a number of one's own. -/
theorem wp_loop_rel {c : Code} {Q : Exit → Act → World → Prop} (I : Nat → Act → World → Prop) (k : Nat) {a : Act} {w : World} (h0 : I k a w)
    (round : ∀ k a w, I k a w → c.wp P (Exit.then (fun a' w' => ∃ k', k' < k ∧ I k' a' w') Q) a w) : (Code.loop c).wp P Q a w := by
  intro b kk cs
  have key : ∀ k a w, I k a w → ∃ e a' w', Q e a' w' ∧ Arrives P (lone (b.at a (.code c :: .inLoop c :: kk)) cs w) b kk cs e a' w' := by
    intro k
    induction k using Nat.strongRecOn with
    | _ k ih =>
      intro a w hI
      obtain ⟨e, a₁, w₁, hq, harr⟩ := round k a w hI b (.inLoop c :: kk) cs
      cases e with
      | normal =>
        obtain ⟨k', hlt, hI₁⟩ := hq
        obtain ⟨e₂, a₂, w₂, hq₂, harr₂⟩ := ih k' hlt a₁ w₁ hI₁
        exact ⟨e₂, a₂, w₂, hq₂, .of_steps (Steps.trans harr (.one step_inLoop)) harr₂⟩
      | exit id => exact ⟨_, a₁, w₁, hq, .pass (x := .inLoop c) rfl (fun _ _ => .inl (by simp)) harr⟩
      | goto l => exact ⟨_, a₁, w₁, hq, .pass (x := .inLoop c) rfl (fun _ _ => .inl (by simp)) harr⟩
      | ret => exact ⟨_, a₁, w₁, hq, .pass (x := .inLoop c) rfl (fun _ _ => .inl (by simp)) harr⟩
      | panic ch => exact ⟨_, a₁, w₁, hq, .pass (x := .inLoop c) rfl (fun _ _ => .inl (by simp)) harr⟩
      | outgrown => exact ⟨_, a₁, w₁, hq, .pass (x := .inLoop c) rfl (fun _ _ => .inl (by simp)) harr⟩
  obtain ⟨e, a', w', hq, harr⟩ := key k a w h0
  exact ⟨e, a', w', hq, .of_steps (.one step_loop) harr⟩

theorem den_sound (hm : P.follows .mixedOrders = true) : ∀ (c : Code) (ir : Cmd) (Q : QT) (a : Act) (E : Env) (w : World), cCode P n c = some ir → Rep n a E → den P ir Q E w → c.wp P (liftQ n Q) a w := by
  intro c
  induction c with
  | skip =>
    intro ir Q a E w hc hr h
    simp only [cCode, Option.some.injEq] at hc
    subst hc
    exact wp_skip ⟨E, hr, h⟩
  | region id ops d =>
    intro ir Q a E w hc hr h
    cases d with
    | false =>
      simp only [cCode, Option.map_eq_some_iff] at hc
      obtain ⟨tl, htl, rfl⟩ := hc
      exact wp_region_list (denOps_sound (QE := Q .normal) (fun a E w hr hq => ⟨E, hr, hq⟩) ops.toList tl a E w htl hr h)
    | true =>
      simp only [cCode] at hc
      cases htl : ops.toList.mapM (cOper P n ops) with
      | none => simp [htl] at hc
      | some tl =>
        simp only [htl] at hc
        split at hc
        · rename_i hok
          simp only [Bool.and_eq_true] at hok
          obtain ⟨⟨hns, hok⟩, halt⟩ := hok
          simp only [Option.some.injEq] at hc
          subst hc
          refine wp_region_any hm (anyT_any _ _ [] _ _ ?_)
          exact (denS_sound (QE := Q .normal) (Q := liftQ n Q) (fun a E w hr hq => ⟨E, hr, hq⟩) (fun c a w hq => hq) htl hns (schOf ops tl) ops.size _ [] a E _ hok hr (fun p hp => by cases hp) h).1 (by simpa using halt)
        · simp at hc
  | seq x y ihx ihy =>
    intro ir Q a E w hc hr h
    simp only [cCode] at hc
    cases hx : cCode P n x with
    | none => simp [hx] at hc
    | some cx =>
      cases hy : cCode P n y with
      | none => simp [hx, hy] at hc
      | some cy =>
        simp only [hx, hy, Option.some.injEq] at hc
        subst hc
        refine wp_seq (wp_mono (ihx cx _ a E w hx hr h) ?_)
        intro e a' w' hq
        cases e with
        | normal => obtain ⟨E', hr', hq⟩ := hq; exact ihy cy Q a' E' w' hy hr' hq
        | exit id => exact hq
        | ret => exact hq
        | goto l => exact hq
        | panic c => exact hq
        | outgrown => exact hq
  | cond c x y ihx ihy =>
    intro ir Q a E w hc hr h
    simp only [cCode] at hc
    cases hx : cCode P n x with
    | none => simp [hx] at hc
    | some cx =>
      cases hy : cCode P n y with
      | none => simp [hx, hy] at hc
      | some cy =>
        simp only [hx, hy, Option.some.injEq] at hc
        subst hc
        obtain ⟨t, ht, h⟩ := h
        refine wp_cond (t := t) (by rw [hr.eval]; exact ht) ?_
        cases t with
        | true => exact ihx cx Q a E w hx hr h
        | false => exact ihy cy Q a E w hy hr h
  | block id x ih =>
    intro ir Q a E w hc hr h
    simp only [cCode, Option.map_eq_some_iff] at hc
    obtain ⟨cx, hx, rfl⟩ := hc
    refine wp_block (wp_mono (ih cx _ a E w hx hr h) ?_)
    intro e a' w' hq
    cases e with
    | normal => exact hq
    | exit i =>
      obtain ⟨E', hr', hq⟩ := hq
      simp only [blkK] at hq
      simp only [Exit.inBlock]
      by_cases hi : i = id
      · rw [if_pos hi] at hq ⊢; exact ⟨E', hr', hq⟩
      · rw [if_neg hi] at hq ⊢; exact ⟨E', hr', hq⟩
    | ret => exact hq
    | goto l => exact hq
    | panic c => exact hq
    | outgrown => exact hq
  | loop x ih =>
    intro ir Q a E w hc hr h
    simp only [cCode, Option.map_eq_some_iff] at hc
    obtain ⟨cx, hx, rfl⟩ := hc
    obtain ⟨I, k, h0, hs⟩ := h
    refine wp_loop_rel (fun k a w => ∃ E, Rep n a E ∧ I k E w) k ⟨E, hr, h0⟩ ?_
    intro k a w ⟨E, hr, hI⟩
    refine wp_mono (ih cx _ a E w hx hr (hs _ E w hI)) ?_
    intro e a' w' hq
    cases e with
    | normal =>
      obtain ⟨E', hr', k', hk', hI'⟩ := hq
      exact ⟨k', hk', E', hr', hI'⟩
    | exit id => exact hq
    | ret => exact hq
    | goto l => exact hq
    | panic c => exact hq
    | outgrown => exact hq
  | exit id =>
    intro ir Q a E w hc hr h
    simp only [cCode, Option.some.injEq] at hc
    subst hc
    exact wp_exit ⟨E, hr, h⟩
  | ret =>
    intro ir Q a E w hc hr h
    simp only [cCode, Option.some.injEq] at hc
    subst hc
    exact wp_ret ⟨E, hr, h⟩
  | _ => intros; simp [cCode] at *
end
end Go.Proofs.Ytgebiedochlhmaa
