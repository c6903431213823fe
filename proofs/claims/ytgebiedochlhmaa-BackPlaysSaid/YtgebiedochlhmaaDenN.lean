/- Loops: what a loop does not write stays as it was. -/
import Derived.Test.YtgebiedochlhmaaDenM
set_option linter.unusedVariables false
set_option linter.unusedSimpArgs false
namespace Go.Proofs.Ytgebiedochlhmaa
section
variable {P : Program} {E : Env} {w : World} {K K' : Kn} {Q : QT}

theorem gives_mono {r : Result Next} (h : gives P r K) (hk : ∀ v w, K v w → K' v w) : gives P r K' := by
  cases r with
  | ok n w' =>
    cases n <;> simp only [gives] at h ⊢
    case value v => exact hk _ _ h
    case skip => exact hk _ _ h
    case enter f args => exact h.mono fun e w'' ⟨v, he, hv⟩ => ⟨v, he, hk _ _ hv⟩
  | halt x w' => exact h.elim
theorem runsV_mono {s : Sem Value} (h : runsV P s w K) (hk : ∀ v w, K v w → K' v w) : runsV P s w K' := by
  unfold runsV at *
  cases hr : s.run P w with
  | ok v w' => rw [hr] at h; exact hk _ _ h
  | halt x w' => rw [hr] at h; exact h.elim
theorem runsU_mono {s : Sem Unit} (h : runsU P s w K) (hk : ∀ v w, K v w → K' v w) : runsU P s w K' := by
  unfold runsU at *
  cases hr : s.run P w with
  | ok v w' => rw [hr] at h; exact hk _ _ h
  | halt x w' => rw [hr] at h; exact h.elim
theorem denV_mono {t : TOp} {vs : List Value} (h : denV P t vs w K) (hk : ∀ v w, K v w → K' v w) : denV P t vs w K' := by
  cases t <;> simp only [denV] at h ⊢
  case p op => obtain ⟨v, hv, h⟩ := h; exact ⟨v, hv, hk _ _ h⟩
  case load1 =>
    unfold eLoad1 at h ⊢
    split at h
    · obtain ⟨v, hv, h⟩ := h; exact ⟨v, hv, hk _ _ h⟩
    · exact h.elim
  case loadN n =>
    unfold eLoadN at h ⊢
    split at h
    · obtain ⟨cs, h1, h2, h⟩ := h; exact ⟨cs, h1, h2, hk _ _ h⟩
    · exact h.elim
  case store1 =>
    unfold eStore1 at h ⊢
    split at h
    · obtain ⟨h1, h2, h3, h⟩ := h; exact ⟨h1, h2, h3, hk _ _ h⟩
    · exact h.elim
  case storeN n =>
    unfold eStoreN at h ⊢
    split at h
    · exact ⟨h.1, runsU_mono h.2 hk⟩
    · exact h.elim
  case alloc e z => exact hk _ _ h
  case box e =>
    unfold eBox at h ⊢
    split at h
    · exact hk _ _ h
    · exact h.elim
  case bldSl e len sz z ix => obtain ⟨cs, h1, h⟩ := h; exact ⟨cs, h1, hk _ _ h⟩
  case mkS e b s z =>
    unfold eMkS at h ⊢
    split at h
    · obtain ⟨h1, h2, h3, h4, h⟩ := h; exact ⟨h1, h2, h3, h4, hk _ _ h⟩
    · exact h.elim
  case app t e s b z =>
    unfold two at h ⊢
    split at h
    · exact runsV_mono h hk
    · exact h.elim
  case cpy t s =>
    unfold two at h ⊢
    split at h
    · exact runsV_mono h hk
    · exact h.elim
  case b2s =>
    unfold eB2s at h ⊢
    split at h
    · exact runsV_mono h hk
    · exact h.elim
  case s2b e =>
    unfold eS2b at h ⊢
    split at h
    · exact runsV_mono h hk
    · exact h.elim
  case mark =>
    unfold eMark at h ⊢
    split at h
    · exact runsV_mono h hk
    · exact h.elim
  case eqv neg t =>
    unfold two at h ⊢
    split at h
    · obtain ⟨b, hb, h⟩ := h; exact ⟨b, hb, hk _ _ h⟩
    · exact h.elim
  case call f => exact h.mono fun e w'' ⟨v, he, hv⟩ => ⟨v, he, hk _ _ hv⟩
  case callv =>
    unfold eCallv at h ⊢
    split at h
    · exact ⟨h.1, h.2.mono fun e w'' ⟨v, he, hv⟩ => ⟨v, he, hk _ _ hv⟩⟩
    · exact h.elim
  case raw op ty => exact gives_mono h hk
theorem denF_mono {t : TOp} {vs : List Value} {k k' : Value → (World → Prop) → Prop} (h : denF t vs w k) (hk : ∀ v C, k v C → k' v C) : denF t vs w k' := by
  cases t <;> simp only [denF] at h ⊢
  case p op => obtain ⟨v, hv, h⟩ := h; exact ⟨v, hv, hk _ _ h⟩
  case load1 =>
    unfold gLoad1 at h ⊢
    split at h
    · obtain ⟨v, hv, h⟩ := h; exact ⟨v, hv, hk _ _ h⟩
    · exact h.elim
  case loadN n =>
    unfold gLoadN at h ⊢
    split at h
    · obtain ⟨cs, h1, h2, h⟩ := h; exact ⟨cs, h1, h2, hk _ _ h⟩
    · exact h.elim

/-! what is written -/
def inR : List (Nat × Nat) → Nat → Bool
  | [], _ => false
  | (a, b) :: W, t => (decide (a ≤ t) && decide (t ≤ b)) || inR W t
def wOps (W : List (Nat × Nat)) (l : List TO) : Bool := l.all fun o => o.d.all (inR W)
def wCmd (W : List (Nat × Nat)) : Cmd → Bool
  | .ops l => wOps W l
  | .draw l _ => wOps W l
  | .seq a b => wCmd W a && wCmd W b
  | .cond _ a b => wCmd W a && wCmd W b
  | .block _ a => wCmd W a
  | .loop a => wCmd W a
  | _ => true
def Same (W : List (Nat × Nat)) (E E' : Env) : Prop := ∀ t, inR W t = false → E' t = E t
theorem Same.refl (W : List (Nat × Nat)) (E : Env) : Same W E E := fun _ _ => rfl
theorem Same.trans {W : List (Nat × Nat)} {E1 E2 E3 : Env} (h : Same W E1 E2) (h' : Same W E2 E3) : Same W E1 E3 := fun t ht => (h' t ht).trans (h t ht)
theorem Same.upd {W : List (Nat × Nat)} {E : Env} {d : Option Nat} (hd : d.all (inR W) = true) (v : Value) : Same W E (upd E d v) := fun t ht => by
  unfold Go.Proofs.Ytgebiedochlhmaa.upd
  cases d with
  | none => simp
  | some d =>
    simp at hd
    rw [if_neg]
    intro h
    injection h with h
    subst h
    rw [hd] at ht
    cases ht
theorem denOps_frame {W : List (Nat × Nat)} {q : Env → World → Prop} : ∀ (l : List TO) (E0 E : Env) (w : World), wOps W l = true → Same W E0 E → denOps P l q E w → denOps P l (fun E' w' => Same W E0 E' ∧ q E' w') E w
  | [], E0, E, w, hw, hs, h => ⟨hs, h⟩
  | o :: l, E0, E, w, hw, hs, h => by
    simp only [wOps, List.all_cons, Bool.and_eq_true] at hw
    unfold denOps at h ⊢
    split at h
    · rename_i hg
      rw [if_pos hg]
      exact denV_mono h fun v w' h' => denOps_frame l E0 _ w' hw.2 (hs.trans (Same.upd hw.1 v)) h'
    · rename_i hg
      rw [if_neg hg]
      exact denOps_frame l E0 _ w hw.2 (hs.trans (Same.upd hw.1 _)) h
theorem denS_frame {W : List (Nat × Nat)} {l : List TO} {q : Env → World → Prop} (hw : wOps W l = true) : ∀ (s : Sch) (T : Conds) (E0 E : Env) (w : World), Same W E0 E → denS P l q s T E w → denS P l (fun E' w' => Same W E0 E' ∧ q E' w') s T E w := by
  have hd : ∀ (i : Nat) (o : TO), l[i]? = some o → o.d.all (inR W) = true := fun i o h => List.all_eq_true.1 hw o (List.mem_of_getElem? h)
  intro s
  induction s with
  | done => intro T E0 E w hs h; exact ⟨hs, h⟩
  | stop => intro T E0 E w hs h; trivial
  | pu i rest ih =>
    intro T E0 E w hs h
    unfold denS at h ⊢
    cases ho : l[i]? with
    | none => simp [ho] at h
    | some o =>
      simp only [ho] at h ⊢
      split at h
      · rename_i hg
        rw [if_pos hg]
        exact denV_mono h fun v w' h' => ih T E0 _ w' (hs.trans (Same.upd (hd i o ho) v)) h'
      · rename_i hg
        rw [if_neg hg]
        exact ih T E0 _ w (hs.trans (Same.upd (hd i o ho) _)) h
  | fl i rest ih =>
    intro T E0 E w hs h
    unfold denS at h ⊢
    cases ho : l[i]? with
    | none => simp [ho] at h
    | some o =>
      simp only [ho] at h ⊢
      split at h
      · rename_i hg
        rw [if_pos hg]
        exact denF_mono h fun v C h' => ih _ E0 _ w (hs.trans (Same.upd (hd i o ho) v)) h'
      · rename_i hg
        rw [if_neg hg]
        exact ih T E0 _ w (hs.trans (Same.upd (hd i o ho) _)) h
  | act hh i ws rest alt ihr iha =>
    intro T E0 E w hs h
    unfold denS at h ⊢
    cases ho : l[i]? with
    | none => simp [ho] at h
    | some o =>
      simp only [ho] at h ⊢
      refine ⟨?_, iha T E0 E w hs h.2⟩
      have h := h.1
      split at h
      · rename_i hg
        rw [if_pos hg]
        exact denV_mono h fun v w' h' => ⟨h'.1, ihr _ E0 _ w' (hs.trans (Same.upd (hd i o ho) v)) h'.2⟩
      · rename_i hg
        rw [if_neg hg]
        exact ihr _ E0 _ w (hs.trans (Same.upd (hd i o ho) _)) h
theorem denOps_mono {q q' : Env → World → Prop} (hq : ∀ E w, q E w → q' E w) : ∀ (l : List TO) (E : Env) (w : World), denOps P l q E w → denOps P l q' E w
  | [], E, w, h => hq _ _ h
  | o :: l, E, w, h => by
    unfold denOps at h ⊢
    split at h
    · rename_i hg
      rw [if_pos hg]
      exact denV_mono h fun v w' h' => denOps_mono hq l _ w' h'
    · rename_i hg
      rw [if_neg hg]
      exact denOps_mono hq l _ w h
theorem denS_mono {l : List TO} {q q' : Env → World → Prop} (hq : ∀ E w, q E w → q' E w) : ∀ (s : Sch) (T : Conds) (E : Env) (w : World), denS P l q s T E w → denS P l q' s T E w := by
  intro s
  induction s with
  | done => intro T E w h; exact hq _ _ h
  | stop => intro T E w h; trivial
  | pu i rest ih =>
    intro T E w h
    unfold denS at h ⊢
    cases ho : l[i]? with
    | none => simp [ho] at h
    | some o =>
      simp only [ho] at h ⊢
      split at h
      · rename_i hg
        rw [if_pos hg]
        exact denV_mono h fun v w' h' => ih T _ w' h'
      · rename_i hg
        rw [if_neg hg]
        exact ih T _ w h
  | fl i rest ih =>
    intro T E w h
    unfold denS at h ⊢
    cases ho : l[i]? with
    | none => simp [ho] at h
    | some o =>
      simp only [ho] at h ⊢
      split at h
      · rename_i hg
        rw [if_pos hg]
        exact denF_mono h fun v C h' => ih _ _ w h'
      · rename_i hg
        rw [if_neg hg]
        exact ih T _ w h
  | act hh i ws rest alt ihr iha =>
    intro T E w h
    unfold denS at h ⊢
    cases ho : l[i]? with
    | none => simp [ho] at h
    | some o =>
      simp only [ho] at h ⊢
      refine ⟨?_, iha T E w h.2⟩
      have h := h.1
      split at h
      · rename_i hg
        rw [if_pos hg]
        exact denV_mono h fun v w' h' => ⟨h'.1, ihr _ _ w' h'.2⟩
      · rename_i hg
        rw [if_neg hg]
        exact ihr _ _ w h
theorem den_mono : ∀ (c : Cmd) {Q Q' : QT} {E : Env} {w : World}, (∀ x E w, Q x E w → Q' x E w) → den P c Q E w → den P c Q' E w := by
  intro c
  induction c with
  | skip => intro Q Q' E w hq h; exact hq _ _ _ h
  | ops l => intro Q Q' E w hq h; exact denOps_mono (hq .normal) l E w h
  | draw l s => intro Q Q' E w hq h; exact denS_mono (hq .normal) s [] E _ h
  | seq a b iha ihb =>
    intro Q Q' E w hq h
    refine iha (fun x E w h => ?_) h
    cases x with
    | normal => exact ihb hq h
    | exit i => exact hq _ _ _ h
    | ret => exact hq _ _ _ h
  | cond c a b iha ihb =>
    intro Q Q' E w hq h
    obtain ⟨t, ht, h⟩ := h
    refine ⟨t, ht, ?_⟩
    cases t with
    | true => exact iha hq h
    | false => exact ihb hq h
  | block id a ih =>
    intro Q Q' E w hq h
    refine ih (fun x E w h => ?_) h
    cases x with
    | normal => exact hq _ _ _ h
    | exit i =>
      simp only [blkK] at h ⊢
      split at h
      · rename_i hi; rw [if_pos hi]; exact hq _ _ _ h
      · rename_i hi; rw [if_neg hi]; exact hq _ _ _ h
    | ret => exact hq _ _ _ h
  | loop a ih =>
    intro Q Q' E w hq h
    obtain ⟨I, k, h0, hs⟩ := h
    refine ⟨I, k, h0, fun k E w hI => ih (fun x E w h => ?_) (hs k E w hI)⟩
    cases x with
    | normal => exact h
    | exit i => exact hq _ _ _ h
    | ret => exact hq _ _ _ h
  | exit id => intro Q Q' E w hq h; exact hq _ _ _ h
  | ret => intro Q Q' E w hq h; exact hq _ _ _ h
theorem den_frame {W : List (Nat × Nat)} : ∀ (c : Cmd) {Q : QT} {E0 E : Env} {w : World}, wCmd W c = true → Same W E0 E → den P c Q E w → den P c (fun x E' w' => Same W E0 E' ∧ Q x E' w') E w := by
  intro c
  induction c with
  | skip => intro Q E0 E w hw hs h; exact ⟨hs, h⟩
  | ops l => intro Q E0 E w hw hs h; exact denOps_frame l E0 E w hw hs h
  | draw l s => intro Q E0 E w hw hs h; exact denS_frame hw s [] E0 E _ hs h
  | seq a b iha ihb =>
    intro Q E0 E w hw hs h
    simp only [wCmd, Bool.and_eq_true] at hw
    refine den_mono a (fun x E w h => ?_) (iha hw.1 hs h)
    cases x with
    | normal => exact ihb hw.2 h.1 h.2
    | exit i => exact h
    | ret => exact h
  | cond c a b iha ihb =>
    intro Q E0 E w hw hs h
    simp only [wCmd, Bool.and_eq_true] at hw
    obtain ⟨t, ht, h⟩ := h
    refine ⟨t, ht, ?_⟩
    cases t with
    | true => exact iha hw.1 hs h
    | false => exact ihb hw.2 hs h
  | block id a ih =>
    intro Q E0 E w hw hs h
    refine den_mono a (fun x E w h => ?_) (ih (E0 := E0) hw hs h)
    cases x with
    | normal => exact h
    | exit i =>
      simp only [blkK] at h ⊢
      obtain ⟨h1, h2⟩ := h
      split at h2
      · rename_i hi; rw [if_pos hi]; exact ⟨h1, h2⟩
      · rename_i hi; rw [if_neg hi]; exact ⟨h1, h2⟩
    | ret => exact h
  | loop a ih =>
    intro Q E0 E w hw hs h
    obtain ⟨I, k, h0, hst⟩ := h
    refine ⟨fun k E w => Same W E0 E ∧ I k E w, k, ⟨hs, h0⟩, fun k E w hI => ?_⟩
    refine den_mono a (fun x E w h => ?_) (ih (E0 := E0) hw hI.1 (hst k E w hI.2))
    cases x with
    | normal => obtain ⟨h1, k', hk', h2⟩ := h; exact ⟨k', hk', h1, h2⟩
    | exit i => exact h
    | ret => exact h
  | exit id => intro Q E0 E w hw hs h; exact ⟨hs, h⟩
  | ret => intro Q E0 E w hw hs h; exact ⟨hs, h⟩

/-- The environment in a round: what the loop writes is told by X, all else is as it was ahead of it. -/
def mixR : List (Nat × Nat) → Env → Env → Env
  | [], X, E => E
  | (a, b) :: W, X, E => fun t => if a ≤ t ∧ t ≤ b then X t else mixR W X E t
theorem mixR_nil (X E : Env) (t : Nat) : mixR [] X E t = E t := Eq.trans rfl rfl
theorem mixR_cons (a b : Nat) (W : List (Nat × Nat)) (X E : Env) (t : Nat) : mixR ((a, b) :: W) X E t = if a ≤ t ∧ t ≤ b then X t else mixR W X E t := Eq.trans rfl rfl
theorem mixR_same {X E : Env} : ∀ {W : List (Nat × Nat)}, Same W E X → mixR W X E = X := by
  intro W h
  funext t
  have key : ∀ W : List (Nat × Nat), (inR W t = true → mixR W X E t = X t) ∧ (inR W t = false → mixR W X E t = E t) := by
    intro W
    induction W with
    | nil => exact ⟨fun h => (by cases h), fun _ => rfl⟩
    | cons p W ih =>
      obtain ⟨a, b⟩ := p
      rw [mixR_cons]
      have hin : inR ((a, b) :: W) t = ((decide (a ≤ t) && decide (t ≤ b)) || inR W t) := rfl
      by_cases h1 : a ≤ t ∧ t ≤ b
      · rw [if_pos h1]
        refine ⟨fun _ => rfl, fun h => ?_⟩
        rw [hin] at h
        simp [h1.1, h1.2] at h
      · rw [if_neg h1]
        have h1' : (decide (a ≤ t) && decide (t ≤ b)) = false := by simpa using h1
        rw [hin, h1', Bool.false_or]
        exact ih
  cases hi : inR W t with
  | true => exact (key W).1 hi
  | false => rw [(key W).2 hi]; exact (h t hi).symm
/-- THE RULE. -/
theorem loop_rule {c : Cmd} (W : List (Nat × Nat)) (hW : wCmd W c = true) (I : Nat → Env → World → Prop) (k : Nat) (h0 : I k E w)
    (hs : ∀ k X w, I k X w → den P c (lpK I k Q) (mixR W X E) w) : loopQ P c Q E w := by
  refine ⟨fun k X w => Same W E X ∧ I k X w, k, ⟨Same.refl W E, h0⟩, fun k X w hI => ?_⟩
  have h := hs k X w hI.2
  rw [mixR_same hI.1] at h
  refine den_mono c (fun x E w h => ?_) (den_frame c (E0 := E) hW hI.1 h)
  cases x with
  | normal => obtain ⟨h1, k', hk', h2⟩ := h; exact ⟨k', hk', h1, h2⟩
  | exit i => exact h.2
  | ret => exact h.2
end
end Go.Proofs.Ytgebiedochlhmaa
