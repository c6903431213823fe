/- Regions whose order the tape draws: soundness. -/
import Derived.Test.YtgebiedochlhmaaDenI
set_option linter.unusedVariables false
set_option linter.unusedSimpArgs false
set_option maxRecDepth 4000
set_option maxHeartbeats 1000000
namespace Go.Proofs.Ytgebiedochlhmaa
open Region (ready free noSelect binds)
section
variable {P : Program} {n : Nat} {E : Env} {w : World}

theorem cConv_noload {s d : TypeId} {t : TOp} (h : cConv P s d = some t) : isL t = false := by
  unfold cConv at h
  cases hs : P.underlying s with
  | none => simp [hs] at h
  | some a =>
    cases hd : P.underlying d with
    | none => simp [hs, hd] at h
    | some b =>
      simp only [hs, hd] at h
      cases a <;> cases b <;> try (simp at h; done)
      all_goals first
        | (injection h with h; subst h; rfl)
        | (simp only at h; split at h <;> first | (injection h with h; subst h; rfl) | (simp at h; done) | (split at h <;> first | (injection h with h; subst h; rfl) | (simp at h; done)))
theorem cop_load_inv {op : Op} {ty : TypeId} {t : TOp} {xs : List Operand} (hc : cop P op ty = some (t, xs)) (hl : isL t = true) :
    ∃ t' a, op = .load t' a ∧ xs = [a] ∧ ((t = .load1 ∧ aggT P t' = some false) ∨ ∃ m, t = .loadN m ∧ aggT P t' = some true ∧ szOf P t' = some m) := by
  cases op <;> simp only [cop] at hc
  case load t' a =>
    cases ha : aggT P t' with
    | none => simp [ha] at hc
    | some b =>
      simp only [ha] at hc
      cases b
      · simp only [Option.some.injEq, Prod.mk.injEq] at hc
        exact ⟨t', a, rfl, hc.2.symm, .inl ⟨hc.1.symm, ha⟩⟩
      · cases hs : szOf P t' with
        | none => simp [hs] at hc
        | some m =>
          simp only [hs, Option.some.injEq, Prod.mk.injEq] at hc
          exact ⟨t', a, rfl, hc.2.symm, .inr ⟨m, hc.1.symm, ha, hs⟩⟩
  case binOp op t' x y yt =>
    obtain ⟨h1, rfl⟩ := map_pair hc
    rcases cBin_form h1 with ⟨p, rfl⟩ | ⟨neg, t', rfl⟩ <;> simp [isL] at hl
  case unOp op t' x => cases op <;> simp only [reduceCtorEq] at hc <;> cases hc <;> simp [isL] at hl
  case convert s d x =>
    obtain ⟨h1, rfl⟩ := map_pair hc
    rw [cConv_noload h1] at hl; cases hl
  case slice t' x lo hi mx =>
    obtain ⟨h1, rfl⟩ := map_pair hc
    obtain ⟨p, rfl⟩ := cSlice_form h1
    simp [isL] at hl
  case indexAddr t' x i =>
    split at hc
    · simp only [Option.map_eq_some_iff, Prod.mk.injEq] at hc; obtain ⟨_, _, h, _⟩ := hc; subst h; simp [isL] at hl
    · simp only [Option.map_eq_some_iff, Prod.mk.injEq] at hc; obtain ⟨_, _, h, _⟩ := hc; subst h; simp [isL] at hl
    · simp at hc
  case build t' parts =>
    split at hc
    · split at hc
      · simp only [Option.map_eq_some_iff, Prod.mk.injEq] at hc; obtain ⟨_, _, h, _⟩ := hc; subst h; simp [isL] at hl
      · simp only [Option.map_eq_some_iff, Prod.mk.injEq] at hc; obtain ⟨_, _, h, _⟩ := hc; subst h; simp [isL] at hl
      · simp at hc
    · simp at hc
  case makeMap t' r => cases r <;> simp at hc; obtain ⟨rfl, rfl⟩ := hc; simp [isL] at hl
  case call c =>
    obtain ⟨callee, args, argTypes⟩ := c
    cases callee with
    | builtin b =>
      obtain ⟨h1, rfl⟩ := map_pair hc
      exfalso
      cases b <;> simp only [cBuiltin, reduceCtorEq] at h1
      all_goals (iterate 7 (all_goals (try (first | (simp at h1; done) | (injection h1 with h1; subst h1; simp [isL] at hl; done) | split at h1))))
    | value f =>
      cases f with
      | tmp t' => simp only [Option.some.injEq, Prod.mk.injEq] at hc; obtain ⟨rfl, rfl⟩ := hc; simp [isL] at hl
      | const v => simp at hc
      | global g => simp at hc
      | func f =>
        obtain ⟨h1, rfl⟩ := map_pair hc
        unfold cCallF at h1
        exfalso
        iterate 4 (all_goals (try (first | (simp at h1; done) | (injection h1 with h1; subst h1; simp [isL] at hl; done) | split at h1)))
    | invoke r m => simp at hc
  all_goals first
    | (simp at hc; done)
    | (cases hc; simp [isL] at hl; done)
    | (exfalso; iterate 6 (all_goals (try (first | (simp at hc; done) | (simp only [Option.some.injEq, Prod.mk.injEq] at hc; obtain ⟨rfl, rfl⟩ := hc; simp [isL] at hl; done) | split at hc))))

theorem denF_sound {o : Oper} {t : TOp} {xs : List Operand} {k : Value → (World → Prop) → Prop} (hc : cop P o.op o.type = some (t, xs)) (hd : denF t (xs.map (evo E)) w k) :
    ∃ v C, C w ∧ k v C ∧ ∀ w', C w' → (execOp (evo E) o).run P w' = .ok (.value v) w' := by
  by_cases hl : isL t = true
  · obtain ⟨t', a, hop, rfl, ht⟩ := cop_load_inv hc hl
    obtain ⟨dst, op, ty, pos, after, guard⟩ := o
    simp only at hop
    subst hop
    have haddr : ∃ ad, evo E a = .pointer (some ad) := by
      rcases ht with ⟨rfl, _⟩ | ⟨m, rfl, _⟩ <;> simp only [denF, List.map_cons, List.map_nil] at hd <;>
        (cases hx : evo E a <;> simp only [hx, gLoad1, gLoadN] at hd
         rename_i ad
         cases ad <;> simp only [gLoad1, gLoadN] at hd
         exact ⟨_, rfl⟩)
    obtain ⟨ad, hx⟩ := haddr
    rcases ht with ⟨rfl, ha⟩ | ⟨m, rfl, ha, hs⟩ <;> simp only [denF, List.map_cons, List.map_nil, hx, gLoad1, gLoadN] at hd
    · obtain ⟨v, hv, hk⟩ := hd
      exact ⟨v, _, hv, hk, fun w' hw' => run_v (by simp [hx, Instr.loadAt, Instr.sureAddr, run_loadVar1 ha hw'])⟩
    · obtain ⟨cs, hn, hcs, hk⟩ := hd
      exact ⟨_, _, hcs, hk, fun w' hw' => run_v (by simp [hx, Instr.loadAt, Instr.sureAddr, run_loadVarN ha hs hn hw'])⟩
  · cases t with
    | p p =>
      obtain ⟨v, hv, hk⟩ := hd
      exact ⟨v, _, trivial, hk, fun w' _ => cop_pure hc hv⟩
    | load1 => simp [isL] at hl
    | loadN m => simp [isL] at hl
    | _ => exact hd.elim

theorem mapM_get {α β : Type} {f : α → Option β} : ∀ {l : List α} {r : List β}, l.mapM f = some r → ∀ (i : Nat) (b : β), r[i]? = some b → ∃ x, l[i]? = some x ∧ f x = some b
  | [], r, h, i, b, hb => by simp at h; subst h; simp at hb
  | x :: l, r, h, i, b, hb => by
    simp only [List.mapM_cons] at h
    cases hx : f x with
    | none => simp [hx] at h
    | some y =>
      cases hl : l.mapM f with
      | none => simp [hx, hl] at h
      | some r' =>
        simp [hx, hl] at h
        subst h
        cases i with
        | zero => simp at hb; subst hb; exact ⟨x, rfl, hx⟩
        | succ i => simpa using mapM_get hl i b (by simpa using hb)

theorem not_waitsL {ops : Array Oper} {i j : Nat} (h : dwaits ops i j = false) : (waitsL ops i).contains j = false := by
  cases hc : (waitsL ops i).contains j with
  | false => rfl
  | true =>
    simp [waitsL] at hc
    rw [hc.2] at h
    cases h

theorem denS_sound {ops : Array Oper} {tl : List TO} {QE : Env → World → Prop} {Q : Exit → Act → World → Prop} (hQ : ∀ a E w, Rep n a E → QE E w → Q .normal a w) (hQp : ∀ c a w, ¬ Q (.panic c) a w)
    (htl : ops.toList.mapM (cOper P n ops) = some tl) (hns : noSelect ops = true) :
    ∀ (s : Sch) (fuel : Nat) (listed : Array Bool) (T : Conds) (a : Act) (E : Env) (w : World), schOK ops tl s fuel listed = true → Rep n a E → (∀ p ∈ T, p.2 w) → denS P tl QE s T E w →
      (s.isAlt = false → anyT P ops Q fuel listed T a w) ∧
      (∀ f', fuel = f' + 1 → ∀ i ∈ s.alts, wpOp P ops Q i (fun a' w' => (∀ p ∈ T, dwaits ops i p.1 = false → p.2 w') ∧ anyT P ops Q f' (listed.setIfInBounds i true) (T.filter fun p => !dwaits ops i p.1) a' w') a w) := by
  have hget : ∀ i to, tl[i]? = some to → ∃ o, ops[i]? = some o ∧ cOper P n ops o = some to := fun i to h => by
    obtain ⟨o, ho, hc⟩ := mapM_get htl i to h
    exact ⟨o, by simpa using ho, hc⟩
  intro s
  induction s with
  | done =>
    intro fuel listed T a E w hok hr hT h
    refine ⟨fun _ => ?_, fun f' _ i hi => by simp [Sch.alts] at hi⟩
    simp only [schOK, List.isEmpty_iff] at hok
    have hq := hQ _ _ _ hr h
    cases fuel with
    | zero => exact ⟨hok, hq⟩
    | succ f => exact ⟨fun _ => hq, fun i hi => by rw [hok] at hi; cases hi⟩
  | stop =>
    intro fuel listed T a E w hok hr hT h
    exact ⟨fun h => by simp [Sch.isAlt] at h, fun f' _ i hi => by simp [Sch.alts] at hi⟩
  | pu i rest ih =>
    intro fuel listed T a E w hok hr hT h
    refine ⟨fun _ => ?_, fun f' _ i hi => by simp [Sch.alts] at hi⟩
    cases fuel with
    | zero => simp [schOK] at hok
    | succ f =>
      simp only [schOK, Bool.and_eq_true] at hok
      obtain ⟨⟨⟨⟨hready, hfree⟩, hisP⟩, hralt⟩, hrest⟩ := hok
      have hrestalt : rest.isAlt = false := by simpa using hralt
      simp only [denS] at h
      cases hto : tl[i]? with
      | none => simp [hto] at h
      | some to =>
        simp only [hto] at h
        obtain ⟨o, ho, hc⟩ := hget i to hto
        obtain ⟨h1, h2, h3⟩ := cOper_parts hc
        have hp : ∃ p, to.op = .p p := by
          simp only [hto, Option.map_some, Option.getD_some] at hisP
          cases hop : to.op <;> simp [hop, isP] at hisP
          exact ⟨_, rfl⟩
        obtain ⟨p, hp⟩ := hp
        by_cases hw : wantedE E to.g = true
        · rw [if_pos hw, hp] at h
          obtain ⟨v, hv, hk⟩ := h
          rw [hp] at h1
          refine anyT_first (S := fun _ => True) (v := v) ho (Region.noSelect_spec hns) (fun c a w hq => absurd hq (hQp _ _ _)) f listed T a w (Region.free_spec ho hfree) (by simpa using hready)
            (.inl ⟨by rw [hr.wanted hc]; exact hw, fun w' _ => by rw [hr.eval]; exact cop_pure h1 hv⟩) trivial hT ?_
          rw [h2]
          exact anyT_true _ _ T _ _ _ (fun p hp => by
            rcases List.mem_cons.1 hp with rfl | hp
            · exact .inr fun _ => trivial
            · exact .inl hp) ((ih f _ T _ _ _ hrest (hr.put h3 v) hT hk).1 hrestalt)
        · rw [if_neg hw] at h
          refine anyT_first (S := fun _ => True) (v := undef) ho (Region.noSelect_spec hns) (fun c a w hq => absurd hq (hQp _ _ _)) f listed T a w (Region.free_spec ho hfree) (by simpa using hready)
            (.inr ⟨by rw [hr.wanted hc]; simpa using hw, rfl⟩) trivial hT ?_
          rw [h2]
          exact anyT_true _ _ T _ _ _ (fun p hp => by
            rcases List.mem_cons.1 hp with rfl | hp
            · exact .inr fun _ => trivial
            · exact .inl hp) ((ih f _ T _ _ _ hrest (hr.put h3 _) hT h).1 hrestalt)
  | fl i rest ih =>
    intro fuel listed T a E w hok hr hT h
    refine ⟨fun _ => ?_, fun f' _ i hi => by simp [Sch.alts] at hi⟩
    cases fuel with
    | zero => simp [schOK] at hok
    | succ f =>
      simp only [schOK, Bool.and_eq_true] at hok
      obtain ⟨⟨⟨hready, hfree⟩, hralt⟩, hrest⟩ := hok
      have hrestalt : rest.isAlt = false := by simpa using hralt
      simp only [denS] at h
      cases hto : tl[i]? with
      | none => simp [hto] at h
      | some to =>
        simp only [hto] at h
        obtain ⟨o, ho, hc⟩ := hget i to hto
        obtain ⟨h1, h2, h3⟩ := cOper_parts hc
        by_cases hw : wantedE E to.g = true
        · rw [if_pos hw] at h
          obtain ⟨v, C, hC, hk, hrun⟩ := denF_sound h1 h
          refine anyT_first (S := C) (v := v) ho (Region.noSelect_spec hns) (fun c a w hq => absurd hq (hQp _ _ _)) f listed T a w (Region.free_spec ho hfree) (by simpa using hready)
            (.inl ⟨by rw [hr.wanted hc]; exact hw, fun w' hw' => by rw [hr.eval]; exact hrun w' hw'⟩) hC hT ?_
          rw [h2]
          exact (ih f _ ((i, C) :: T) _ _ _ hrest (hr.put h3 v) (fun p hp => by
            rcases List.mem_cons.1 hp with rfl | hp
            · exact hC
            · exact hT p hp) hk).1 hrestalt
        · rw [if_neg hw] at h
          refine anyT_first (S := fun _ => True) (v := undef) ho (Region.noSelect_spec hns) (fun c a w hq => absurd hq (hQp _ _ _)) f listed T a w (Region.free_spec ho hfree) (by simpa using hready)
            (.inr ⟨by rw [hr.wanted hc]; simpa using hw, rfl⟩) trivial hT ?_
          rw [h2]
          exact anyT_true _ _ T _ _ _ (fun p hp => by
            rcases List.mem_cons.1 hp with rfl | hp
            · exact .inr fun _ => trivial
            · exact .inl hp) ((ih f _ T _ _ _ hrest (hr.put h3 _) hT h).1 hrestalt)
  | act hd i ws rest alt ihr iha =>
    intro fuel listed T a E w hok hr hT h
    cases fuel with
    | zero => simp [schOK] at hok
    | succ f =>
      simp only [schOK, Bool.and_eq_true] at hok
      obtain ⟨⟨⟨⟨⟨hhd, hws⟩, hralt⟩, hrest⟩, halt⟩, haltalt⟩ := hok
      have hrestalt : rest.isAlt = false := by simpa using hralt
      have hws' : ws = waitsL ops i := by simpa using hws
      subst hws'
      simp only [denS] at h
      cases hto : tl[i]? with
      | none => simp [hto] at h
      | some to =>
        simp only [hto] at h
        obtain ⟨hact, hal⟩ := h
        obtain ⟨o, ho, hc⟩ := hget i to hto
        obtain ⟨h1, h2, h3⟩ := cOper_parts hc
        have hsub : ∀ p ∈ T, dwaits ops i p.1 = false → p ∈ keepC (waitsL ops i) T := fun p hp hd => by
          simp only [keepC, List.mem_filter]
          exact ⟨hp, by rw [not_waitsL hd]; rfl⟩
        have hkeep : ∀ p ∈ keepC (waitsL ops i) T, p ∈ T := fun p hp => (List.mem_filter.1 hp).1
        have main : wpOp P ops Q i (fun a' w' => (∀ p ∈ T, dwaits ops i p.1 = false → p.2 w') ∧ anyT P ops Q f (listed.setIfInBounds i true) (T.filter fun p => !dwaits ops i p.1) a' w') a w := by
          have weak : ∀ a' w', anyT P ops Q f (listed.setIfInBounds i true) (keepC (waitsL ops i) T) a' w' → anyT P ops Q f (listed.setIfInBounds i true) (T.filter fun p => !dwaits ops i p.1) a' w' :=
            fun a' w' => anyT_weak _ _ _ _ _ _ fun p hp => by
              simp only [List.mem_filter, Bool.not_eq_true'] at hp
              exact hsub p hp.1 hp.2
          unfold wpOp
          simp only [ho, hr.wanted hc]
          by_cases hw : wantedE E to.g = true
          · rw [if_pos hw] at hact ⊢
            refine .inl (wp_of_gives (K := fun v w' => holdAll (keepC (waitsL ops i) T) w' ∧ denS P tl QE rest (keepC (waitsL ops i) T) (upd E to.d v) w') ?_ ?_)
            · rw [hr.eval]; exact cop_sound h1 hact
            · intro v w' hk
              rw [h2]
              have hall := holdAll_iff.1 hk.1
              exact ⟨fun p hp hd => hall p (hsub p hp hd), weak _ _ ((ihr f _ _ _ _ _ hrest (hr.put h3 v) hall hk.2).1 hrestalt)⟩
          · rw [if_neg hw] at hact ⊢
            rw [h2]
            exact ⟨fun p hp hd => hT p hp, weak _ _ ((ihr f _ _ _ _ _ hrest (hr.put h3 _) (fun p hp => hT p (hkeep p hp)) hact).1 hrestalt)⟩
        have alts : ∀ f', f + 1 = f' + 1 → ∀ j ∈ (Sch.act hd i (waitsL ops i) rest alt).alts, wpOp P ops Q j (fun a' w' => (∀ p ∈ T, dwaits ops j p.1 = false → p.2 w') ∧ anyT P ops Q f' (listed.setIfInBounds j true) (T.filter fun p => !dwaits ops j p.1) a' w') a w := by
          intro f' hf j hj
          obtain rfl : f = f' := by omega
          simp only [Sch.alts, List.mem_cons] at hj
          rcases hj with rfl | hj
          · exact main
          · exact (iha (f + 1) listed T a E w halt hr hT hal).2 f rfl j hj
        refine ⟨fun hhead => ?_, alts⟩
        cases hd with
        | false => simp [Sch.isAlt] at hhead
        | true =>
          simp only [Bool.not_true, Bool.false_or] at hhd
          have hready : ready .any ops listed = i :: alt.alts := by simpa using hhd
          refine ⟨fun h0 => (by rw [hready] at h0; cases h0), fun j hj => ?_⟩
          rw [hready] at hj
          exact alts f rfl j hj
end
end Go.Proofs.Ytgebiedochlhmaa
