/- What holds of memory, told in parts that do not overlap; what was there when the law was called stays as it was. -/
import Derived.Test.YtgebiedochlhmaaDenN
import Derived.Below
set_option linter.unusedVariables false
set_option linter.unusedSimpArgs false
namespace Go.Proofs.Ytgebiedochlhmaa
open Go.RowKit

abbrev Hp := Nat → Option Obj
abbrev Asrt := Hp → Prop
/-- The world when the law was called, and how many blocks it had. -/
structure St where
  N : Nat
  w0 : World
def sub (h1 h : Hp) : Prop := ∀ b o, h1 b = some o → h b = some o
def disj (h1 h2 : Hp) : Prop := ∀ b, h1 b = none ∨ h2 b = none
/-- Both, of memory that does not overlap. -/
def star (A B : Asrt) : Asrt := fun h => ∃ h1 h2, disj h1 h2 ∧ sub h1 h ∧ sub h2 h ∧ A h1 ∧ B h2
def big : List Asrt → Asrt
  | [] => fun _ => True
  | A :: l => star A (big l)
structure Holds (s : St) (l : List Asrt) (w : World) : Prop where
  below : Below s.N s.w0 w
  ge : s.N ≤ w.heap.size
  ex : ∃ h : Hp, (∀ b o, h b = some o → s.N ≤ b ∧ w.heap[b]? = some o) ∧ big l h
def Ex {α : Type} (A : α → Asrt) : Asrt := fun h => ∃ x, A x h
def Pr (p : Prop) : Asrt := fun _ => p
def Blk (b : Nat) (t : TypeId) (cs : Array Value) : Asrt := fun h => h b = some (.cells cs t (0, 0))

section
variable {s : St} {F l : List Asrt} {A B C D A' : Asrt} {w w' : World}
theorem sub.refl (h : Hp) : sub h h := fun _ _ x => x
theorem sub.trans {a b c : Hp} (h : sub a b) (k : sub b c) : sub a c := fun x o e => k x o (h x o e)
theorem disj.symm {a b : Hp} (h : disj a b) : disj b a := fun x => (h x).symm
theorem disj.mono {a b a' b' : Hp} (h : disj a b) (ha : sub a' a) (hb : sub b' b) : disj a' b' := fun x => by
  rcases h x with h | h
  · left
    cases e : a' x with
    | none => rfl
    | some o => rw [ha x o e] at h; cases h
  · right
    cases e : b' x with
    | none => rfl
    | some o => rw [hb x o e] at h; cases h
def uni (a b : Hp) : Hp := fun x => (a x).or (b x)
theorem sub_uni_left (a b : Hp) : sub a (uni a b) := fun x o e => by simp [uni, e]
theorem sub_uni_right {a b : Hp} (h : disj a b) : sub b (uni a b) := fun x o e => by
  rcases h x with h | h
  · simp [uni, h, e]
  · rw [h] at e; cases e
theorem uni_sub {a b h : Hp} (ha : sub a h) (hb : sub b h) : sub (uni a b) h := fun x o e => by
  simp only [uni] at e
  cases hx : a x with
  | none => rw [hx] at e; exact hb x o (by simpa using e)
  | some o' => rw [hx] at e; exact ha x o (by simpa [hx] using e)
theorem star_comm2 {h : Hp} (H : star A (star B C) h) : star B (star A C) h := by
  obtain ⟨h1, h23, d, s1, s23, a, h2, h3, d', s2, s3, b, c⟩ := H
  have d12 : disj h1 h2 := d.mono (sub.refl _) s2
  have d13 : disj h1 h3 := d.mono (sub.refl _) s3
  refine ⟨h2, uni h1 h3, ?_, s2.trans s23, uni_sub s1 (s3.trans s23), b, h1, h3, d13, sub_uni_left _ _, sub_uni_right d13, a, c⟩
  intro x
  rcases d12 x with e | e
  · rcases d' x with f | f
    · exact .inl f
    · right; simp [uni, e, f]
  · exact .inl e
theorem star_mono (hA : ∀ h, A h → A' h) {h : Hp} (H : star A B h) : star A' B h := by
  obtain ⟨h1, h2, d, s1, s2, a, b⟩ := H
  exact ⟨h1, h2, d, s1, s2, hA _ a, b⟩
theorem star_mono2 {B' : Asrt} (hB : ∀ h, B h → B' h) {h : Hp} (H : star A B h) : star A B' h := by
  obtain ⟨h1, h2, d, s1, s2, a, b⟩ := H
  exact ⟨h1, h2, d, s1, s2, a, hB _ b⟩
theorem star_assoc {h : Hp} (H : star (star A B) C h) : star A (star B C) h := by
  obtain ⟨h12, h3, d, s12, s3, ⟨h1, h2, d', s1, s2, a, b⟩, c⟩ := H
  have d23 : disj h2 h3 := d.mono s2 (sub.refl _)
  refine ⟨h1, uni h2 h3, ?_, s1.trans s12, uni_sub (s2.trans s12) s3, a, h2, h3, d23, sub_uni_left _ _, sub_uni_right d23, b, c⟩
  intro x
  rcases d' x with e | e
  · exact .inl e
  · rcases (d.mono s1 (sub.refl _)) x with f | f
    · exact .inl f
    · right; simp [uni, e, f]
theorem star_assoc' {h : Hp} (H : star A (star B C) h) : star (star A B) C h := by
  obtain ⟨h1, h23, d, s1, s23, a, h2, h3, d', s2, s3, b, c⟩ := H
  have d12 : disj h1 h2 := d.mono (sub.refl _) s2
  refine ⟨uni h1 h2, h3, ?_, uni_sub s1 (s2.trans s23), s3.trans s23, ⟨h1, h2, d12, sub_uni_left _ _, sub_uni_right d12, a, b⟩, c⟩
  intro x
  rcases (d.mono (sub.refl _) s3) x with e | e
  · rcases d' x with f | f
    · left; simp [uni, e, f]
    · exact .inr f
  · exact .inr e

theorem Holds.map {l' : List Asrt} (H : Holds s l w) (h : ∀ x, big l x → big l' x) : Holds s l' w :=
  ⟨H.below, H.ge, let ⟨x, hx, hb⟩ := H.ex; ⟨x, hx, h x hb⟩⟩
theorem Holds.mono (H : Holds s (A :: F) w) (h : ∀ x, A x → A' x) : Holds s (A' :: F) w := H.map fun _ hx => star_mono h hx
theorem Holds.tail (H : Holds s (A :: F) w) : Holds s F w :=
  ⟨H.below, H.ge, let ⟨x, hx, h1, h2, d, s1, s2, a, b⟩ := H.ex; ⟨h2, fun b o e => hx b o (s2 b o e), b⟩⟩
theorem Holds.sw (H : Holds s (A :: B :: F) w) : Holds s (B :: A :: F) w := H.map fun _ hx => star_comm2 hx
theorem Holds.r3 (H : Holds s (A :: B :: C :: F) w) : Holds s (C :: A :: B :: F) w := Holds.sw (H.map (l' := A :: C :: B :: F) fun _ hx => star_mono2 (fun _ hy => star_comm2 hy) hx)
theorem Holds.r4 (H : Holds s (A :: B :: C :: D :: F) w) : Holds s (D :: A :: B :: C :: F) w :=
  Holds.r3 (H.map (l' := A :: B :: D :: C :: F) fun _ hx => star_mono2 (fun _ hy => star_mono2 (fun _ hz => star_comm2 hz) hy) hx)
theorem Holds.drop2 (H : Holds s (A :: B :: F) w) : Holds s (A :: F) w := H.sw.tail
theorem Holds.star_iff : Holds s (star A B :: F) w ↔ Holds s (A :: B :: F) w :=
  ⟨fun H => H.map fun _ hx => star_assoc hx, fun H => H.map fun _ hx => star_assoc' hx⟩
theorem Holds.ex_iff {α : Type} {G : α → Asrt} : Holds s (Ex G :: F) w ↔ ∃ x, Holds s (G x :: F) w := by
  constructor
  · rintro ⟨hb, hg, x, hx, h1, h2, d, s1, s2, ⟨y, a⟩, b⟩
    exact ⟨y, hb, hg, x, hx, h1, h2, d, s1, s2, a, b⟩
  · rintro ⟨y, hb, hg, x, hx, h1, h2, d, s1, s2, a, b⟩
    exact ⟨hb, hg, x, hx, h1, h2, d, s1, s2, ⟨y, a⟩, b⟩
theorem Holds.pr_iff {p : Prop} : Holds s (Pr p :: F) w ↔ p ∧ Holds s F w := by
  constructor
  · intro H
    obtain ⟨hb, hg, x, hx, h1, h2, d, s1, s2, a, b⟩ := H
    exact ⟨a, hb, hg, h2, fun b o e => hx b o (s2 b o e), b⟩
  · rintro ⟨hp, hb, hg, x, hx, b⟩
    exact ⟨hb, hg, x, hx, fun _ => none, x, fun _ => .inl rfl, fun _ _ e => (by cases e), sub.refl _, hp, b⟩
theorem Holds.blk (H : Holds s (A :: F) w) {b : Nat} {o : Obj} (hA : ∀ h, A h → h b = some o) : w.heap[b]? = some o ∧ s.N ≤ b := by
  obtain ⟨hb, hg, x, hx, h1, h2, d, s1, s2, a, b'⟩ := H
  have := hx b o (s1 b o (hA _ a))
  exact ⟨this.2, this.1⟩
theorem Holds.heap {b : Nat} {t : TypeId} {cs : Array Value} (H : Holds s (Blk b t cs :: F) w) : w.heap[b]? = some (.cells cs t (0, 0)) := (H.blk fun h hh => hh).1
theorem Holds.cell {b : Nat} {t : TypeId} {cs : Array Value} (H : Holds s (Blk b t cs :: F) w) (i : Nat) : w.cell? ⟨b, i, none⟩ = cs[i]? := by
  simp [World.cell?, H.heap]
theorem Holds.frozen {b : Nat} {t : TypeId} {cs : Array Value} (H : Holds s (Blk b t cs :: F) w) (i : Nat) : w.frozen? ⟨b, i, none⟩ = false := by
  simp [World.frozen?, H.heap]
/-- What came in is as it was. -/
theorem Holds.ro (H : Holds s l w) {a : Addr} (h : a.block < s.N) : w.cell? a = s.w0.cell? a := H.below.cell h
theorem Holds.roN (H : Holds s l w) {a : Addr} {v : Value} (hN : s.w0.heap.size = s.N) (h : s.w0.cell? a = some v) : w.cell? a = some v :=
  (H.ro (hN ▸ World.block_lt_of_cell? s.w0 a h)).trans h

/-- THE STEP: what is told of one part turns; what is told of the others stays. -/
theorem Holds.step (H : Holds s (A :: F) w) (hos : w'.os = w.os) (htape : w'.tape = w.tape) (hout : w'.output = w.output) (hsz : w.heap.size ≤ w'.heap.size)
    (hk : ∀ h1 : Hp, A h1 → (∀ b o, h1 b = some o → s.N ≤ b ∧ w.heap[b]? = some o) → ∃ h1' : Hp, A' h1' ∧ (∀ b o, h1' b = some o → s.N ≤ b ∧ w'.heap[b]? = some o) ∧
      (∀ b, b < w.heap.size → h1 b = none → h1' b = none ∧ w'.heap[b]? = w.heap[b]?)) : Holds s (A' :: F) w' := by
  obtain ⟨hb, hg, x, hx, h1, h2, d, s1, s2, a, b⟩ := H
  obtain ⟨h1', a', hx', hfr⟩ := hk h1 a (fun b o e => hx b o (s1 b o e))
  have hlt : ∀ b o, h2 b = some o → b < w.heap.size := fun b o e => (Array.getElem?_eq_some_iff.1 (hx b o (s2 b o e)).2).1
  have d' : disj h1' h2 := fun y => by
    cases e : h2 y with
    | none => exact .inr rfl
    | some o =>
      left
      refine (hfr y (hlt y o e) ?_).1
      rcases d y with f | f
      · exact f
      · rw [e] at f; cases f
  refine ⟨⟨hos.trans hb.os, htape.trans hb.tape, hout.trans hb.output, Nat.le_trans hb.size hsz, fun k hkN => ?_⟩, Nat.le_trans hg hsz, uni h1' h2, ?_, h1', h2, d', sub_uni_left _ _, sub_uni_right d', a', b⟩
  · have hn : h1 k = none := by
      cases e : h1 k with
      | none => rfl
      | some o => have := (hx k o (s1 k o e)).1; omega
    exact ((hfr k (by omega) hn).2).trans (hb.block k hkN)
  · intro y o e
    simp only [uni] at e
    cases e1 : h1' y with
    | some o' => rw [e1] at e; exact hx' y o (by simpa [e1] using e)
    | none =>
      rw [e1] at e
      have e2 : h2 y = some o := by simpa using e
      have := hx y o (s2 y o e2)
      refine ⟨this.1, (hfr y (hlt y o e2) ?_).2.trans this.2⟩
      rcases d y with f | f
      · exact f
      · rw [e2] at f; cases f
/-- Nothing that is told turns (a draw; a new block that nobody tells of). -/
theorem Holds.keep (H : Holds s l w) (hos : w'.os = w.os) (htape : w'.tape = w.tape) (hout : w'.output = w.output) (hsz : w.heap.size ≤ w'.heap.size) (hk : ∀ b, b < w.heap.size → w'.heap[b]? = w.heap[b]?) : Holds s l w' := by
  obtain ⟨hb, hg, x, hx, b⟩ := H
  exact ⟨⟨hos.trans hb.os, htape.trans hb.tape, hout.trans hb.output, Nat.le_trans hb.size hsz, fun k hkN => (hk k (by omega)).trans (hb.block k hkN)⟩, Nat.le_trans hg hsz, x,
    fun b o e => ⟨(hx b o e).1, (hk b (Array.getElem?_eq_some_iff.1 (hx b o e).2).1).trans (hx b o e).2⟩, b⟩
theorem Holds.drew (H : Holds s l w) : Holds s l w.drew := H.keep rfl rfl rfl (Nat.le_refl _) (fun _ _ => rfl)
theorem Holds.add (H : Holds s l w) (hos : w'.os = w.os) (htape : w'.tape = w.tape) (hout : w'.output = w.output) (hsz : w.heap.size ≤ w'.heap.size) (hk : ∀ b, b < w.heap.size → w'.heap[b]? = w.heap[b]?)
    (h1' : Hp) (a' : A' h1') (hx' : ∀ b o, h1' b = some o → w.heap.size ≤ b ∧ w'.heap[b]? = some o) : Holds s (A' :: l) w' := by
  have H1 : Holds s (Pr True :: l) w := Holds.pr_iff.2 ⟨trivial, H⟩
  refine H1.step hos htape hout hsz fun h1 _ hh => ⟨h1', a', fun b o e => ⟨Nat.le_trans H.ge (hx' b o e).1, (hx' b o e).2⟩, fun b hb hn => ⟨?_, hk b hb⟩⟩
  cases e : h1' b with
  | none => rfl
  | some o => have := (hx' b o e).1; omega
def one1 (b : Nat) (o : Obj) : Hp := fun x => if x = b then some o else none
theorem Holds.alloc (H : Holds s l w) (t : TypeId) (cs : Array Value) : Holds s (Blk w.heap.size t cs :: l) (w.alloc (.cells cs t)) := by
  refine H.add rfl rfl rfl (by simp) (fun b hb => Below.heap_alloc w _ b hb) (one1 w.heap.size (.cells cs t)) (by simp [Blk, one1]) ?_
  intro b o e
  simp only [one1] at e
  split at e
  · rename_i hb
    subst hb
    injection e with e
    subst e
    exact ⟨Nat.le_refl _, heap_alloc_new w _⟩
  · cases e
theorem setCell_heap {w : World} {b i : Nat} {v : Value} {cs : Array Value} {t : TypeId} {fr : Nat × Nat} (h : w.heap[b]? = some (.cells cs t fr)) : (w.setCell ⟨b, i, none⟩ v).heap[b]? = some (.cells (cs.setIfInBounds i v) t fr) := by
  simp [World.setCell, Array.getElem?_modify, h]
theorem Holds.setCell {b i : Nat} {t : TypeId} {cs : Array Value} (H : Holds s (Blk b t cs :: F) w) (v : Value) : Holds s (Blk b t (cs.setIfInBounds i v) :: F) (w.setCell ⟨b, i, none⟩ v) := by
  have hh := H.heap
  refine H.step rfl rfl rfl (by simp) fun h1 a hx => ⟨one1 b (.cells (cs.setIfInBounds i v) t), by simp [Blk, one1], ?_, ?_⟩
  · intro y o e
    simp only [one1] at e
    split at e
    · rename_i hy
      subst hy
      injection e with e
      subst e
      exact ⟨(hx _ _ a).1, setCell_heap hh⟩
    · cases e
  · intro y hy hn
    have hne : y ≠ b := fun e => by subst e; rw [show h1 y = _ from a] at hn; cases hn
    exact ⟨by simp [one1, hne], Below.heap_setCell w ⟨b, i, none⟩ v y hne⟩
end

/-! the rules at which a walk goes on -/
section
variable {P : Program} {s : St} {F l : List Asrt} {w : World} {K : Kn}
theorem st_sep {b i : Nat} {t : TypeId} {cs : Array Value} {v : Value} (H : Holds s (Blk b t cs :: F) w) (hi : i < cs.size) (hv : v.oneCell' = true)
    (h : ∀ w', Holds s (Blk b t (cs.setIfInBounds i v) :: F) w' → K undef w') : stK ⟨b, i, none⟩ v K w := by
  refine ⟨hv, ?_, H.frozen i, h _ (H.setCell v)⟩
  rw [H.cell]
  simp [hi]
theorem al_sep {e : TypeId} {cs : Array Value} (H : Holds s l w) (h : ∀ g w', Holds s (Blk g e cs :: l) w' → K (.pointer (some ⟨g, 0, none⟩)) w') : alK e cs K w := h _ _ (H.alloc e cs)
theorem nsl_sep {e : TypeId} {len : Nat} {cs : Array Value} {o : Option (Array Value)} (H : Holds s l w) (ho : o = some cs) (h : ∀ g w', Holds s (Blk g e cs :: l) w' → K (.slice (some ⟨g, 0, none⟩) len len) w') : nslK e len o K w :=
  ⟨cs, ho, h _ _ (H.alloc e cs)⟩
theorem run_storeCells {a : Addr} : ∀ (vs : List Value) (i : Nat) (w : World) (b off : Nat) (t : TypeId) (cs : Array Value), a = ⟨b, off, none⟩ → w.heap[b]? = some (.cells cs t (0, 0)) → off + i + vs.length ≤ cs.size → (∀ v ∈ vs, v.oneCell' = true) →
    (storeCells a vs i).run P w = .ok () (vs.zipIdx.foldl (fun w (v, j) => w.setCell ⟨b, off + i + j, none⟩ v) w)
  | [], i, w, b, off, t, cs, ha, hh, hl, h1 => by simp [storeCells]
  | v :: vs, i, w, b, off, t, cs, ha, hh, hl, h1 => by
    subst ha
    have hc : w.cell? ⟨b, off + i, none⟩ = some (cs[off + i]'(by simp at hl; omega)) := by
      simp only [World.cell?, hh]
      simp
    have hf : w.frozen? ⟨b, off + i, none⟩ = false := by simp [World.frozen?, hh]
    unfold storeCells
    simp only [Sem.run_bind, Addr.add_lit, run_store P w ⟨b, off + i, none⟩ v .plain (h1 v (by simp)), hc, hf, Bool.false_eq_true, if_false, Result.andThen_ok]
    rw [run_storeCells vs (i + 1) (w.setCell ⟨b, off + i, none⟩ v) b off t _ rfl (setCell_heap hh) (by simp at hl ⊢; omega) (fun u hu => h1 u (by simp [hu]))]
    congr 1
    rw [List.zipIdx_cons, List.foldl_cons]
    simp only [Nat.add_zero, Nat.zero_add]
    rw [List.zipIdx_succ, List.foldl_map]
    congr 1
    funext w p
    rw [show off + i + (p.2 + 1) = off + (i + 1) + p.2 from by omega]
/-- Cells laid over others. -/
def lay (cs : Array Value) (off : Nat) (vs : List Value) : Array Value := vs.zipIdx.foldl (fun c (v, j) => c.setIfInBounds (off + j) v) cs
theorem Holds.setCells {b : Nat} {t : TypeId} : ∀ (vs : List (Value × Nat)) (off : Nat) (cs : Array Value) (w : World), Holds s (Blk b t cs :: F) w →
    Holds s (Blk b t (vs.foldl (fun c (v, j) => c.setIfInBounds (off + j) v) cs) :: F) (vs.foldl (fun w (v, j) => w.setCell ⟨b, off + j, none⟩ v) w)
  | [], off, cs, w, H => H
  | (v, j) :: vs, off, cs, w, H => Holds.setCells vs off _ _ (H.setCell (i := off + j) v)
theorem stN_sep {n b off : Nat} {t : TypeId} {cs vs : Array Value} (H : Holds s (Blk b t cs :: F) w) (hn : vs.size = n) (hi : off + n ≤ cs.size) (hv : ∀ v ∈ vs, v.oneCell' = true)
    (h : ∀ w', Holds s (Blk b t (lay cs off vs.toList) :: F) w' → K undef w') : stNK P n ⟨b, off, none⟩ vs K w := by
  refine ⟨hn, ?_⟩
  unfold runsU
  rw [run_storeCells vs.toList 0 w b off t cs rfl H.heap (by simp; omega) (fun v hv' => hv v (by simpa using hv'))]
  have := H.setCells (vs.toList.zipIdx) off cs w
  simp only [Nat.add_zero] at this ⊢
  exact h _ this
theorem lay_all {cs : Array Value} {vs : List Value} (h : cs.size = vs.length) : lay cs 0 vs = vs.toArray := by
  apply Array.ext'
  simp only [lay]
  have key : ∀ (vs : List Value) (pre : List Value) (cs : Array Value), cs.size = pre.length + vs.length → cs.toList.take pre.length = pre →
      ((vs.zipIdx pre.length).foldl (fun c (p : Value × Nat) => c.setIfInBounds (0 + p.2) p.1) cs).toList = pre ++ vs := by
    intro vs
    induction vs with
    | nil =>
      intro pre cs hs hp
      have hl : cs.toList.length = pre.length := by simpa using hs
      rw [List.zipIdx_nil, List.foldl_nil, List.append_nil, ← hp, List.take_of_length_le (by omega)]
    | cons v vs ih =>
      intro pre cs hs hp
      rw [List.zipIdx_cons, List.foldl_cons]
      have := ih (pre ++ [v]) (cs.setIfInBounds (0 + pre.length) v) (by simp [hs]; omega) (by
        simp only [Array.toList_setIfInBounds, Nat.zero_add, List.length_append, List.length_cons, List.length_nil]
        rw [List.take_add_one, List.take_set_of_le (by omega), hp]
        have hlt : pre.length < cs.size := by simp at hs; omega
        simp [hlt])
      simp only [List.length_append, List.length_cons, List.length_nil, Nat.zero_add] at this ⊢
      rw [this]
      simp
  have := key vs [] cs (by simp [h]) (by simp)
  simpa using this
end
end Go.Proofs.Ytgebiedochlhmaa
