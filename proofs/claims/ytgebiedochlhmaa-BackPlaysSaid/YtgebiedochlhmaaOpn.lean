/- What came in, opened: from the readings that a row gives to what is read in memory. -/
import Derived.Test.YtgebiedochlhmaaDenO
import Derived.WalkKit
import Derived.ProofKit
import Derived.OpenShut
import Derived.ChangeArms
import Derived.Deep.Slices
import Derived.Carry
import Derived.SizedLaws
set_option linter.unusedVariables false
set_option linter.unusedSimpArgs false
namespace Go.Proofs.Ytgebiedochlhmaa
open Go.RowKit

abbrev Rel (α : Type) := World → List Value → α → Prop
def RInt (k : IntKind) : Rel Int := fun _ cs n => cs = [.int k n] ∧ (Lit.int k n).wf = true
def RBool : Rel Bool := fun _ cs b => cs = [.bool b]
def RStr : Rel ByteArray := fun _ cs s => cs = [.string s] ∧ s.size ≤ 140737488351232
def RUnit : Rel Unit := fun _ _ _ => True
/-- A field, and those behind it. -/
def RF {α β : Type} (o n : Nat) (R1 : Rel α) (R2 : Rel β) : Rel (α × β) := fun w cs ab => R1 w ((cs.drop o).take n) ab.1 ∧ R2 w cs ab.2
def RSt {α : Type} (n : Nat) (R : Rel α) : Rel α := fun w cs a => cs.length = n ∧ R w cs a
def Chs {α : Type} (sz : Nat) (R : Rel α) (w : World) (xs : List Value) (l : List α) : Prop := ∀ i a, l[i]? = some a → R w ((xs.drop (i * sz)).take sz) a
def RArr {α : Type} (n sz : Nat) (R : Rel α) : Rel (List α) := fun w cs l => cs.length = n * sz ∧ l.length = n ∧ Chs sz R w cs l
/-- A slice: its value, and its elements. -/
def RSl {α : Type} (sz bytes : Nat) (R : Rel α) : Rel (Value × List α) := fun w cs vl => cs = [vl.1] ∧ vl.2.length * bytes ≤ 140737488351232 ∧ ∃ xs, RdS w sz vl.1 vl.2.length xs ∧ Chs sz R w xs vl.2

theorem mem_weightsAll {H : Type} {P : Program} {e : TypeId} {d : DataW H} : ∀ {l : List (DataW H)}, d ∈ l → ∀ n ∈ d.weights P e, n ∈ DataW.weightsAll P e l
  | [], h, _, _ => by cases h
  | x :: l, h, n, hn => by
    rw [DataW.weightsAll, List.mem_append]
    rcases List.mem_cons.1 h with rfl | h
    · exact .inl hn
    · exact .inr (mem_weightsAll h n hn)

section
variable {H : Type} (enc : TypeId × Value → H) (P : Program) (W : World)
def Opens {α : Type} (t : TypeId) (R : Rel α) : Prop :=
  ∀ fuel cs x, DataW.trod enc P W 0 (fun _ => true) true fuel t cs = some x → (∀ n ∈ x.1.weights P t, n ≤ reachBytes) → ∃ a, R W cs a
def OpensF {α : Type} (fs : List Field) (R : Rel α) : Prop :=
  ∀ fuel cs (xs : List (DataW H × List MemPlace)), xs.length = fs.length → (∀ (i : Nat) (f : Field), fs[i]? = some f → DataW.trod enc P W 0 (fun _ => true) true fuel f.type ((cs.drop f.offset).take (P.cellsOf f.type)) = xs[i]?) →
    (∀ n ∈ DataW.weightsEach P (fs.map (·.type)) (xs.map (·.1)), n ≤ reachBytes) → ∃ a, R W cs a
variable {enc P W}
theorem Opens.int {t : TypeId} {k : IntKind} (ht : P.underlying t = some (.int k)) : Opens enc P W t (RInt k) := fun fuel cs x h _ => by
  obtain ⟨n, rfl, _, hw⟩ := DataW.trod_int ht h
  exact ⟨n, rfl, hw⟩
theorem Opens.bool {t : TypeId} (ht : P.underlying t = some .bool) : Opens enc P W t RBool := fun fuel cs x h _ => by
  obtain ⟨b, rfl, _⟩ := DataW.trod_bool ht h
  exact ⟨b, rfl⟩
theorem Opens.str {t : TypeId} (ht : P.underlying t = some .string) : Opens enc P W t RStr := fun fuel cs x h hw => by
  obtain ⟨s, rfl, rfl, _⟩ := DataW.trod_string ht h
  have := hw s.data.toList.length (by simp [DataW.weights])
  exact ⟨s, rfl, by rw [Array.length_toList] at this; exact this⟩
theorem OpensF.nil : OpensF enc P W [] RUnit := fun _ _ _ _ _ _ => ⟨(), trivial⟩
theorem OpensF.cons {α β : Type} {f : Field} {fs : List Field} {R1 : Rel α} {R2 : Rel β} {o n : Nat} (h1 : Opens enc P W f.type R1) (h2 : OpensF enc P W fs R2) (ho : f.offset = o) (hn : P.cellsOf f.type = n) :
    OpensF enc P W (f :: fs) (RF o n R1 R2) := fun fuel cs xs hl h hw => by
  subst ho hn
  cases xs with
  | nil => cases hl
  | cons y ys =>
    have hy := h 0 f rfl
    simp only [List.getElem?_cons_zero] at hy
    simp only [List.map_cons, DataW.weightsEach, List.mem_append] at hw
    obtain ⟨a, ha⟩ := h1 fuel _ y hy fun n hn => hw n (.inl hn)
    obtain ⟨b, hb⟩ := h2 fuel cs ys (by simpa using hl) (fun i g hg => by simpa using h (i + 1) g (by simpa using hg)) fun n hn => hw n (.inr hn)
    exact ⟨(a, b), ha, hb⟩
theorem Opens.struct {α : Type} {t : TypeId} {fs : Array Field} {R : Rel α} {n : Nat} (ht : P.underlying t = some (.struct fs)) (hn : P.cellsOf t = n) (h : OpensF enc P W fs.toList R) : Opens enc P W t (RSt n R) := fun fuel cs x hx hw => by
  obtain ⟨xs, m, rfl, rfl, hl, hlx, hf⟩ := DataW.trod_struct ht hx
  rw [DataW.weights, ht] at hw
  obtain ⟨a, ha⟩ := h m cs xs (by simpa using hlx) (fun i f hi => hf i f (by simpa using hi)) hw
  exact ⟨a, hl.trans hn, ha⟩
theorem Opens.array {α : Type} {t e : TypeId} {R : Rel α} {n sz : Nat} (ht : P.underlying t = some (.array n e)) (hn : P.cellsOf t = n * sz) (hc : P.cellsOf e = sz) (h : Opens enc P W e R) : Opens enc P W t (RArr n sz R) := fun fuel cs x hx hw => by
  obtain ⟨xs, m, rfl, rfl, hl, hlx, hf⟩ := DataW.trod_array ht hx
  rw [DataW.weights, ht] at hw
  subst hc
  have : ∀ i, i < n → ∃ a, R W ((cs.drop (i * P.cellsOf e)).take (P.cellsOf e)) a := fun i hi => by
    have h1 := hf i hi
    rw [List.getElem?_eq_getElem (by omega)] at h1
    exact h m _ _ h1 fun k hk => hw k (mem_weightsAll (List.mem_map_of_mem (List.getElem_mem _)) k hk)
  have hc : ∃ l : List α, l.length = n ∧ ∀ i a, l[i]? = some a → R W ((cs.drop (i * P.cellsOf e)).take (P.cellsOf e)) a := by
    clear hf hw hlx hl hn ht hx
    induction n with
    | zero => exact ⟨[], rfl, fun i a ha => by simp at ha⟩
    | succ n ih =>
      obtain ⟨l, hl, hr⟩ := ih fun i hi => this i (by omega)
      obtain ⟨a, ha⟩ := this n (by omega)
      refine ⟨l ++ [a], by simp [hl], fun i b hb => ?_⟩
      rw [List.getElem?_append] at hb
      split at hb
      · exact hr i b hb
      · rename_i hi
        have : i = n := by
          have := (List.getElem?_eq_some_iff.1 hb).1
          simp at this
          omega
        subst this
        rw [hl, Nat.sub_self] at hb
        simp at hb
        subst hb
        exact ha
  obtain ⟨l, hll, hr⟩ := hc
  exact ⟨l, by rw [hl, hn], hll, hr⟩
theorem Opens.slice {α : Type} {t e : TypeId} {R : Rel α} {sz bytes : Nat} (ht : P.underlying t = some (.slice e)) (hc : P.cellsOf e = sz) (hb : P.bytesOf e = bytes) (hsz : 0 < sz) (h : Opens enc P W e R) : Opens enc P W t (RSl sz bytes R) := fun fuel cs x hx hw => by
  subst hc hb
  rcases Deep.open_slice ht hx with ⟨rfl, rfl⟩ | ⟨a, len, cap, m, n, D, Pl, rfl, -, hlc, hcm, hm, rfl, hel⟩
  · exact ⟨(.slice none 0 0, []), rfl, by simp, [], RdS.nil _ _, fun i a ha => by simp at ha⟩
  · simp only [if_true] at hm
    obtain rfl := hm.symm
    rw [DataW.weights, ht] at hw
    have hlen : len * P.bytesOf e ≤ 140737488351232 := by
      have h1 := hw _ (List.mem_cons_self)
      simp only [List.length_map, List.length_range] at h1
      refine Nat.le_trans (Nat.mul_le_mul_right _ ?_) h1
      omega
    have each : ∀ i, i < len → ∃ cs' x, W.cells? 0 (a.add (i * P.cellsOf e)) (P.cellsOf e) = some cs' ∧ R W cs' x := fun i hi => by
      obtain ⟨cs', h1, h2⟩ := hel i (by omega)
      obtain ⟨x, hx⟩ := h n cs' _ h2 fun k hk => hw k (List.mem_cons_of_mem _ (List.mem_append_left _ (mem_weightsAll (List.mem_map.2 ⟨i, List.mem_range.2 hi, rfl⟩) k hk)))
      exact ⟨cs', x, h1, hx⟩
    have hl : ∃ l : List α, l.length = len ∧ ∀ i x, l[i]? = some x → ∃ cs', W.cells? 0 (a.add (i * P.cellsOf e)) (P.cellsOf e) = some cs' ∧ R W cs' x := by
      clear hlc hlen hw hel hx
      induction len with
      | zero => exact ⟨[], rfl, fun i a ha => by simp at ha⟩
      | succ n ih =>
        obtain ⟨l, hl, hr⟩ := ih fun i hi => each i (by omega)
        obtain ⟨cs', x, h1, h2⟩ := each n (by omega)
        refine ⟨l ++ [x], by simp [hl], fun i b hb => ?_⟩
        rw [List.getElem?_append] at hb
        split at hb
        · exact hr i b hb
        · have : i = n := by
            have := (List.getElem?_eq_some_iff.1 hb).1
            simp at this
            omega
          subst this
          rw [hl, Nat.sub_self] at hb
          simp at hb
          subst hb
          exact ⟨cs', h1, h2⟩
    obtain ⟨l, rfl, hr⟩ := hl
    have hcell : ∀ i, i < l.length → ∃ cs', W.cells? 0 (a.add (i * P.cellsOf e)) (P.cellsOf e) = some cs' ∧ cs'.length = P.cellsOf e ∧ (∀ j, j < P.cellsOf e → W.cell? ⟨a.block, a.off + (i * P.cellsOf e + j), none⟩ = cs'[j]?) ∧ a.spot = none := fun i hi => by
      obtain ⟨cs', h1, -⟩ := hr i l[i] (by simp [hi])
      obtain ⟨-, h2, h3⟩ := World.cells?_some h1
      have hsp : a.spot = none := by
        obtain ⟨cs0, h10, -⟩ := hr 0 l[0] (by rw [List.getElem?_eq_getElem (by omega)])
        obtain ⟨-, h20, h30⟩ := World.cells?_some h10
        have := h30 0 hsz
        rw [List.getElem?_eq_getElem (by omega)] at this
        simp only [Nat.zero_mul, Addr.add, if_true] at this
        simp only [World.cell?] at this
        split at this
        · split at this
          · cases this
          · rename_i hns
            simpa using hns
        · cases this
      refine ⟨cs', h1, h2, fun j hj => ?_, hsp⟩
      rw [← h3 j hj]
      obtain ⟨ab, ao, asp⟩ := a
      simp only at hsp
      subst hsp
      simp only [Addr.add_lit, Nat.add_assoc]
    refine ⟨(.slice (some a) l.length _, l), rfl, hlen, (List.range (l.length * P.cellsOf e)).map fun k => (W.cell? ⟨a.block, a.off + k, none⟩).getD default, ⟨by simp, some a, _, rfl, hlc, (fun hh => by cases hh), fun ad had => ?_⟩, fun i x hx => ?_⟩
    · injection had with had
      subst had
      refine ⟨fun hn => (hcell 0 (Nat.pos_of_ne_zero hn)).choose_spec.2.2.2, fun k u hu => ?_⟩
      rw [List.getElem?_map] at hu
      obtain ⟨k', hk', rfl⟩ := Option.map_eq_some_iff.1 hu
      obtain ⟨hlt, hk2⟩ := List.getElem?_eq_some_iff.1 hk'
      simp only [List.length_range] at hlt
      simp only [List.getElem_range] at hk2
      subst hk2
      have hi : k / P.cellsOf e < l.length := (Nat.div_lt_iff_lt_mul hsz).2 hlt
      obtain ⟨cs', -, h2, h3, -⟩ := hcell _ hi
      have := h3 (k % P.cellsOf e) (Nat.mod_lt _ hsz)
      rw [Nat.div_add_mod' k (P.cellsOf e)] at this
      rw [this, List.getElem?_eq_getElem (by rw [h2]; exact Nat.mod_lt _ hsz)]
      rfl
    · obtain ⟨cs', h1, h2⟩ := hr i x hx
      have hi : i < l.length := (List.getElem?_eq_some_iff.1 hx).1
      obtain ⟨cs2, h12, hl2, h3, -⟩ := hcell i hi
      obtain rfl : cs2 = cs' := Option.some.inj (h12.symm.trans h1)
      have : (((List.range (l.length * P.cellsOf e)).map fun k => (W.cell? ⟨a.block, a.off + k, none⟩).getD default).drop (i * P.cellsOf e)).take (P.cellsOf e) = cs2 := by
        refine List.ext_getElem? fun j => ?_
        rw [List.getElem?_take]
        split
        · rename_i hj
          have hle : i * P.cellsOf e + P.cellsOf e ≤ l.length * P.cellsOf e := by rw [← Nat.succ_mul]; exact Nat.mul_le_mul_right _ hi
          rw [List.getElem?_drop, List.getElem?_map, List.getElem?_range (by omega)]
          simp only [Option.map_some]
          rw [h3 j hj, List.getElem?_eq_getElem (by omega)]
          rfl
        · rw [List.getElem?_eq_none (by omega)]
      rw [this]
      exact h2
end
/-- Bytes. -/
def u8s (l : List Int) : List UInt8 := l.map fun n => UInt8.ofNat n.toNat
theorem RSl.bytes' {w : World} {cs : List Value} {vl : Value × List Int} (h : RSl 1 1 (RInt .u8) w cs vl) : cs = [vl.1] ∧ vl.2.length = (u8s vl.2).length ∧ (u8s vl.2).length ≤ 140737488351232 ∧ RdB w vl.1 (u8s vl.2) := by
  obtain ⟨hc, hb, xs, hr, hx⟩ := h
  have hlen := hr.len
  have : xs = bcs (vl.2.map fun n => UInt8.ofNat n.toNat) := by
    refine List.ext_getElem? fun i => ?_
    by_cases hi : i < vl.2.length
    · have := hx i vl.2[i] (by simp [hi])
      obtain ⟨h1, h2⟩ := this
      have h3 : xs[i]? = some (.int .u8 vl.2[i]) := by
        have : (List.take 1 (xs.drop (i * 1)))[0]? = some (.int .u8 vl.2[i]) := by rw [h1]; rfl
        simpa using this
      rw [h3]
      have hw : 0 ≤ vl.2[i] ∧ vl.2[i] ≤ 255 := by
        simp [Lit.wf, IntKind.min, IntKind.max, IntKind.signed, IntKind.bits] at h2
        omega
      simp only [bcs, List.map_map, List.getElem?_map, List.getElem?_eq_getElem hi, Option.map_some, bv, Function.comp, UInt8.toNat_ofNat']
      congr 2
      omega
    · rw [List.getElem?_eq_none (by omega), List.getElem?_eq_none (by simp [bcs]; omega)]
  refine ⟨hc, by simp [u8s], by simpa [u8s] using hb, ?_⟩
  unfold RdB u8s
  rw [← this, List.length_map]
  exact hr
theorem RSl.bytes {w : World} {cs : List Value} {vl : Value × List Int} (h : RSl 1 1 (RInt .u8) w cs vl) : ∃ l : List UInt8, cs = [vl.1] ∧ vl.2.length = l.length ∧ l.length ≤ 140737488351232 ∧ RdB w vl.1 l := ⟨_, h.bytes'⟩
end Go.Proofs.Ytgebiedochlhmaa
