/- Cutting a walk in two. -/
import Derived.Test.YtfpjlinlmeojmaaSepC
set_option linter.unusedVariables false
namespace Go.Proofs.Ytfpjlinlmeojmaa
section
variable {P : Program} {Q : QT} {E : Env} {w : World}
theorem cut_rule {a b : Cmd} (W : List (Nat × Nat)) (hW : wCmd W a = true) (M : Env → World → Prop) (h1 : den P a (seqK M Q) E w) (h2 : ∀ X w', M X w' → den P b Q (mixR W X E) w') : den P (.seq a b) Q E w := by
  rw [den_seq]
  refine den_mono a (fun x E' w' h => ?_) (den_frame a (E0 := E) hW (Same.refl W E) h1)
  cases x with
  | normal =>
    have := h2 E' w' h.2
    rw [mixR_same h.1] at this
    exact this
  | exit i => exact h.2
  | ret => exact h.2
theorem lit_cast0 : ((0 : Nat) : Int) = 0 := Eq.trans rfl rfl
theorem lit_cast (n : Nat) : ((no_index (OfNat.ofNat n) : Nat) : Int) = (OfNat.ofNat n : Int) := Eq.trans rfl rfl
theorem denOps_nil' {q : Env → World → Prop} : denOps P [] q E w = q E w := Eq.trans rfl rfl
theorem denOps_cons' {q : Env → World → Prop} (o : TO) (l : List TO) : denOps P (o :: l) q E w = if wantedE E o.g = true then denV P o.op (o.xs.map (evo E)) w (opsK P l q E o.d) else denOps P l q (upd E o.d undef) w := Eq.trans (denOps_cons ..) rfl
theorem opsK_app' {l : List TO} {q : Env → World → Prop} {d : Option Nat} {v : Value} : opsK P l q E d v w = denOps P l q (upd E d v) w := Eq.trans rfl rfl
theorem upd_app' (E : Env) (d : Option Nat) (v : Value) (t : Nat) : upd E d v t = if d = some t then v else E t := Eq.trans rfl rfl
theorem den_assoc {a b c : Cmd} : den P (.seq a (.seq b c)) Q E w = den P (.seq (.seq a b) c) Q E w := by
  simp only [den_seq]
  congr 1
  funext x E w
  cases x <;> rfl
theorem callK_val {f : FuncId} {vs : List Value} {K : Kn} {v : Value} {R : World → Prop} (h : Calls P f vs.toArray w fun e w' => e = .returned v ∧ R w') (hK : ∀ w', R w' → K v w') : callK P f vs K w :=
  callK_of h fun _ w' h => ⟨v, h.1, hK w' h.2⟩
theorem RdS.one {sz n : Nat} {v : Value} {xs : List Value} (h : RdS w sz v n xs) : v.oneCell' = true := by
  obtain ⟨A, c, rfl, _⟩ := h.shape
  rfl

variable {s : St} {F : List Asrt} {t sz n : Nat} {v : Value} {xs : List Value}
/-- A part of a slice of one's own. -/
theorem Holds.cutO {A : Option Addr} {c : Nat} (H : Holds s (SlO t sz (.slice A n c) n xs :: F) w) {lo hi : Nat} (h1 : lo ≤ hi) (h2 : hi ≤ n) :
    Holds s (SlO t sz (.slice (cutAddr A lo c sz) (hi - lo) (c - lo)) (hi - lo) ((xs.drop (lo * sz)).take ((hi - lo) * sz)) :: F) w := by
  refine H.mono fun h ⟨hl, a⟩ => ?_
  have hlen : ((xs.drop (lo * sz)).take ((hi - lo) * sz)).length = (hi - lo) * sz := by
    rw [List.length_take, List.length_drop, hl]
    have : (hi - lo) * sz ≤ n * sz - lo * sz := by rw [← Nat.sub_mul]; exact Nat.mul_le_mul_right _ (by omega)
    omega
  refine ⟨hlen, ?_⟩
  rcases a with ⟨hv, rfl⟩ | ⟨g, off, cap, cur, hv, hcur, hcs, hnc, hcm, hxs⟩
  · injection hv with hv _ hcc
    subst hv
    subst hcc
    obtain rfl : hi = 0 := by omega
    obtain rfl : lo = 0 := by omega
    exact .inl ⟨by simp [cutAddr], rfl⟩
  · injection hv with hv _ hcc
    subst hv
    subst hcc
    have hpart : ((cur.toList.drop off).drop (lo * sz)).take ((hi - lo) * sz) = (xs.drop (lo * sz)).take ((hi - lo) * sz) := by
      rw [← hxs, List.drop_take, List.take_take]
      congr 1
      have : (hi - lo) * sz ≤ n * sz - lo * sz := by rw [← Nat.sub_mul]; exact Nat.mul_le_mul_right _ (by omega)
      omega
    unfold cutAddr
    split
    · rename_i hlc
      subst hlc
      have hh : hi - c = 0 := by omega
      refine .inr ⟨g, off, c - c, cur, by rw [hh], hcur, ?_, by omega, by omega, ?_⟩
      · have : (c - c) * sz ≤ c * sz := Nat.mul_le_mul_right _ (by omega)
        omega
      · simp [hh]
    · refine .inr ⟨g, off + lo * sz, c - lo, cur, by simp [Addr.add_lit], hcur, ?_, by omega, by omega, ?_⟩
      · have : (c - lo) * sz = c * sz - lo * sz := Nat.sub_mul ..
        have : lo * sz ≤ c * sz := Nat.mul_le_mul_right _ (by omega)
        omega
      · rw [← hpart, List.drop_drop]
theorem Holds.cutB {A : Option Addr} {c t : Nat} {l : List UInt8} (H : Holds s (BO t (.slice A n c) l :: F) w) (hn : n = l.length) {lo hi : Nat} (h1 : lo ≤ hi) (h2 : hi ≤ n) :
    Holds s (BO t (.slice (cutAddr A lo c 1) (hi - lo) (c - lo)) ((l.drop lo).take (hi - lo)) :: F) w := by
  subst hn
  have := Holds.cutO H h1 h2
  simp only [Nat.mul_one] at this
  rw [bcs_drop, bcs_take] at this
  have hl : ((l.drop lo).take (hi - lo)).length = hi - lo := by rw [List.length_take, List.length_drop]; omega
  unfold BO
  rw [hl]
  exact this

section
variable {A B C D : Asrt}
theorem Holds.l3 (H : Holds s (A :: B :: C :: F) w) : Holds s (B :: C :: A :: F) w := H.r3.r3
theorem Holds.l4 (H : Holds s (A :: B :: C :: D :: F) w) : Holds s (B :: C :: D :: A :: F) w := H.r4.r4.r4
end
theorem fill_nil (pl : Nat → Option (Nat × Nat)) (z : Array Value) : Instr.fill pl z [] = some z := by rw [Instr.fill]
def fillK (pl : Nat → Option (Nat × Nat)) (o : Option (Nat × Nat)) (v z : Array Value) (r : List (Nat × Value)) : Option (Array Value) :=
  match o with
  | none => none
  | some (off, size) => if v.size = size ∧ off + v.size ≤ z.size then Instr.fill pl (lay z off v.toList) r else none
@[congr] theorem fillK_congr {pl : Nat → Option (Nat × Nat)} {o o' : Option (Nat × Nat)} {v v' z z' : Array Value} {r r' : List (Nat × Value)} (ho : o = o') (hv : v = v') (hz : z = z') (hr : r = r') : fillK pl o v z r = fillK pl o' v' z' r' := by rw [ho, hv, hz, hr]
theorem fill_cons (pl : Nat → Option (Nat × Nat)) (z : Array Value) (i : Nat) (v : Value) (r : List (Nat × Value)) : Instr.fill pl z ((i, v) :: r) = fillK pl (pl i) v.cells z r := by
  rw [Instr.fill]
  cases pl i with
  | none => rfl
  | some p =>
    obtain ⟨off, size⟩ := p
    simp only [fillK]
    by_cases h : v.cells.size = size ∧ off + v.cells.size ≤ z.size
    · rw [if_pos h, if_neg (by simp; omega)]
      congr 1
      obtain ⟨l⟩ := v.cells
      simp [lay]
    · rw [if_neg h, if_pos (by simp; omega)]
theorem fillK_some (pl : Nat → Option (Nat × Nat)) (off n : Nat) (v z : Array Value) (r : List (Nat × Value)) : fillK pl (some (off, n)) v z r = if v.size = n ∧ off + v.size ≤ z.size then Instr.fill pl (lay z off v.toList) r else none := Eq.trans rfl rfl
theorem cells_int (k : IntKind) (n : Int) : (Value.int k n).cells = #[.int k n] := Eq.trans rfl rfl
theorem cells_bool (n : Bool) : (Value.bool n).cells = #[.bool n] := Eq.trans rfl rfl
theorem cells_string (n : ByteArray) : (Value.string n).cells = #[.string n] := Eq.trans rfl rfl
theorem cells_slice (a : Option Addr) (n c : Nat) : (Value.slice a n c).cells = #[.slice a n c] := Eq.trans rfl rfl
theorem cells_pointer (a : Option Addr) : (Value.pointer a).cells = #[.pointer a] := Eq.trans rfl rfl
theorem cells_map (a : Option Nat) : (Value.map a).cells = #[.map a] := Eq.trans rfl rfl
theorem cells_agg (a : Array Value) : (Value.agg a).cells = a := Eq.trans rfl rfl
theorem lay_nil (z : Array Value) (o : Nat) : lay z o [] = z := by simp [lay]
theorem lay_cons (z : List Value) (o : Nat) (v : Value) (vs : List Value) : lay z.toArray o (v :: vs) = lay (z.set o v).toArray (o + 1) vs := by
  simp only [lay, List.zipIdx_cons, List.foldl_cons, Nat.add_zero, Nat.zero_add]
  rw [List.zipIdx_eq_map_add]
  simp only [List.foldl_map]
  congr 1
  · funext c p
    rw [show o + 1 + p.2 = o + (1 + p.2) from by omega, Nat.add_comm 1 p.2]
  · simp
theorem lay_one (z : List Value) (o : Nat) (v : Value) : lay z.toArray o [v] = (z.set o v).toArray := by simp [lay]

theorem Holds.start (W : World) : Holds ⟨W.heap.size, W⟩ [] W := ⟨RowKit.Below.refl _ _, Nat.le_refl _, fun _ => none, fun _ _ e => (by cases e), trivial⟩
theorem Holds.cells {b t : Nat} {l : List Value} (H : Holds s (Blk b t l.toArray :: F) w) : CellsAt w ⟨b, 0, none⟩ l := fun i u hu => by
  rw [Addr.add_lit, Nat.zero_add, H.cell]
  simpa using hu
theorem big_perm {l l' : List Asrt} (hp : l.Perm l') : ∀ h, big l h → big l' h := by
  induction hp with
  | nil => exact fun h x => x
  | cons A _ ih => exact fun h x => star_mono2 ih x
  | swap A B l => exact fun h x => star_comm2 x
  | trans _ _ ih1 ih2 => exact fun h x => ih2 h (ih1 h x)
theorem big_app {l : List Asrt} : ∀ {l' : List Asrt} {h : Hp}, big (l' ++ l) h → big l' h := by
  intro l'
  induction l' with
  | nil => exact fun _ => trivial
  | cons A l' ih => exact fun x => star_mono2 (fun _ y => ih y) x
/-- Some of what holds, by their places. -/
theorem Holds.get {l l' : List Asrt} (H : Holds s l w) (is : List Nat) (hp : (is ++ (List.range l.length).filter (fun i => !is.contains i)).isPerm (List.range l.length) = true := by rfl)
    (hl : is.map (fun i => l.getD i (fun _ => True)) = l' := by rfl) : Holds s l' w := by
  subst hl
  refine H.map fun h hb => ?_
  have hl : l = (List.range l.length).map (fun i => l.getD i (fun _ => True)) := by
    refine List.ext_getElem (by simp) fun i h1 h2 => ?_
    simp [h1]
  rw [hl] at hb
  have := big_perm (((List.isPerm_iff.1 hp).map (fun i => l.getD i (fun _ => True))).symm) h hb
  rw [List.map_append] at this
  exact big_app this
end
end Go.Proofs.Ytfpjlinlmeojmaa
