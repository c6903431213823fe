/- Slices of things of several cells each. -/
import Derived.Test.YtgebiedochlhmaaOpn
set_option linter.unusedVariables false
set_option linter.unusedSimpArgs false
namespace Go.Proofs.Ytgebiedochlhmaa
section
variable {α β : Type} {f : α → List Value} {sz : Nat} {w : World} {v : Value} {l : List α}
theorem flat_length (hf : ∀ a, (f a).length = sz) : ∀ l : List α, (l.flatMap f).length = l.length * sz
  | [] => by simp
  | a :: l => by rw [List.flatMap_cons, List.length_append, hf, flat_length hf l, List.length_cons, Nat.succ_mul, Nat.add_comm]
theorem flat_drop (hf : ∀ a, (f a).length = sz) : ∀ (l : List α) (i : Nat), (l.flatMap f).drop (i * sz) = (l.drop i).flatMap f
  | l, 0 => by simp
  | [], i + 1 => by simp
  | a :: l, i + 1 => by
    rw [List.flatMap_cons, List.drop_succ_cons, ← flat_drop hf l i, Nat.succ_mul, Nat.add_comm, ← List.drop_drop]
    congr 1
    rw [← hf a]
    exact List.drop_left
theorem flat_take (hf : ∀ a, (f a).length = sz) : ∀ (l : List α) (i : Nat), (l.flatMap f).take (i * sz) = (l.take i).flatMap f
  | l, 0 => by simp
  | [], i + 1 => by simp
  | a :: l, i + 1 => by
    rw [List.flatMap_cons, List.take_succ_cons, List.flatMap_cons, ← flat_take hf l i, Nat.succ_mul, Nat.add_comm, List.take_append, hf]
    rw [List.take_of_length_le (by rw [hf]; omega), show sz + i * sz - sz = i * sz from by omega]
theorem flat_get (hf : ∀ a, (f a).length = sz) {i : Nat} (hi : i < l.length) {j : Nat} {u : Value} (hu : (f l[i])[j]? = some u) : (l.flatMap f)[i * sz + j]? = some u := by
  have h1 : ((l.flatMap f).drop (i * sz))[j]? = some u := by
    rw [flat_drop hf, List.drop_eq_getElem_cons hi, List.flatMap_cons, List.getElem?_append_left]
    · exact hu
    · exact (List.getElem?_eq_some_iff.1 hu).1
  rw [List.getElem?_drop] at h1
  exact h1
/-- In this world the slice v reads as these, each laid as f tells. -/
def RdL (sz : Nat) (f : α → List Value) (w : World) (v : Value) (l : List α) : Prop := RdS w sz v l.length (l.flatMap f)
theorem RdL.shape (h : RdL sz f w v l) : ∃ A c, v = .slice A l.length c ∧ l.length ≤ c := RdS.shape h
theorem RdL.at {A : Option Addr} {n c : Nat} (h : RdL sz f w (.slice A n c) l) (hf : ∀ a, (f a).length = sz) {i : Nat} (hi : i < l.length) :
    ∃ b o, A = some ⟨b, o, none⟩ ∧ ∀ (i : Nat) (hi : i < l.length), CellsAt w ⟨b, o + i * sz, none⟩ (f l[i]) := by
  obtain ⟨A', c', hv, -⟩ := h.shape
  injection hv with hA hn hc
  subst hA hn hc
  obtain ⟨b, o, hA, hcell⟩ := RdS.at h hi
  refine ⟨b, o, hA, fun i hi j u hu => ?_⟩
  rw [Addr.add_lit, Nat.add_assoc]
  exact hcell _ u (flat_get hf hi hu)
theorem RdL.at' {b o n c : Nat} (h : RdL sz f w (.slice (some ⟨b, o, none⟩) n c) l) (hf : ∀ a, (f a).length = sz) {i : Nat} (hi : i < l.length) : CellsAt w ⟨b, o + i * sz, none⟩ (f l[i]) := by
  obtain ⟨b', o', h1, h2⟩ := h.at hf hi
  injection h1 with h1
  injection h1 with hb ho
  subst hb ho
  exact h2 i hi
theorem RdL.cut {A : Option Addr} {n c : Nat} (h : RdL sz f w (.slice A n c) l) (hf : ∀ a, (f a).length = sz) {lo hi : Nat} (h1 : lo ≤ hi) (h2 : hi ≤ l.length) :
    RdL sz f w (.slice (cutAddr A lo c sz) (hi - lo) (c - lo)) ((l.drop lo).take (hi - lo)) := by
  obtain ⟨A', c', hv, -⟩ := h.shape
  injection hv with hA hn hc
  subst hA hn hc
  have := RdS.cut h h1 h2
  rw [flat_drop hf, flat_take hf] at this
  have hl : ((l.drop lo).take (hi - lo)).length = hi - lo := by rw [List.length_take, List.length_drop]; omega
  unfold RdL
  rw [hl]
  exact this
theorem RdL.opened {g : β → α} {bytes : Nat} {R : Rel β} {cs : List Value} {vl : Value × List β} (h : RSl sz bytes R w cs vl) (hsz : 0 < sz) (hf : ∀ a, (f a).length = sz) (hR : ∀ cs a, R w cs a → cs = f (g a)) :
    cs = [vl.1] ∧ RdL sz f w vl.1 (vl.2.map g) := by
  obtain ⟨hc, hb, xs, hr, hx⟩ := h
  refine ⟨hc, ?_⟩
  have : xs = (vl.2.map g).flatMap f := by
    have hl := hr.len
    have hl2 := flat_length hf (vl.2.map g)
    rw [List.length_map] at hl2
    refine List.ext_getElem? fun k => ?_
    by_cases hk : k < vl.2.length * sz
    · have hi : k / sz < vl.2.length := (Nat.div_lt_iff_lt_mul hsz).2 hk
      have h1 := hR _ _ (hx (k / sz) vl.2[k / sz] (by simp [hi]))
      have hm := Nat.mod_lt k hsz
      have h2 : (f (g vl.2[k / sz]))[k % sz]? = xs[k / sz * sz + k % sz]? := by
        rw [← h1, List.getElem?_take, if_pos hm, List.getElem?_drop]
      rw [Nat.div_add_mod'] at h2
      have h3 : (f (g vl.2[k / sz]))[k % sz]? = some ((f (g vl.2[k / sz]))[k % sz]'(by rw [hf]; exact hm)) := List.getElem?_eq_getElem _
      have h4 := flat_get (l := vl.2.map g) (f := f) hf (i := k / sz) (by simpa using hi) (j := k % sz) (u := (f (g vl.2[k / sz]))[k % sz]'(by rw [hf]; exact hm)) (by rw [List.getElem_map]; exact h3)
      rw [Nat.div_add_mod'] at h4
      rw [← h2, h3, h4]
    · rw [List.getElem?_eq_none (by omega), List.getElem?_eq_none (by omega)]
  unfold RdL
  rw [List.length_map, ← this]
  exact hr
theorem RdL.ro {s : St} {L : List Asrt} (h : RdL sz f s.w0 v l) (hN : s.w0.heap.size = s.N) (H : Holds s L w) : RdL sz f w v l := RdS.ro h hN H
end
section
variable {P : Program} {s : St} {F : List Asrt} {w : World} {K : Kn}
/-- A store over a whole block. -/
theorem stA_sep {n b : Nat} {t : TypeId} {cs : Array Value} {vs : List Value} (H : Holds s (Blk b t cs :: F) w) (hn : vs.length = n) (hi : n = cs.size) (hv : ∀ v ∈ vs, v.oneCell' = true)
    (h : ∀ w', Holds s (Blk b t vs.toArray :: F) w' → K undef w') : stNK P n ⟨b, 0, none⟩ vs.toArray K w :=
  stN_sep H (by simpa using hn) (by omega) (by simpa using hv) fun w' H' => h w' (by rw [← lay_all (cs := cs) (vs := vs) (by omega)]; simpa using H')
end
end Go.Proofs.Ytgebiedochlhmaa
