/- Slices: what they read as, and append, make, copy, conversions. -/
import Derived.Test.YtgebiedochlhmaaSepA
import Derived.Laws.BytesString
set_option linter.unusedVariables false
set_option linter.unusedSimpArgs false
namespace Go.Proofs.Ytgebiedochlhmaa
open Go.RowKit

/-- In this world the slice v reads as n elements, of sz cells each: these. -/
def RdS (w : World) (sz : Nat) (v : Value) (n : Nat) (xs : List Value) : Prop :=
  xs.length = n * sz ∧ ∃ a c, v = .slice a n c ∧ n ≤ c ∧ (a = none → n = 0) ∧ ∀ ad, a = some ad → (n ≠ 0 → ad.spot = none) ∧ ∀ i u, xs[i]? = some u → w.cell? ⟨ad.block, ad.off + i, none⟩ = some u
/-- A slice of memory of one's own. -/
def SlO (t sz : Nat) (v : Value) (n : Nat) (xs : List Value) : Asrt := fun h =>
  xs.length = n * sz ∧ ((v = .slice none 0 0 ∧ n = 0) ∨ ∃ g off cap cur, v = .slice (some ⟨g, off, none⟩) n cap ∧ h g = some (.cells cur t (0, 0)) ∧ off + cap * sz ≤ cur.size ∧ n ≤ cap ∧ cap ≤ maxLen ∧ (cur.toList.drop off).take (n * sz) = xs)
/-- A slice of memory that nobody writes any more (its bytes may be frozen). -/
def SlF (t sz : Nat) (v : Value) (n : Nat) (xs : List Value) : Asrt := fun h =>
  xs.length = n * sz ∧ ((v = .slice none 0 0 ∧ n = 0) ∨ ∃ g off cap cur fr, v = .slice (some ⟨g, off, none⟩) n cap ∧ h g = some (.cells cur t fr) ∧ off + n * sz ≤ cur.size ∧ n ≤ cap ∧ (cur.toList.drop off).take (n * sz) = xs)

section
variable {P : Program} {s : St} {F l : List Asrt} {w : World} {K : Kn} {t e sz bytes n m : Nat} {v x : Value} {xs news : List Value}

theorem drop_take_get {cur : Array Value} {off k : Nat} {xs : List Value} (h : (cur.toList.drop off).take k = xs) {i : Nat} {u : Value} (hu : xs[i]? = some u) : cur[off + i]? = some u := by
  rw [← h, List.getElem?_take] at hu
  split at hu
  · rw [List.getElem?_drop] at hu
    simpa using hu
  · cases hu
theorem Holds.rdO (H : Holds s (SlO t sz v n xs :: F) w) : RdS w sz v n xs := by
  obtain ⟨hb, hg, y, hy, h1, h2, d, s1, s2, ⟨hl, a⟩, b⟩ := H
  rcases a with ⟨rfl, rfl⟩ | ⟨g, off, cap, cur, rfl, hcur, hsz, hnc, hcm, hxs⟩
  · exact ⟨hl, none, 0, rfl, Nat.le_refl _, fun _ => rfl, fun ad h => by cases h⟩
  · refine ⟨hl, _, cap, rfl, hnc, (fun h => by cases h), fun ad h => ?_⟩
    injection h with h
    subst h
    refine ⟨fun _ => rfl, fun i u hu => ?_⟩
    have := (hy _ _ (s1 _ _ hcur)).2
    simp only [World.cell?, this, Option.isSome_none, Bool.false_eq_true, if_false]
    exact drop_take_get hxs hu
theorem Holds.rdF (H : Holds s (SlF t sz v n xs :: F) w) : RdS w sz v n xs := by
  obtain ⟨hb, hg, y, hy, h1, h2, d, s1, s2, ⟨hl, a⟩, b⟩ := H
  rcases a with ⟨rfl, rfl⟩ | ⟨g, off, cap, cur, fr, rfl, hcur, hsz, hnc, hxs⟩
  · exact ⟨hl, none, 0, rfl, Nat.le_refl _, fun _ => rfl, fun ad h => by cases h⟩
  · refine ⟨hl, _, cap, rfl, hnc, (fun h => by cases h), fun ad h => ?_⟩
    injection h with h
    subst h
    refine ⟨fun _ => rfl, fun i u hu => ?_⟩
    have := (hy _ _ (s1 _ _ hcur)).2
    simp only [World.cell?, this, Option.isSome_none, Bool.false_eq_true, if_false]
    exact drop_take_get hxs hu
theorem Holds.toF (H : Holds s (SlO t sz v n xs :: F) w) : Holds s (SlF t sz v n xs :: F) w := H.mono fun h ⟨hl, a⟩ => ⟨hl, by
  rcases a with a | ⟨g, off, cap, cur, rfl, hcur, hsz, hnc, hcm, hxs⟩
  · exact .inl a
  · exact .inr ⟨g, off, cap, cur, (0, 0), rfl, hcur, Nat.le_trans (Nat.add_le_add_left (Nat.mul_le_mul_right _ hnc) _) hsz, hnc, hxs⟩⟩
theorem Holds.nilO (H : Holds s l w) (t sz : Nat) : Holds s (SlO t sz (.slice none 0 0) 0 [] :: l) w :=
  (Holds.pr_iff (p := True)).2 ⟨trivial, H⟩ |>.mono fun h _ => ⟨by simp, .inl ⟨rfl, rfl⟩⟩
/-- A row of cells as a slice of its own. -/
theorem Holds.blkO {g : Nat} {cs : Array Value} (H : Holds s (Blk g t cs :: F) w) (hc : cs.size = n * sz) (hn : n ≤ maxLen) : Holds s (SlO t sz (.slice (some ⟨g, 0, none⟩) n n) n cs.toList :: F) w :=
  H.mono fun h hh => ⟨by simp [hc], .inr ⟨g, 0, n, cs, rfl, hh, by omega, Nat.le_refl _, hn, by rw [List.drop_zero, List.take_of_length_le (by simp [hc])]⟩⟩
theorem RdS.len (h : RdS w sz v n xs) : xs.length = n * sz := h.1
theorem RdS.keep {w' : World} (h : RdS w sz v n xs) (hk : ∀ a u, w.cell? a = some u → w'.cell? a = some u) : RdS w' sz v n xs := by
  obtain ⟨hl, a, c, rfl, hnc, h0, hc⟩ := h
  exact ⟨hl, a, c, rfl, hnc, h0, fun ad ha => ⟨(hc ad ha).1, fun i u hu => hk _ _ ((hc ad ha).2 i u hu)⟩⟩
/-- What came in reads as it did. -/
theorem RdS.ro (h : RdS s.w0 sz v n xs) (hN : s.w0.heap.size = s.N) (H : Holds s l w) : RdS w sz v n xs := h.keep fun a u hu => H.roN hN hu
theorem RdS.nil (w : World) (sz : Nat) : RdS w sz (.slice none 0 0) 0 [] := ⟨by simp, none, 0, rfl, Nat.le_refl _, fun _ => rfl, fun ad h => by cases h⟩
/-- At an index: where it lies. -/
theorem RdS.at {A : Option Addr} {c : Nat} (h : RdS w sz (.slice A n c) n xs) {i : Nat} (hi : i < n) : ∃ b o, A = some ⟨b, o, none⟩ ∧ ∀ j u, xs[j]? = some u → w.cell? ⟨b, o + j, none⟩ = some u := by
  obtain ⟨hl, a, c', hv, hnc, h0, hc⟩ := h
  injection hv with hv _ _
  subst hv
  cases A with
  | none => exact absurd (h0 rfl) (by omega)
  | some ad =>
    obtain ⟨hs, hc⟩ := hc ad rfl
    obtain ⟨b, o, sp⟩ := ad
    have hs := hs (by omega)
    simp only at hs
    subst hs
    exact ⟨b, o, rfl, hc⟩
theorem RdS.shape (h : RdS w sz v n xs) : ∃ A c, v = .slice A n c ∧ n ≤ c := by
  obtain ⟨hl, a, c', hv, hnc, h0, hc⟩ := h
  exact ⟨a, c', hv, hnc⟩
/-- A part of a slice reads as that part. -/
theorem RdS.cut {A : Option Addr} {c : Nat} (h : RdS w sz (.slice A n c) n xs) {lo hi : Nat} (h1 : lo ≤ hi) (h2 : hi ≤ n) : RdS w sz (.slice (cutAddr A lo c sz) (hi - lo) (c - lo)) (hi - lo) ((xs.drop (lo * sz)).take ((hi - lo) * sz)) := by
  obtain ⟨hl, a, c', hv, hnc, h0, hc⟩ := h
  injection hv with hv _ hcc
  subst hv
  subst hcc
  refine ⟨?_, _, _, rfl, by omega, ?_, ?_⟩
  · rw [List.length_take, List.length_drop, hl]
    have : (hi - lo) * sz ≤ n * sz - lo * sz := by rw [← Nat.sub_mul]; exact Nat.mul_le_mul_right _ (by omega)
    omega
  · intro hn
    unfold cutAddr at hn
    split at hn
    · rw [h0 hn] at h2; omega
    · cases A with
      | none => rw [h0 rfl] at h2; omega
      | some ad => cases hn
  · intro ad had
    unfold cutAddr at had
    split at had
    · rename_i hcl
      subst hcl
      obtain ⟨hs, hcell⟩ := hc ad had
      refine ⟨fun h => hs (by omega), fun i u hu => ?_⟩
      have : hi - c = 0 := by omega
      rw [this] at hu
      simp at hu
    · cases A with
      | none => cases had
      | some a0 =>
        obtain ⟨hs, hcell⟩ := hc a0 rfl
        obtain ⟨b0, o0, sp⟩ := a0
        by_cases hn0 : n = 0
        · subst hn0
          obtain rfl : lo = 0 := by omega
          obtain rfl : hi = 0 := by omega
          refine ⟨fun h => absurd rfl h, fun i u hu => ?_⟩
          simp at hu
        have hs := hs hn0
        simp only at hs
        subst hs
        simp only [Option.map_some, Option.some.injEq, Addr.add_lit] at had
        subst had
        refine ⟨fun _ => rfl, fun i u hu => ?_⟩
        rw [List.getElem?_take] at hu
        split at hu
        · rw [List.getElem?_drop] at hu
          have := hcell _ u hu
          simpa [Nat.add_assoc] using this
        · cases hu

/-- Laid cells, as a list. -/
theorem lay_list {cs : Array Value} {k : Nat} {vs : List Value} (h : k + vs.length ≤ cs.size) : (lay cs k vs).toList = cs.toList.take k ++ vs ++ cs.toList.drop (k + vs.length) := by
  have key : ∀ (vs : List Value) (j : Nat) (cs : Array Value), k + j + vs.length ≤ cs.size →
      ((vs.zipIdx j).foldl (fun c (p : Value × Nat) => c.setIfInBounds (k + p.2) p.1) cs).toList = cs.toList.take (k + j) ++ vs ++ cs.toList.drop (k + j + vs.length) := by
    intro vs
    induction vs with
    | nil => intro j cs hs; simp
    | cons v vs ih =>
      intro j cs hs
      simp only [List.length_cons] at hs
      rw [List.zipIdx_cons, List.foldl_cons, ih (j + 1) _ (by simp; omega)]
      simp only [Array.toList_setIfInBounds, List.length_cons]
      have hlt : k + j < cs.toList.length := by simp; omega
      rw [← Nat.add_assoc, List.take_add_one, List.take_set_of_le (by omega), List.drop_set_of_lt (by omega), List.getElem?_set_self hlt]
      simp
      rw [show k + j + 1 + vs.length = k + j + (vs.length + 1) from by omega]
  have := key vs 0 cs (by omega)
  simpa [lay] using this
theorem lay_size (cs : Array Value) (k : Nat) (vs : List Value) : (lay cs k vs).size = cs.size := by
  unfold lay
  generalize vs.zipIdx = l
  induction l generalizing cs with
  | nil => rfl
  | cons p l ih => rw [List.foldl_cons, ih]; simp

theorem cells_at {ad : Addr} (hl : news.length = m * sz) (hsp : m ≠ 0 → ad.spot = none) (hcell : ∀ i u, news[i]? = some u → w.cell? ⟨ad.block, ad.off + i, none⟩ = some u) : ∀ j u, news[j]? = some u → w.cell? (ad.add j) = some u := by
  intro j u hu
  have hm : m ≠ 0 := by
    rintro rfl
    have : news = [] := List.eq_nil_of_length_eq_zero (by simpa using hl)
    subst this
    simp at hu
  have := hsp hm
  obtain ⟨b, o, sp⟩ := ad
  simp only at this
  subst this
  rw [Addr.add_lit]
  exact hcell j u hu
/-- What is appended: a slice that reads so. -/
theorem app_sep {i : TypeInfo} {z : Value} (ht : P.underlying t = some (.slice e)) (hi : P.info? e = some i) (hz : i.zero = some z) (hsz : i.size = sz) (hby : i.bytes = bytes) (hzs : z.cells.size = sz)
    (H : Holds s (SlO e sz v n xs :: F) w) (hx : RdS w sz x m news) (h1 : ∀ u ∈ news, u.oneCell' = true) (hb : (n + m) * bytes ≤ 140737488355328) (h63 : n + m ≤ 9223372036854775807)
    (h : ∀ v' w', Holds s (SlO e sz v' (n + m) (xs ++ news) :: F) w' → K v' w') : appK P t e sz bytes v x K w := by
  subst hsz
  subst hby
  obtain ⟨hl, a, c, rfl, hmc, ha0, hc⟩ := hx
  have hex := H
  obtain ⟨hbel, hg, y, hy, hp1, hp2, d, s1, s2, ⟨hlx, av⟩, brest⟩ := hex
  have hlen : (xs ++ news).length = (n + m) * i.size := by rw [List.length_append, hlx, hl, Nat.add_mul]
  unfold appK
  -- nothing is appended, from a nil slice
  cases a with
  | none =>
    have hm : m = 0 := ha0 rfl
    subst hm
    have hn : news = [] := List.eq_nil_of_length_eq_zero (by simpa using hl)
    subst hn
    have hrun : (Builtin.append_ #[t, t] t #[v, .slice none 0 c]).run P w = .ok v w := by
      rcases av with ⟨rfl, rfl⟩ | ⟨g, off, cap, cur, rfl, hcur, hcs, hnc, hcm, hxs⟩
      · simp [Builtin.append_, run_underlying ht, sizeOf, typeInfo, hi, Builtin.lenOf, Builtin.firstCells]
      · simp [Builtin.append_, run_underlying ht, sizeOf, typeInfo, hi, Builtin.lenOf, Builtin.firstCells, hnc, storeCells]
    rw [runsV_ok hrun]
    exact h _ _ (by simpa using H)
  | some ad =>
    obtain ⟨hsp, hcell⟩ := hc ad rfl
    have hnews : ∀ j u, news[j]? = some u → w.cell? (ad.add j) = some u := cells_at hl hsp hcell
    rcases av with ⟨rfl, rfl⟩ | ⟨g, off, cap, cur, rfl, hcur, hcs, hnc, hcm, hxs⟩
    · have hxe : xs = [] := List.eq_nil_of_length_eq_zero (by simpa using hlx)
      subst hxe
      by_cases hm : m = 0
      · subst hm
        have hn : news = [] := List.eq_nil_of_length_eq_zero (by simpa using hl)
        subst hn
        have hrun : (Builtin.append_ #[t, t] t #[.slice none 0 0, .slice (some ad) 0 c]).run P w = .ok (.slice none 0 0) w := by
          simp [Builtin.append_, run_underlying ht, sizeOf, typeInfo, hi, Builtin.lenOf, Builtin.firstCells, loadCells, loadCellsFrom]
        rw [runsV_ok hrun]
        exact h _ _ (by simpa using H)
      · have hr := run_append_nil (P := P) w t t e i z ht hi hz ad m c news hl hnews (by omega) (by omega) (by simp only [Nat.zero_add] at hb; omega)
        rw [runsV_ok hr]
        have hge := grownCap_ge w m 0 e
        have hcm : grownCap w m 0 e ≤ maxLen := grownCap_le_maxLen w m 0 e (by unfold maxLen; omega)
        refine h _ _ ?_
        have H2 := (H.tail.drew).alloc e (news.toArray ++ Builtin.zeroCells z.cells (grownCap w m 0 e - m))
        refine H2.mono fun hh hblk => ⟨hlen, .inr ⟨w.heap.size, 0, grownCap w m 0 e, _, by simp, hblk, ?_, by omega, hcm, ?_⟩⟩
        · simp only [Array.size_append, List.size_toArray, size_zeroCells, hzs, hl, ← Nat.add_mul, Nat.zero_add]
          rw [show m + (grownCap w m 0 e - m) = grownCap w m 0 e from by omega]
          exact Nat.le_refl _
        · simp only [List.drop_zero, Array.toList_append, List.nil_append, Nat.zero_add]
          rw [← hl]
          exact List.take_left
    · by_cases hroom : n + m ≤ cap
      · have hfit : off + n * i.size + 0 + news.length ≤ cur.size := by
          rw [hl, Nat.add_zero, Nat.add_assoc, ← Nat.add_mul]
          exact Nat.le_trans (Nat.add_le_add_left (Nat.mul_le_mul_right _ hroom) _) hcs
        have hwg : w.heap[g]? = some (.cells cur e (0, 0)) := (hy _ _ (s1 _ _ hcur)).2
        have hf := run_firstCells_some (P := P) w i.size m ad m c news hl hnews
        have hst := run_storeCells (P := P) (a := ⟨g, off + n * i.size, none⟩) news 0 w g (off + n * i.size) e cur rfl hwg hfit h1
        have hrun : (Builtin.append_ #[t, t] t #[.slice (some ⟨g, off, none⟩) n cap, .slice (some ad) m c]).run P w = .ok (.slice (some ⟨g, off, none⟩) (n + m) cap) (news.zipIdx.foldl (fun w (v, j) => w.setCell ⟨g, off + n * i.size + 0 + j, none⟩ v) w) := by
          simp only [Builtin.append_, List.getElem?_toArray, List.getElem?_cons_zero, List.getElem?_cons_succ, Sem.run_bind, run_underlying ht, Result.andThen_ok, run_sizeOf' (show szOf P e = some i.size by simp [szOf, hi]), Sem.run_pure, Builtin.lenOf, Bool.false_eq_true, if_false, if_pos hroom, Bool.not_false, if_true, hf, Addr.add_lit, hst]
        rw [runsV_ok hrun]
        refine h _ _ ?_
        have HB : Holds s (Blk g e cur :: F) w := ⟨hbel, hg, y, hy, hp1, hp2, d, s1, s2, hcur, brest⟩
        have HL := HB.setCells (news.zipIdx) (off + n * i.size) cur w
        simp only [Nat.add_zero] at HL ⊢
        refine HL.mono fun hh hblk => ⟨hlen, .inr ⟨g, off, cap, lay cur (off + n * i.size) news, rfl, hblk, by rw [lay_size]; exact hcs, hroom, hcm, ?_⟩⟩
        rw [lay_list (by omega)]
        have hxl : (cur.toList.drop off).take (n * i.size) = xs := hxs
        have h1 : (cur.toList.take (off + n * i.size)).drop off = xs := by rw [List.drop_take, show off + n * i.size - off = n * i.size from by omega]; exact hxl
        have h2 : (cur.toList.take (off + n * i.size)).length = off + n * i.size := by rw [List.length_take]; simp; omega
        rw [List.append_assoc, List.drop_append_of_le_length (by omega), h1, ← List.append_assoc, ← hlen]
        exact List.take_left
      · have hwg : w.heap[g]? = some (.cells cur e (0, 0)) := (hy _ _ (s1 _ _ hcur)).2
        have holds : ∀ j u, xs[j]? = some u → w.cell? ((⟨g, off, none⟩ : Addr).add j) = some u := fun j u hu => by
          rw [Addr.add_lit]
          simp only [World.cell?, hwg, Option.isSome_none, Bool.false_eq_true, if_false]
          exact drop_take_get hxs hu
        have hr := run_append_grow (P := P) w t t e i z ht hi hz ⟨g, off, none⟩ n cap xs hlx holds ad m c news hl hnews (by omega) (by omega) (growslice_fits (by omega) hb)
        rw [runsV_ok hr]
        have hge := grownCap_ge w (n + m) cap e
        have hcm : grownCap w (n + m) cap e ≤ maxLen := grownCap_le_maxLen w (n + m) cap e (by unfold maxLen; omega)
        refine h _ _ ?_
        have H2 := (H.tail.drew).alloc e (xs.toArray ++ news.toArray ++ Builtin.zeroCells z.cells (grownCap w (n + m) cap e - (n + m)))
        refine H2.mono fun hh hblk => ⟨hlen, .inr ⟨w.heap.size, 0, grownCap w (n + m) cap e, _, rfl, hblk, ?_, hge, hcm, ?_⟩⟩
        · simp only [Array.size_append, List.size_toArray, size_zeroCells, hzs, hlx, hl, ← Nat.add_mul, Nat.zero_add]
          rw [show n + m + (grownCap w (n + m) cap e - (n + m)) = grownCap w (n + m) cap e from by omega]
          exact Nat.le_refl _
        · simp only [List.drop_zero, Array.toList_append]
          rw [← hlen]
          exact List.take_left
end
end Go.Proofs.Ytgebiedochlhmaa
