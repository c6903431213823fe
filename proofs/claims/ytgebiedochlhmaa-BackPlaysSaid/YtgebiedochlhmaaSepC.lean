/- Bytes; new slices; stores into slices; copies; strings. -/
import Derived.Test.YtgebiedochlhmaaSepB
import Derived.Laws.BytesString
set_option linter.unusedVariables false
set_option linter.unusedSimpArgs false
namespace Go.Proofs.Ytgebiedochlhmaa
open Go.RowKit

def bv (b : UInt8) : Value := .int .u8 (b.toNat : Int)
def bcs (l : List UInt8) : List Value := l.map bv
theorem bcs_length (l : List UInt8) : (bcs l).length = l.length := by simp [bcs]
theorem bcs_append (l m : List UInt8) : bcs (l ++ m) = bcs l ++ bcs m := by simp [bcs]
theorem bcs_get (l : List UInt8) (i : Nat) (h : i < l.length) : (bcs l)[i]? = some (bv l[i]) := by simp [bcs, h]
theorem bcs_one (l : List UInt8) : ∀ u ∈ bcs l, u.oneCell' = true := by
  intro u hu
  simp only [bcs, List.mem_map] at hu
  obtain ⟨b, _, rfl⟩ := hu
  rfl
theorem bcs_take (l : List UInt8) (n : Nat) : (bcs l).take n = bcs (l.take n) := by simp [bcs, List.map_take]
theorem bcs_drop (l : List UInt8) (n : Nat) : (bcs l).drop n = bcs (l.drop n) := by simp [bcs, List.map_drop]
theorem bcs_set (l : List UInt8) (n : Nat) (b : UInt8) : (bcs l).set n (bv b) = bcs (l.set n b) := by simp [bcs, List.map_set]
def RdB (w : World) (v : Value) (l : List UInt8) : Prop := RdS w 1 v l.length (bcs l)
def BO (t : Nat) (v : Value) (l : List UInt8) : Asrt := SlO t 1 v l.length (bcs l)
def BF (t : Nat) (v : Value) (l : List UInt8) : Asrt := SlF t 1 v l.length (bcs l)
def bstr (l : List UInt8) : Value := .string ⟨l.toArray⟩

section
variable {P : Program} {s : St} {F l : List Asrt} {w : World} {K : Kn} {t e sz bytes n m : Nat} {v x : Value} {xs news : List Value}

theorem RdB.cut {A : Option Addr} {c n : Nat} {l : List UInt8} (hn : n = l.length) (h : RdB w (.slice A n c) l) {lo hi : Nat} (h1 : lo ≤ hi) (h2 : hi ≤ l.length) :
    RdB w (.slice (cutAddr A lo c 1) (hi - lo) (c - lo)) ((l.drop lo).take (hi - lo)) := by
  subst hn
  have := RdS.cut (h : RdS w 1 _ _ _) h1 h2
  simp only [Nat.mul_one] at this
  rw [bcs_drop, bcs_take] at this
  unfold RdB
  have hl : ((l.drop lo).take (hi - lo)).length = hi - lo := by rw [List.length_take, List.length_drop]; omega
  rw [hl]
  exact this
theorem foldl_push : ∀ (l : List UInt8) (acc : ByteArray), l.foldl ByteArray.push acc = ⟨acc.data ++ l.toArray⟩
  | [], acc => by simp
  | b :: l, acc => by
    rw [List.foldl_cons, foldl_push l]
    congr 1
    simp [ByteArray.push]
theorem run_b2s {v : Value} {l : List UInt8} (h : RdB w v l) : (Conv.bytesToString v).run P w = .ok (bstr l) w := by
  obtain ⟨hl, a, c, rfl, hnc, h0, hc⟩ := h
  cases a with
  | none =>
    have : l = [] := List.eq_nil_of_length_eq_zero (h0 rfl)
    subst this
    rfl
  | some ad =>
    obtain ⟨hs, hcell⟩ := hc ad rfl
    have hld : (loadCells ad l.length).run P w = .ok (bcs l).toArray w := run_loadCells' (by rw [bcs_length]) (fun i u hu => cells_at hl hs hcell i u hu)
    have hm : bcs l = (l.map fun b => (b.toNat : Int)).map (Value.int .u8) := by simp [bcs, bv]
    rw [hm] at hld
    rw [run_bytesToString w _ _ _ _ hld, List.foldl_map]
    have hp : (fun (r : ByteArray) (b : UInt8) => r.push (UInt8.ofNat ((b.toNat : Int)).toNat)) = ByteArray.push := by
      funext r b
      simp
    rw [hp, foldl_push]
    simp [bstr, ByteArray.empty, ByteArray.emptyWithCapacity]
    rfl
theorem b2s_sep {v : Value} {l : List UInt8} (h : RdB w v l) (hK : K (bstr l) w) : b2sK P v K w := by
  obtain ⟨A, c, rfl, _⟩ := RdS.shape h
  show runsV P (Conv.bytesToString _) w K
  rw [runsV_ok (run_b2s h)]
  exact hK
theorem mkS_sep {n : Int} {z : Array Value} (H : Holds s l w) (h0 : 0 ≤ n) (h1 : n ≤ 9223372036854775807) (hb : bytes * n ≤ 281474976710656)
    (h : ∀ g w', Holds s (Blk g e (mkZero z (n.toNat * sz)) :: l) w' → K (.slice (some ⟨g, 0, none⟩) n.toNat n.toNat) w') : mkSK e bytes sz z n n K w :=
  ⟨rfl, h0, h1, hb, h _ _ (H.alloc e _)⟩
theorem mkZero_one {v : Value} {n : Nat} : mkZero #[v] n = Array.replicate n v := by
  unfold mkZero
  split
  · rename_i h; subst h; rfl
  · apply Array.ext
    · simp
    · intro i h1 h2
      simp [Nat.mod_one]
theorem mark_sep {g : Nat} {cs : Array Value} {n c : Nat} (H : Holds s (Blk g t cs :: F) w) (hc : cs.size = n) (hcn : n ≤ c)
    (h : ∀ w', Holds s (SlF t 1 (.slice (some ⟨g, 0, none⟩) n c) n cs.toList :: F) w' → K (.slice (some ⟨g, 0, none⟩) n c) w') : markK P (.slice (some ⟨g, 0, none⟩) n c) K w := by
  have hh := H.heap
  have hf : (w.freeze ⟨g, n, none⟩ 1).heap[g]? = some (.cells cs t (n, n + 1)) := by
    simp [World.freeze, Array.getElem?_modify, hh]
  have hrun : (do markStringish (⟨g, 0, none⟩ : Addr); pure (Value.slice (some ⟨g, 0, none⟩) n c) : Sem Value).run P w = .ok (.slice (some ⟨g, 0, none⟩) n c) (w.freeze ⟨g, n, none⟩ 1) := by
    simp [markStringish, World.shape?, hh, hc]
  show runsV P _ w K
  rw [runsV_ok hrun]
  refine h _ (H.step rfl rfl rfl (by simp [World.freeze]) fun h1 a hx => ⟨one1 g (.cells cs t (n, n + 1)), ?_, ?_, ?_⟩)
  · exact ⟨by simp [hc], .inr ⟨g, 0, c, cs, (n, n + 1), rfl, by simp [one1], by omega, hcn, by rw [List.drop_zero, List.take_of_length_le (by simp [hc])]⟩⟩
  · intro y o e
    simp only [one1] at e
    split at e
    · rename_i hy
      subst hy
      injection e with e
      subst e
      exact ⟨(hx _ _ a).1, hf⟩
    · cases e
  · intro y hy hn
    have hne : y ≠ g := fun e => by subst e; rw [show h1 y = _ from a] at hn; cases hn
    refine ⟨by simp [one1, hne], ?_⟩
    simp [World.freeze, Array.getElem?_modify, Ne.symm hne]
/-- A store into a slice of one-cell elements. -/
theorem stO_sep {g off c i : Nat} {u : Value} (H : Holds s (SlO t 1 (.slice (some ⟨g, off, none⟩) n c) n xs :: F) w) (hi : i < n) (hu : u.oneCell' = true)
    (h : ∀ w', Holds s (SlO t 1 (.slice (some ⟨g, off, none⟩) n c) n (xs.set i u) :: F) w' → K undef w') : stK ⟨g, off + i, none⟩ u K w := by
  obtain ⟨hbel, hg, y, hy, hp1, hp2, d, s1, s2, ⟨hlx, av⟩, brest⟩ := H
  rcases av with ⟨hv, rfl⟩ | ⟨g', off', cap, cur, hv, hcur, hcs, hnc, hcm, hxs⟩
  · omega
  · injection hv with hv _ hcc
    injection hv with hv
    injection hv with hg' ho
    subst hg'
    subst ho
    subst hcc
    have HB : Holds s (Blk g t cur :: F) w := ⟨hbel, hg, y, hy, hp1, hp2, d, s1, s2, hcur, brest⟩
    refine st_sep HB (by omega) hu fun w' H' => h w' (H'.mono fun hh hblk => ⟨by simpa using hlx, .inr ⟨g, off, c, _, rfl, hblk, by simpa using hcs, hnc, hcm, ?_⟩⟩)
    rw [← hxs]
    simp only [Array.toList_setIfInBounds, Nat.mul_one]
    rw [List.drop_set, if_neg (by omega), show off + i - off = i from by omega, List.take_set]
theorem run_firstCells' {v : Value} {k : Nat} (hx : RdS w sz v n xs) (hk : k ≤ n) : (Builtin.firstCells sz k v).run P w = .ok (xs.take (k * sz)).toArray w := by
  obtain ⟨hl, a, c, rfl, hmc, ha0, hc⟩ := hx
  cases a with
  | none =>
    have : n = 0 := ha0 rfl
    subst this
    have : k = 0 := by omega
    subst this
    simp [Builtin.firstCells]
  | some ad =>
    obtain ⟨hs, hcell⟩ := hc ad rfl
    unfold Builtin.firstCells
    refine run_loadCells' ?_ ?_
    · rw [List.length_take, hl]
      have := Nat.mul_le_mul_right sz hk
      omega
    · intro i u hu
      refine cells_at hl hs hcell i u ?_
      rw [List.getElem?_take] at hu
      split at hu
      · exact hu
      · cases hu
/-- copy into a block of one's own. -/
theorem cpyB_sep {g off dn dc : Nat} {cs : Array Value} (ht : P.underlying t = some (.slice e)) (hs : szOf P e = some sz) (H : Holds s (Blk g n cs :: F) w) (hx : RdS w sz x m news) (hd : off + dn * sz ≤ cs.size) (h1 : ∀ u ∈ news, u.oneCell' = true)
    (h : ∀ w', Holds s (Blk g n (lay cs off (news.take (min m dn * sz))) :: F) w' → K (.int .i64 (min m dn : Nat)) w') : cpyK P t sz (.slice (some ⟨g, off, none⟩) dn dc) x K w := by
  obtain ⟨A, c, hxv, hmc⟩ := hx.shape
  have hlen : (Builtin.lenOf x).run P w = .ok m w := by subst hxv; simp [Builtin.lenOf]
  have hfc := run_firstCells' (P := P) hx (Nat.min_le_left m dn)
  have hl : (news.take (min m dn * sz)).length = min m dn * sz := by
    rw [List.length_take, hx.len]
    have := Nat.mul_le_mul_right sz (Nat.min_le_left m dn)
    omega
  have hfit : off + 0 + (news.take (min m dn * sz)).length ≤ cs.size := by
    rw [hl]
    have := Nat.mul_le_mul_right sz (Nat.min_le_right m dn)
    omega
  have hst := run_storeCells (P := P) (a := ⟨g, off, none⟩) (news.take (min m dn * sz)) 0 w g off n cs rfl H.heap hfit (fun u hu => h1 u (List.mem_of_mem_take hu))
  have hrun : (Builtin.copy_ #[t, t] 3 #[.slice (some ⟨g, off, none⟩) dn dc, x]).run P w = .ok (.int .i64 (min m dn : Nat)) ((news.take (min m dn * sz)).zipIdx.foldl (fun w (v, j) => w.setCell ⟨g, off + 0 + j, none⟩ v) w) := by
    simp only [Builtin.copy_, List.getElem?_toArray, List.getElem?_cons_zero, List.getElem?_cons_succ, Sem.run_bind, run_underlying ht, Result.andThen_ok, run_sizeOf' hs, hlen, Sem.run_pure]
    show ((Sem.run P (Builtin.firstCells sz (min m dn) x) w).andThen _) = _
    rw [hfc]
    simp only [Result.andThen_ok, Sem.run_bind, hst, Sem.run_pure, goInt]
  unfold cpyK
  rw [runsV_ok hrun]
  have HL := H.setCells ((news.take (min m dn * sz)).zipIdx) off cs w
  simp only [Nat.add_zero] at HL ⊢
  exact h _ HL
/-- copy into a slice of one's own. -/
theorem cpyO_sep {te : Nat} (ht : P.underlying t = some (.slice e)) (hs : szOf P e = some sz) (H : Holds s (SlO te sz v n xs :: F) w) (hx : RdS w sz x m news) (h1 : ∀ u ∈ news, u.oneCell' = true)
    (h : ∀ w', Holds s (SlO te sz v n (news.take (min m n * sz) ++ xs.drop (min m n * sz)) :: F) w' → K (.int .i64 (min m n : Nat)) w') : cpyK P t sz v x K w := by
  have H0 := H
  obtain ⟨hbel, hg, y, hy, hp1, hp2, d, s1, s2, ⟨hlx, av⟩, brest⟩ := H
  rcases av with ⟨rfl, rfl⟩ | ⟨g, off, cap, cur, rfl, hcur, hcs, hnc, hcm, hxs⟩
  · have hxe : xs = [] := List.eq_nil_of_length_eq_zero (by simpa using hlx)
    subst hxe
    obtain ⟨A, c, hxv, hmc⟩ := hx.shape
    have hlen : (Builtin.lenOf x).run P w = .ok m w := by subst hxv; simp [Builtin.lenOf]
    have hfc := run_firstCells' (P := P) (k := 0) hx (Nat.zero_le _)
    have hrun : (Builtin.copy_ #[t, t] 3 #[.slice none 0 0, x]).run P w = .ok (.int .i64 (0 : Nat)) w := by
      simp only [Builtin.copy_, List.getElem?_toArray, List.getElem?_cons_zero, List.getElem?_cons_succ, Sem.run_bind, run_underlying ht, Result.andThen_ok, run_sizeOf' hs, hlen, Sem.run_pure]
      show ((Sem.run P (Builtin.firstCells sz (min m 0) x) w).andThen _) = _
      rw [Nat.min_zero, hfc]
      simp [goInt]
    unfold cpyK
    rw [runsV_ok hrun]
    simpa using h w (by simpa using H0)
  · have HB : Holds s (Blk g te cur :: F) w := ⟨hbel, hg, y, hy, hp1, hp2, d, s1, s2, hcur, brest⟩
    have hnc' := Nat.mul_le_mul_right sz hnc
    refine cpyB_sep ht hs HB hx (by omega) h1 fun w' H' => h w' (H'.mono fun hh hblk => ?_)
    have hl : (news.take (min m n * sz)).length = min m n * sz := by
      rw [List.length_take, hx.len]
      have := Nat.mul_le_mul_right sz (Nat.min_le_left m n)
      omega
    have hmn := Nat.mul_le_mul_right sz (Nat.min_le_right m n)
    have hcl : off + n * sz ≤ cur.toList.length := by simp; omega
    refine ⟨by rw [List.length_append, hl, List.length_drop, hlx]; omega, .inr ⟨g, off, cap, _, rfl, hblk, by rw [lay_size]; exact hcs, hnc, hcm, ?_⟩⟩
    rw [lay_list (by rw [hl]; omega), hl, List.append_assoc, List.drop_append_of_le_length (by rw [List.length_take]; omega), List.drop_take, Nat.sub_self, List.take_zero, List.nil_append, List.take_append, hl]
    rw [List.take_of_length_le (by rw [hl]; omega)]
    congr 1
    rw [← hxs, List.drop_take, List.drop_drop]
end
end Go.Proofs.Ytgebiedochlhmaa
