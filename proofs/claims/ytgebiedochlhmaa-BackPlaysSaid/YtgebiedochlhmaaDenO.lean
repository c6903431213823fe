/- Cutting a walk in two. -/
import Derived.Test.YtgebiedochlhmaaSepC
set_option linter.unusedVariables false
namespace Go.Proofs.Ytgebiedochlhmaa
section
variable {P : Program} {Q : QT} {E : Env} {w : World}
theorem cut_rule {a b : Cmd} (W : List (Nat × Nat)) (hW : wCmd W a = true) (M : Env → World → Prop) (h1 : den P a (seqK M Q) E w) (h2 : ∀ X w', M X w' → den P b Q (mixR W X E) w') : den P (.seq a b) Q E w := by
  rw [den_seq]
  refine den_mono a (fun x E' w' h => ?_) (den_frame a (E0 := E) hW (Same.refl W E) h1)
  cases x with
  | normal =>
    have := h2 E' w' h.2
    rw [mixR_same h.1] at this
    exact this
  | exit i => exact h.2
  | ret => exact h.2
theorem lit_cast0 : ((0 : Nat) : Int) = 0 := Eq.trans rfl rfl
theorem lit_cast (n : Nat) : ((no_index (OfNat.ofNat n) : Nat) : Int) = (OfNat.ofNat n : Int) := Eq.trans rfl rfl
theorem denOps_nil' {q : Env → World → Prop} : denOps P [] q E w = q E w := Eq.trans rfl rfl
theorem denOps_cons' {q : Env → World → Prop} (o : TO) (l : List TO) : denOps P (o :: l) q E w = if wantedE E o.g = true then denV P o.op (o.xs.map (evo E)) w (opsK P l q E o.d) else denOps P l q (upd E o.d undef) w := Eq.trans (denOps_cons ..) rfl
theorem opsK_app' {l : List TO} {q : Env → World → Prop} {d : Option Nat} {v : Value} : opsK P l q E d v w = denOps P l q (upd E d v) w := Eq.trans rfl rfl
theorem upd_app' (E : Env) (d : Option Nat) (v : Value) (t : Nat) : upd E d v t = if d = some t then v else E t := Eq.trans rfl rfl
theorem den_assoc {a b c : Cmd} : den P (.seq a (.seq b c)) Q E w = den P (.seq (.seq a b) c) Q E w := by
  simp only [den_seq]
  congr 1
  funext x E w
  cases x <;> rfl
theorem callK_val {f : FuncId} {vs : List Value} {K : Kn} {v : Value} {R : World → Prop} (h : Calls P f vs.toArray w fun e w' => e = .returned v ∧ R w') (hK : ∀ w', R w' → K v w') : callK P f vs K w :=
  callK_of h fun _ w' h => ⟨v, h.1, hK w' h.2⟩
theorem RdS.one {sz n : Nat} {v : Value} {xs : List Value} (h : RdS w sz v n xs) : v.oneCell' = true := by
  obtain ⟨A, c, rfl, _⟩ := h.shape
  rfl

variable {s : St} {F : List Asrt} {t sz n : Nat} {v : Value} {xs : List Value}
/-- A part of a slice of one's own. -/
theorem Holds.cutO {A : Option Addr} {c : Nat} (H : Holds s (SlO t sz (.slice A n c) n xs :: F) w) {lo hi : Nat} (h1 : lo ≤ hi) (h2 : hi ≤ n) :
    Holds s (SlO t sz (.slice (cutAddr A lo c sz) (hi - lo) (c - lo)) (hi - lo) ((xs.drop (lo * sz)).take ((hi - lo) * sz)) :: F) w := by
  refine H.mono fun h ⟨hl, a⟩ => ?_
  have hlen : ((xs.drop (lo * sz)).take ((hi - lo) * sz)).length = (hi - lo) * sz := by
    rw [List.length_take, List.length_drop, hl]
    have : (hi - lo) * sz ≤ n * sz - lo * sz := by rw [← Nat.sub_mul]; exact Nat.mul_le_mul_right _ (by omega)
    omega
  refine ⟨hlen, ?_⟩
  rcases a with ⟨hv, rfl⟩ | ⟨g, off, cap, cur, hv, hcur, hcs, hnc, hcm, hxs⟩
  · injection hv with hv _ hcc
    subst hv
    subst hcc
    obtain rfl : hi = 0 := by omega
    obtain rfl : lo = 0 := by omega
    exact .inl ⟨by simp [cutAddr], rfl⟩
  · injection hv with hv _ hcc
    subst hv
    subst hcc
    have hpart : ((cur.toList.drop off).drop (lo * sz)).take ((hi - lo) * sz) = (xs.drop (lo * sz)).take ((hi - lo) * sz) := by
      rw [← hxs, List.drop_take, List.take_take]
      congr 1
      have : (hi - lo) * sz ≤ n * sz - lo * sz := by rw [← Nat.sub_mul]; exact Nat.mul_le_mul_right _ (by omega)
      omega
    unfold cutAddr
    split
    · rename_i hlc
      subst hlc
      have hh : hi - c = 0 := by omega
      refine .inr ⟨g, off, c - c, cur, by rw [hh], hcur, ?_, by omega, by omega, ?_⟩
      · have : (c - c) * sz ≤ c * sz := Nat.mul_le_mul_right _ (by omega)
        omega
      · simp [hh]
    · refine .inr ⟨g, off + lo * sz, c - lo, cur, by simp [Addr.add_lit], hcur, ?_, by omega, by omega, ?_⟩
      · have : (c - lo) * sz = c * sz - lo * sz := Nat.sub_mul ..
        have : lo * sz ≤ c * sz := Nat.mul_le_mul_right _ (by omega)
        omega
      · rw [← hpart, List.drop_drop]
theorem Holds.cutB {A : Option Addr} {c t : Nat} {l : List UInt8} (H : Holds s (BO t (.slice A n c) l :: F) w) (hn : n = l.length) {lo hi : Nat} (h1 : lo ≤ hi) (h2 : hi ≤ n) :
    Holds s (BO t (.slice (cutAddr A lo c 1) (hi - lo) (c - lo)) ((l.drop lo).take (hi - lo)) :: F) w := by
  subst hn
  have := Holds.cutO H h1 h2
  simp only [Nat.mul_one] at this
  rw [bcs_drop, bcs_take] at this
  have hl : ((l.drop lo).take (hi - lo)).length = hi - lo := by rw [List.length_take, List.length_drop]; omega
  unfold BO
  rw [hl]
  exact this

section
variable {A B C D : Asrt}
theorem Holds.l3 (H : Holds s (A :: B :: C :: F) w) : Holds s (B :: C :: A :: F) w := H.r3.r3
theorem Holds.l4 (H : Holds s (A :: B :: C :: D :: F) w) : Holds s (B :: C :: D :: A :: F) w := H.r4.r4.r4
end
theorem fill_nil (pl : Nat → Option (Nat × Nat)) (z : Array Value) : Instr.fill pl z [] = some z := by rw [Instr.fill]
def fillK (pl : Nat → Option (Nat × Nat)) (o : Option (Nat × Nat)) (v z : Array Value) (r : List (Nat × Value)) : Option (Array Value) :=
  match o with
  | none => none
  | some (off, size) => if v.size = size ∧ off + v.size ≤ z.size then Instr.fill pl (lay z off v.toList) r else none
@[congr] theorem fillK_congr {pl : Nat → Option (Nat × Nat)} {o o' : Option (Nat × Nat)} {v v' z z' : Array Value} {r r' : List (Nat × Value)} (ho : o = o') (hv : v = v') (hz : z = z') (hr : r = r') : fillK pl o v z r = fillK pl o' v' z' r' := by rw [ho, hv, hz, hr]
theorem fill_cons (pl : Nat → Option (Nat × Nat)) (z : Array Value) (i : Nat) (v : Value) (r : List (Nat × Value)) : Instr.fill pl z ((i, v) :: r) = fillK pl (pl i) v.cells z r := by
  rw [Instr.fill]
  cases pl i with
  | none => rfl
  | some p =>
    obtain ⟨off, size⟩ := p
    simp only [fillK]
    by_cases h : v.cells.size = size ∧ off + v.cells.size ≤ z.size
    · rw [if_pos h, if_neg (by simp; omega)]
      congr 1
      obtain ⟨l⟩ := v.cells
      simp [lay]
    · rw [if_neg h, if_pos (by simp; omega)]
theorem fillK_some (pl : Nat → Option (Nat × Nat)) (off n : Nat) (v z : Array Value) (r : List (Nat × Value)) : fillK pl (some (off, n)) v z r = if v.size = n ∧ off + v.size ≤ z.size then Instr.fill pl (lay z off v.toList) r else none := Eq.trans rfl rfl
theorem cells_int (k : IntKind) (n : Int) : (Value.int k n).cells = #[.int k n] := Eq.trans rfl rfl
theorem cells_bool (n : Bool) : (Value.bool n).cells = #[.bool n] := Eq.trans rfl rfl
theorem cells_string (n : ByteArray) : (Value.string n).cells = #[.string n] := Eq.trans rfl rfl
theorem cells_slice (a : Option Addr) (n c : Nat) : (Value.slice a n c).cells = #[.slice a n c] := Eq.trans rfl rfl
theorem cells_pointer (a : Option Addr) : (Value.pointer a).cells = #[.pointer a] := Eq.trans rfl rfl
theorem cells_map (a : Option Nat) : (Value.map a).cells = #[.map a] := Eq.trans rfl rfl
theorem cells_agg (a : Array Value) : (Value.agg a).cells = a := Eq.trans rfl rfl
theorem lay_nil (z : Array Value) (o : Nat) : lay z o [] = z := by simp [lay]
theorem lay_cons (z : List Value) (o : Nat) (v : Value) (vs : List Value) : lay z.toArray o (v :: vs) = lay (z.set o v).toArray (o + 1) vs := by
  simp only [lay, List.zipIdx_cons, List.foldl_cons, Nat.add_zero, Nat.zero_add]
  rw [List.zipIdx_eq_map_add]
  simp only [List.foldl_map]
  congr 1
  · funext c p
    rw [show o + 1 + p.2 = o + (1 + p.2) from by omega, Nat.add_comm 1 p.2]
  · simp
theorem lay_one (z : List Value) (o : Nat) (v : Value) : lay z.toArray o [v] = (z.set o v).toArray := by simp [lay]

theorem Holds.start (W : World) : Holds ⟨W.heap.size, W⟩ [] W := ⟨RowKit.Below.refl _ _, Nat.le_refl _, fun _ => none, fun _ _ e => (by cases e), trivial⟩
theorem Holds.cells {b t : Nat} {l : List Value} (H : Holds s (Blk b t l.toArray :: F) w) : CellsAt w ⟨b, 0, none⟩ l := fun i u hu => by
  rw [Addr.add_lit, Nat.zero_add, H.cell]
  simpa using hu
theorem big_perm {l l' : List Asrt} (hp : l.Perm l') : ∀ h, big l h → big l' h := by
  induction hp with
  | nil => exact fun h x => x
  | cons A _ ih => exact fun h x => star_mono2 ih x
  | swap A B l => exact fun h x => star_comm2 x
  | trans _ _ ih1 ih2 => exact fun h x => ih2 h (ih1 h x)
theorem big_app {l : List Asrt} : ∀ {l' : List Asrt} {h : Hp}, big (l' ++ l) h → big l' h := by
  intro l'
  induction l' with
  | nil => exact fun _ => trivial
  | cons A l' ih => exact fun x => star_mono2 (fun _ y => ih y) x
/-- Some of what holds, by their places. -/
theorem Holds.get {l l' : List Asrt} (H : Holds s l w) (is : List Nat) (hp : (is ++ (List.range l.length).filter (fun i => !is.contains i)).isPerm (List.range l.length) = true := by rfl)
    (hl : is.map (fun i => l.getD i (fun _ => True)) = l' := by rfl) : Holds s l' w := by
  subst hl
  refine H.map fun h hb => ?_
  have hl : l = (List.range l.length).map (fun i => l.getD i (fun _ => True)) := by
    refine List.ext_getElem (by simp) fun i h1 h2 => ?_
    simp [h1]
  rw [hl] at hb
  have := big_perm (((List.isPerm_iff.1 hp).map (fun i => l.getD i (fun _ => True))).symm) h hb
  rw [List.map_append] at this
  exact big_app this
end
-- short names
section
theorem z00 : type_of% @den_skip := @den_skip
theorem z01 : type_of% @den_ops := @den_ops
theorem z02 : type_of% @den_draw := @den_draw
theorem z03 : type_of% @den_seq := @den_seq
theorem z04 : type_of% @den_cond := @den_cond
theorem z05 : type_of% @condK_bool := @condK_bool
theorem z06 : type_of% @den_block := @den_block
theorem z07 : type_of% @den_exit := @den_exit
theorem z08 : type_of% @den_ret := @den_ret
theorem z09 : type_of% @den_loop := @den_loop
theorem z10 : type_of% @seqK_normal := @seqK_normal
theorem z11 : type_of% @seqK_exit := @seqK_exit
theorem z12 : type_of% @seqK_ret := @seqK_ret
theorem z13 : type_of% @seqK_normal' := @seqK_normal'
theorem z14 : type_of% @blkK_normal := @blkK_normal
theorem z15 : type_of% @blkK_exit := @blkK_exit
theorem z16 : type_of% @blkK_ret := @blkK_ret
theorem z17 : type_of% @lpK_exit := @lpK_exit
theorem z18 : type_of% @lpK_ret := @lpK_ret
theorem z19 : type_of% @evo_tmp := @evo_tmp
theorem z20 : type_of% @evo_const := @evo_const
theorem z21 : type_of% @evo_func := @evo_func
theorem z22 : type_of% @evo_global := @evo_global
theorem z23 : type_of% @wantedE_none := @wantedE_none
theorem z24 : type_of% @wantedE_some := @wantedE_some
theorem z25 : type_of% @wB_bool := @wB_bool
theorem z26 : type_of% @wB_undef := @wB_undef
theorem z27 : type_of% @iniE_nil := @iniE_nil
theorem z28 : type_of% @iniE_cons := @iniE_cons
theorem z29 : type_of% @retQ_ret := @retQ_ret
theorem z30 : type_of% @retQ_normal := @retQ_normal
theorem z31 : type_of% @resV_nil := @resV_nil
theorem z32 : type_of% @resV_t := @resV_t
theorem z33 : type_of% @pack_one := @pack_one
theorem z34 : type_of% @pack_nil := @pack_nil
theorem z35 : type_of% @pack_two := @pack_two
theorem z36 : type_of% @pack_three := @pack_three
theorem z37 : type_of% @pack_four := @pack_four
theorem z38 : type_of% @denOps_nil' := @denOps_nil'
theorem z39 : type_of% @denOps_cons' := @denOps_cons'
theorem z40 : type_of% @opsK_app' := @opsK_app'
theorem z41 : type_of% @denS_done := @denS_done
theorem z42 : type_of% @denS_stop := @denS_stop
theorem z43 : type_of% @sK_app := @sK_app
theorem z44 : type_of% @aK_app := @aK_app
theorem z45 : type_of% @denS_pu := @denS_pu
theorem z46 : type_of% @denS_fl := @denS_fl
theorem z47 : type_of% @denS_act := @denS_act
theorem z48 : type_of% @puK_some := @puK_some
theorem z49 : type_of% @atK_some := @atK_some
theorem z50 : type_of% @flK_some := @flK_some
theorem z51 : type_of% @fldK_load1 := @fldK_load1
theorem z52 : type_of% @fldK_loadN := @fldK_loadN
theorem z53 : type_of% @lfK_some := @lfK_some
theorem z54 : type_of% @keepC_nil := @keepC_nil
theorem z55 : type_of% @keepC_cons := @keepC_cons
theorem z56 : type_of% @holdAll_nil := @holdAll_nil
theorem z57 : type_of% @holdAll_cons := @holdAll_cons
theorem z58 : type_of% @mixR_nil := @mixR_nil
theorem z59 : type_of% @mixR_cons := @mixR_cons
theorem z60 : type_of% @upd_app' := @upd_app'
theorem z61 : type_of% @pureK_some := @pureK_some
theorem z62 : type_of% @pureK_none := @pureK_none
theorem z63 : type_of% @pureK_ite := @pureK_ite
theorem z64 : type_of% @pureK_ite' := @pureK_ite'
theorem z65 : type_of% @ldK_some := @ldK_some
theorem z66 : type_of% @World.cell?_drew := @World.cell?_drew
theorem z67 : type_of% @denV_p := @denV_p
theorem z68 : type_of% @denV_load1 := @denV_load1
theorem z69 : type_of% @denV_loadN := @denV_loadN
theorem z70 : type_of% @denV_store1 := @denV_store1
theorem z71 : type_of% @denV_storeN := @denV_storeN
theorem z72 : type_of% @denV_alloc := @denV_alloc
theorem z73 : type_of% @denV_box := @denV_box
theorem z74 : type_of% @denV_bldSl := @denV_bldSl
theorem z75 : type_of% @denV_mkS := @denV_mkS
theorem z76 : type_of% @denV_app := @denV_app
theorem z77 : type_of% @denV_cpy := @denV_cpy
theorem z78 : type_of% @denV_b2s := @denV_b2s
theorem z79 : type_of% @denV_s2b := @denV_s2b
theorem z80 : type_of% @denV_mark := @denV_mark
theorem z81 : type_of% @denV_eqv := @denV_eqv
theorem z82 : type_of% @denV_call := @denV_call
theorem z83 : type_of% @denV_callv := @denV_callv
theorem z84 : type_of% @denV_raw := @denV_raw
theorem z85 : type_of% @pureV_bldS := @pureV_bldS
theorem z86 : type_of% @pureV_bldA := @pureV_bldA
theorem z87 : type_of% @fill_nil := @fill_nil
theorem z88 : type_of% @fill_cons := @fill_cons
theorem z89 : type_of% @fillK_some := @fillK_some
theorem z90 : type_of% @cells_int := @cells_int
theorem z91 : type_of% @cells_bool := @cells_bool
theorem z92 : type_of% @cells_string := @cells_string
theorem z93 : type_of% @cells_slice := @cells_slice
theorem z94 : type_of% @cells_pointer := @cells_pointer
theorem z95 : type_of% @cells_map := @cells_map
theorem z96 : type_of% @cells_agg := @cells_agg
theorem z97 : type_of% @lay_nil := @lay_nil
theorem z98 : type_of% @lay_cons := @lay_cons
theorem z99 : type_of% @pureV_mv := @pureV_mv
theorem y00 : type_of% @pureV_pick := @pureV_pick
theorem y01 : type_of% @pureV_nilchk := @pureV_nilchk
theorem y02 : type_of% @pureV_isnil := @pureV_isnil
theorem y03 : type_of% @pureV_isnilN := @pureV_isnilN
theorem y04 : type_of% @pureV_add := @pureV_add
theorem y05 : type_of% @pureV_sub := @pureV_sub
theorem y06 : type_of% @pureV_mul := @pureV_mul
theorem y07 : type_of% @pureV_quo := @pureV_quo
theorem y08 : type_of% @pureV_rem := @pureV_rem
theorem y09 : type_of% @pureV_and := @pureV_and
theorem y10 : type_of% @pureV_or := @pureV_or
theorem y11 : type_of% @pureV_xor := @pureV_xor
theorem y12 : type_of% @pureV_shl := @pureV_shl
theorem y13 : type_of% @pureV_shr := @pureV_shr
theorem y14 : type_of% @pureV_eql := @pureV_eql
theorem y15 : type_of% @pureV_neq := @pureV_neq
theorem y16 : type_of% @pureV_lss := @pureV_lss
theorem y17 : type_of% @pureV_leq := @pureV_leq
theorem y18 : type_of% @pureV_gtr := @pureV_gtr
theorem y19 : type_of% @pureV_geq := @pureV_geq
theorem y20 : type_of% @pureV_beq := @pureV_beq
theorem y21 : type_of% @pureV_bne := @pureV_bne
theorem y22 : type_of% @pureV_seq := @pureV_seq
theorem y23 : type_of% @pureV_sne := @pureV_sne
theorem y24 : type_of% @pureV_sadd := @pureV_sadd
theorem y25 : type_of% @pureV_not := @pureV_not
theorem y26 : type_of% @pureV_inv := @pureV_inv
theorem y27 : type_of% @pureV_conv := @pureV_conv
theorem y28 : type_of% @pureV_faddr := @pureV_faddr
theorem y29 : type_of% @pureV_iaddrS := @pureV_iaddrS
theorem y30 : type_of% @pureV_iaddrA := @pureV_iaddrA
theorem y31 : type_of% @pureV_fld1 := @pureV_fld1
theorem y32 : type_of% @pureV_fldN := @pureV_fldN
theorem y33 : type_of% @pureV_idxA1 := @pureV_idxA1
theorem y34 : type_of% @pureV_idxAN := @pureV_idxAN
theorem y35 : type_of% @pureV_ext := @pureV_ext
theorem y36 : type_of% @pureV_lenS := @pureV_lenS
theorem y37 : type_of% @pureV_lenStr := @pureV_lenStr
theorem y38 : type_of% @pureV_lenK := @pureV_lenK
theorem y39 : type_of% @pureV_strid := @pureV_strid
theorem y40 : type_of% @pureV_toArr := @pureV_toArr
theorem y41 : type_of% @pureV_min := @pureV_min
theorem y42 : type_of% @pureV_max := @pureV_max
theorem y43 : type_of% @pureV_cutS00 := @pureV_cutS00
theorem y44 : type_of% @pureV_cutS10 := @pureV_cutS10
theorem y45 : type_of% @pureV_cutS01 := @pureV_cutS01
theorem y46 : type_of% @pureV_cutS11 := @pureV_cutS11
theorem y47 : type_of% @pureV_cutA00 := @pureV_cutA00
theorem y48 : type_of% @pureV_cutA10 := @pureV_cutA10
theorem y49 : type_of% @pureV_cutA01 := @pureV_cutA01
theorem y50 : type_of% @pureV_cutStr01 := @pureV_cutStr01
theorem y51 : type_of% @pureV_cutStr10 := @pureV_cutStr10
theorem y52 : type_of% @zipIx_nil := @zipIx_nil
theorem y54 : type_of% @pureV_isnilS := @pureV_isnilS
theorem y55 : type_of% @pureV_isnilSN := @pureV_isnilSN
theorem y53 : type_of% @zipIx_cons := @zipIx_cons
end
end Go.Proofs.Ytgebiedochlhmaa
