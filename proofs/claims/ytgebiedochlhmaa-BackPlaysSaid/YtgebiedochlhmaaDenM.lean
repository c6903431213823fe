/- The equations by which a typed form is walked, and the shapes at which the walk stops. -/
import Derived.Test.YtgebiedochlhmaaDenL
set_option linter.unusedVariables false
set_option linter.unusedSimpArgs false
namespace Go.Proofs.Ytgebiedochlhmaa
section
variable {P : Program} {E : Env} {w : World} {K : Kn} {Q : QT}

/-! shapes at which the walk stops -/
def pureK (o : Option Value) (K : Kn) (w : World) : Prop := ∃ v, o = some v ∧ K v w
theorem pureK_some (v : Value) : pureK (some v) K w = K v w := by simp [pureK]
theorem pureK_none : pureK none K w = False := by simp [pureK]
theorem pureK_ite (c : Prop) [Decidable c] (x : Option Value) : pureK (if c then x else none) K w = (c ∧ pureK x K w) := by
  by_cases h : c <;> simp [h, pureK]
theorem pureK_ite' (c : Prop) [Decidable c] (x : Option Value) : pureK (if c then none else x) K w = (¬ c ∧ pureK x K w) := by
  by_cases h : c <;> simp [h, pureK]
@[congr] theorem pureK_congr {o o' : Option Value} (h : o = o') : pureK o K w = pureK o' K w := by rw [h]
def ldK (o : Option Value) (K : Kn) (w : World) : Prop := ∃ v, o = some v ∧ K v w
theorem ldK_some (v : Value) : ldK (some v) K w = K v w := by simp [ldK]
@[congr] theorem ldK_congr {o o' : Option Value} (h : o = o') : ldK o K w = ldK o' K w := by rw [h]
def ldNK (n : Nat) (a : Addr) (K : Kn) (w : World) : Prop := ∃ cs : List Value, cs.length = n ∧ CellsAt w a cs ∧ K (.agg cs.toArray) w
theorem ldNK_of {n : Nat} {a : Addr} {cs : List Value} (hn : cs.length = n) (h : CellsAt w a cs) : ldNK n a K w = K (.agg cs.toArray) w := by
  apply propext
  constructor
  · rintro ⟨cs', hn', h', hk⟩
    have : cs' = cs := by
      apply List.ext_getElem (by omega)
      intro i h1 h2
      have e1 := h' i _ (List.getElem?_eq_getElem h1)
      have e2 := h i _ (List.getElem?_eq_getElem h2)
      rw [e1] at e2
      simpa using e2
    subst this
    exact hk
  · intro hk
    exact ⟨cs, hn, h, hk⟩
@[congr] theorem ldNK_congr {n : Nat} {a a' : Addr} (h : a = a') : ldNK n a K w = ldNK n a' K w := by rw [h]
def stK (a : Addr) (v : Value) (K : Kn) (w : World) : Prop := eStore1 w K [.pointer (some a), v]
@[congr] theorem stK_congr {a a' : Addr} {v v' : Value} (h : a = a') (hv : v = v') : stK a v K w = stK a' v' K w := by rw [h, hv]
def stNK (P : Program) (n : Nat) (a : Addr) (cs : Array Value) (K : Kn) (w : World) : Prop := eStoreN P n w K [.pointer (some a), .agg cs]
@[congr] theorem stNK_congr {n : Nat} {a a' : Addr} {cs cs' : Array Value} (h : a = a') (hv : cs = cs') : stNK P n a cs K w = stNK P n a' cs' K w := by rw [h, hv]
def alK (e : TypeId) (cs : Array Value) (K : Kn) (w : World) : Prop := K (.pointer (some ⟨w.heap.size, 0, none⟩)) (w.alloc (.cells cs e))
@[congr] theorem alK_congr {e : TypeId} {cs cs' : Array Value} (h : cs = cs') : alK e cs K w = alK e cs' K w := by rw [h]
/-- A new slice, of cells that are told. -/
def nslK (e : TypeId) (len : Nat) (cs : Option (Array Value)) (K : Kn) (w : World) : Prop := ∃ c, cs = some c ∧ K (.slice (some ⟨w.heap.size, 0, none⟩) len len) (w.alloc (.cells c e))
@[congr] theorem nslK_congr {e : TypeId} {len : Nat} {cs cs' : Option (Array Value)} (h : cs = cs') : nslK e len cs K w = nslK e len cs' K w := by rw [h]
def mkSK (e : TypeId) (bytes sz : Nat) (zero : Array Value) (n c : Int) (K : Kn) (w : World) : Prop := eMkS e bytes sz zero w K [.int .i64 n, .int .i64 c]
@[congr] theorem mkSK_congr {e : TypeId} {b s : Nat} {z : Array Value} {n n' c c' : Int} (h : n = n') (h2 : c = c') : mkSK e b s z n c K w = mkSK e b s z n' c' K w := by rw [h, h2]
def appK (P : Program) (t e : TypeId) (sz bytes : Nat) (s x : Value) (K : Kn) (w : World) : Prop := runsV P (Builtin.append_ #[t, t] t #[s, x]) w K
@[congr] theorem appK_congr {t e : TypeId} {sz bytes : Nat} {s s' x x' : Value} (h : s = s') (h2 : x = x') : appK P t e sz bytes s x K w = appK P t e sz bytes s' x' K w := by rw [h, h2]
def cpyK (P : Program) (t : TypeId) (sz : Nat) (s x : Value) (K : Kn) (w : World) : Prop := runsV P (Builtin.copy_ #[t, t] 3 #[s, x]) w K
@[congr] theorem cpyK_congr {t : TypeId} {sz : Nat} {s s' x x' : Value} (h : s = s') (h2 : x = x') : cpyK P t sz s x K w = cpyK P t sz s' x' K w := by rw [h, h2]
def b2sK (P : Program) (x : Value) (K : Kn) (w : World) : Prop := eB2s P w K [x]
@[congr] theorem b2sK_congr {x x' : Value} (h : x = x') : b2sK P x K w = b2sK P x' K w := by rw [h]
def s2bK (P : Program) (e : TypeId) (x : Value) (K : Kn) (w : World) : Prop := eS2b P e w K [x]
@[congr] theorem s2bK_congr {e : TypeId} {x x' : Value} (h : x = x') : s2bK P e x K w = s2bK P e x' K w := by rw [h]
def markK (P : Program) (x : Value) (K : Kn) (w : World) : Prop := eMark P w K [x]
@[congr] theorem markK_congr {x x' : Value} (h : x = x') : markK P x K w = markK P x' K w := by rw [h]
def eqvK (P : Program) (neg : Bool) (t : TypeId) (x y : Value) (K : Kn) (w : World) : Prop := ∃ b, (Op.equal t x y).run P w = .ok b w ∧ K (.bool (if neg then !b else b)) w
@[congr] theorem eqvK_congr {neg : Bool} {t : TypeId} {x x' y y' : Value} (h : x = x') (h2 : y = y') : eqvK P neg t x y K w = eqvK P neg t x' y' K w := by rw [h, h2]
def callK (P : Program) (f : FuncId) (vs : List Value) (K : Kn) (w : World) : Prop := Calls P f vs.toArray w fun e w' => ∃ v, e = .returned v ∧ K v w'
@[congr] theorem callK_congr {f : FuncId} {vs vs' : List Value} (h : vs = vs') : callK P f vs K w = callK P f vs' K w := by rw [h]
theorem callK_of {f : FuncId} {vs : List Value} {R : Ending → World → Prop} (h : Calls P f vs.toArray w R) (hK : ∀ e w', R e w' → ∃ v, e = .returned v ∧ K v w') : callK P f vs K w := h.mono hK
def callvK (P : Program) (vs : List Value) (K : Kn) (w : World) : Prop := eCallv P w K vs
@[congr] theorem callvK_congr {vs vs' : List Value} (h : vs = vs') : callvK P vs K w = callvK P vs' K w := by rw [h]
def rawK (P : Program) (op : Op) (ty : TypeId) (vs : List Value) (K : Kn) (w : World) : Prop := denV P (.raw op ty) vs w K
@[congr] theorem rawK_congr {op : Op} {ty : TypeId} {vs vs' : List Value} (h : vs = vs') : rawK P op ty vs K w = rawK P op ty vs' K w := by rw [h]

theorem denV_p (op : POp) (vs : List Value) : denV P (.p op) vs w K = pureK (pureV op vs) K w := Eq.trans rfl rfl
theorem denV_load1 (a : Addr) : denV P .load1 [.pointer (some a)] w K = ldK (w.cell? a) K w := Eq.trans rfl rfl
theorem denV_loadN (n : Nat) (a : Addr) : denV P (.loadN n) [.pointer (some a)] w K = ldNK n a K w := Eq.trans rfl rfl
theorem denV_store1 (a : Addr) (v : Value) : denV P .store1 [.pointer (some a), v] w K = stK a v K w := Eq.trans rfl rfl
theorem denV_storeN (n : Nat) (a : Addr) (cs : Array Value) : denV P (.storeN n) [.pointer (some a), .agg cs] w K = stNK P n a cs K w := Eq.trans rfl rfl
theorem denV_alloc (e : TypeId) (z : Array Value) (vs : List Value) : denV P (.alloc e z) vs w K = alK e z K w := Eq.trans rfl rfl
theorem denV_box (e : TypeId) (v : Value) : denV P (.box e) [v] w K = alK e v.cells K w := Eq.trans rfl rfl
theorem denV_bldSl (e : TypeId) (len sz : Nat) (z : Array Value) (ix : List Nat) (vs : List Value) : denV P (.bldSl e len sz z ix) vs w K = nslK e len (Instr.fill (fun i => some (i * sz, sz)) z (zipIx ix vs)) K w := Eq.trans rfl rfl
theorem denV_mkS (e : TypeId) (b s : Nat) (z : Array Value) (n c : Int) : denV P (.mkS e b s z) [.int .i64 n, .int .i64 c] w K = mkSK e b s z n c K w := Eq.trans rfl rfl
theorem denV_app (t e : TypeId) (s b : Nat) (z : Array Value) (x y : Value) : denV P (.app t e s b z) [x, y] w K = appK P t e s b x y K w := Eq.trans rfl rfl
theorem denV_cpy (t : TypeId) (s : Nat) (x y : Value) : denV P (.cpy t s) [x, y] w K = cpyK P t s x y K w := Eq.trans rfl rfl
theorem denV_b2s (x : Value) : denV P .b2s [x] w K = b2sK P x K w := Eq.trans rfl rfl
theorem denV_s2b (e : TypeId) (x : Value) : denV P (.s2b e) [x] w K = s2bK P e x K w := Eq.trans rfl rfl
theorem denV_mark (x : Value) : denV P .mark [x] w K = markK P x K w := Eq.trans rfl rfl
theorem denV_eqv (neg : Bool) (t : TypeId) (x y : Value) : denV P (.eqv neg t) [x, y] w K = eqvK P neg t x y K w := Eq.trans rfl rfl
theorem denV_call (f : FuncId) (vs : List Value) : denV P (.call f) vs w K = callK P f vs K w := Eq.trans rfl rfl
theorem denV_callv (vs : List Value) : denV P .callv vs w K = callvK P vs K w := Eq.trans rfl rfl
theorem denV_raw (op : Op) (ty : TypeId) (vs : List Value) : denV P (.raw op ty) vs w K = rawK P op ty vs K w := Eq.trans rfl rfl

/-! values -/
theorem pureV_mv (x : Value) : pureV .mv [x] = some x := Eq.trans rfl rfl
theorem pureV_pick (c : Bool) (a b : Value) : pureV .pick [.bool c, a, b] = some (if c = true then a else b) := Eq.trans rfl rfl
theorem pureV_nilchk (a : Addr) : pureV .nilchk [.pointer (some a)] = some (.pointer (some a)) := Eq.trans rfl rfl
theorem pureV_isnil (a : Option Addr) : pureV (.isnil false) [.pointer a, .pointer none] = some (.bool a.isNone) := Eq.trans rfl rfl
theorem pureV_isnilS (a : Option Addr) (n c : Nat) : pureV (.isnil false) [.slice a n c, .slice none 0 0] = some (.bool a.isNone) := Eq.trans rfl rfl
theorem pureV_isnilSN (a : Option Addr) (n c : Nat) : pureV (.isnil true) [.slice a n c, .slice none 0 0] = some (.bool !a.isNone) := Eq.trans rfl rfl
theorem pureV_isnilN (a : Option Addr) : pureV (.isnil true) [.pointer a, .pointer none] = some (.bool !a.isNone) := Eq.trans rfl rfl
theorem pureV_add (k : IntKind) (a b : Int) : pureV (.bin .add) [.int k a, .int k b] = some (.int k (k.wrap (a + b))) := by simp [pureV, fBin, binI]
theorem pureV_sub (k : IntKind) (a b : Int) : pureV (.bin .sub) [.int k a, .int k b] = some (.int k (k.wrap (a - b))) := by simp [pureV, fBin, binI]
theorem pureV_mul (k : IntKind) (a b : Int) : pureV (.bin .mul) [.int k a, .int k b] = some (.int k (k.wrap (a * b))) := by simp [pureV, fBin, binI]
theorem pureV_quo (k : IntKind) (a b : Int) : pureV (.bin .quo) [.int k a, .int k b] = if b = 0 then none else some (.int k (k.wrap (a.tdiv b))) := by simp [pureV, fBin, binI]
theorem pureV_rem (k : IntKind) (a b : Int) : pureV (.bin .rem) [.int k a, .int k b] = if b = 0 then none else some (.int k (a.tmod b)) := by simp [pureV, fBin, binI]
theorem pureV_and (k : IntKind) (a b : Int) : pureV (.bin .and) [.int k a, .int k b] = some (.int k (bits .and k a b)) := by simp [pureV, fBin, binI]
theorem pureV_or (k : IntKind) (a b : Int) : pureV (.bin .or) [.int k a, .int k b] = some (.int k (bits .or k a b)) := by simp [pureV, fBin, binI]
theorem pureV_xor (k : IntKind) (a b : Int) : pureV (.bin .xor) [.int k a, .int k b] = some (.int k (bits .xor k a b)) := by simp [pureV, fBin, binI]
theorem pureV_shl (k k' : IntKind) (a b : Int) : pureV (.bin .shl) [.int k a, .int k' b] = if b < 0 then none else some (.int k (k.wrap (a * 2 ^ (Nat.min b.toNat k.bits)))) := by simp [pureV, fBin, shiftI]
theorem pureV_shr (k k' : IntKind) (a b : Int) : pureV (.bin .shr) [.int k a, .int k' b] = if b < 0 then none else some (.int k (a.fdiv (2 ^ (Nat.min b.toNat k.bits)))) := by simp [pureV, fBin, shiftI]
theorem pureV_eql (k : IntKind) (a b : Int) : pureV (.cmp .eql) [.int k a, .int k b] = some (.bool (a == b)) := by simp [pureV, fCmp, cmpI]
theorem pureV_neq (k : IntKind) (a b : Int) : pureV (.cmp .neq) [.int k a, .int k b] = some (.bool (a != b)) := by simp [pureV, fCmp, cmpI]
theorem pureV_lss (k : IntKind) (a b : Int) : pureV (.cmp .lss) [.int k a, .int k b] = some (.bool (decide (a < b))) := by simp [pureV, fCmp, cmpI]
theorem pureV_leq (k : IntKind) (a b : Int) : pureV (.cmp .leq) [.int k a, .int k b] = some (.bool (decide (a ≤ b))) := by simp [pureV, fCmp, cmpI]
theorem pureV_gtr (k : IntKind) (a b : Int) : pureV (.cmp .gtr) [.int k a, .int k b] = some (.bool (decide (b < a))) := by simp [pureV, fCmp, cmpI]
theorem pureV_geq (k : IntKind) (a b : Int) : pureV (.cmp .geq) [.int k a, .int k b] = some (.bool (decide (b ≤ a))) := by simp [pureV, fCmp, cmpI]
theorem pureV_beq (a b : Bool) : pureV (.beq false) [.bool a, .bool b] = some (.bool (a == b)) := Eq.trans rfl rfl
theorem pureV_bne (a b : Bool) : pureV (.beq true) [.bool a, .bool b] = some (.bool (a != b)) := Eq.trans rfl rfl
theorem pureV_seq (a b : ByteArray) : pureV (.seq false) [.string a, .string b] = some (.bool (a.toList == b.toList)) := Eq.trans rfl rfl
theorem pureV_sne (a b : ByteArray) : pureV (.seq true) [.string a, .string b] = some (.bool !(a.toList == b.toList)) := Eq.trans rfl rfl
theorem pureV_sadd (a b : ByteArray) : pureV .sadd [.string a, .string b] = if a.size + b.size ≤ 9223372036854775807 then some (.string (a ++ b)) else none := Eq.trans rfl rfl
theorem pureV_not (a : Bool) : pureV .not [.bool a] = some (.bool !a) := Eq.trans rfl rfl
theorem pureV_inv (k : IntKind) (a : Int) : pureV .inv [.int k a] = some (.int k (bits .xor k (if k.signed then -1 else k.max) a)) := Eq.trans rfl rfl
theorem pureV_conv (k k' : IntKind) (a : Int) : pureV (.conv k) [.int k' a] = some (.int k (k.wrap a)) := Eq.trans rfl rfl
theorem pureV_faddr (n : Nat) (b o : Nat) : pureV (.faddr n) [.pointer (some ⟨b, o, none⟩)] = some (.pointer (some ⟨b, o + n, none⟩)) := by
  simp [pureV, fFaddr, Addr.add_lit]
theorem pureV_iaddrS (sz : Nat) (b o : Nat) (n c : Nat) (k : IntKind) (i : Int) : pureV (.iaddrS sz) [.slice (some ⟨b, o, none⟩) n c, .int k i] = if 0 ≤ i ∧ i < n then some (.pointer (some ⟨b, o + i.toNat * sz, none⟩)) else none := by
  simp [pureV, fIaddrS, Addr.add_lit]
theorem pureV_iaddrS' (sz : Nat) (a : Addr) (n c : Nat) (k : IntKind) (i : Int) : pureV (.iaddrS sz) [.slice (some a) n c, .int k i] = if 0 ≤ i ∧ i < n then some (.pointer (some (a.add (i.toNat * sz)))) else none := Eq.trans rfl rfl
theorem pureV_iaddrA (m sz : Nat) (b o : Nat) (k : IntKind) (i : Int) : pureV (.iaddrA m sz) [.pointer (some ⟨b, o, none⟩), .int k i] = if 0 ≤ i ∧ i < m then some (.pointer (some ⟨b, o + i.toNat * sz, none⟩)) else none := by
  simp [pureV, fIaddrA, Addr.add_lit]
theorem pureV_fld1 (off : Nat) (cs : Array Value) : pureV (.fld1 off) [.agg cs] = cs[off]? := Eq.trans rfl rfl
theorem pureV_fldN (off n : Nat) (cs : Array Value) : pureV (.fldN off n) [.agg cs] = some (.agg (cs.extract off (off + n))) := Eq.trans rfl rfl
theorem pureV_idxA1 (n : Nat) (cs : Array Value) (k : IntKind) (i : Int) : pureV (.idxA1 n) [.agg cs, .int k i] = if 0 ≤ i ∧ i < n then cs[i.toNat]? else none := Eq.trans rfl rfl
theorem pureV_idxAN (n sz : Nat) (cs : Array Value) (k : IntKind) (i : Int) : pureV (.idxAN n sz) [.agg cs, .int k i] = if 0 ≤ i ∧ i < n then some (.agg (cs.extract (i.toNat * sz) (i.toNat * sz + sz))) else none := Eq.trans rfl rfl
theorem pureV_ext (i : Nat) (vs : Array Value) : pureV (.ext i) [.tuple vs] = vs[i]? := Eq.trans rfl rfl
theorem pureV_lenS (a : Option Addr) (n c : Nat) : pureV .lenS [.slice a n c] = some (.int .i64 n) := Eq.trans rfl rfl
theorem pureV_lenStr (s : ByteArray) : pureV .lenStr [.string s] = some (.int .i64 s.size) := Eq.trans rfl rfl
theorem pureV_lenK (n : Nat) (x : Value) : pureV (.lenK n) [x] = some (.int .i64 n) := Eq.trans rfl rfl
theorem pureV_strid (s : ByteArray) : pureV .strid [.string s] = some (.string s) := Eq.trans rfl rfl
theorem pureV_toArr (n : Nat) (a : Option Addr) (len c : Nat) : pureV (.toArr n) [.slice a len c] = if n ≤ len then some (.pointer a) else none := Eq.trans rfl rfl
theorem pureV_min (k k' : IntKind) (x y : Int) : pureV .min [.int k x, .int k' y] = some (.int k (if y < x then y else x)) := Eq.trans rfl rfl
theorem pureV_max (k k' : IntKind) (x y : Int) : pureV .max [.int k x, .int k' y] = some (.int k (if x < y then y else x)) := Eq.trans rfl rfl
theorem pureV_cutS00 (sz : Nat) (a : Option Addr) (n c : Nat) : pureV (.cutS sz false false false) [.slice a n c] = some (.slice (cutAddr a 0 c sz) n c) := Eq.trans rfl rfl
theorem pureV_cutS10 (sz : Nat) (a : Option Addr) (n c : Nat) (k : IntKind) (l : Int) : pureV (.cutS sz true false false) [.slice a n c, .int k l] = if 0 ≤ l ∧ l ≤ n then some (.slice (cutAddr a l.toNat c sz) (n - l.toNat) (c - l.toNat)) else none := by
  simp only [pureV, fCutS, bnds]; split <;> rfl
theorem pureV_cutS01 (sz : Nat) (a : Option Addr) (n c : Nat) (k : IntKind) (h : Int) : pureV (.cutS sz false true false) [.slice a n c, .int k h] = if 0 ≤ h ∧ h ≤ c then some (.slice (cutAddr a 0 c sz) h.toNat c) else none := by
  simp only [pureV, fCutS, bnds]; split <;> rfl
theorem pureV_cutS11 (sz : Nat) (a : Option Addr) (n c : Nat) (k k' : IntKind) (l h : Int) : pureV (.cutS sz true true false) [.slice a n c, .int k l, .int k' h] = if 0 ≤ h ∧ h ≤ c ∧ 0 ≤ l ∧ l ≤ h then some (.slice (cutAddr a l.toNat c sz) (h.toNat - l.toNat) (c - l.toNat)) else none := by
  simp only [pureV, fCutS, bnds]; split <;> rfl
theorem pureV_cutA00 (m sz : Nat) (a : Addr) : pureV (.cutA m sz false false false) [.pointer (some a)] = some (.slice (cutAddr (some a) 0 m sz) m m) := Eq.trans rfl rfl
theorem pureV_cutA10 (m sz : Nat) (a : Addr) (k : IntKind) (l : Int) : pureV (.cutA m sz true false false) [.pointer (some a), .int k l] = if 0 ≤ l ∧ l ≤ m then some (.slice (cutAddr (some a) l.toNat m sz) (m - l.toNat) (m - l.toNat)) else none := by
  simp only [pureV, fCutA, bnds]; split <;> rfl
theorem pureV_cutA01 (m sz : Nat) (a : Addr) (k : IntKind) (h : Int) : pureV (.cutA m sz false true false) [.pointer (some a), .int k h] = if 0 ≤ h ∧ h ≤ m then some (.slice (cutAddr (some a) 0 m sz) h.toNat m) else none := by
  simp only [pureV, fCutA, bnds]; split <;> rfl
theorem pureV_cutStr01 (s : ByteArray) (k : IntKind) (h : Int) : pureV (.cutStr false true) [.string s, .int k h] = if 0 ≤ h ∧ h ≤ s.size then some (.string (s.extract 0 h.toNat)) else none := by
  simp only [pureV, fCutStr, bnds]; split <;> rfl
theorem pureV_cutStr10 (s : ByteArray) (k : IntKind) (l : Int) : pureV (.cutStr true false) [.string s, .int k l] = if 0 ≤ l ∧ l ≤ s.size then some (.string (s.extract l.toNat s.size)) else none := by
  simp only [pureV, fCutStr, bnds]; split <;> rfl
theorem pureV_bldS (z : Array Value) (pl : Array (Nat × Nat)) (ix : List Nat) (vs : List Value) : pureV (.bldS z pl ix) vs = (Instr.fill (pl[·]?) z (zipIx ix vs)).map .agg := Eq.trans rfl rfl
theorem pureV_bldA (z : Array Value) (sz : Nat) (ix : List Nat) (vs : List Value) : pureV (.bldA z sz ix) vs = (Instr.fill (fun i => some (i * sz, sz)) z (zipIx ix vs)).map .agg := Eq.trans rfl rfl
theorem zipIx_nil (vs : List Value) : zipIx [] vs = [] := by cases vs <;> rfl
theorem zipIx_cons (i : Nat) (is : List Nat) (v : Value) (vs : List Value) : zipIx (i :: is) (v :: vs) = (i, v) :: zipIx is vs := Eq.trans rfl rfl

/-! code -/
@[congr] theorem den_congr {c : Cmd} {E' : Env} {w' : World} (hE : E = E') (hw : w = w') : den P c Q E w = den P c Q E' w' := by rw [hE, hw]
@[congr] theorem denOps_congr {l : List TO} {q : Env → World → Prop} {E' : Env} {w' : World} (hE : E = E') (hw : w = w') : denOps P l q E w = denOps P l q E' w' := by rw [hE, hw]
@[congr] theorem denS_congr {l : List TO} {q : Env → World → Prop} {s : Sch} {T : Conds} {E' : Env} {w' : World} (hE : E = E') (hw : w = w') : denS P l q s T E w = denS P l q s T E' w' := by rw [hE, hw]
@[congr] theorem denV_congr {t : TOp} {vs vs' : List Value} {w' : World} (hv : vs = vs') (hw : w = w') : denV P t vs w K = denV P t vs' w' K := by rw [hv, hw]
theorem den_skip : den P .skip Q E w = Q .normal E w := Eq.trans rfl rfl
theorem den_ops (l : List TO) : den P (.ops l) Q E w = denOps P l (Q .normal) E w := Eq.trans rfl rfl
theorem den_draw (l : List TO) (s : Sch) : den P (.draw l s) Q E w = denS P l (Q .normal) s [] E w.drew := Eq.trans rfl rfl
theorem den_seq (a b : Cmd) : den P (.seq a b) Q E w = den P a (seqK (den P b Q) Q) E w := Eq.trans rfl rfl
def condK (P : Program) (c : Value) (a b : Cmd) (Q : QT) (E : Env) (w : World) : Prop := ∃ t, c = .bool t ∧ if t = true then den P a Q E w else den P b Q E w
@[congr] theorem condK_congr {c c' : Value} {a b : Cmd} (h : c = c') : condK P c a b Q E w = condK P c' a b Q E w := by rw [h]
theorem den_cond (c : Operand) (a b : Cmd) : den P (.cond c a b) Q E w = condK P (evo E c) a b Q E w := Eq.trans rfl rfl
theorem condK_bool (t : Bool) (a b : Cmd) : condK P (.bool t) a b Q E w = if t = true then den P a Q E w else den P b Q E w := by simp [condK]
theorem den_block (id : Nat) (a : Cmd) : den P (.block id a) Q E w = den P a (blkK id Q) E w := Eq.trans rfl rfl
theorem den_exit (id : Nat) : den P (.exit id) Q E w = Q (.exit id) E w := Eq.trans rfl rfl
theorem den_ret : den P .ret Q E w = Q .ret E w := Eq.trans rfl rfl
theorem seqK_normal (nx : Env → World → Prop) : seqK nx Q .normal E w = nx E w := Eq.trans rfl rfl
theorem seqK_exit (nx : Env → World → Prop) (i : Nat) : seqK nx Q (.exit i) E w = Q (.exit i) E w := Eq.trans rfl rfl
theorem seqK_ret (nx : Env → World → Prop) : seqK nx Q .ret E w = Q .ret E w := Eq.trans rfl rfl
theorem seqK_normal' (nx : Env → World → Prop) : seqK nx Q .normal = nx := Eq.trans rfl rfl
theorem blkK_normal (id : Nat) : blkK id Q .normal E w = Q .normal E w := Eq.trans rfl rfl
theorem blkK_exit (id i : Nat) : blkK id Q (.exit i) E w = if i = id then Q .normal E w else Q (.exit i) E w := Eq.trans rfl rfl
theorem blkK_ret (id : Nat) : blkK id Q .ret E w = Q .ret E w := Eq.trans rfl rfl
theorem lpK_exit (I : Nat → Env → World → Prop) (k i : Nat) : lpK I k Q (.exit i) E w = Q (.exit i) E w := Eq.trans rfl rfl
theorem lpK_ret (I : Nat → Env → World → Prop) (k : Nat) : lpK I k Q .ret E w = Q .ret E w := Eq.trans rfl rfl
theorem lpK_normal (I : Nat → Env → World → Prop) (k : Nat) : lpK I k Q .normal E w = ∃ k', k' < k ∧ I k' E w := Eq.trans rfl rfl
theorem evo_tmp (t : Nat) : evo E (.tmp t) = E t := Eq.trans rfl rfl
theorem evo_const (v : Value) : evo E (.const v) = v := Eq.trans rfl rfl
theorem evo_func (f : FuncId) : evo E (.func f) = .func (.func f) #[] #[] := Eq.trans rfl rfl
theorem evo_global (g : Nat) : evo E (.global g) = .pointer (some ⟨g, 0, none⟩) := Eq.trans rfl rfl
theorem wantedE_none : wantedE E none = true := Eq.trans rfl rfl
def wB (v : Value) (b : Bool) : Bool := match v with
  | .bool c => c == b
  | _ => false
theorem wantedE_some (s : Nat) (b : Bool) : wantedE E (some (s, b)) = wB (E s) b := Eq.trans rfl rfl
theorem wB_bool (c b : Bool) : wB (.bool c) b = (c == b) := Eq.trans rfl rfl
theorem wB_undef (b : Bool) : wB undef b = false := Eq.trans rfl rfl
theorem iniE_nil (i : Nat) : iniE [] i E = E := Eq.trans rfl rfl
theorem iniE_cons (v : Value) (l : List Value) (i : Nat) : iniE (v :: l) i E = iniE l (i + 1) (upd E (some i) v) := Eq.trans rfl rfl
theorem retQ_ret (rs : List RV) (R : Ending → World → Prop) : retQ rs R .ret E w = resV rs E w fun vs => R (.returned (pack vs)) w := Eq.trans rfl rfl
theorem retQ_normal (rs : List RV) (R : Ending → World → Prop) : retQ rs R .normal E w = resV rs E w fun vs => R (.returned (pack vs)) w := Eq.trans rfl rfl
theorem resV_nil (k : List Value → Prop) : resV [] E w k = k [] := Eq.trans rfl rfl
theorem resV_t (s : Nat) (rs : List RV) (k : List Value → Prop) : resV (.t s :: rs) E w k = resV rs E w fun vs => k (E s :: vs) := Eq.trans rfl rfl
theorem resV_c1 (s : Nat) (rs : List RV) (k : List Value → Prop) : resV (.c1 s :: rs) E w k = cellV (E s) w fun v => resV rs E w fun vs => k (v :: vs) := Eq.trans rfl rfl
theorem resV_cN (s n : Nat) (rs : List RV) (k : List Value → Prop) : resV (.cN s n :: rs) E w k = cellsV n (E s) w fun v => resV rs E w fun vs => k (v :: vs) := Eq.trans rfl rfl
theorem cellsV_of {n : Nat} {a : Addr} {cs : List Value} {k : Value → Prop} (hn : cs.length = n) (h : CellsAt w a cs) : cellsV n (.pointer (some a)) w k = k (.agg cs.toArray) :=
  ldNK_of (K := fun v _ => k v) hn h
theorem pack_one (v : Value) : pack [v] = v := Eq.trans rfl rfl
theorem pack_nil : pack [] = .tuple #[] := Eq.trans rfl rfl
theorem pack_two (a b : Value) : pack [a, b] = .tuple #[a, b] := Eq.trans rfl rfl
theorem pack_three (a b c : Value) : pack [a, b, c] = .tuple #[a, b, c] := Eq.trans rfl rfl
theorem pack_four (a b c d : Value) : pack [a, b, c, d] = .tuple #[a, b, c, d] := Eq.trans rfl rfl

/-! drawn regions -/
theorem denS_done (l : List TO) (q : Env → World → Prop) (T : Conds) : denS P l q .done T E w = q E w := Eq.trans rfl rfl
theorem denS_stop (l : List TO) (q : Env → World → Prop) (T : Conds) : denS P l q .stop T E w = True := Eq.trans rfl rfl
def sK (P : Program) (l : List TO) (q : Env → World → Prop) (s : Sch) (T : Conds) (E : Env) (d : Option Nat) : Kn := fun v w' => denS P l q s T (upd E d v) w'
theorem sK_app (l : List TO) (q : Env → World → Prop) (s : Sch) (T : Conds) (d : Option Nat) (v : Value) : sK P l q s T E d v w = denS P l q s T (upd E d v) w := Eq.trans rfl rfl
def aK (P : Program) (l : List TO) (q : Env → World → Prop) (s : Sch) (T : Conds) (E : Env) (d : Option Nat) : Kn := fun v w' => holdAll T w' ∧ denS P l q s T (upd E d v) w'
theorem aK_app (l : List TO) (q : Env → World → Prop) (s : Sch) (T : Conds) (d : Option Nat) (v : Value) : aK P l q s T E d v w = (holdAll T w ∧ denS P l q s T (upd E d v) w) := Eq.trans rfl rfl
def puK (P : Program) (o : Option TO) (l : List TO) (q : Env → World → Prop) (s : Sch) (T : Conds) (E : Env) (w : World) : Prop :=
  match o with
  | some o => if wantedE E o.g = true then denV P o.op (o.xs.map (evo E)) w (sK P l q s T E o.d) else denS P l q s T (upd E o.d undef) w
  | none => False
def flK (P : Program) (i : Nat) (o : Option TO) (l : List TO) (q : Env → World → Prop) (s : Sch) (T : Conds) (E : Env) (w : World) : Prop :=
  match o with
  | some o => if wantedE E o.g = true then denF o.op (o.xs.map (evo E)) w (fun v C => denS P l q s ((i, C) :: T) (upd E o.d v) w) else denS P l q s T (upd E o.d undef) w
  | none => False
def atK (P : Program) (ws : List Nat) (o : Option TO) (l : List TO) (q : Env → World → Prop) (s : Sch) (T : Conds) (E : Env) (w : World) : Prop :=
  match o with
  | some o => if wantedE E o.g = true then denV P o.op (o.xs.map (evo E)) w (aK P l q s (keepC ws T) E o.d) else denS P l q s (keepC ws T) (upd E o.d undef) w
  | none => False
theorem denS_pu (l : List TO) (q : Env → World → Prop) (T : Conds) (i : Nat) (s : Sch) : denS P l q (.pu i s) T E w = puK P l[i]? l q s T E w := Eq.trans rfl rfl
theorem denS_fl (l : List TO) (q : Env → World → Prop) (T : Conds) (i : Nat) (s : Sch) : denS P l q (.fl i s) T E w = flK P i l[i]? l q s T E w := Eq.trans rfl rfl
theorem denS_act (l : List TO) (q : Env → World → Prop) (T : Conds) (hd : Bool) (i : Nat) (ws : List Nat) (s alt : Sch) : denS P l q (.act hd i ws s alt) T E w = (atK P ws l[i]? l q s T E w ∧ denS P l q alt T E w) := by
  simp only [denS, atK]
  cases l[i]? with
  | none => simp
  | some o => rfl
@[congr] theorem puK_congr {o o' : Option TO} {l : List TO} {q : Env → World → Prop} {s : Sch} {T : Conds} (h : o = o') : puK P o l q s T E w = puK P o' l q s T E w := by rw [h]
@[congr] theorem flK_congr {i : Nat} {o o' : Option TO} {l : List TO} {q : Env → World → Prop} {s : Sch} {T : Conds} (h : o = o') : flK P i o l q s T E w = flK P i o' l q s T E w := by rw [h]
@[congr] theorem atK_congr {ws : List Nat} {o o' : Option TO} {l : List TO} {q : Env → World → Prop} {s : Sch} {T : Conds} (h : o = o') : atK P ws o l q s T E w = atK P ws o' l q s T E w := by rw [h]
theorem puK_some (o : TO) (l : List TO) (q : Env → World → Prop) (s : Sch) (T : Conds) : puK P (some o) l q s T E w = if wantedE E o.g = true then denV P o.op (o.xs.map (evo E)) w (sK P l q s T E o.d) else denS P l q s T (upd E o.d undef) w := Eq.trans rfl rfl
theorem atK_some (ws : List Nat) (o : TO) (l : List TO) (q : Env → World → Prop) (s : Sch) (T : Conds) : atK P ws (some o) l q s T E w = if wantedE E o.g = true then denV P o.op (o.xs.map (evo E)) w (aK P l q s (keepC ws T) E o.d) else denS P l q s (keepC ws T) (upd E o.d undef) w := Eq.trans rfl rfl
def lfK (P : Program) (i : Nat) (a : Addr) (o : Option Value) (l : List TO) (q : Env → World → Prop) (s : Sch) (T : Conds) (E : Env) (d : Option Nat) (w : World) : Prop := ∃ v, o = some v ∧ denS P l q s ((i, fun w' => w'.cell? a = some v) :: T) (upd E d v) w
@[congr] theorem lfK_congr {i : Nat} {a : Addr} {o o' : Option Value} {l : List TO} {q : Env → World → Prop} {s : Sch} {T : Conds} {d : Option Nat} (h : o = o') : lfK P i a o l q s T E d w = lfK P i a o' l q s T E d w := by rw [h]
theorem lfK_some (i : Nat) (a : Addr) (v : Value) (l : List TO) (q : Env → World → Prop) (s : Sch) (T : Conds) (d : Option Nat) : lfK P i a (some v) l q s T E d w = denS P l q s ((i, fun w' => w'.cell? a = some v) :: T) (upd E d v) w := by simp [lfK]
def lfNK (P : Program) (i n : Nat) (a : Addr) (l : List TO) (q : Env → World → Prop) (s : Sch) (T : Conds) (E : Env) (d : Option Nat) (w : World) : Prop := ∃ cs : List Value, cs.length = n ∧ CellsAt w a cs ∧ denS P l q s ((i, fun w' => CellsAt w' a cs) :: T) (upd E d (.agg cs.toArray)) w
@[congr] theorem lfNK_congr {i n : Nat} {a a' : Addr} {l : List TO} {q : Env → World → Prop} {s : Sch} {T : Conds} {d : Option Nat} (h : a = a') : lfNK P i n a l q s T E d w = lfNK P i n a' l q s T E d w := by rw [h]
theorem lfNK_of {i n : Nat} {a : Addr} {l : List TO} {q : Env → World → Prop} {s : Sch} {T : Conds} {d : Option Nat} {cs : List Value} (hn : cs.length = n) (h : CellsAt w a cs) :
    lfNK P i n a l q s T E d w = denS P l q s ((i, fun w' => CellsAt w' a cs) :: T) (upd E d (.agg cs.toArray)) w := by
  apply propext
  constructor
  · rintro ⟨cs', hn', h', hk⟩
    have : cs' = cs := by
      apply List.ext_getElem (by omega)
      intro j h1 h2
      have e1 := h' j _ (List.getElem?_eq_getElem h1)
      have e2 := h j _ (List.getElem?_eq_getElem h2)
      rw [e1] at e2
      simpa using e2
    subst this
    exact hk
  · intro hk
    exact ⟨cs, hn, h, hk⟩
def fldK (P : Program) (t : TOp) (vs : List Value) (i : Nat) (l : List TO) (q : Env → World → Prop) (s : Sch) (T : Conds) (E : Env) (d : Option Nat) (w : World) : Prop := denF t vs w (fun v C => denS P l q s ((i, C) :: T) (upd E d v) w)
@[congr] theorem fldK_congr {t : TOp} {vs vs' : List Value} {i : Nat} {l : List TO} {q : Env → World → Prop} {s : Sch} {T : Conds} {d : Option Nat} (h : vs = vs') : fldK P t vs i l q s T E d w = fldK P t vs' i l q s T E d w := by rw [h]
theorem flK_some (i : Nat) (o : TO) (l : List TO) (q : Env → World → Prop) (s : Sch) (T : Conds) : flK P i (some o) l q s T E w = if wantedE E o.g = true then fldK P o.op (o.xs.map (evo E)) i l q s T E o.d w else denS P l q s T (upd E o.d undef) w := Eq.trans rfl rfl
theorem fldK_load1 (a : Addr) (i : Nat) (l : List TO) (q : Env → World → Prop) (s : Sch) (T : Conds) (d : Option Nat) : fldK P .load1 [.pointer (some a)] i l q s T E d w = lfK P i a (w.cell? a) l q s T E d w := Eq.trans rfl rfl
theorem fldK_loadN (n : Nat) (a : Addr) (i : Nat) (l : List TO) (q : Env → World → Prop) (s : Sch) (T : Conds) (d : Option Nat) : fldK P (.loadN n) [.pointer (some a)] i l q s T E d w = lfNK P i n a l q s T E d w := Eq.trans rfl rfl
theorem keepC_nil (ws : List Nat) : keepC ws [] = [] := Eq.trans rfl rfl
theorem keepC_cons (ws : List Nat) (i : Nat) (C : World → Prop) (T : Conds) : keepC ws ((i, C) :: T) = if ws.contains i = true then keepC ws T else (i, C) :: keepC ws T := by
  simp only [keepC, List.filter_cons]
  cases ws.contains i <;> simp
theorem holdAll_nil : holdAll [] w = True := Eq.trans rfl rfl
theorem holdAll_cons (i : Nat) (C : World → Prop) (T : Conds) : holdAll ((i, C) :: T) w = (C w ∧ holdAll T w) := Eq.trans rfl rfl

/-! loops -/
def mix (W : List Nat) (X E : Env) : Env := fun t => if W.contains t = true then X t else E t
theorem mix_app (W : List Nat) (X E : Env) (t : Nat) : mix W X E t = if W.contains t = true then X t else E t := Eq.trans rfl rfl
def loopQ (P : Program) (c : Cmd) (Q : QT) (E : Env) (w : World) : Prop := LoopD (den P c) Q E w
@[congr] theorem loopQ_congr {c : Cmd} {E' : Env} {w' : World} (hE : E = E') (hw : w = w') : loopQ P c Q E w = loopQ P c Q E' w' := by rw [hE, hw]
theorem den_loop (c : Cmd) : den P (.loop c) Q E w = loopQ P c Q E w := Eq.trans rfl rfl
end
end Go.Proofs.Ytgebiedochlhmaa
