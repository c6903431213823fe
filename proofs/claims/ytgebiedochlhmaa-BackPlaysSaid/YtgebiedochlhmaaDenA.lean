/- A typed form of the model's operations, and what each asks of memory: definitions, the compile of an operation. -/
import Derived.OrdersHeld
import Derived.Tactics
import Derived.Laws.AppendOwn
import Derived.Laws.CopyRow
import Derived.Laws.Slices
set_option linter.unusedVariables false
set_option linter.unusedSimpArgs false
namespace Go.Proofs.Ytgebiedochlhmaa

/-- A frame's slots. -/
abbrev Env := Nat → Value
def upd (E : Env) (d : Option Nat) (v : Value) : Env := fun t => if d = some t then v else E t
theorem upd_app (E : Env) (d : Option Nat) (v : Value) (t : Nat) : upd E d v t = if d = some t then v else E t := rfl
def evo (E : Env) : Operand → Value
  | .tmp t => E t
  | .const v => v
  | .global g => .pointer (some ⟨g, 0, none⟩)
  | .func f => .func (.func f) #[] #[]

/-- Operations that look at values alone. -/
inductive POp where
  | mv | pick | nilchk | isnil (neg : Bool)
  | bin (op : BinOp) | cmp (op : BinOp) | beq (neg : Bool) | seq (neg : Bool) | sadd
  | not | inv
  | conv (k : IntKind)
  | faddr (off : Nat) | iaddrS (sz : Nat) | iaddrA (n sz : Nat)
  | fld1 (off : Nat) | fldN (off n : Nat)
  | idxStr | idxA1 (n : Nat) | idxAN (n sz : Nat)
  | ext (i : Nat)
  | lenS | lenStr | lenK (n : Nat)
  | cutS (sz : Nat) (lo hi mx : Bool) | cutStr (lo hi : Bool) | cutA (n sz : Nat) (lo hi mx : Bool)
  | toArr (n : Nat)
  | bldS (zero : Array Value) (pl : Array (Nat × Nat)) (ix : List Nat)
  | bldA (zero : Array Value) (sz : Nat) (ix : List Nat)
  | min | max | strid
  deriving Inhabited

def binI (op : BinOp) (k : IntKind) (a b : Int) : Option Value :=
  match op with
  | .add => some (.int k (k.wrap (a + b)))
  | .sub => some (.int k (k.wrap (a - b)))
  | .mul => some (.int k (k.wrap (a * b)))
  | .quo => if b = 0 then none else some (.int k (k.wrap (a.tdiv b)))
  | .rem => if b = 0 then none else some (.int k (a.tmod b))
  | .and => some (.int k (bits .and k a b))
  | .or => some (.int k (bits .or k a b))
  | .xor => some (.int k (bits .xor k a b))
  | .andNot => some (.int k (bits .andNot k a b))
  | _ => none
def shiftI (op : BinOp) (k : IntKind) (a b : Int) : Option Value :=
  if b < 0 then none else
  match op with
  | .shl => some (.int k (k.wrap (a * 2 ^ (Nat.min b.toNat k.bits))))
  | .shr => some (.int k (a.fdiv (2 ^ (Nat.min b.toNat k.bits))))
  | _ => none
def cmpI (op : BinOp) (a b : Int) : Option Value :=
  match op with
  | .eql => some (.bool (a == b))
  | .neq => some (.bool (a != b))
  | .lss => some (.bool (decide (a < b)))
  | .leq => some (.bool (decide (a ≤ b)))
  | .gtr => some (.bool (decide (b < a)))
  | .geq => some (.bool (decide (b ≤ a)))
  | _ => none
/-- A slice's bounds: below, above, the capacity's end; what is left out is told by the flags. -/
def bnds (len cap : Nat) (lo hi mx : Bool) : List Value → Option (Nat × Nat × Nat)
  | vs => match lo, hi, mx, vs with
    | false, false, false, [] => some (0, len, cap)
    | true, false, false, [.int _ l] => if 0 ≤ l ∧ l ≤ len then some (l.toNat, len, cap) else none
    | false, true, false, [.int _ h] => if 0 ≤ h ∧ h ≤ cap then some (0, h.toNat, cap) else none
    | true, true, false, [.int _ l, .int _ h] => if 0 ≤ h ∧ h ≤ cap ∧ 0 ≤ l ∧ l ≤ h then some (l.toNat, h.toNat, cap) else none
    | true, true, true, [.int _ l, .int _ h, .int _ m] => if 0 ≤ m ∧ m ≤ cap ∧ 0 ≤ h ∧ h ≤ m ∧ 0 ≤ l ∧ l ≤ h then some (l.toNat, h.toNat, m.toNat) else none
    | _, _, _, _ => none
/-- Where a slice of a slice begins. -/
def cutAddr (a : Option Addr) (l m sz : Nat) : Option Addr := if m = l then a else a.map (·.add (l * sz))
def zipIx : List Nat → List Value → List (Nat × Value)
  | i :: is, v :: vs => (i, v) :: zipIx is vs
  | _, _ => []

def fMv : List Value → Option Value
  | [x] => some x
  | _ => none
def fPick : List Value → Option Value
  | [.bool c, a, b] => some (if c then a else b)
  | _ => none
def fNilchk : List Value → Option Value
  | [.pointer (some a)] => some (.pointer (some a))
  | _ => none
def fIsnil (neg : Bool) : List Value → Option Value
  | [.pointer a, .pointer none] => some (.bool (if neg then !a.isNone else a.isNone))
  | [.slice a _ _, .slice none 0 0] => some (.bool (if neg then !a.isNone else a.isNone))
  | _ => none
def fBin (op : BinOp) : List Value → Option Value
  | [.int k a, .int k' b] => match op with
      | .shl => shiftI .shl k a b
      | .shr => shiftI .shr k a b
      | op => if k = k' then binI op k a b else none
  | _ => none
def fCmp (op : BinOp) : List Value → Option Value
  | [.int k a, .int k' b] => if k = k' then cmpI op a b else none
  | _ => none
def fBeq (neg : Bool) : List Value → Option Value
  | [.bool a, .bool b] => some (.bool (if neg then a != b else a == b))
  | _ => none
def fSeq (neg : Bool) : List Value → Option Value
  | [.string a, .string b] => some (.bool (if neg then !(a.toList == b.toList) else a.toList == b.toList))
  | _ => none
def fSadd : List Value → Option Value
  | [.string a, .string b] => if a.size + b.size ≤ 9223372036854775807 then some (.string (a ++ b)) else none
  | _ => none
def fNot : List Value → Option Value
  | [.bool a] => some (.bool !a)
  | _ => none
def fInv : List Value → Option Value
  | [.int k a] => some (.int k (bits .xor k (if k.signed then -1 else k.max) a))
  | _ => none
def fConv (k : IntKind) : List Value → Option Value
  | [.int _ a] => some (.int k (k.wrap a))
  | _ => none
def fFaddr (off : Nat) : List Value → Option Value
  | [.pointer (some a)] => some (.pointer (some (a.add off)))
  | _ => none
def fIaddrS (sz : Nat) : List Value → Option Value
  | [.slice (some a) n _, .int _ i] => if 0 ≤ i ∧ i < n then some (.pointer (some (a.add (i.toNat * sz)))) else none
  | _ => none
def fIaddrA (n sz : Nat) : List Value → Option Value
  | [.pointer (some a), .int _ i] => if 0 ≤ i ∧ i < n then some (.pointer (some (a.add (i.toNat * sz)))) else none
  | _ => none
def fFld1 (off : Nat) : List Value → Option Value
  | [.agg cs] => cs[off]?
  | _ => none
def fFldN (off n : Nat) : List Value → Option Value
  | [.agg cs] => some (.agg (cs.extract off (off + n)))
  | _ => none
def fIdxStr : List Value → Option Value
  | [.string s, .int _ i] => if 0 ≤ i then (s[i.toNat]?).map fun b => .int .u8 b.toNat else none
  | _ => none
def fIdxA1 (n : Nat) : List Value → Option Value
  | [.agg cs, .int _ i] => if 0 ≤ i ∧ i < n then cs[i.toNat]? else none
  | _ => none
def fIdxAN (n sz : Nat) : List Value → Option Value
  | [.agg cs, .int _ i] => if 0 ≤ i ∧ i < n then some (.agg (cs.extract (i.toNat * sz) (i.toNat * sz + sz))) else none
  | _ => none
def fExt (i : Nat) : List Value → Option Value
  | [.tuple vs] => vs[i]?
  | _ => none
def fLenS : List Value → Option Value
  | [.slice _ n _] => some (.int .i64 n)
  | _ => none
def fLenStr : List Value → Option Value
  | [.string s] => some (.int .i64 s.size)
  | _ => none
def fLenK (n : Nat) : List Value → Option Value
  | [_] => some (.int .i64 n)
  | _ => none
def fCutS (sz : Nat) (lo hi mx : Bool) : List Value → Option Value
  | .slice a n c :: vs => (bnds n c lo hi mx vs).map fun (l, h, m) => .slice (cutAddr a l m sz) (h - l) (m - l)
  | _ => none
def fCutStr (lo hi : Bool) : List Value → Option Value
  | .string s :: vs => (bnds s.size s.size lo hi false vs).map fun (l, h, m) => .string (s.extract l h)
  | _ => none
def fCutA (n sz : Nat) (lo hi mx : Bool) : List Value → Option Value
  | .pointer (some a) :: vs => (bnds n n lo hi mx vs).map fun (l, h, m) => .slice (cutAddr (some a) l m sz) (h - l) (m - l)
  | _ => none
def fToArr (n : Nat) : List Value → Option Value
  | [.slice a len _] => if n ≤ len then some (.pointer a) else none
  | _ => none
def fMin : List Value → Option Value
  | [.int k x, .int _ y] => some (.int k (if y < x then y else x))
  | [.int k x, .int _ y, .int _ z] => some (.int k (if z < (if y < x then y else x) then z else (if y < x then y else x)))
  | [.int k x, .int _ y, .int _ z, .int _ u] => some (.int k (if u < (if z < (if y < x then y else x) then z else (if y < x then y else x)) then u else (if z < (if y < x then y else x) then z else (if y < x then y else x))))
  | _ => none
def fMax : List Value → Option Value
  | [.int k x, .int _ y] => some (.int k (if x < y then y else x))
  | [.int k x, .int _ y, .int _ z] => some (.int k (if (if x < y then y else x) < z then z else (if x < y then y else x)))
  | _ => none
def fStrid : List Value → Option Value
  | [.string s] => some (.string s)
  | _ => none
def pureV (p : POp) (vs : List Value) : Option Value :=
  match p with
  | .mv => fMv vs
  | .pick => fPick vs
  | .nilchk => fNilchk vs
  | .isnil neg => fIsnil neg vs
  | .bin op => fBin op vs
  | .cmp op => fCmp op vs
  | .beq neg => fBeq neg vs
  | .seq neg => fSeq neg vs
  | .sadd => fSadd vs
  | .not => fNot vs
  | .inv => fInv vs
  | .conv k => fConv k vs
  | .faddr off => fFaddr off vs
  | .iaddrS sz => fIaddrS sz vs
  | .iaddrA n sz => fIaddrA n sz vs
  | .fld1 off => fFld1 off vs
  | .fldN off n => fFldN off n vs
  | .idxStr => fIdxStr vs
  | .idxA1 n => fIdxA1 n vs
  | .idxAN n sz => fIdxAN n sz vs
  | .ext i => fExt i vs
  | .lenS => fLenS vs
  | .lenStr => fLenStr vs
  | .lenK n => fLenK n vs
  | .cutS sz lo hi mx => fCutS sz lo hi mx vs
  | .cutStr lo hi => fCutStr lo hi vs
  | .cutA n sz lo hi mx => fCutA n sz lo hi mx vs
  | .toArr n => fToArr n vs
  | .bldS zero pl ix => (Instr.fill (pl[·]?) zero (zipIx ix vs)).map .agg
  | .bldA zero sz ix => (Instr.fill (fun i => some (i * sz, sz)) zero (zipIx ix vs)).map .agg
  | .min => fMin vs
  | .max => fMax vs
  | .strid => fStrid vs

/-- All operations that are served. -/
inductive TOp where
  | p (op : POp)
  | load1 | loadN (n : Nat)
  | store1 | storeN (n : Nat)
  | alloc (e : TypeId) (zero : Array Value) | box (e : TypeId)
  | bldSl (e : TypeId) (len sz : Nat) (zero : Array Value) (ix : List Nat)
  | mkS (e : TypeId) (bytes sz : Nat) (zero : Array Value)
  | app (t e : TypeId) (sz bytes : Nat) (zero : Array Value)
  | cpy (t : TypeId) (sz : Nat)
  | b2s | s2b (e : TypeId) | mark
  | eqv (neg : Bool) (t : TypeId)
  | call (f : FuncId) | callv
  | raw (op : Op) (ty : TypeId)
  deriving Inhabited

abbrev Kn := Value → World → Prop
/-- What an operation's outcome gives. -/
def gives (P : Program) (r : Result Next) (K : Kn) : Prop :=
  match r with
  | .ok (.value v) w => K v w
  | .ok .skip w => K undef w
  | .ok (.enter f args) w => Calls P f args w fun e w' => ∃ v, e = .returned v ∧ K v w'
  | _ => False
def runsV (P : Program) (s : Sem Value) (w : World) (K : Kn) : Prop :=
  match s.run P w with
  | .ok v w' => K v w'
  | _ => False
def runsU (P : Program) (s : Sem Unit) (w : World) (K : Kn) : Prop :=
  match s.run P w with
  | .ok _ w' => K undef w'
  | _ => False
def liftO (o : Option Value) (k : Value → Prop) : Prop := ∃ v, o = some v ∧ k v
theorem liftO_some (v : Value) (k : Value → Prop) : liftO (some v) k = k v := by simp [liftO]
theorem liftO_none (k : Value → Prop) : liftO none k = False := by simp [liftO]
theorem liftO_ite (c : Prop) [Decidable c] (x : Option Value) (k : Value → Prop) : liftO (if c then x else none) k = (c ∧ liftO x k) := by
  by_cases h : c <;> simp [h, liftO]
theorem liftO_ite' (c : Prop) [Decidable c] (x : Option Value) (k : Value → Prop) : liftO (if c then none else x) k = (¬ c ∧ liftO x k) := by
  by_cases h : c <;> simp [h, liftO]

/-- A value's cells at an address. -/
def CellsAt (w : World) (a : Addr) (cs : List Value) : Prop := ∀ i v, cs[i]? = some v → w.cell? (a.add i) = some v
/-- The loads that may come early: what must go on holding. -/
def gLoad1 (w : World) (k : Value → (World → Prop) → Prop) : List Value → Prop
  | [.pointer (some a)] => ∃ v, w.cell? a = some v ∧ k v fun w' => w'.cell? a = some v
  | _ => False
def gLoadN (n : Nat) (w : World) (k : Value → (World → Prop) → Prop) : List Value → Prop
  | [.pointer (some a)] => ∃ cs : List Value, cs.length = n ∧ CellsAt w a cs ∧ k (.agg cs.toArray) fun w' => CellsAt w' a cs
  | _ => False
def denF (t : TOp) (vs : List Value) (w : World) (k : Value → (World → Prop) → Prop) : Prop :=
  match t with
  | .p op => liftO (pureV op vs) fun v => k v fun _ => True
  | .load1 => gLoad1 w k vs
  | .loadN n => gLoadN n w k vs
  | _ => False

def eLoad1 (w : World) (K : Kn) : List Value → Prop
  | [.pointer (some a)] => ∃ v, w.cell? a = some v ∧ K v w
  | _ => False
def eLoadN (n : Nat) (w : World) (K : Kn) : List Value → Prop
  | [.pointer (some a)] => ∃ cs : List Value, cs.length = n ∧ CellsAt w a cs ∧ K (.agg cs.toArray) w
  | _ => False
def eStore1 (w : World) (K : Kn) : List Value → Prop
  | [.pointer (some a), v] => v.oneCell' = true ∧ (w.cell? a).isSome = true ∧ w.frozen? a = false ∧ K undef (w.setCell a v)
  | _ => False
def eStoreN (P : Program) (n : Nat) (w : World) (K : Kn) : List Value → Prop
  | [.pointer (some a), .agg cs] => cs.size = n ∧ runsU P (storeCells a cs.toList) w K
  | _ => False
def eBox (e : TypeId) (w : World) (K : Kn) : List Value → Prop
  | [v] => K (.pointer (some ⟨w.heap.size, 0, none⟩)) (w.alloc (.cells v.cells e))
  | _ => False
def mkZero (zero : Array Value) (n : Nat) : Array Value := if n = 0 then #[] else ((Array.range n).map (zero[· % zero.size]!))
def eMkS (e : TypeId) (bytes sz : Nat) (zero : Array Value) (w : World) (K : Kn) : List Value → Prop
  | [.int .i64 n, .int .i64 c] => n = c ∧ 0 ≤ n ∧ n ≤ 9223372036854775807 ∧ bytes * n ≤ 281474976710656 ∧
      K (.slice (some ⟨w.heap.size, 0, none⟩) n.toNat n.toNat) (w.alloc (.cells (mkZero zero (n.toNat * sz)) e))
  | _ => False
def two (f : Value → Value → Prop) : List Value → Prop
  | [x, y] => f x y
  | _ => False
def one (f : Value → Prop) : List Value → Prop
  | [x] => f x
  | _ => False
def eS2b (P : Program) (e : TypeId) (w : World) (K : Kn) : List Value → Prop
  | [.string s] => runsV P (Conv.stringToBytes e s) w K
  | _ => False
def eB2s (P : Program) (w : World) (K : Kn) : List Value → Prop
  | [.slice a n c] => runsV P (Conv.bytesToString (.slice a n c)) w K
  | _ => False
def eMark (P : Program) (w : World) (K : Kn) : List Value → Prop
  | [.slice (some a) n c] => runsV P (do markStringish a; pure (.slice (some a) n c)) w K
  | _ => False
def cCallF (P : Program) (f : FuncId) : Option TOp :=
  match P.funcs[f]? with
  | some fn => if fn.name == "runtime.NumGoroutine" then none else if fn.body.isNone then none else some (.call f)
  | none => none
def eCallv (P : Program) (w : World) (K : Kn) : List Value → Prop
  | .func (.func f) fs cs :: vs => cCallF P f = some (.call f) ∧ Calls P f (fs ++ vs.toArray ++ cs) w fun e w' => ∃ v, e = .returned v ∧ K v w'
  | _ => False
def idC : Operand → Value
  | .const v => v
  | _ => undef
def withArgs (op : Op) (vs : List Value) : Op :=
  match op with
  | .lookup t _ _ ok => .lookup t (.const (vs.getD 0 undef)) (.const (vs.getD 1 undef)) ok
  | .mapUpdate t _ _ _ => .mapUpdate t (.const (vs.getD 0 undef)) (.const (vs.getD 1 undef)) (.const (vs.getD 2 undef))
  | .makeMap t none => .makeMap t none
  | .call { callee := .builtin b, args, argTypes } => .call { callee := .builtin b, args := (vs.map Operand.const).toArray, argTypes }
  | _ => .panic (.const undef)
def denV (P : Program) (t : TOp) (vs : List Value) (w : World) (K : Kn) : Prop :=
  match t with
  | .p op => liftO (pureV op vs) fun v => K v w
  | .load1 => eLoad1 w K vs
  | .loadN n => eLoadN n w K vs
  | .store1 => eStore1 w K vs
  | .storeN n => eStoreN P n w K vs
  | .alloc e zero => K (.pointer (some ⟨w.heap.size, 0, none⟩)) (w.alloc (.cells zero e))
  | .box e => eBox e w K vs
  | .bldSl e len sz zero ix => ∃ cs, Instr.fill (fun i => some (i * sz, sz)) zero (zipIx ix vs) = some cs ∧ K (.slice (some ⟨w.heap.size, 0, none⟩) len len) (w.alloc (.cells cs e))
  | .mkS e bytes sz zero => eMkS e bytes sz zero w K vs
  | .app t e sz bytes zero => two (fun s x => runsV P (Builtin.append_ #[t, t] t #[s, x]) w K) vs
  | .cpy t sz => two (fun d s => runsV P (Builtin.copy_ #[t, t] 3 #[d, s]) w K) vs
  | .b2s => eB2s P w K vs
  | .s2b e => eS2b P e w K vs
  | .mark => eMark P w K vs
  | .eqv neg t => two (fun x y => ∃ b, (Op.equal t x y).run P w = .ok b w ∧ K (.bool (if neg then !b else b)) w) vs
  | .call f => Calls P f vs.toArray w fun e w' => ∃ v, e = .returned v ∧ K v w'
  | .callv => eCallv P w K vs
  | .raw op ty => gives P ((execOp idC { dst := none, op := withArgs op vs, type := ty, pos := "", after := #[], guard := none }).run P w) K

end Go.Proofs.Ytgebiedochlhmaa
