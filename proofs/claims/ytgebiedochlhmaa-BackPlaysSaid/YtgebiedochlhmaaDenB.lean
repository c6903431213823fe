/- The compile of an operation into its typed form, and its soundness. -/
import Derived.Test.YtgebiedochlhmaaDenA
import Derived.WalkKit
set_option linter.unusedVariables false
set_option linter.unusedSimpArgs false
set_option maxRecDepth 4000
namespace Go.Proofs.Ytgebiedochlhmaa

def szOf (P : Program) (t : TypeId) : Option Nat := (P.info? t).map (·.size)
def aggT (P : Program) (t : TypeId) : Option Bool :=
  match P.underlying t with
  | some (.struct _) | some (.array _ _) => some true
  | some _ => some false
  | none => none
def cBin (P : Program) (op : BinOp) (t : TypeId) (y : Operand) : Option TOp :=
  match P.underlying t with
  | some (.int _) => match op with
    | .eql | .neq | .lss | .leq | .gtr | .geq => some (.p (.cmp op))
    | op => some (.p (.bin op))
  | some .bool => match op with
    | .eql => some (.p (.beq false))
    | .neq => some (.p (.beq true))
    | _ => none
  | some .string => match op with
    | .eql => some (.p (.seq false))
    | .neq => some (.p (.seq true))
    | .add => some (.p .sadd)
    | _ => none
  | some (.pointer _) => match op, y with
    | .eql, .const (.pointer none) => some (.p (.isnil false))
    | .neq, .const (.pointer none) => some (.p (.isnil true))
    | _, _ => none
  | some (.slice _) => match op, y with
    | .eql, .const (.slice none 0 0) => some (.p (.isnil false))
    | .neq, .const (.slice none 0 0) => some (.p (.isnil true))
    | _, _ => none
  | some (.struct _) | some (.array _ _) => if P.eqGuardType P.depth t then none else match op with
    | .eql => some (.eqv false t)
    | .neq => some (.eqv true t)
    | _ => none
  | _ => none
def cConv (P : Program) (s d : TypeId) : Option TOp :=
  match P.underlying s, P.underlying d with
  | some (.int _), some (.int k) => some (.p (.conv k))
  | some (.slice e), some .string => match P.underlying e with
    | some (.int .u8) => some .b2s
    | _ => none
  | some .string, some (.slice e) => match P.underlying e with
    | some (.int .u8) => some (.s2b e)
    | _ => none
  | some .string, some .string => some (.p .strid)
  | some (.slice _), some (.slice e) => if s = d then (match P.underlying e with | some (.int .u8) => some .mark | _ => none) else none
  | _, _ => none
def flag {α : Type} : Option α → Bool
  | some _ => true
  | none => false
def optL : Option Operand → List Operand
  | some x => [x]
  | none => []
def cSlice (P : Program) (t : TypeId) (lo hi mx : Bool) : Option TOp :=
  match P.underlying t with
  | some .string => if mx then none else some (.p (.cutStr lo hi))
  | some (.slice e) => (szOf P e).map fun s => .p (.cutS s lo hi mx)
  | some (.array n e) => (szOf P e).map fun s => .p (.cutA n s lo hi mx)
  | _ => none
def fieldsPl (P : Program) (fs : Array Field) : Option (List (Nat × Nat)) := fs.toList.mapM fun f => (szOf P f.type).map fun s => (f.offset, s)
def cBuiltin (P : Program) (b : Builtin) (ts : List TypeId) (ty : TypeId) (args : List Operand) : Option TOp :=
  match b with
  | .len => match (ts[0]?).bind P.underlying with
    | some (.slice _) => some (.p .lenS)
    | some .string => some (.p .lenStr)
    | some (.array n _) => some (.p (.lenK n))
    | _ => none
  | .min => match P.underlying ty with
    | some (.int _) => some (.p .min)
    | _ => none
  | .max => match P.underlying ty with
    | some (.int _) => some (.p .max)
    | _ => none
  | .append => match ts with
    | [t, u] => match P.underlying t with
      | some (.slice e) => match P.info? e with
        | some i => match i.zero with
          | some z => if t = u then (if ty = t then some (.app t e i.size i.bytes z.cells) else none) else none
          | none => none
        | none => none
      | _ => none
    | _ => none
  | .copy => match ts with
    | [t, u] => match P.underlying t with
      | some (.slice e) => match P.info? e with
        | some i => if t = u then (if ty = 3 then some (.cpy t i.size) else none) else none
        | none => none
      | _ => none
    | _ => none
  | .delete | .clear => some (.raw (.call { callee := .builtin b, args := args.toArray, argTypes := ts.toArray }) ty)
  | _ => none
def cop (P : Program) (o : Op) (ty : TypeId) : Option (TOp × List Operand) :=
  match o with
  | .move x | .assign x => some (.p .mv, [x])
  | .pick c a b => some (.p .pick, [c, a, b])
  | .nilCheck x => some (.p .nilchk, [x])
  | .binOp op t x y _ => (cBin P op t y).map (·, [x, y])
  | .unOp .not _ x => some (.p .not, [x])
  | .unOp .xor _ x => some (.p .inv, [x])
  | .convert s d x => (cConv P s d).map (·, [x])
  | .sliceToArrayPointer d x => match P.underlying d with
    | some (.array n _) => some (.p (.toArr n), [x])
    | _ => none
  | .load t a => match aggT P t, szOf P t with
    | some true, some n => some (.loadN n, [a])
    | some false, _ => some (.load1, [a])
    | _, _ => none
  | .store t a x => match aggT P t, szOf P t with
    | some true, some n => some (.storeN n, [a, x])
    | some false, some 1 => some (.store1, [a, x])
    | _, _ => none
  | .fieldAddr s x f => match P.underlying s with
    | some (.struct fs) => match fs[f]? with
      | some fd => match szOf P fd.type with
        | some n => if n = 0 then none else some (.p (.faddr fd.offset), [x])
        | none => none
      | none => none
    | _ => none
  | .indexAddr t x i => match P.underlying t with
    | some (.slice e) => (szOf P e).map fun s => (.p (.iaddrS s), [x, i])
    | some (.array n e) => (szOf P e).map fun s => (.p (.iaddrA n s), [x, i])
    | _ => none
  | .field t x f => match P.underlying t with
    | some (.struct fs) => match fs[f]? with
      | some fd => match aggT P fd.type, szOf P fd.type with
        | some true, some n => some (.p (.fldN fd.offset n), [x])
        | some false, _ => some (.p (.fld1 fd.offset), [x])
        | _, _ => none
      | none => none
    | _ => none
  | .index t x i => match P.underlying t with
    | some .string => some (.p .idxStr, [x, i])
    | some (.array n e) => match aggT P e, szOf P e with
      | some true, some s => some (.p (.idxAN n s), [x, i])
      | some false, some 1 => some (.p (.idxA1 n), [x, i])
      | _, _ => none
    | _ => none
  | .extract t i => some (.p (.ext i), [t])
  | .slice t x lo hi mx => (cSlice P t (flag lo) (flag hi) (flag mx)).map (·, x :: (optL lo ++ optL hi ++ optL mx))
  | .build t parts => match P.info? t with
    | some i => match i.zero, P.underlying t with
      | some z, some (.struct fs) => (fieldsPl P fs).map fun pl => (.p (.bldS z.cells pl.toArray (parts.toList.map (·.1))), parts.toList.map (·.2))
      | some z, some (.array _ e) => (szOf P e).map fun s => (.p (.bldA z.cells s (parts.toList.map (·.1))), parts.toList.map (·.2))
      | _, _ => none
    | none => none
  | .buildSlice t len parts => match P.underlying t with
    | some (.slice e) => match P.info? e with
      | some i => match i.zero with
        | some z => if len * i.size ≤ 2 ^ 24 then
            (if len * i.size = 0 then some (.bldSl e len i.size #[] (parts.toList.map (·.1)), parts.toList.map (·.2))
             else some (.bldSl e len i.size ((Array.range (len * i.size)).map (z.cells[· % z.cells.size]!)) (parts.toList.map (·.1)), parts.toList.map (·.2)))
          else none
        | none => none
      | none => none
    | _ => none
  | .alloc e => match P.info? e with
    | some i => match i.zero with
      | some z => some (.alloc e z.cells, [])
      | none => none
    | none => none
  | .box e x => some (.box e, [x])
  | .makeSlice t l c => match P.underlying t with
    | some (.slice e) => match P.info? e with
      | some i => match i.zero with
        | some z => some (.mkS e i.bytes i.size z.cells, [l, c])
        | none => none
      | none => none
    | _ => none
  | .lookup t m k ok => some (.raw (.lookup t m k ok) ty, [m, k])
  | .mapUpdate t m k v => some (.raw (.mapUpdate t m k v) ty, [m, k, v])
  | .makeMap t none => some (.raw (.makeMap t none) ty, [])
  | .call { callee := .builtin b, args, argTypes } => (cBuiltin P b argTypes.toList ty args.toList).map (·, args.toList)
  | .call { callee := .value (.func f), args, .. } => (cCallF P f).map (·, args.toList)
  | .call { callee := .value (.tmp t), args, .. } => some (.callv, .tmp t :: args.toList)
  | _ => none

section
variable {P : Program} {E : Env} {w : World} {K : Kn}
theorem gives_v {s : Sem Value} : gives P ((do pure (Next.value (← s)) : Sem Next).run P w) K ↔ runsV P s w K := by
  simp only [runsV, Sem.run_bind]
  cases s.run P w with
  | ok a w' => simp [gives, Result.andThen]
  | halt h w' => simp [gives, Result.andThen]
theorem runsV_pure {v : Value} : runsV P (pure v) w K ↔ K v w := by simp [runsV]
theorem runsV_ok {s : Sem Value} {v : Value} {w' : World} (h : s.run P w = .ok v w') : runsV P s w K ↔ K v w' := by simp [runsV, h]

theorem run_loadCellsFrom' (a : Addr) : ∀ (cs : List Value) (i : Nat) (acc : Array Value), (∀ j v, cs[j]? = some v → w.cell? (a.add (i + j)) = some v) →
    (loadCellsFrom a i cs.length acc).run P w = .ok (acc ++ cs.toArray) w
  | [], i, acc, _ => by simp [loadCellsFrom]
  | c :: cs, i, acc, h => by
    have h0 := h 0 c rfl
    simp only [Nat.add_zero] at h0
    simp only [List.length_cons, loadCellsFrom, Sem.run_bind, run_load, h0, Result.andThen_ok]
    rw [run_loadCellsFrom' a cs (i + 1) (acc.push c) (fun j v hj => by have := h (j + 1) v (by simpa using hj); rwa [show i + 1 + j = i + (j + 1) from by omega])]
    simp
theorem run_loadCells' {a : Addr} {cs : List Value} {n : Nat} (hn : cs.length = n) (h : CellsAt w a cs) : (loadCells a n).run P w = .ok cs.toArray w := by
  subst hn
  simpa [loadCells] using run_loadCellsFrom' (P := P) (w := w) a cs 0 #[] (fun j v hj => by simpa using h j v hj)
theorem run_isAgg {t : TypeId} {b : Bool} (h : aggT P t = some b) : (isAgg t).run P w = .ok b w := by
  unfold aggT at h
  unfold isAgg
  cases hu : P.underlying t with
  | none => simp [hu] at h
  | some d => cases d <;> simp [hu] at h <;> subst h <;> simp [run_underlying hu]
theorem run_sizeOf' {t : TypeId} {n : Nat} (h : szOf P t = some n) : (sizeOf t).run P w = .ok n w := by
  unfold szOf at h
  cases hi : P.info? t with
  | none => simp [hi] at h
  | some i => simp [hi] at h; subst h; simp [sizeOf, typeInfo, hi]
theorem run_typeInfo' {t : TypeId} {i : TypeInfo} (h : P.info? t = some i) : (typeInfo t).run P w = .ok i w := by simp [typeInfo, h]
theorem run_zero' {t : TypeId} {i : TypeInfo} {z : Value} (h : P.info? t = some i) (hz : i.zero = some z) : (zeroValue t).run P w = .ok z w := by
  simp [zeroValue, run_typeInfo' h, hz]
theorem run_loadVar1 {t : TypeId} {a : Addr} {v : Value} (h : aggT P t = some false) (hc : w.cell? a = some v) : (loadVar t a).run P w = .ok v w := by
  simp [loadVar, run_isAgg h, hc]
theorem run_loadVarN {t : TypeId} {a : Addr} {cs : List Value} {n : Nat} (h : aggT P t = some true) (hs : szOf P t = some n) (hn : cs.length = n) (hc : CellsAt w a cs) : (loadVar t a).run P w = .ok (.agg cs.toArray) w := by
  simp [loadVar, run_isAgg h, run_sizeOf' hs, run_loadCells' hn hc]
theorem run_storeVar1 {t : TypeId} {a : Addr} {v : Value} (hs : szOf P t = some 1) (h1 : v.oneCell' = true) (hc : (w.cell? a).isSome = true) (hf : w.frozen? a = false) : (storeVar t a v).run P w = .ok () (w.setCell a v) := by
  have hv : v.cells = #[v] := by cases v <;> simp [Value.oneCell', Value.cells] at h1 ⊢
  obtain ⟨u, hu⟩ := Option.isSome_iff_exists.1 hc
  simp [storeVar, run_sizeOf' hs, hv, storeCells, Addr.add_zero', run_store P w a v .plain h1, hu, hf]
theorem run_storeVarN {t : TypeId} {a : Addr} {cs : Array Value} {n : Nat} (hs : szOf P t = some n) (hn : cs.size = n) : (storeVar t a (.agg cs)).run P w = (storeCells a cs.toList).run P w := by
  subst hn
  simp [storeVar, run_sizeOf' hs, Value.cells]
end
end Go.Proofs.Ytgebiedochlhmaa
