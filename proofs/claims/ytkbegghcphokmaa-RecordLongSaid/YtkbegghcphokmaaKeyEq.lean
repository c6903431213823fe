/- Keys, held against each other. -/
import Derived.Test.YtkbegghcphokmaaEqv
set_option linter.unusedVariables false
set_option linter.unusedSimpArgs false
set_option maxRecDepth 10000
namespace Go.Proofs.Ytkbegghcphokmaa
def kvl (s : List UInt8) (n : Int) : List Value := bcs s ++ [.int .u32 n]
theorem kvl_length (s : List UInt8) (n : Int) : (kvl s n).length = s.length + 1 := by simp [kvl, bcs]
theorem kvl_one (s : List UInt8) (n : Int) : ∀ v ∈ kvl s n, v.oneCell' = true := by
  intro v hv
  rcases List.mem_append.1 hv with h | h
  · exact bcs_one s v h
  · simp only [List.mem_singleton] at h; subst h; rfl
theorem key_zero : Array.replicate 32 (Value.int .u8 0) ++ #[.int .u32 0] = (kvl (List.replicate 32 0) 0).toArray := by
  rw [arrB, kvl, ← List.toArray_appendList]
  simp
theorem keyF : ((Try.prog.fieldsOf 27).toList.map fun f => (decide (f.name = "_"), f.type, f.offset)) = [(false, 25, 0), (false, 22, 32)] := by kernel_rfl
theorem keyStood : Try.prog.stoodInHeld 27 = false := by kernel_rfl
theorem sumAgg : aggT Try.prog 25 = some true ∧ szOf Try.prog 25 = some 32 := ⟨by kernel_rfl, by kernel_rfl⟩
theorem u32plain : Try.prog.plainKey 22 = true := by kernel_rfl
theorem fields_two {l : List Field} {a b : Bool × TypeId × Nat} (h : (l.map fun f => (decide (f.name = "_"), f.type, f.offset)) = [a, b]) : ∃ f g, l = [f, g] ∧ (decide (f.name = "_"), f.type, f.offset) = a ∧ (decide (g.name = "_"), g.type, g.offset) = b := by
  match l, h with
  | [f, g], h =>
    simp only [List.map_cons, List.map_nil, List.cons.injEq, and_true] at h
    exact ⟨f, g, rfl, h.1, h.2⟩
theorem equalIn_keyP {P : Program} {T S U e : TypeId} {i : TypeInfo} (d : Nat) {w : World} {s s' : List UInt8} {n n' : Int} (ht : P.underlying T = some (.struct (P.fieldsOf T))) (hst : P.stoodInHeld T = false)
    (hF : ((P.fieldsOf T).toList.map fun f => (decide (f.name = "_"), f.type, f.offset)) = [(false, S, 0), (false, U, 32)]) (ha : aggT P S = some true) (hz : szOf P S = some 32) (hu : P.plainKey U = true) (huU : P.underlying U = some (.int .u32))
    (hS : P.underlying S = some (.array 32 e)) (hi : P.info? e = some i) (he : P.plainKey e = true) (hk : P.underlying e = some (.int .u8)) (hc : P.cellsOf e = 1) (hs : s.length = 32) (hs' : s'.length = 32) :
    (Op.equalIn (d + 3) T (.agg (kvl s n).toArray) (.agg (kvl s' n').toArray)).run P w = .ok ((s == s') && (n == n')) w := by
  rw [run_equalIn_agg w (d + 2) _ _ _ ht hst]
  obtain ⟨f, g, hfg, h1, h2⟩ := fields_two hF
  simp only [Prod.mk.injEq, decide_eq_false_iff_not] at h1 h2
  obtain ⟨f1, f2, f3⟩ := h1
  obtain ⟨g1, g2, g3⟩ := h2
  have hp : ∀ (s : List UInt8) (n : Int), s.length = 32 → (part S (kvl s n).toArray 0).run P w = .ok (.agg (bcs s).toArray) w := fun s n hs => by
    have : (kvl s n).toArray.extract 0 32 = (bcs s).toArray := by
      apply Array.toList_inj.1
      rw [Array.toList_extract, List.extract_eq_take_drop]
      show ((kvl s n).drop 0).take (32 - 0) = bcs s
      rw [List.drop_zero]
      exact List.take_left' (by rw [bcs_length, hs])
    simp only [part, Sem.run_bind, run_isAgg ha, Result.andThen_ok, if_true, run_sizeOf' hz, Nat.zero_add, this, Sem.run_pure]
  have hq : ∀ (s : List UInt8) (n : Int), s.length = 32 → (part U (kvl s n).toArray 32).run P w = .ok (.int .u32 n) w := fun s n hs => by
    refine run_part_plain (P := P) w hu ?_
    rw [List.getElem?_toArray, kvl, List.getElem?_append_right (by rw [bcs_length]; omega), bcs_length, hs]
    rfl
  have hb := equalIn_bytes (P := P) (w := w) d (l := s) (m := s') hS hi he hk hc hs hs'
  have hn := run_equalIn_int (P := P) w (d + 1) U .u32 .u32 n n' huU
  rw [hfg]
  simp only [Op.eqFields, f1, g1, ne_eq, not_false_eq_true, if_true, Sem.run_bind, f2, f3, g2, g3, hp s n hs, hp s' n' hs', hb, hq s n hs, hq s' n' hs', hn, Result.andThen_ok]
  cases (s == s')
  · simp only [Bool.not_false, if_true, Sem.run_pure, Bool.false_and]
  · simp only [Bool.not_true, Bool.false_eq_true, if_false, Sem.run_bind, hq s n hs, hq s' n' hs', hn, Result.andThen_ok, Bool.true_and]
    cases (n == n')
    · simp only [Bool.not_false, if_true, Sem.run_pure]
    · simp only [Bool.not_true, Bool.false_eq_true, if_false, Sem.run_pure]
theorem keyU : Try.prog.underlying 27 = some (.struct (Try.prog.fieldsOf 27)) := by
  rw [Program.fieldsOf, Try.underlying27]
theorem equalIn_key (d : Nat) {w : World} {s s' : List UInt8} {n n' : Int} (hs : s.length = 32) (hs' : s'.length = 32) :
    (Op.equalIn (d + 3) 27 (.agg (kvl s n).toArray) (.agg (kvl s' n').toArray)).run Try.prog w = .ok ((s == s') && (n == n')) w := by
  have hi := info5
  simp only [Option.map_eq_some_iff, Prod.mk.injEq] at hi
  obtain ⟨i, hi, -⟩ := hi
  exact equalIn_keyP d keyU keyStood keyF sumAgg.1 sumAgg.2 u32plain Try.underlying22 Try.underlying25 hi u8sure.1 Try.underlying5 u8sure.2 hs hs'
theorem eqKey_sep {w : World} {K : Kn} {neg : Bool} {s s' : List UInt8} {n n' : Int} (hs : s.length = 32) (hs' : s'.length = 32)
    (h : K (.bool (if neg then !((s == s') && (n == n')) else ((s == s') && (n == n')))) w) : eqvK Try.prog neg 27 (.agg (kvl s n).toArray) (.agg (kvl s' n').toArray) K w :=
  ⟨_, equalIn_key 9997 hs hs', h⟩
end Go.Proofs.Ytkbegghcphokmaa
