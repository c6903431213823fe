/- What all chapters use: bytes appended, blocks of bytes, numbers in their range. -/
import Derived.Test.YtgebiedochlhmaaLoops
import Derived.Test.YtgebiedochlhmaaDenP
import Derived.Test.YtgebiedochlhmaaIR
import Derived.KernelRfl
import Derived.Laws.Strings
set_option linter.unusedVariables false
set_option linter.unusedSimpArgs false
set_option maxRecDepth 10000
namespace Go.Proofs.Ytgebiedochlhmaa
theorem follows : Try.prog.follows .mixedOrders = true := by kernel_rfl

def ptr (b : Nat) : Value := .pointer (some ⟨b, 0, none⟩)

theorem i64w (n : Int) (h : -9223372036854775808 ≤ n ∧ n ≤ 9223372036854775807) : IntKind.i64.wrap n = n := IntWalk.i64_in n h

def byteOf (n : Int) : UInt8 := UInt8.ofNat (n % 256).toNat
theorem byteOf_nat (n : Int) : ((byteOf n).toNat : Int) = n % 256 := by
  unfold byteOf
  rw [UInt8.toNat_ofNat']
  omega
theorem u8w (n : Int) : IntKind.u8.wrap n = ((byteOf n).toNat : Int) := by
  rw [byteOf_nat]
  simp [IntKind.wrap, IntKind.bits, IntKind.signed]
theorem bstr_eq (l m : List UInt8) : ((⟨l.toArray⟩ : ByteArray).toList == (⟨m.toArray⟩ : ByteArray).toList) = (l == m) := by
  rw [ByteArray.toList_eq, ByteArray.toList_eq]
theorem info5 : (Try.prog.info? 5).map (fun i => (i.zero, i.size, i.bytes)) = some (some (.int .u8 0), 1, 1) := by kernel_rfl
section
variable {s : St} {F : List Asrt} {w : World} {K : Kn}
theorem appB {v x : Value} {l m : List UInt8} (H : Holds s (BO 5 v l :: F) w) (hx : RdB w x m) (hb : l.length + m.length ≤ 140737488355328)
    (h : ∀ v' w', Holds s (BO 5 v' (l ++ m) :: F) w' → K v' w') : appK Try.prog 35 5 1 1 v x K w := by
  have hi := info5
  simp only [Option.map_eq_some_iff, Prod.mk.injEq] at hi
  obtain ⟨i, hi, hz, hs, hby⟩ := hi
  refine app_sep Try.underlying35 hi hz hs hby rfl H hx (bcs_one m) (by omega) (by omega) fun v' w' H' => h v' w' ?_
  unfold BO
  rw [List.length_append, bcs_append]
  exact H'
theorem blkB {g : Nat} {l : List UInt8} (H : Holds s (Blk g 5 (bcs l).toArray :: F) w) (hl : l.length ≤ 140737488355328) : Holds s (BO 5 (.slice (some ⟨g, 0, none⟩) l.length l.length) l :: F) w := by
  have := H.blkO (n := l.length) (sz := 1) (by simp [bcs_length]) (by unfold maxLen; omega)
  simpa [BO] using this

theorem blkT {g t : Nat} {l : List UInt8} (H : Holds s (Blk g t (bcs l).toArray :: F) w) (hl : l.length ≤ 140737488355328) : Holds s (BO t (.slice (some ⟨g, 0, none⟩) l.length l.length) l :: F) w := by
  have := H.blkO (n := l.length) (sz := 1) (by simp [bcs_length]) (by unfold maxLen; omega)
  simpa [BO] using this
theorem RdB.cells {b o c : Nat} {l : List UInt8} (h : RdB w (.slice (some ⟨b, o, none⟩) l.length c) l) {i : Nat} (hi : i < l.length) : w.cell? ⟨b, o + i, none⟩ = some (bv l[i]) := by
  obtain ⟨b', o', hA, hc⟩ := RdS.at h hi
  injection hA with hA
  injection hA with h1 h2
  subst h1 h2
  exact hc i _ (bcs_get l i hi)
theorem RdB.cellsAt {b o c : Nat} {l : List UInt8} (h : RdB w (.slice (some ⟨b, o, none⟩) l.length c) l) : CellsAt w ⟨b, o, none⟩ (bcs l) := fun i u hu => by
  have hi : i < l.length := by
    have := (List.getElem?_eq_some_iff.1 hu).1
    simpa [bcs] using this
  rw [bcs_get l i hi] at hu
  rw [Addr.add_lit, h.cells hi, hu]
end
end Go.Proofs.Ytgebiedochlhmaa
