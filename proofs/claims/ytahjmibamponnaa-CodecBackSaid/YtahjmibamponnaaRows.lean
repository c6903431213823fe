/-
  No cell of these rows narrows 'for every input' (looked for: loops, veiled, ifaces, maps, wideKeys, modest, calm, conditions, laid).
  DERIVED. THE GIVEN ROWS OF THIS SEAT. 6 by the template 'for every input the law returns true; each argument reads behind the call as it read before'; 0 by the template 'total and deterministic' (their statements: YtahjmibamponnaaTotals.lean).
  GIVEN WITH THE SEED: the statements are not yours to turn. If you find one false, say at which input.
  Laid BY PROGRAM, IN A SANDBOX (cutbox-rows.mjs): the forced cells as the released guide's own fill.sh prints them over the translation a2e2f622345fde4f… (all of the seat's roots in one cut). By AI agents, Wed Nov 11 2026. No macro, syntax, notation, axiom, sorry.
-/
import Derived.Test.YtahjmibamponnaaChecked
import GoSem.Claim
import GoSem.ClaimJoined
import GoSem.ClaimMapViews
import Derived.JoinedTies
import Derived.KernelRfl
namespace Go.Proofs.Ytahjmibamponnaa
/- THE CELL 'sum', in the pinned program and in every row, IS THE sha256 OF THE DUMP (.gsa) THAT YtahjmibamponnaaProg.lean LOADS. Nothing in Lean hashes anything: it is a label: what it is worth is what the hold of that sum in a sandbox is worth. -/
noncomputable def Try.pinned : Pinned := { name := "ytahjmibamponnaa", sum := "a2e2f622345fde4ff50862464777db26b924b3ecf6226735ac3874394f250365", checked := Try.checked }
namespace Rows
def none {H : Type} : Left H := { results := [], args := [] }

/-- 'pumicelaw01.CodecLays': WHATEVER THE INPUT: true; the input reads as it did. -/
def codecLaysSpec : ChangeSpec := { name := "codecLays", fn := fun _ => fun
  | [d1, d2] => { results := [.lit (.bool true)], args := [d1, d2] }
  | _ => none }
def codecLaysRow : OpenClaim := { program := "ytahjmibamponnaa", sum := "a2e2f622345fde4ff50862464777db26b924b3ecf6226735ac3874394f250365", func := "pumice/pumicelaw01.CodecLays", spec := "codecLays", apart := false }
def CodecLaysSaid : Prop := codecLaysRow.holds Try.pinned (OpenSpec.ofChange codecLaysSpec)

/-- ITS FALSE NEIGHBOUR: 'it returns false'. Refute it at one input. -/
def codecLaysWrong : ChangeSpec := { name := "codecLays", fn := fun _ => fun
  | [d1, d2] => { results := [.lit (.bool false)], args := [d1, d2] }
  | _ => none }
def CodecLaysWrongFalsely : Prop := codecLaysRow.holds Try.pinned (OpenSpec.ofChange codecLaysWrong)

/-- 'pumicelaw01.CodecRoom': WHATEVER THE INPUT: true; the input reads as it did. -/
def codecRoomSpec : ChangeSpec := { name := "codecRoom", fn := fun _ => fun
  | [d1, d2] => { results := [.lit (.bool true)], args := [d1, d2] }
  | _ => none }
def codecRoomRow : OpenClaim := { program := "ytahjmibamponnaa", sum := "a2e2f622345fde4ff50862464777db26b924b3ecf6226735ac3874394f250365", func := "pumice/pumicelaw01.CodecRoom", spec := "codecRoom", apart := false }
def CodecRoomSaid : Prop := codecRoomRow.holds Try.pinned (OpenSpec.ofChange codecRoomSpec)

/-- ITS FALSE NEIGHBOUR: 'it returns false'. Refute it at one input. -/
def codecRoomWrong : ChangeSpec := { name := "codecRoom", fn := fun _ => fun
  | [d1, d2] => { results := [.lit (.bool false)], args := [d1, d2] }
  | _ => none }
def CodecRoomWrongFalsely : Prop := codecRoomRow.holds Try.pinned (OpenSpec.ofChange codecRoomWrong)

/-- 'pumicelaw01.CodecNums': WHATEVER THE INPUT: true; the input reads as it did. -/
def codecNumsSpec : ChangeSpec := { name := "codecNums", fn := fun _ => fun
  | [d1, d2] => { results := [.lit (.bool true)], args := [d1, d2] }
  | _ => none }
def codecNumsRow : OpenClaim := { program := "ytahjmibamponnaa", sum := "a2e2f622345fde4ff50862464777db26b924b3ecf6226735ac3874394f250365", func := "pumice/pumicelaw01.CodecNums", spec := "codecNums", apart := false }
def CodecNumsSaid : Prop := codecNumsRow.holds Try.pinned (OpenSpec.ofChange codecNumsSpec)

/-- ITS FALSE NEIGHBOUR: 'it returns false'. Refute it at one input. -/
def codecNumsWrong : ChangeSpec := { name := "codecNums", fn := fun _ => fun
  | [d1, d2] => { results := [.lit (.bool false)], args := [d1, d2] }
  | _ => none }
def CodecNumsWrongFalsely : Prop := codecNumsRow.holds Try.pinned (OpenSpec.ofChange codecNumsWrong)

/-- 'pumicelaw01.CodecTakes': WHATEVER THE INPUT: true; the input reads as it did. -/
def codecTakesSpec : ChangeSpec := { name := "codecTakes", fn := fun _ => fun
  | [d1, d2] => { results := [.lit (.bool true)], args := [d1, d2] }
  | _ => none }
def codecTakesRow : OpenClaim := { program := "ytahjmibamponnaa", sum := "a2e2f622345fde4ff50862464777db26b924b3ecf6226735ac3874394f250365", func := "pumice/pumicelaw01.CodecTakes", spec := "codecTakes", apart := false }
def CodecTakesSaid : Prop := codecTakesRow.holds Try.pinned (OpenSpec.ofChange codecTakesSpec)

/-- ITS FALSE NEIGHBOUR: 'it returns false'. Refute it at one input. -/
def codecTakesWrong : ChangeSpec := { name := "codecTakes", fn := fun _ => fun
  | [d1, d2] => { results := [.lit (.bool false)], args := [d1, d2] }
  | _ => none }
def CodecTakesWrongFalsely : Prop := codecTakesRow.holds Try.pinned (OpenSpec.ofChange codecTakesWrong)

/-- 'pumicelaw01.CodecNil': WHATEVER THE INPUT: true; the input reads as it did. -/
def codecNilSpec : ChangeSpec := { name := "codecNil", fn := fun _ => fun
  | [d1, d2] => { results := [.lit (.bool true)], args := [d1, d2] }
  | _ => none }
def codecNilRow : OpenClaim := { program := "ytahjmibamponnaa", sum := "a2e2f622345fde4ff50862464777db26b924b3ecf6226735ac3874394f250365", func := "pumice/pumicelaw01.CodecNil", spec := "codecNil", apart := false }
def CodecNilSaid : Prop := codecNilRow.holds Try.pinned (OpenSpec.ofChange codecNilSpec)

/-- ITS FALSE NEIGHBOUR: 'it returns false'. Refute it at one input. -/
def codecNilWrong : ChangeSpec := { name := "codecNil", fn := fun _ => fun
  | [d1, d2] => { results := [.lit (.bool false)], args := [d1, d2] }
  | _ => none }
def CodecNilWrongFalsely : Prop := codecNilRow.holds Try.pinned (OpenSpec.ofChange codecNilWrong)

/-- 'pumicelaw01.CodecBack': WHATEVER THE INPUT: true; the input reads as it did. -/
def codecBackSpec : ChangeSpec := { name := "codecBack", fn := fun _ => fun
  | [d] => { results := [.lit (.bool true)], args := [d] }
  | _ => none }
def codecBackRow : OpenClaim := { program := "ytahjmibamponnaa", sum := "a2e2f622345fde4ff50862464777db26b924b3ecf6226735ac3874394f250365", func := "pumice/pumicelaw01.CodecBack", spec := "codecBack", apart := false }
def CodecBackSaid : Prop := codecBackRow.holds Try.pinned (OpenSpec.ofChange codecBackSpec)

/-- ITS FALSE NEIGHBOUR: 'it returns false'. Refute it at one input. -/
def codecBackWrong : ChangeSpec := { name := "codecBack", fn := fun _ => fun
  | [d] => { results := [.lit (.bool false)], args := [d] }
  | _ => none }
def CodecBackWrongFalsely : Prop := codecBackRow.holds Try.pinned (OpenSpec.ofChange codecBackWrong)

/- THE SECOND FORM. 'bulk': how many values and letters a reading holds, each counted each time it is reached (what is shared counts as often as it is met; a slice's spare places count too). A statement '..UptoSaid' is the law's where the arguments, and the package variables that the reading takes, are together of bulk at most 1048576: NARROWER than '..Said'. Prove '..Said' where nothing that the law and all that it calls make is longer than what came in: it says more and counts as full. Else prove '..UptoSaid'. A law counts once. -/
mutual
def uptoBulk {H : Type} : DataW H → Nat
  | .lit (.string bytes) => bytes.length + 1
  | .lit _ => 1
  | .nil => 1
  | .ptr d => uptoBulk d + 1
  | .slice elems spare => uptoBulkAll elems + uptoBulkAll spare + 1
  | .agg parts => uptoBulkAll parts + 1
  | .iface _ d => uptoBulk d + 1
  | .map entries => uptoBulkEntries entries + 1
  | .held _ => 1
def uptoBulkAll {H : Type} : List (DataW H) → Nat
  | [] => 0
  | d :: r => uptoBulk d + uptoBulkAll r
def uptoBulkEntries {H : Type} : List (Lit × DataW H) → Nat
  | [] => 0
  | x :: r => uptoBulkEntry x + uptoBulkEntries r
def uptoBulkEntry {H : Type} : Lit × DataW H → Nat
  | (.string bytes, d) => bytes.length + uptoBulk d + 1
  | (_, d) => uptoBulk d + 1
 end
def uptoSmall : (H : Type) → List (DataW H) → Bool := fun _ ds => decide (uptoBulkAll ds ≤ 1048576)
def OpenSpec.upto (s : _root_.Go.ChangeSpec) : _root_.Go.OpenSpec := { _root_.Go.OpenSpec.ofChange s with cond := some uptoSmall }

/-- 'pumicelaw01.CodecLays', WHERE WHAT IT READS IS OF BULK AT MOST 1048576: true; the input reads as it did. -/
def codecLaysUptoRow : OpenClaim := { program := "ytahjmibamponnaa", sum := "a2e2f622345fde4ff50862464777db26b924b3ecf6226735ac3874394f250365", func := "pumice/pumicelaw01.CodecLays", spec := "codecLays", apart := false, narrowed := true }
def CodecLaysUptoSaid : Prop := codecLaysUptoRow.holds Try.pinned (OpenSpec.upto codecLaysSpec)

/-- 'pumicelaw01.CodecRoom', WHERE WHAT IT READS IS OF BULK AT MOST 1048576: true; the input reads as it did. -/
def codecRoomUptoRow : OpenClaim := { program := "ytahjmibamponnaa", sum := "a2e2f622345fde4ff50862464777db26b924b3ecf6226735ac3874394f250365", func := "pumice/pumicelaw01.CodecRoom", spec := "codecRoom", apart := false, narrowed := true }
def CodecRoomUptoSaid : Prop := codecRoomUptoRow.holds Try.pinned (OpenSpec.upto codecRoomSpec)

/-- 'pumicelaw01.CodecNums', WHERE WHAT IT READS IS OF BULK AT MOST 1048576: true; the input reads as it did. -/
def codecNumsUptoRow : OpenClaim := { program := "ytahjmibamponnaa", sum := "a2e2f622345fde4ff50862464777db26b924b3ecf6226735ac3874394f250365", func := "pumice/pumicelaw01.CodecNums", spec := "codecNums", apart := false, narrowed := true }
def CodecNumsUptoSaid : Prop := codecNumsUptoRow.holds Try.pinned (OpenSpec.upto codecNumsSpec)

/-- 'pumicelaw01.CodecTakes', WHERE WHAT IT READS IS OF BULK AT MOST 1048576: true; the input reads as it did. -/
def codecTakesUptoRow : OpenClaim := { program := "ytahjmibamponnaa", sum := "a2e2f622345fde4ff50862464777db26b924b3ecf6226735ac3874394f250365", func := "pumice/pumicelaw01.CodecTakes", spec := "codecTakes", apart := false, narrowed := true }
def CodecTakesUptoSaid : Prop := codecTakesUptoRow.holds Try.pinned (OpenSpec.upto codecTakesSpec)

/-- 'pumicelaw01.CodecNil', WHERE WHAT IT READS IS OF BULK AT MOST 1048576: true; the input reads as it did. -/
def codecNilUptoRow : OpenClaim := { program := "ytahjmibamponnaa", sum := "a2e2f622345fde4ff50862464777db26b924b3ecf6226735ac3874394f250365", func := "pumice/pumicelaw01.CodecNil", spec := "codecNil", apart := false, narrowed := true }
def CodecNilUptoSaid : Prop := codecNilUptoRow.holds Try.pinned (OpenSpec.upto codecNilSpec)

/-- 'pumicelaw01.CodecBack', WHERE WHAT IT READS IS OF BULK AT MOST 1048576: true; the input reads as it did. -/
def codecBackUptoRow : OpenClaim := { program := "ytahjmibamponnaa", sum := "a2e2f622345fde4ff50862464777db26b924b3ecf6226735ac3874394f250365", func := "pumice/pumicelaw01.CodecBack", spec := "codecBack", apart := false, narrowed := true }
def CodecBackUptoSaid : Prop := codecBackUptoRow.holds Try.pinned (OpenSpec.upto codecBackSpec)

end Rows
end Go.Proofs.Ytahjmibamponnaa
