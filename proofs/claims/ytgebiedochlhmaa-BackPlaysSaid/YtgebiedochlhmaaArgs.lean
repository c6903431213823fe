/- What the parameters of the laws of this chapter read as. -/
import Derived.Test.YtgebiedochlhmaaOpn
import Derived.Test.YtgebiedochlhmaaRows
import Derived.KernelRfl
set_option linter.unusedVariables false
set_option maxRecDepth 20000
namespace Go.Proofs.Ytgebiedochlhmaa
abbrev R5 : Rel Int := RInt .u8
theorem o5 {H : Type} {enc : TypeId × Value → H} {W : World} : Opens enc Try.prog W 5 R5 := Opens.int Try.underlying5
abbrev R3 : Rel Int := RInt .i64
theorem o3 {H : Type} {enc : TypeId × Value → H} {W : World} : Opens enc Try.prog W 3 R3 := Opens.int Try.underlying3
abbrev R4 : Rel Bool := RBool
theorem o4 {H : Type} {enc : TypeId × Value → H} {W : World} : Opens enc Try.prog W 4 R4 := Opens.bool Try.underlying4
abbrev R23 : Rel Int := RInt .u64
theorem o23 {H : Type} {enc : TypeId × Value → H} {W : World} : Opens enc Try.prog W 23 R23 := Opens.int Try.underlying23
abbrev R31 := RSt 6 (RF 0 1 R5 (RF 1 1 R3 (RF 2 1 R3 (RF 3 1 R5 (RF 4 1 R4 (RF 5 1 R23 (RUnit)))))))
theorem o31 {H : Type} {enc : TypeId × Value → H} {W : World} : Opens enc Try.prog W 31 R31 := Opens.struct Try.underlying31 (by kernel_rfl) (OpensF.cons o5 (OpensF.cons o3 (OpensF.cons o3 (OpensF.cons o5 (OpensF.cons o4 (OpensF.cons o23 (OpensF.nil) rfl (by kernel_rfl)) rfl (by kernel_rfl)) rfl (by kernel_rfl)) rfl (by kernel_rfl)) rfl (by kernel_rfl)) rfl (by kernel_rfl))
abbrev R22 := RSl 6 40 R31
theorem o22 {H : Type} {enc : TypeId × Value → H} {W : World} : Opens enc Try.prog W 22 R22 := Opens.slice Try.underlying22 (by kernel_rfl) (by kernel_rfl) (by decide) o31
end Go.Proofs.Ytgebiedochlhmaa
