/- What the parameters of the laws of this chapter read as. -/
import Derived.Test.YtofmmbjkpenaaaaOpn
import Derived.Test.YtofmmbjkpenaaaaRows
import Derived.KernelRfl
set_option linter.unusedVariables false
set_option maxRecDepth 20000
namespace Go.Proofs.Ytofmmbjkpenaaaa
abbrev R3 : Rel Int := RInt .i64
theorem o3 {H : Type} {enc : TypeId × Value → H} {W : World} : Opens enc Try.prog W 3 R3 := Opens.int Try.underlying3
abbrev R22 : Rel Int := RInt .u64
theorem o22 {H : Type} {enc : TypeId × Value → H} {W : World} : Opens enc Try.prog W 22 R22 := Opens.int Try.underlying22
abbrev R24 := RSt 4 (RF 0 1 R3 (RF 1 1 R3 (RF 2 1 R3 (RF 3 1 R22 (RUnit)))))
theorem o24 {H : Type} {enc : TypeId × Value → H} {W : World} : Opens enc Try.prog W 24 R24 := Opens.struct Try.underlying24 (by kernel_rfl) (OpensF.cons o3 (OpensF.cons o3 (OpensF.cons o3 (OpensF.cons o22 (OpensF.nil) rfl (by kernel_rfl)) rfl (by kernel_rfl)) rfl (by kernel_rfl)) rfl (by kernel_rfl))
abbrev R28 := RSl 4 32 R24
theorem o28 {H : Type} {enc : TypeId × Value → H} {W : World} : Opens enc Try.prog W 28 R28 := Opens.slice Try.underlying28 (by kernel_rfl) (by kernel_rfl) (by decide) o24
abbrev R5 : Rel Int := RInt .u8
theorem o5 {H : Type} {enc : TypeId × Value → H} {W : World} : Opens enc Try.prog W 5 R5 := Opens.int Try.underlying5
end Go.Proofs.Ytofmmbjkpenaaaa
