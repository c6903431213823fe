/- What the parameters of the laws of this chapter read as. -/
import Derived.Test.YtffbkmlgmmokiaaOpn
import Derived.Test.YtffbkmlgmmokiaaRows
import Derived.KernelRfl
set_option linter.unusedVariables false
set_option maxRecDepth 20000
namespace Go.Proofs.Ytffbkmlgmmokiaa
abbrev R5 : Rel Int := RInt .u8
theorem o5 {H : Type} {enc : TypeId × Value → H} {W : World} : Opens enc Try.prog W 5 R5 := Opens.int Try.underlying5
abbrev R4 : Rel Bool := RBool
theorem o4 {H : Type} {enc : TypeId × Value → H} {W : World} : Opens enc Try.prog W 4 R4 := Opens.bool Try.underlying4
abbrev R22 := RSl 1 1 R5
theorem o22 {H : Type} {enc : TypeId × Value → H} {W : World} : Opens enc Try.prog W 22 R22 := Opens.slice Try.underlying22 (by kernel_rfl) (by kernel_rfl) (by decide) o5
abbrev R24 := RSt 4 (RF 0 1 R5 (RF 1 1 R4 (RF 2 1 R4 (RF 3 1 R22 (RUnit)))))
theorem o24 {H : Type} {enc : TypeId × Value → H} {W : World} : Opens enc Try.prog W 24 R24 := Opens.struct Try.underlying24 (by kernel_rfl) (OpensF.cons o5 (OpensF.cons o4 (OpensF.cons o4 (OpensF.cons o22 (OpensF.nil) rfl (by kernel_rfl)) rfl (by kernel_rfl)) rfl (by kernel_rfl)) rfl (by kernel_rfl))
abbrev R34 := RSl 1 24 R22
theorem o34 {H : Type} {enc : TypeId × Value → H} {W : World} : Opens enc Try.prog W 34 R34 := Opens.slice Try.underlying34 (by kernel_rfl) (by kernel_rfl) (by decide) o22
end Go.Proofs.Ytffbkmlgmmokiaa
