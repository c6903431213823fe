/- What the parameters of the laws of this chapter read as. -/
import Derived.Test.YtahjmibamponnaaOpn
import Derived.Test.YtahjmibamponnaaRows
import Derived.KernelRfl
set_option linter.unusedVariables false
set_option maxRecDepth 20000
namespace Go.Proofs.Ytahjmibamponnaa
abbrev R3 : Rel Int := RInt .i64
theorem o3 {H : Type} {enc : TypeId × Value → H} {W : World} : Opens enc Try.prog W 3 R3 := Opens.int Try.underlying3
abbrev R5 : Rel Int := RInt .u8
theorem o5 {H : Type} {enc : TypeId × Value → H} {W : World} : Opens enc Try.prog W 5 R5 := Opens.int Try.underlying5
abbrev R32 : Rel Int := RInt .u64
theorem o32 {H : Type} {enc : TypeId × Value → H} {W : World} : Opens enc Try.prog W 32 R32 := Opens.int Try.underlying32
abbrev R27 := RSl 1 1 R5
theorem o27 {H : Type} {enc : TypeId × Value → H} {W : World} : Opens enc Try.prog W 27 R27 := Opens.slice Try.underlying27 (by kernel_rfl) (by kernel_rfl) (by decide) o5
abbrev R34 := RSt 4 (RF 0 1 R5 (RF 1 1 R32 (RF 2 1 R3 (RF 3 1 R27 (RUnit)))))
theorem o34 {H : Type} {enc : TypeId × Value → H} {W : World} : Opens enc Try.prog W 34 R34 := Opens.struct Try.underlying34 (by kernel_rfl) (OpensF.cons o5 (OpensF.cons o32 (OpensF.cons o3 (OpensF.cons o27 (OpensF.nil) rfl (by kernel_rfl)) rfl (by kernel_rfl)) rfl (by kernel_rfl)) rfl (by kernel_rfl))
abbrev R22 := RSl 4 48 R34
theorem o22 {H : Type} {enc : TypeId × Value → H} {W : World} : Opens enc Try.prog W 22 R22 := Opens.slice Try.underlying22 (by kernel_rfl) (by kernel_rfl) (by decide) o34
abbrev R40 : Rel Int := RInt .u16
theorem o40 {H : Type} {enc : TypeId × Value → H} {W : World} : Opens enc Try.prog W 40 R40 := Opens.int Try.underlying40
abbrev R52 := RSt 2 (RF 0 1 R5 (RF 1 1 R3 (RUnit)))
theorem o52 {H : Type} {enc : TypeId × Value → H} {W : World} : Opens enc Try.prog W 52 R52 := Opens.struct Try.underlying52 (by kernel_rfl) (OpensF.cons o5 (OpensF.cons o3 (OpensF.nil) rfl (by kernel_rfl)) rfl (by kernel_rfl))
abbrev R47 := RSl 2 16 R52
theorem o47 {H : Type} {enc : TypeId × Value → H} {W : World} : Opens enc Try.prog W 47 R47 := Opens.slice Try.underlying47 (by kernel_rfl) (by kernel_rfl) (by decide) o52
end Go.Proofs.Ytahjmibamponnaa
