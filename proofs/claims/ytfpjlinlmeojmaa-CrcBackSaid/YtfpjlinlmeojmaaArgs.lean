/- What the parameters of the laws of this chapter read as. -/
import Derived.Test.YtfpjlinlmeojmaaOpn
import Derived.Test.YtfpjlinlmeojmaaRows
import Derived.KernelRfl
set_option linter.unusedVariables false
set_option maxRecDepth 20000
namespace Go.Proofs.Ytfpjlinlmeojmaa
abbrev R22 : Rel Int := RInt .u32
theorem o22 {H : Type} {enc : TypeId × Value → H} {W : World} : Opens enc Try.prog W 22 R22 := Opens.int Try.underlying22
abbrev R5 : Rel Int := RInt .u8
theorem o5 {H : Type} {enc : TypeId × Value → H} {W : World} : Opens enc Try.prog W 5 R5 := Opens.int Try.underlying5
abbrev R23 := RSl 1 1 R5
theorem o23 {H : Type} {enc : TypeId × Value → H} {W : World} : Opens enc Try.prog W 23 R23 := Opens.slice Try.underlying23 (by kernel_rfl) (by kernel_rfl) (by decide) o5
abbrev R29 : Rel Int := RInt .u64
theorem o29 {H : Type} {enc : TypeId × Value → H} {W : World} : Opens enc Try.prog W 29 R29 := Opens.int Try.underlying29
abbrev R31 := RArr 4 1 R5
theorem o31 {H : Type} {enc : TypeId × Value → H} {W : World} : Opens enc Try.prog W 31 R31 := Opens.array Try.underlying31 (by kernel_rfl) (by kernel_rfl) o5
end Go.Proofs.Ytfpjlinlmeojmaa
