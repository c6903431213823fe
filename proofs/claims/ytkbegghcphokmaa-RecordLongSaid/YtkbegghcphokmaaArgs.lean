/- What the parameters of the laws of this chapter read as. -/
import Derived.Test.YtkbegghcphokmaaOpn
import Derived.Test.YtkbegghcphokmaaRows
import Derived.KernelRfl
set_option linter.unusedVariables false
set_option maxRecDepth 20000
namespace Go.Proofs.Ytkbegghcphokmaa
abbrev R5 : Rel Int := RInt .u8
theorem o5 {H : Type} {enc : TypeId × Value → H} {W : World} : Opens enc Try.prog W 5 R5 := Opens.int Try.underlying5
abbrev R22 : Rel Int := RInt .u32
theorem o22 {H : Type} {enc : TypeId × Value → H} {W : World} : Opens enc Try.prog W 22 R22 := Opens.int Try.underlying22
abbrev R23 : Rel Int := RInt .u64
theorem o23 {H : Type} {enc : TypeId × Value → H} {W : World} : Opens enc Try.prog W 23 R23 := Opens.int Try.underlying23
abbrev R25 := RArr 32 1 R5
theorem o25 {H : Type} {enc : TypeId × Value → H} {W : World} : Opens enc Try.prog W 25 R25 := Opens.array Try.underlying25 (by kernel_rfl) (by kernel_rfl) o5
abbrev R27 := RSt 33 (RF 0 32 R25 (RF 32 1 R22 (RUnit)))
theorem o27 {H : Type} {enc : TypeId × Value → H} {W : World} : Opens enc Try.prog W 27 R27 := Opens.struct Try.underlying27 (by kernel_rfl) (OpensF.cons o25 (OpensF.cons o22 (OpensF.nil) rfl (by kernel_rfl)) rfl (by kernel_rfl))
abbrev R28 := RSl 1 1 R5
theorem o28 {H : Type} {enc : TypeId × Value → H} {W : World} : Opens enc Try.prog W 28 R28 := Opens.slice Try.underlying28 (by kernel_rfl) (by kernel_rfl) (by decide) o5
abbrev R30 := RSt 37 (RF 0 1 R5 (RF 1 1 R22 (RF 2 1 R23 (RF 3 33 R27 (RF 36 1 R28 (RUnit))))))
theorem o30 {H : Type} {enc : TypeId × Value → H} {W : World} : Opens enc Try.prog W 30 R30 := Opens.struct Try.underlying30 (by kernel_rfl) (OpensF.cons o5 (OpensF.cons o22 (OpensF.cons o23 (OpensF.cons o27 (OpensF.cons o28 (OpensF.nil) rfl (by kernel_rfl)) rfl (by kernel_rfl)) rfl (by kernel_rfl)) rfl (by kernel_rfl)) rfl (by kernel_rfl))
abbrev R41 : Rel Int := RInt .u16
theorem o41 {H : Type} {enc : TypeId × Value → H} {W : World} : Opens enc Try.prog W 41 R41 := Opens.int Try.underlying41
end Go.Proofs.Ytkbegghcphokmaa
