/- DocDepth: pieces of its loop, run by the kernel. No conditions. -/
import Derived.Test.YtljiongmhoooiaaEngDepthA
namespace Go.Proofs.Ytljiongmhoooiaa
open Go Go.Eng
theorem C3_f0 : C3 false 0 := fun bits b x => by kernel_rfl
theorem C3_f1 : C3 false 1 := fun bits b x => by kernel_rfl
theorem C3_f2 : C3 false 2 := fun bits b x => by kernel_rfl
theorem C3_f3 : C3 false 3 := fun bits b x => by kernel_rfl
theorem C3_f4 : C3 false 4 := fun bits b x => by kernel_rfl
theorem C3_f5 : C3 false 5 := fun bits b x => by kernel_rfl
end Go.Proofs.Ytljiongmhoooiaa
