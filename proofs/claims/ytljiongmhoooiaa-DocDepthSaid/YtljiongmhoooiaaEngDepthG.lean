/- DocDepth: pieces of its loop, run by the kernel. No conditions. -/
import Derived.Test.YtljiongmhoooiaaEngDepthA
namespace Go.Proofs.Ytljiongmhoooiaa
open Go Go.Eng
theorem C3_f6 : C3 false 6 := fun bits b x => by kernel_rfl
theorem C3_f7 : C3 false 7 := fun bits b x => by kernel_rfl
theorem C3_f8 : C3 false 8 := fun bits b x => by kernel_rfl
end Go.Proofs.Ytljiongmhoooiaa
