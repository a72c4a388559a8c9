/- DocDepth: pieces of its loop, run by the kernel. No conditions. -/
import Derived.Test.YtljiongmhoooiaaEngDepthA
namespace Go.Proofs.Ytljiongmhoooiaa
open Go Go.Eng
theorem C3_t0 : C3 true 0 := fun bits b x => by kernel_rfl
theorem C3_t1 : C3 true 1 := fun bits b x => by kernel_rfl
theorem C3_t2 : C3 true 2 := fun bits b x => by kernel_rfl
theorem C3_t3 : C3 true 3 := fun bits b x => by kernel_rfl
theorem C3_t4 : C3 true 4 := fun bits b x => by kernel_rfl
theorem C3_t5 : C3 true 5 := fun bits b x => by kernel_rfl
theorem C3_t6 : C3 true 6 := fun bits b x => by kernel_rfl
theorem C3_t7 : C3 true 7 := fun bits b x => by kernel_rfl
theorem C3_t8 : C3 true 8 := fun bits b x => by kernel_rfl
end Go.Proofs.Ytljiongmhoooiaa
