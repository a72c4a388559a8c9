/- DocDepth: pieces of its loop, run by the kernel. No conditions. -/
import Derived.Test.YtljiongmhoooiaaEngDepthA
namespace Go.Proofs.Ytljiongmhoooiaa
open Go Go.Eng
theorem B3_t0 : B3 true 0 := fun bits m b x => by kernel_rfl
theorem B3_t1 : B3 true 1 := fun bits m b x => by kernel_rfl
theorem B3_t2 : B3 true 2 := fun bits m b x => by kernel_rfl
theorem B3_t3 : B3 true 3 := fun bits m b x => by kernel_rfl
theorem B3_t4 : B3 true 4 := fun bits m b x => by kernel_rfl
theorem B3_t5 : B3 true 5 := fun bits m b x => by kernel_rfl
theorem B3_t6 : B3 true 6 := fun bits m b x => by kernel_rfl
theorem B3_t7 : B3 true 7 := fun bits m b x => by kernel_rfl
end Go.Proofs.Ytljiongmhoooiaa
