/- DocDepth: pieces of its loop, run by the kernel. No conditions. -/
import Derived.Test.YtljiongmhoooiaaEngDepthA
namespace Go.Proofs.Ytljiongmhoooiaa
open Go Go.Eng
theorem B3_f0 : B3 false 0 := fun bits m b x => by kernel_rfl
theorem B3_f1 : B3 false 1 := fun bits m b x => by kernel_rfl
theorem B3_f2 : B3 false 2 := fun bits m b x => by kernel_rfl
theorem B3_f3 : B3 false 3 := fun bits m b x => by kernel_rfl
theorem B3_f4 : B3 false 4 := fun bits m b x => by kernel_rfl
theorem B3_f5 : B3 false 5 := fun bits m b x => by kernel_rfl
theorem B3_f6 : B3 false 6 := fun bits m b x => by kernel_rfl
theorem B3_f7 : B3 false 7 := fun bits m b x => by kernel_rfl
end Go.Proofs.Ytljiongmhoooiaa
