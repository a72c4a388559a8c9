/- DocDepth: pieces of its loop, run by the kernel. No conditions. -/
import Derived.Test.YtljiongmhoooiaaEngDepthA
namespace Go.Proofs.Ytljiongmhoooiaa
open Go Go.Eng
theorem A3_t0 : A3 true 0 := fun bits m x => by kernel_rfl
theorem A3_t1 : A3 true 1 := fun bits m x => by kernel_rfl
theorem A3_t2 : A3 true 2 := fun bits m x => by kernel_rfl
theorem A3_t3 : A3 true 3 := fun bits m x => by kernel_rfl
theorem A3_t4 : A3 true 4 := fun bits m x => by kernel_rfl
theorem A3_t5 : A3 true 5 := fun bits m x => by kernel_rfl
theorem A3_t6 : A3 true 6 := fun bits m x => by kernel_rfl
theorem A3_t7 : A3 true 7 := fun bits m x => by kernel_rfl
theorem A3_t8 : A3 true 8 := fun bits m x => by kernel_rfl
theorem A3_f0 : A3 false 0 := fun bits m x => by kernel_rfl
theorem A3_f1 : A3 false 1 := fun bits m x => by kernel_rfl
theorem A3_f2 : A3 false 2 := fun bits m x => by kernel_rfl
theorem A3_f3 : A3 false 3 := fun bits m x => by kernel_rfl
theorem A3_f4 : A3 false 4 := fun bits m x => by kernel_rfl
theorem A3_f5 : A3 false 5 := fun bits m x => by kernel_rfl
theorem A3_f6 : A3 false 6 := fun bits m x => by kernel_rfl
theorem A3_f7 : A3 false 7 := fun bits m x => by kernel_rfl
theorem A3_f8 : A3 false 8 := fun bits m x => by kernel_rfl
end Go.Proofs.Ytljiongmhoooiaa
