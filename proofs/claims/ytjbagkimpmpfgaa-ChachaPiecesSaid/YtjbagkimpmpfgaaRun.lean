/- What follows the code, held apart as a name: the kernel then has little to compare. Conditions: none. -/
import Derived.Test.YtjbagkimpmpfgaaMxN
namespace Go.Proofs.Ytjbagkimpmpfgaa
open Go Go.Mx
theorem run_K {P : KK → Prop} {K0 : KK} (h : ∀ K, K = K0 → P K) : P K0 := h K0 rfl
end Go.Proofs.Ytjbagkimpmpfgaa
