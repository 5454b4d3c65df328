/- What follows the code, held apart as a name: the kernel then has little to compare. Conditions: none. -/
import Derived.Test.YtjbagkimpmpfgaaMxN
namespace Go.Proofs.Ytjbagkimpmpfgaa
open Go Go.Mx
structure isI (x : Int) : Prop where
  lo : -9223372036854775808 ≤ x
  hi : x ≤ 9223372036854775807
theorem run_K {P : KK → Prop} {K0 : KK} (h : ∀ K, K = K0 → P K) : P K0 := h K0 rfl
end Go.Proofs.Ytjbagkimpmpfgaa
