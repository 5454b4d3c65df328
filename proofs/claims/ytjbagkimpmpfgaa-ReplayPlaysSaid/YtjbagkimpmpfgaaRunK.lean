/- Code cut in pieces, what follows held apart: the kernel then has one piece at a time to compare. Conditions: none. -/
import Derived.Test.YtjbagkimpmpfgaaRun
namespace Go.Proofs.Ytjbagkimpmpfgaa
open Go Go.Mx
theorem run_seq_K {Γ : Tab} {E : Env} {m : Nat} {a b : Code} {s : LS} {c : Prop} {K : KK} (h : ∀ K', K' = ⟨fun s c => run Γ E m b s c K, K.ke, K.kr⟩ → run Γ E m a s c K') : run Γ E m (.seq a b) s c K := h _ rfl
theorem run_block_K {Γ : Tab} {E : Env} {m id : Nat} {b : Code} {s : LS} {c : Prop} {K : KK} (h : ∀ K', K' = ⟨K.kn, fun i s c => (match Nat.beq i id with | true => K.kn s c | false => K.ke i s c), K.kr⟩ → run Γ E m b s c K') : run Γ E m (.block id b) s c K := h _ rfl
end Go.Proofs.Ytjbagkimpmpfgaa
