/- Chacha: the program's derived key. -/
import Derived.Test.YtjbagkimpmpfgaaC6
namespace Go.Proofs.Ytjbagkimpmpfgaa
open Go Go.Mx
set_option maxRecDepth 100000
set_option maxHeartbeats 4000000

def fourW (m : List Int) : List Int := [word4 m 0, word4 m 4, word4 m 8, word4 m 12]
theorem fourW_W {m : List Int} (h : allB m) (hl : m.length = 16) : allW (fourW m) := by
  apply allW_of
  intro x hx
  simp only [fourW, List.mem_cons, List.not_mem_nil, or_false] at hx
  rcases hx with rfl | rfl | rfl | rfl <;> exact word4_is h (by omega)
def deriveI (k m : List Int) : List Int := putI (putI (List.replicate 32 0) 0 (iter dbl 10 (squareI k (fourW m))) 0 4) 16 (iter dbl 10 (squareI k (fourW m))) 12 4
def c34 : Ctr := fun args objs => match args, objs with
  | [.agg [.ints .u8 k 32], .agg [.ints .u8 m 16]], [] => some ⟨[allB k, k.length = 32, allB m, m.length = 16], .v (.agg [.ints .u8 (deriveI k m) 32]), [], []⟩
  | _, _ => none
theorem m34 : Meets Try.prog 34 c34 := by
  refine meets_of_run2 tab_ok envB_ok mixed [.cell 4 30] Try.func34 rfl Try.ntmps34 Try.call34 (fun t w => by simp [results, Try.results34, resS, rv1]) ?_
  intro args objs r hr hcs
  unfold c34 at hr
  split at hr
  · rename_i k m
    simp only [Option.some.injEq] at hr; subst hr
    obtain ⟨h1, h2, h3, h4, _⟩ := hcs
    have hSW := squareI_W h1 h2 (fourW_W h3 h4)
    have hSL : (squareI k (fourW m)).length = 16 := squareI_len rfl
    have hTW := iter_W 10 hSW
    have hTL : (iter dbl 10 (squareI k (fourW m))).length = 16 := (iter_len 10 _).trans hSL
    refine ⟨rfl, ?_⟩
    have hD : deriveI k m = putI (putI (List.replicate 32 0) 0 (iter dbl 10 (squareI k (fourW m))) 0 4) 16 (iter dbl 10 (squareI k (fourW m))) 12 4 := rfl
    conv => whnf
    simp only [ti22, Nat.mul_one, List.replicate, List.set]
    change _ ∧ _
    rw [show ([word4 m (Int.toNat 0), word4 m (Int.toNat 4), word4 m (Int.toNat 8), word4 m (Int.toNat 12)] : List Int) = fourW m from rfl]
    generalize iter dbl 10 (squareI k (fourW m)) = T at hTW hTL hD ⊢
    generalize squareI k (fourW m) = S at hSW hSL ⊢
    refine ⟨?_, rfl, [], [], rfl, ⟨⟨rfl, ?_, rfl, trivial⟩, trivial⟩, trivial⟩
    · repeat' apply And.intro
      all_goals first
        | exact True.intro
        | decide +kernel
        | exact h1
        | exact h2
        | exact h3
        | exact h4
        | exact hTW
        | exact hTL
        | exact hSW
        | exact hSL
        | exact putI_len (by simp) (by rw [hTL]; decide)
        | rfl
    · rw [hD]
      rfl
  · cases hr
end Go.Proofs.Ytjbagkimpmpfgaa
