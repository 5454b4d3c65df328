/- Chacha: what goes into a quarter round is found again. -/
import Derived.Test.YtjbagkimpmpfgaaC1
namespace Go.Proofs.Ytjbagkimpmpfgaa
open Go Go.Mx
set_option maxRecDepth 100000

theorem rot_back (x : W) {n : Nat} (h0 : 0 < n) (h1 : n < 32) : ((rotl x n) >>> n) ||| ((rotl x n) <<< (32 - n)) = x := by
  apply BitVec.eq_of_getLsbD_eq
  intro i hi
  simp only [rotl, BitVec.getLsbD_or, BitVec.getLsbD_ushiftRight, BitVec.getLsbD_shiftLeft]
  rcases Nat.lt_or_ge i (32 - n) with h | h
  · have e1 : n + i - n = i := by omega
    have e2 : x.getLsbD (32 - n + (n + i)) = false := BitVec.getLsbD_of_ge _ _ (by omega)
    have e3 : n + i < 32 := by omega
    have e4 : ¬ (n + i < n) := by omega
    simp [e1, e2, e3, e4, h]
  · have e1 : 32 - n + (i - (32 - n)) = i := by omega
    have e3 : ¬ (n + i < 32) := by omega
    have e4 : ¬ (i < 32 - n) := by omega
    have e5 : i - (32 - n) < n := by omega
    have e6 : x.getLsbD (32 - n + (n + i)) = false := BitVec.getLsbD_of_ge _ _ (by omega)
    simp [e1, e3, e4, e5, e6, hi]
theorem back7 (x : W) : ((rotl x 7) >>> 7) ||| ((rotl x 7) <<< 25) = x := rot_back x (n := 7) (by omega) (by omega)
theorem back8 (x : W) : ((rotl x 8) >>> 8) ||| ((rotl x 8) <<< 24) = x := rot_back x (n := 8) (by omega) (by omega)
theorem back12 (x : W) : ((rotl x 12) >>> 12) ||| ((rotl x 12) <<< 20) = x := rot_back x (n := 12) (by omega) (by omega)
theorem back16 (x : W) : ((rotl x 16) >>> 16) ||| ((rotl x 16) <<< 16) = x := rot_back x (n := 16) (by omega) (by omega)
theorem xx (a b : W) : (a ^^^ b) ^^^ b = a := by rw [BitVec.xor_assoc, BitVec.xor_self, BitVec.xor_zero]
theorem aa (a b : W) : (a + b) - b = a := BitVec.add_sub_cancel a b
theorem r7 (a : W) : shrI .u32 (wI a) 7 = wI (a >>> 7) := shr_any .u32 a (n := 7) (by decide)
theorem r8 (a : W) : shrI .u32 (wI a) 8 = wI (a >>> 8) := shr_any .u32 a (n := 8) (by decide)
theorem r12 (a : W) : shrI .u32 (wI a) 12 = wI (a >>> 12) := shr_any .u32 a (n := 12) (by decide)
theorem r16 (a : W) : shrI .u32 (wI a) 16 = wI (a >>> 16) := shr_any .u32 a (n := 16) (by decide)
theorem l25 (a : W) : shlI .u32 (wI a) 25 = wI (a <<< 25) := u32_shl a (n := 25) (by decide)
theorem l24 (a : W) : shlI .u32 (wI a) 24 = wI (a <<< 24) := u32_shl a (n := 24) (by decide)
theorem l20 (a : W) : shlI .u32 (wI a) 20 = wI (a <<< 20) := u32_shl a (n := 20) (by decide)
theorem l16 (a : W) : shlI .u32 (wI a) 16 = wI (a <<< 16) := u32_shl a (n := 16) (by decide)

def c4 : Ctr := fun args objs => match args, objs with
  | [.one (.int .u32 a), .one (.int .u32 b), .one (.int .u32 c), .one (.int .u32 d)], [] => some ⟨[isW a, isW b, isW c, isW d], .v (.one (.bool true true)), [], []⟩
  | _, _ => none
theorem m4 : Meets Try.prog 4 c4 := by
  refine meets_of_run tab_ok envL_ok mixed [8] Try.func4 rfl Try.ntmps4 Try.call4 (fun t w => by simp [results, Try.results4, resV]) ?_
  intro args objs r hr hcs
  unfold c4 at hr
  split at hr
  · simp only [Option.some.injEq] at hr; subst hr
    obtain ⟨h1, h2, h3, h4, _⟩ := hcs
    obtain ⟨a, rfl⟩ := of_isW h1
    obtain ⟨b, rfl⟩ := of_isW h2
    obtain ⟨c, rfl⟩ := of_isW h3
    obtain ⟨d, rfl⟩ := of_isW h4
    refine ⟨rfl, ?_⟩
    conv => whnf
    simp only [wB_wI, r7, r8, r12, r16, l25, l24, l20, l16, u32_or, u32_xor, u32_dif, quarter, back7, back8, back12, back16, xx, aa]
    refine ⟨?_, fun _ => ?_, fun h => (no_self rfl h).elim⟩
    · repeat' apply And.intro
      all_goals first
        | exact True.intro
        | assumption
        | decide +kernel
    conv => whnf
    refine ⟨?_, fun _ => ?_, fun h => (no_self rfl h).elim⟩
    · repeat' apply And.intro
      all_goals first
        | exact True.intro
        | assumption
        | decide +kernel
    conv => whnf
    refine ⟨?_, fun _ => ?_, fun h => (no_self rfl h).elim⟩
    · repeat' apply And.intro
      all_goals first
        | exact True.intro
        | assumption
        | decide +kernel
    conv => whnf
    refine ⟨?_, fun _ => ?_, fun h => (no_self rfl h).elim⟩
    · repeat' apply And.intro
      all_goals first
        | exact True.intro
        | assumption
        | decide +kernel
    conv => whnf
    refine ⟨?_, rfl, [], [], rfl, ⟨rfl, trivial⟩, trivial⟩
    · repeat' apply And.intro
      all_goals first
        | exact True.intro
        | decide +kernel
  · cases hr
end Go.Proofs.Ytjbagkimpmpfgaa
