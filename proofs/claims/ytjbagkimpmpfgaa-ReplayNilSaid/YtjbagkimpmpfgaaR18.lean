/- Replay: the law of no window, walked. -/
import Derived.Test.YtjbagkimpmpfgaaR16
namespace Go.Proofs.Ytjbagkimpmpfgaa
open Go Go.Mx
set_option maxRecDepth 100000
set_option maxHeartbeats 4000000

def env11 : Env := fun f => match f with
  | 39 => some c39
  | 52 => some (orC c52p c52)
  | 53 => some (orC c53p (orC c53z c53))
  | 54 => some c54p
  | 55 => some c55p
  | 56 => some (orC c56p c56)
  | 57 => some c57p
  | 58 => some c58p
  | _ => none
theorem env11_ok : EnvOk Try.prog env11 := by
  intro f c h
  unfold env11 at h
  split at h
  · simp only [Option.some.injEq] at h; subst h; exact m39
  · simp only [Option.some.injEq] at h; subst h; exact meets_or m52p m52
  · simp only [Option.some.injEq] at h; subst h; exact meets_or m53p (meets_or m53z m53)
  · simp only [Option.some.injEq] at h; subst h; exact m54p
  · simp only [Option.some.injEq] at h; subst h; exact m55p
  · simp only [Option.some.injEq] at h; subst h; exact meets_or m56p m56
  · simp only [Option.some.injEq] at h; subst h; exact m57p
  · simp only [Option.some.injEq] at h; subst h; exact m58p
  · cases h
def c11 : Ctr := fun args objs => match args, objs with
  | [.one (.int .u64 _)], [] => some ⟨[], .v (.one (.bool true true)), [], []⟩
  | _, _ => none
theorem m11 : Meets Try.prog 11 c11 := by
  refine meets_of_run2 tab_ok env11_ok mixed [.tmp 2] Try.func11 rfl Try.ntmps11 Try.call11 (fun t w => by simp [results, Try.results11, resS, rv1]) ?_
  intro args objs r hr hcs
  unfold c11 at hr
  split at hr
  · rename_i n
    simp only [Option.some.injEq] at hr; subst hr
    refine ⟨rfl, ?_⟩
    conv => whnf
    have f1 : freshW 18446744073709551615 0 8 [128, 0] 6 = false := by decide +kernel
    have a1 : takeL 18446744073709551615 0 8 [128, 0] 6 = [128, 0] := by decide +kernel
    have b1 : takeT 18446744073709551615 0 8 [128, 0] 6 = 8 := by decide +kernel
    have f2 : freshW 18446744073709551615 0 8 [128, 0] 8 = true := by decide +kernel
    have a2 : takeL 18446744073709551615 0 8 [128, 0] 8 = [384, 0] := by decide +kernel
    have b2 : takeT 18446744073709551615 0 8 [128, 0] 8 = 9 := by decide +kernel
    have k1 : imax (clampI 1) 1 = 1 := by decide +kernel
    have k2 : imax 0 1 = 1 := by decide +kernel
    rw [a1, b1]
    refine ⟨?_, fun _ => ?_, fun h => absurd h (by decide)⟩
    · repeat' apply And.intro
      all_goals first
        | exact True.intro
        | exact allU_all rfl
        | omega
        | decide +kernel
        | rfl
        | exact Nat.le_of_ble_eq_true rfl
        | (dsimp only; omega)
        | trace_state
    conv => whnf
    refine ⟨trivial, fun _ => ?_, fun h => absurd h (by decide)⟩
    conv => whnf
    refine ⟨trivial, fun _ => ?_, fun h => absurd h (by decide)⟩
    conv => whnf
    rw [k1]
    refine ⟨?_, fun _ => ?_, fun h => absurd h (by decide)⟩
    · repeat' apply And.intro
      all_goals first
        | exact True.intro
        | omega
        | decide +kernel
        | rfl
        | exact Nat.le_of_ble_eq_true rfl
        | (dsimp only; omega)
        | trace_state
    conv => whnf
    rw [f1]
    refine ⟨trivial, fun _ => ?_, fun h => absurd h (by decide)⟩
    conv => whnf
    rw [f2]
    refine ⟨trivial, fun _ => ?_, fun h => absurd h (by decide)⟩
    conv => whnf
    rw [k2]
    refine ⟨?_, rfl, [], [], rfl, ⟨rfl, trivial⟩, trivial⟩
    repeat' apply And.intro
    all_goals first
      | exact True.intro
      | omega
      | decide +kernel
      | rfl
      | exact Nat.le_of_ble_eq_true rfl
      | (dsimp only; omega)
      | trace_state
  · cases hr
end Go.Proofs.Ytjbagkimpmpfgaa

