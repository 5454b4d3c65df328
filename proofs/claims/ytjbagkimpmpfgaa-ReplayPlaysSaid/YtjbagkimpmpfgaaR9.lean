/- Replay: awake, walked. -/
import Derived.Test.YtjbagkimpmpfgaaR8
namespace Go.Proofs.Ytjbagkimpmpfgaa
open Go Go.Mx
set_option maxRecDepth 100000
set_option maxHeartbeats 4000000

def envA8 : Env := fun f => match f with
  | 51 => some c51
  | 53 => some c53
  | 55 => some c55
  | 56 => some c56
  | 58 => some c58
  | _ => none
theorem envA8_ok : EnvOk Try.prog envA8 := by
  intro f c h
  unfold envA8 at h
  split at h
  · simp only [Option.some.injEq] at h; subst h; exact m51
  · simp only [Option.some.injEq] at h; subst h; exact m53
  · simp only [Option.some.injEq] at h; subst h; exact m55
  · simp only [Option.some.injEq] at h; subst h; exact m56
  · simp only [Option.some.injEq] at h; subst h; exact m58
  · cases h
theorem allU_all {l : List Int} (h : (l.all fun x => decide (0 ≤ x) && decide (x < 18446744073709551616)) = true) : allU l := fun i hi => by
  have := List.all_eq_true.1 h (l.getD i 0) (by rw [show l.getD i 0 = l[i] by simp [List.getD, hi]]; exact List.getElem_mem hi)
  rw [Bool.and_eq_true, decide_eq_true_eq, decide_eq_true_eq] at this
  exact ⟨this.1, this.2⟩
def c39 : Ctr := fun args objs => match args, objs with
  | [], [] => some ⟨[], .v (.one (.bool true true)), [], []⟩
  | _, _ => none
theorem m39 : Meets Try.prog 39 c39 := by
  refine meets_of_run2 tab_ok envA8_ok mixed [.tmp 0] Try.func39 rfl Try.ntmps39 Try.call39 (fun t w => by simp [results, Try.results39, resS, rv1]) ?_
  intro args objs r hr hcs
  unfold c39 at hr
  split at hr
  · skip
    simp only [Option.some.injEq] at hr; subst hr
    refine ⟨rfl, ?_⟩
    conv => whnf
    have k4 : clampI 4 = 4 := by decide +kernel
    have f1 : freshW 18446744073709551615 4 0 [] 5 = true := by decide +kernel
    have a1 : takeL 18446744073709551615 4 0 [] 5 = [32, 0] := by decide +kernel
    have b1 : takeT 18446744073709551615 4 0 [] 5 = 6 := by decide +kernel
    have f2 : freshW 18446744073709551615 4 6 [32, 0] 5 = false := by decide +kernel
    have a2 : takeL 18446744073709551615 4 6 [32, 0] 5 = [32, 0] := by decide +kernel
    have b2 : takeT 18446744073709551615 4 6 [32, 0] 5 = 6 := by decide +kernel
    have f3 : freshW 18446744073709551615 4 6 [32, 0] 2 = true := by decide +kernel
    have a3 : takeL 18446744073709551615 4 6 [32, 0] 2 = [36, 0] := by decide +kernel
    have b3 : takeT 18446744073709551615 4 6 [32, 0] 2 = 6 := by decide +kernel
    have f4 : freshW 18446744073709551615 4 6 [36, 0] 1 = false := by decide +kernel
    have a4 : takeL 18446744073709551615 4 6 [36, 0] 1 = [36, 0] := by decide +kernel
    have b4 : takeT 18446744073709551615 4 6 [36, 0] 1 = 6 := by decide +kernel
    have f5 : freshW 18446744073709551615 4 6 [36, 0] 3 = true := by decide +kernel
    have a5 : takeL 18446744073709551615 4 6 [36, 0] 3 = [44, 0] := by decide +kernel
    have b5 : takeT 18446744073709551615 4 6 [36, 0] 3 = 6 := by decide +kernel
    have cm : cameW 4 6 [44, 0] = [2, 3, 5] := by decide +kernel
    have im : imax 4 1 = 4 := by decide +kernel
    rw [k4, f1, a1, b1]
    refine ⟨?_, fun _ => ?_, fun h => by cases h⟩
    · repeat' apply And.intro
      all_goals first
        | exact True.intro
        | exact allU_all rfl
        | exact ⟨by decide, by decide⟩
        | omega
        | decide +kernel
        | rfl
        | exact Nat.le_of_ble_eq_true rfl
        | (dsimp only; omega)
        | trace_state
    conv => whnf
    rw [f2, a2, b2]
    refine ⟨?_, fun _ => ?_, fun h => by cases h⟩
    · repeat' apply And.intro
      all_goals first
        | exact True.intro
        | exact allU_all rfl
        | exact ⟨by decide, by decide⟩
        | omega
        | decide +kernel
        | rfl
        | exact Nat.le_of_ble_eq_true rfl
        | (dsimp only; omega)
        | trace_state
    conv => whnf
    rw [f3, a3, b3]
    refine ⟨?_, fun _ => ?_, fun h => by cases h⟩
    · repeat' apply And.intro
      all_goals first
        | exact True.intro
        | exact allU_all rfl
        | exact ⟨by decide, by decide⟩
        | omega
        | decide +kernel
        | rfl
        | exact Nat.le_of_ble_eq_true rfl
        | (dsimp only; omega)
        | trace_state
    conv => whnf
    rw [f4, a4, b4]
    refine ⟨?_, fun _ => ?_, fun h => by cases h⟩
    · repeat' apply And.intro
      all_goals first
        | exact True.intro
        | exact allU_all rfl
        | omega
        | decide +kernel
        | rfl
        | exact Nat.le_of_ble_eq_true rfl
        | (dsimp only; omega)
        | trace_state
    conv => whnf
    rw [f5, a5, b5]
    refine ⟨?_, fun _ => ?_, fun h => by cases h⟩
    · repeat' apply And.intro
      all_goals first
        | exact True.intro
        | exact allU_all rfl
        | omega
        | decide +kernel
        | rfl
        | exact Nat.le_of_ble_eq_true rfl
        | (dsimp only; omega)
        | trace_state
    conv => whnf
    refine ⟨?_, fun _ => ?_, fun h => by cases h⟩
    · repeat' apply And.intro
      all_goals first
        | exact True.intro
        | exact allU_all rfl
        | omega
        | decide +kernel
        | rfl
        | exact Nat.le_of_ble_eq_true rfl
        | (dsimp only; omega)
        | trace_state
    conv => whnf
    rw [cm]
    refine ⟨?_, fun _ => ?_, fun h => by cases h⟩
    · repeat' apply And.intro
      all_goals first
        | exact True.intro
        | exact allU_all rfl
        | omega
        | decide +kernel
        | rfl
        | exact Nat.le_of_ble_eq_true rfl
        | (dsimp only; omega)
        | trace_state
    conv => whnf
    rw [im]
    refine ⟨?_, rfl, [], [], rfl, ⟨rfl, trivial⟩, trivial⟩
    repeat' apply And.intro
    all_goals first
      | exact True.intro
      | exact allU_all rfl
      | omega
      | decide +kernel
      | rfl
      | exact Nat.le_of_ble_eq_true rfl
      | (dsimp only; omega)
      | trace_state
  · cases hr
end Go.Proofs.Ytjbagkimpmpfgaa

