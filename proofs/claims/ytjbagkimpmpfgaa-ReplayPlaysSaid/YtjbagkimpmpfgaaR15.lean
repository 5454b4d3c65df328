/- Replay: no window, and one that New did not make. -/
import Derived.Test.YtjbagkimpmpfgaaR9
namespace Go.Proofs.Ytjbagkimpmpfgaa
open Go Go.Mx
set_option maxRecDepth 100000
set_option maxHeartbeats 4000000

/-- One summary, or else another. -/
def orC (c1 c2 : Ctr) : Ctr := fun a o => match c1 a o with | some r => some r | none => c2 a o
theorem meets_or {P : Program} {f : Nat} {c1 c2 : Ctr} (h1 : Meets P f c1) (h2 : Meets P f c2) : Meets P f (orC c1 c2) := by
  refine ⟨h1.1, fun args objs r hr => ?_⟩
  unfold orC at hr
  split at hr
  · rename_i r' h
    simp only [Option.some.injEq] at hr; subst hr
    exact h1.2 args objs _ h
  · exact h2.2 args objs r hr
/-! ### No window -/
def c52p : Ctr := fun args objs => match args, objs with
  | [.one .nilp, .one (.int .u64 _)], [] => some ⟨[], .v (.one (.bool true false)), [], []⟩
  | _, _ => none
theorem m52p : Meets Try.prog 52 c52p := by
  refine meets_of_run2 tab_ok env0 mixed [.tmp 4] Try.func52 rfl Try.ntmps52 Try.call52 (fun t w => by simp [results, Try.results52, resS, rv1]) ?_
  intro args objs r hr hcs
  unfold c52p at hr
  split at hr
  · rename_i n
    simp only [Option.some.injEq] at hr; subst hr
    refine ⟨rfl, ?_⟩
    conv => whnf
    refine ⟨trivial, rfl, [], [], rfl, ⟨rfl, trivial⟩, trivial⟩
  · cases hr
def envNp : Env := fun f => match f with
  | 52 => some c52p
  | 51 => some c51
  | _ => none
theorem envNp_ok : EnvOk Try.prog envNp := by
  intro f c h
  unfold envNp at h
  split at h
  · simp only [Option.some.injEq] at h; subst h; exact m52p
  · simp only [Option.some.injEq] at h; subst h; exact m51
  · cases h
def c53p : Ctr := fun args objs => match args, objs with
  | [.one .nilp, .one (.int .u64 _)], [] => some ⟨[], .v (.one (.bool true false)), [], []⟩
  | _, _ => none
theorem m53p : Meets Try.prog 53 c53p := by
  refine meets_of_run2 tab_ok envNp_ok mixed [.tmp 4] Try.func53 rfl Try.ntmps53 Try.call53 (fun t w => by simp [results, Try.results53, resS, rv1]) ?_
  intro args objs r hr hcs
  unfold c53p at hr
  split at hr
  · rename_i n
    simp only [Option.some.injEq] at hr; subst hr
    refine ⟨rfl, ?_⟩
    conv => whnf
    refine ⟨trivial, rfl, [], [], rfl, ⟨rfl, trivial⟩, trivial⟩
  · cases hr
def c55p : Ctr := fun args objs => match args, objs with
  | [.one .nilp], [] => some ⟨[], .v (.one (.int .u64 0)), [], []⟩
  | _, _ => none
theorem m55p : Meets Try.prog 55 c55p := by
  refine meets_of_run2 tab_ok env0 mixed [.tmp 2] Try.func55 rfl Try.ntmps55 Try.call55 (fun t w => by simp [results, Try.results55, resS, rv1]) ?_
  intro args objs r hr hcs
  unfold c55p at hr
  split at hr
  · skip
    simp only [Option.some.injEq] at hr; subst hr
    refine ⟨rfl, ?_⟩
    conv => whnf
    refine ⟨trivial, rfl, [], [], rfl, ⟨⟨rfl, rfl⟩, trivial⟩, trivial⟩
  · cases hr
def c56p : Ctr := fun args objs => match args, objs with
  | [.one .nilp], [] => some ⟨[], .v (.one (.int .i64 0)), [], []⟩
  | _, _ => none
theorem m56p : Meets Try.prog 56 c56p := by
  refine meets_of_run2 tab_ok env0 mixed [.tmp 2] Try.func56 rfl Try.ntmps56 Try.call56 (fun t w => by simp [results, Try.results56, resS, rv1]) ?_
  intro args objs r hr hcs
  unfold c56p at hr
  split at hr
  · skip
    simp only [Option.some.injEq] at hr; subst hr
    refine ⟨rfl, ?_⟩
    conv => whnf
    refine ⟨trivial, rfl, [], [], rfl, ⟨⟨rfl, rfl⟩, trivial⟩, trivial⟩
  · cases hr
def c58p : Ctr := fun args objs => match args, objs with
  | [.one .nilp], [] => some ⟨[], .v (.one .nils), [], []⟩
  | _, _ => none
theorem m58p : Meets Try.prog 58 c58p := by
  refine meets_of_run2 tab_ok env0 mixed [.tmp 2] Try.func58 rfl Try.ntmps58 Try.call58 (fun t w => by simp [results, Try.results58, resS, rv1]) ?_
  intro args objs r hr hcs
  unfold c58p at hr
  split at hr
  · skip
    simp only [Option.some.injEq] at hr; subst hr
    refine ⟨rfl, ?_⟩
    conv => whnf
    refine ⟨trivial, rfl, [], [], rfl, ⟨rfl, trivial⟩, trivial⟩
  · cases hr
def c57p : Ctr := fun args objs => match args, objs with
  | [.one .nilp], [] => some ⟨[], .tup [], [], []⟩
  | _, _ => none
theorem m57p : Meets Try.prog 57 c57p := by
  refine meets_of_run tab_ok env0 mixed [] Try.func57 rfl Try.ntmps57 Try.call57 (fun t w => by simp [results, Try.results57, resV]) ?_
  intro args objs r hr hcs
  unfold c57p at hr
  split at hr
  · skip
    simp only [Option.some.injEq] at hr; subst hr
    refine ⟨rfl, ?_⟩
    conv => whnf
    refine ⟨trivial, rfl, [], [], rfl, ⟨trivial, trivial⟩, trivial⟩
  · cases hr
def c54p : Ctr := fun args objs => match args, objs with
  | [.one .nilp], [] => some ⟨[], .v (.one (.ptr 0 0)), [], [.own 0 [.c (.int .i64 (clampI 1)), .c (.int .u64 0), .c (.sl 1 0 0 1)], .own 1 [.ints .u64 [] 0]]⟩
  | _, _ => none
theorem m54p : Meets Try.prog 54 c54p := by
  refine meets_of_run2 tab_ok envNp_ok mixed [.tmp 2] Try.func54 rfl Try.ntmps54 Try.call54 (fun t w => by simp [results, Try.results54, resS, rv1]) ?_
  intro args objs r hr hcs
  unfold c54p at hr
  split at hr
  · skip
    simp only [Option.some.injEq] at hr; subst hr
    refine ⟨rfl, ?_⟩
    conv => whnf
    refine ⟨?_, rfl, [0, 1], [], rfl, ⟨rfl, trivial⟩, ⟨rfl, ⟨rfl, rfl⟩, ⟨rfl, rfl⟩, rfl, trivial⟩, ⟨rfl, rfl, rfl, rfl, trivial⟩, trivial⟩
    repeat' apply And.intro
    all_goals first
      | exact True.intro
      | exact ⟨by decide, by decide⟩
      | omega
      | decide +kernel
      | rfl
      | exact Nat.le_of_ble_eq_true rfl
      | (dsimp only; omega)
      | trace_state
  · cases hr
/-! ### A zero one -/
def c56z : Ctr := fun args objs => match args, objs with
  | [.one (.ptr 0 0)], [.own 0 [.c (.int .i64 0), .c (.int .u64 0), .c .nils]] => some ⟨[], .v (.one (.int .i64 1)), [], []⟩
  | _, _ => none
theorem m56z : Meets Try.prog 56 c56z := by
  refine meets_of_run2 tab_ok env0 mixed [.tmp 2] Try.func56 rfl Try.ntmps56 Try.call56 (fun t w => by simp [results, Try.results56, resS, rv1]) ?_
  intro args objs r hr hcs
  unfold c56z at hr
  split at hr
  · skip
    simp only [Option.some.injEq] at hr; subst hr
    refine ⟨rfl, ?_⟩
    conv => whnf
    refine ⟨trivial, rfl, [0], [], rfl, ⟨⟨rfl, rfl⟩, trivial⟩, ⟨rfl, ⟨rfl, rfl⟩, ⟨rfl, rfl⟩, rfl, trivial⟩, trivial⟩
  · cases hr
def c52z : Ctr := fun args objs => match args, objs with
  | [.one (.ptr 0 0), .one (.int .u64 7)], [.own 0 [.c (.int .i64 0), .c (.int .u64 0), .c .nils]] => some ⟨[], .v (.one (.bool true true)), [], []⟩
  | _, _ => none
theorem m52z : Meets Try.prog 52 c52z := by
  refine meets_of_run2 tab_ok env0 mixed [.tmp 4] Try.func52 rfl Try.ntmps52 Try.call52 (fun t w => by simp [results, Try.results52, resS, rv1]) ?_
  intro args objs r hr hcs
  unfold c52z at hr
  split at hr
  · skip
    simp only [Option.some.injEq] at hr; subst hr
    refine ⟨rfl, ?_⟩
    conv => whnf
    have m0 : bnotI .u64 (conv .u64 0) = 18446744073709551615 := by decide +kernel
    rw [m0]
    refine ⟨trivial, fun h => absurd h (by decide), fun _ => ?_⟩
    conv => whnf
    refine ⟨trivial, fun _ => ?_, fun h => absurd h (by decide)⟩
    conv => whnf
    refine ⟨trivial, rfl, [0], [], rfl, ⟨rfl, trivial⟩, ⟨rfl, ⟨rfl, rfl⟩, ⟨rfl, rfl⟩, rfl, trivial⟩, trivial⟩
  · cases hr
def envNz : Env := fun f => match f with
  | 52 => some c52z
  | 56 => some c56z
  | 109 => some c109
  | _ => none
theorem envNz_ok : EnvOk Try.prog envNz := by
  intro f c h
  unfold envNz at h
  split at h
  · simp only [Option.some.injEq] at h; subst h; exact m52z
  · simp only [Option.some.injEq] at h; subst h; exact m56z
  · simp only [Option.some.injEq] at h; subst h; exact m109
  · cases h
def c53z : Ctr := fun args objs => match args, objs with
  | [.one (.ptr 0 0), .one (.int .u64 7)], [.own 0 [.c (.int .i64 0), .c (.int .u64 0), .c .nils]] => some ⟨[], .v (.one (.bool true true)), [(0, .own 0 [.c (.int .i64 0), .c (.int .u64 8), .c (.sl 1 0 2 1)])], [.own 1 [.ints .u64 [128, 0] 2]]⟩
  | _, _ => none
theorem m53z : Meets Try.prog 53 c53z := by
  refine meets_of_run2 tab_ok envNz_ok mixed [.tmp 4] Try.func53 rfl Try.ntmps53 Try.call53 (fun t w => by simp [results, Try.results53, resS, rv1]) ?_
  intro args objs r hr hcs
  unfold c53z at hr
  split at hr
  · skip
    simp only [Option.some.injEq] at hr; subst hr
    refine ⟨rfl, ?_⟩
    conv => whnf
    have e1 : isum .i64 (iquo .i64 (isum .i64 1 63) 64) 1 = ((2 : Nat) : Int) := by decide +kernel
    have e2 : conv .u64 (imul .i64 ((2 : Nat) : Int) 64) = 128 := by decide +kernel
    have e3 : idif .u64 7 0 = 7 := by decide +kernel
    have e4 : isum .u64 7 1 = 8 := by decide +kernel
    refine ⟨trivial, fun _ => ?_, fun h => absurd h (by decide)⟩
    conv => whnf
    rw [e1]
    refine ⟨?_, fun _ => ?_, fun h => absurd h (by decide)⟩
    · repeat' apply And.intro
      all_goals first
        | exact True.intro
        | omega
        | decide +kernel
        | rfl
        | exact Nat.le_of_ble_eq_true rfl
        | (dsimp only; omega)
        | trace_state
    conv => whnf
    rw [show (((2 : Nat) : Int).toNat : Int) = ((2 : Nat) : Int) from rfl, e2, e3]
    refine ⟨trivial, fun h => absurd h (by decide), fun _ => ?_⟩
    conv => whnf
    refine ⟨?_, { j : Nat // j ≤ 7 }, fun j => ⟨(.v (.one (.ptr 0 0)) :: .v (.one (.int .u64 7)) :: .any :: .any :: .any :: .any :: .v (.one (.int .u64 (j.1 : Int))) :: .any :: .any :: .any :: .any :: .any :: .any :: .any :: .any :: .any :: .any :: .any :: .any :: .any :: .any :: .any :: .any :: .any :: .any :: .any :: .any :: .any :: .any :: .any :: .any :: .any :: .any :: .any :: .any :: .any :: .any :: .any :: .any :: .any :: .any :: .any :: .any :: .any :: .any :: .any :: .any :: .any :: .any :: .any :: .any :: .any :: .any :: .any :: .any :: .any :: .any :: .any :: .any :: .any :: .any :: .any :: .any :: .any :: .any :: .any :: .any :: .any :: .any :: .any :: .any :: .any :: .any :: .any :: .any :: .any :: .any :: .any :: .any :: .any :: .any :: .any :: .any :: .any :: .any :: .any :: .any :: .any :: .any :: .any :: .any :: .any :: .any :: .any :: .any :: .any :: .any :: .any :: .any :: .any :: .any :: []), [.own 0 [.c (.int .i64 0), .c (.int .u64 0), .c (.sl 1 0 2 1)], .own 1 [.ints .u64 [0, 0] 2]]⟩, fun j => 7 - j.1, ⟨0, by omega⟩, ?_, fun _ => rfl, ?_⟩
    · trivial
    · refine ⟨[0, 1], [], rfl, ?_, ?_⟩
      · repeat' apply And.intro
        all_goals first
          | exact True.intro
          | rfl
          | exact Nat.le_refl _
          | decide +kernel
          | omega
          | trace_state
      · exact ⟨⟨rfl, ⟨rfl, rfl⟩, ⟨rfl, rfl⟩, rfl, trivial⟩, ⟨rfl, rfl, rfl, rfl, trivial⟩, trivial⟩
    rintro ⟨j, hj⟩
    show run tab envNz 1 _ ⟨(.v (.one (.ptr 0 0)) :: .v (.one (.int .u64 7)) :: .any :: .any :: .any :: .any :: .v (.one (.int .u64 (j : Int))) :: .any :: .any :: .any :: .any :: .any :: .any :: .any :: .any :: .any :: .any :: .any :: .any :: .any :: .any :: .any :: .any :: .any :: .any :: .any :: .any :: .any :: .any :: .any :: .any :: .any :: .any :: .any :: .any :: .any :: .any :: .any :: .any :: .any :: .any :: .any :: .any :: .any :: .any :: .any :: .any :: .any :: .any :: .any :: .any :: .any :: .any :: .any :: .any :: .any :: .any :: .any :: .any :: .any :: .any :: .any :: .any :: .any :: .any :: .any :: .any :: .any :: .any :: .any :: .any :: .any :: .any :: .any :: .any :: .any :: .any :: .any :: .any :: .any :: .any :: .any :: .any :: .any :: .any :: .any :: .any :: .any :: .any :: .any :: .any :: .any :: .any :: .any :: .any :: .any :: .any :: .any :: .any :: .any :: .any :: []), [.own 0 [.c (.int .i64 0), .c (.int .u64 0), .c (.sl 1 0 2 1)], .own 1 [.ints .u64 [0, 0] 2]]⟩ _ _
    refine run_K (P := fun K => run tab envNz 1 _ ⟨_, _⟩ True K) ?_
    intro K hK
    conv => whnf
    refine ⟨trivial, fun hlt => ?_, fun hlt => ?_⟩
    · have hlt' : j < 7 := by simp at hlt; omega
      have g1 : isum .u64 (j : Int) 1 = ((j + 1 : Nat) : Int) := by rw [isum, IntWalk.u64_in] <;> omega
      have g2 : ∀ j : Nat, j < 7 → ([0, 0] : List Int).set (j % 128 / 64) (bclrI .u64 (([0, 0] : List Int).getD (j % 128 / 64) 0) (shlI .u64 1 ((j % 128 % 64 : Nat) : Int))) = [0, 0] := by decide +kernel
      conv => whnf
      rw [g1]
      subst hK
      change _ ∧ _
      refine ⟨?_, ⟨j + 1, by omega⟩, by show 7 - (j + 1) < 7 - j; omega, [0, 1], [], rfl, ?_, ?_⟩
      · repeat' apply And.intro
        all_goals first
          | exact True.intro
          | omega
          | decide +kernel
          | rfl
          | exact Nat.le_of_ble_eq_true rfl
          | (dsimp only; omega)
          | trace_state
      · repeat' apply And.intro
        all_goals first
          | exact True.intro
          | rfl
          | exact Nat.le_refl _
          | decide +kernel
          | omega
          | trace_state
      · refine ⟨⟨rfl, ⟨rfl, rfl⟩, ⟨rfl, rfl⟩, rfl, trivial⟩, ⟨rfl, rfl, ?_, rfl, trivial⟩, trivial⟩
        simp only [Int.toNat_natCast, Nat.zero_add]
        exact g2 j hlt'
    · conv => whnf
      subst hK
      conv => whnf
      rw [e4]
      refine ⟨?_, rfl, [0, 1], [], rfl, ⟨rfl, trivial⟩, ⟨rfl, ⟨rfl, rfl⟩, ⟨rfl, rfl⟩, rfl, trivial⟩, ⟨rfl, rfl, ?_, rfl, trivial⟩, trivial⟩
      · repeat' apply And.intro
        all_goals first
          | exact True.intro
          | omega
          | decide +kernel
          | rfl
          | exact Nat.le_of_ble_eq_true rfl
          | (dsimp only; omega)
          | trace_state
      · decide +kernel
  · cases hr
end Go.Proofs.Ytjbagkimpmpfgaa

