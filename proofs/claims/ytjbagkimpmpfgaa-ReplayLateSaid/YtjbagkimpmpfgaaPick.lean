/- Picks: which of n things a raw number speaks of. -/
import Derived.Test.YtjbagkimpmpfgaaC1
import Derived.Test.YtjbagkimpmpfgaaFrame
import Derived.Test.YtjbagkimpmpfgaaRun
namespace Go.Proofs.Ytjbagkimpmpfgaa
open Go Go.Mx
set_option maxRecDepth 100000
set_option maxHeartbeats 4000000

theorem wfI {x : Int} (h : (Lit.int .i64 x).wf = true) : isI x := ⟨(bounds_i64 h).1, (bounds_i64 h).2⟩
/-- Which of n things a raw number speaks of. -/
def pickI (c n : Int) : Int := (if c < 0 then -(c + 1) else c) % n
theorem pickI_lo {c n : Int} (h : 0 < n) : 0 ≤ pickI c n := Int.emod_nonneg _ (by omega)
theorem pickI_hi {c n : Int} (h : 0 < n) : pickI c n < n := Int.emod_lt_of_pos _ h
def cPick : Ctr := fun args objs => match args, objs with
  | [.one (.int .i64 c), .one (.int .i64 n)], [] => some ⟨[isI c, 0 < n], .v (.one (.int .i64 (pickI c n))), [], []⟩
  | _, _ => none
def c38 : Ctr := cPick
theorem m38 : Meets Try.prog 38 c38 := by
  refine meets_of_run2 tab_ok env0 mixed [.tmp 4] Try.func38 rfl Try.ntmps38 Try.call38 (fun t w => by simp [results, Try.results38, resS, rv1]) ?_
  intro args objs r hr hcs
  unfold c38 cPick at hr
  split at hr
  · rename_i c n
    simp only [Option.some.injEq] at hr; subst hr
    obtain ⟨⟨h1, h2⟩, h3, _⟩ := hcs
    refine ⟨rfl, ?_⟩
    conv => whnf
    refine ⟨trivial, fun h => ?_, fun h => ?_⟩
    · simp only [decide_eq_true_eq] at h
      conv => whnf
      have e1 : isum .i64 c 1 = c + 1 := by rw [isum, i64_in]; omega
      have e2 : idif .i64 0 (c + 1) = -(c + 1) := by rw [idif, i64_in] <;> omega
      refine ⟨⟨by omega, trivial⟩, rfl, [], [], rfl, ⟨⟨rfl, ?_⟩, trivial⟩, trivial⟩
      rw [e1, e2, Int.tmod_eq_emod_of_nonneg (by omega)]
      unfold pickI
      rw [if_pos h]
    · simp only [decide_eq_false_iff_not] at h
      conv => whnf
      refine ⟨⟨by omega, trivial⟩, rfl, [], [], rfl, ⟨⟨rfl, ?_⟩, trivial⟩, trivial⟩
      rw [Int.tmod_eq_emod_of_nonneg (by omega)]
      unfold pickI
      rw [if_neg h]
  · cases hr
def c50 : Ctr := cPick
theorem m50 : Meets Try.prog 50 c50 := by
  refine meets_of_run2 tab_ok env0 mixed [.tmp 4] Try.func50 rfl Try.ntmps50 Try.call50 (fun t w => by simp [results, Try.results50, resS, rv1]) ?_
  intro args objs r hr hcs
  unfold c50 cPick at hr
  split at hr
  · rename_i c n
    simp only [Option.some.injEq] at hr; subst hr
    obtain ⟨⟨h1, h2⟩, h3, _⟩ := hcs
    refine ⟨rfl, ?_⟩
    conv => whnf
    refine ⟨trivial, fun h => ?_, fun h => ?_⟩
    · simp only [decide_eq_true_eq] at h
      conv => whnf
      have e1 : isum .i64 c 1 = c + 1 := by rw [isum, i64_in]; omega
      have e2 : idif .i64 0 (c + 1) = -(c + 1) := by rw [idif, i64_in] <;> omega
      refine ⟨⟨by omega, trivial⟩, rfl, [], [], rfl, ⟨⟨rfl, ?_⟩, trivial⟩, trivial⟩
      rw [e1, e2, Int.tmod_eq_emod_of_nonneg (by omega)]
      unfold pickI
      rw [if_pos h]
    · simp only [decide_eq_false_iff_not] at h
      conv => whnf
      refine ⟨⟨by omega, trivial⟩, rfl, [], [], rfl, ⟨⟨rfl, ?_⟩, trivial⟩, trivial⟩
      rw [Int.tmod_eq_emod_of_nonneg (by omega)]
      unfold pickI
      rw [if_neg h]
  · cases hr
def c71 : Ctr := cPick
theorem m71 : Meets Try.prog 71 c71 := by
  refine meets_of_run2 tab_ok env0 mixed [.tmp 4] Try.func71 rfl Try.ntmps71 Try.call71 (fun t w => by simp [results, Try.results71, resS, rv1]) ?_
  intro args objs r hr hcs
  unfold c71 cPick at hr
  split at hr
  · rename_i c n
    simp only [Option.some.injEq] at hr; subst hr
    obtain ⟨⟨h1, h2⟩, h3, _⟩ := hcs
    refine ⟨rfl, ?_⟩
    conv => whnf
    refine ⟨trivial, fun h => ?_, fun h => ?_⟩
    · simp only [decide_eq_true_eq] at h
      conv => whnf
      have e1 : isum .i64 c 1 = c + 1 := by rw [isum, i64_in]; omega
      have e2 : idif .i64 0 (c + 1) = -(c + 1) := by rw [idif, i64_in] <;> omega
      refine ⟨⟨by omega, trivial⟩, rfl, [], [], rfl, ⟨⟨rfl, ?_⟩, trivial⟩, trivial⟩
      rw [e1, e2, Int.tmod_eq_emod_of_nonneg (by omega)]
      unfold pickI
      rw [if_pos h]
    · simp only [decide_eq_false_iff_not] at h
      conv => whnf
      refine ⟨⟨by omega, trivial⟩, rfl, [], [], rfl, ⟨⟨rfl, ?_⟩, trivial⟩, trivial⟩
      rw [Int.tmod_eq_emod_of_nonneg (by omega)]
      unfold pickI
      rw [if_neg h]
  · cases hr
def c85 : Ctr := cPick
theorem m85 : Meets Try.prog 85 c85 := by
  refine meets_of_run2 tab_ok env0 mixed [.tmp 4] Try.func85 rfl Try.ntmps85 Try.call85 (fun t w => by simp [results, Try.results85, resS, rv1]) ?_
  intro args objs r hr hcs
  unfold c85 cPick at hr
  split at hr
  · rename_i c n
    simp only [Option.some.injEq] at hr; subst hr
    obtain ⟨⟨h1, h2⟩, h3, _⟩ := hcs
    refine ⟨rfl, ?_⟩
    conv => whnf
    refine ⟨trivial, fun h => ?_, fun h => ?_⟩
    · simp only [decide_eq_true_eq] at h
      conv => whnf
      have e1 : isum .i64 c 1 = c + 1 := by rw [isum, i64_in]; omega
      have e2 : idif .i64 0 (c + 1) = -(c + 1) := by rw [idif, i64_in] <;> omega
      refine ⟨⟨by omega, trivial⟩, rfl, [], [], rfl, ⟨⟨rfl, ?_⟩, trivial⟩, trivial⟩
      rw [e1, e2, Int.tmod_eq_emod_of_nonneg (by omega)]
      unfold pickI
      rw [if_pos h]
    · simp only [decide_eq_false_iff_not] at h
      conv => whnf
      refine ⟨⟨by omega, trivial⟩, rfl, [], [], rfl, ⟨⟨rfl, ?_⟩, trivial⟩, trivial⟩
      rw [Int.tmod_eq_emod_of_nonneg (by omega)]
      unfold pickI
      rw [if_neg h]
  · cases hr
end Go.Proofs.Ytjbagkimpmpfgaa

