/- Chacha: rounds, words, bytes. -/
import Derived.Test.YtjbagkimpmpfgaaC1
import Derived.Test.YtjbagkimpmpfgaaMxN
namespace Go.Proofs.Ytjbagkimpmpfgaa
open Go Go.Mx
set_option maxRecDepth 100000
set_option maxHeartbeats 4000000

/-! ### A quarter round on the square -/
def c140 : Ctr := fun args objs => match args, objs with
  | [.one (.ptr 0 0), .one (.int .i64 a), .one (.int .i64 b), .one (.int .i64 c), .one (.int .i64 d)], [.own e [.ints .u32 l 16]] =>
    some ⟨[allW l, l.length = 16, 0 ≤ a ∧ a < 16, 0 ≤ b ∧ b < 16, 0 ≤ c ∧ c < 16, 0 ≤ d ∧ d < 16], .tup [], [(0, .own e [.ints .u32 (quarterAt l a.toNat b.toNat c.toNat d.toNat) 16])], []⟩
  | _, _ => none
theorem m140 : Meets Try.prog 140 c140 := by
  refine meets_of_run tab_ok envA_ok mixed [] Try.func140 rfl Try.ntmps140 Try.call140 (fun t w => by simp [results, Try.results140, resV]) ?_
  intro args objs r hr hcs
  unfold c140 at hr
  split at hr
  · rename_i a b c d e l
    simp only [Option.some.injEq] at hr; subst hr
    obtain ⟨h1, h2, h4, h5, h6, h7, _⟩ := hcs
    refine ⟨rfl, ?_⟩
    conv => whnf
    refine ⟨?_, rfl, [0], [], rfl, ⟨trivial, trivial⟩, ⟨rfl, rfl, ?_, rfl, trivial⟩, trivial⟩
    · repeat' apply And.intro
      all_goals first
        | exact True.intro
        | assumption
        | omega
        | decide +kernel
        | exact h1 _ (by omega)
    · rfl
  · cases hr

/-! ### The rounds -/
def dbl (l : List Int) : List Int :=
  quarterAt (quarterAt (quarterAt (quarterAt (quarterAt (quarterAt (quarterAt (quarterAt l 0 4 8 12) 1 5 9 13) 2 6 10 14) 3 7 11 15) 0 5 10 15) 1 6 11 12) 2 7 8 13) 3 4 9 14
def iter (f : List Int → List Int) : Nat → List Int → List Int
  | 0, l => l
  | n + 1, l => f (iter f n l)
theorem quarterAt_len (l : List Int) (a b c d : Nat) : (quarterAt l a b c d).length = l.length := by simp [quarterAt]
theorem quarterAt_W {l : List Int} (h : allW l) (a b c d : Nat) : allW (quarterAt l a b c d) := by
  intro i hi
  rw [quarterAt_len] at hi
  simp only [quarterAt]
  have st : ∀ (l : List Int) (k : Nat) (x : W), (∀ i, i < l.length → isW (l.getD i 0)) → ∀ i, i < (l.set k (wI x)).length → isW ((l.set k (wI x)).getD i 0) := by
    intro l k x hl i hi
    rw [List.length_set] at hi
    by_cases hk : k = i
    · subst hk; rw [gset_same hi]; exact wI_is x
    · rw [gset_ne hk]; exact hl i hi
  exact st _ _ _ (st _ _ _ (st _ _ _ (st _ _ _ h))) i (by simp; exact hi)
theorem dbl_len (l : List Int) : (dbl l).length = l.length := by simp [dbl, quarterAt_len]
theorem dbl_W {l : List Int} (h : allW l) : allW (dbl l) := by
  unfold dbl; repeat apply quarterAt_W
  exact h
theorem iter_len (n : Nat) (l : List Int) : (iter dbl n l).length = l.length := by
  induction n with
  | zero => rfl
  | succ n ih => simp [iter, dbl_len, ih]
theorem iter_W (n : Nat) {l : List Int} (h : allW l) : allW (iter dbl n l) := by
  induction n with
  | zero => exact h
  | succ n ih => exact dbl_W ih
def c98 : Ctr := fun args objs => match args, objs with
  | [.agg [.ints .u32 l 16]], [] => some ⟨[allW l, l.length = 16], .v (.agg [.ints .u32 (iter dbl 10 l) 16]), [], []⟩
  | _, _ => none
def envR : Env := fun f => match f with
  | 140 => some c140
  | f => envL f
theorem envR_ok : EnvOk Try.prog envR := by
  intro f c h
  unfold envR at h
  split at h
  · simp at h; subst h; exact m140
  · exact envL_ok _ _ h
theorem m98 : Meets Try.prog 98 c98 := by
  refine meets_of_run2 tab_ok envR_ok mixed [.cell 2 146] Try.func98 rfl Try.ntmps98 Try.call98 (fun t w => by simp [results, Try.results98, resS, rv1]) ?_
  intro args objs r hr hcs
  unfold c98 at hr
  split at hr
  · rename_i l
    simp only [Option.some.injEq] at hr; subst hr
    obtain ⟨h1, h2, _⟩ := hcs
    refine ⟨rfl, ?_⟩
    conv => whnf
    refine ⟨by trivial, { i : Nat // i ≤ 10 }, fun i => ⟨[.any, .v (.one (.ptr 0 0)), .v (.one (.ptr 1 0)), .v (.one (.int .i64 i.1)), .any, .any, .any, .any, .any, .any, .any, .any, .any, .any, .any], [.own 0 [.ints .u32 (iter dbl i.1 l) 16], .own 0 [.ints .u32 (List.replicate 16 0) 16]]⟩, fun i => 10 - i.1, ⟨0, by omega⟩, ?_, fun _ => rfl, ?_⟩
    · refine ⟨[0, 1], [], rfl, ?_, ?_⟩
      all_goals
        repeat' apply And.intro
      all_goals first
        | exact True.intro
        | rfl
    · rintro ⟨i, hi⟩
      have hW := iter_W i h1
      have hL := (iter_len i l).trans h2
      have hS : iter dbl (i + 1) l = dbl (iter dbl i l) := rfl
      have hT : i = 10 → iter dbl 10 l = iter dbl i l := fun h => by rw [h]
      show run tab envR 0 _ ⟨[.any, .v (.one (.ptr 0 0)), .v (.one (.ptr 1 0)), .v (.one (.int .i64 i)), .any, .any, .any, .any, .any, .any, .any, .any, .any, .any, .any], [.own 0 [.ints .u32 (iter dbl i l) 16], .own 0 [.ints .u32 (List.replicate 16 0) 16]]⟩ _ _
      generalize iter dbl i l = m at hW hL hS hT ⊢
      conv => whnf
      refine ⟨trivial, fun hlt => ?_, fun hge => ?_⟩
      · simp only [decide_eq_true_eq] at hlt
        conv => whnf
        refine ⟨?_, ⟨i + 1, by omega⟩, by show 10 - (i + 1) < 10 - i; omega, [0, 1], [], rfl, ?_, ?_⟩
        · repeat' apply And.intro
          all_goals first
            | exact True.intro
            | decide +kernel
            | (simp only [quarterAt_len]; exact hL)
            | exact hL
            | ((repeat apply quarterAt_W); exact hW)
            | trace_state
        · repeat' apply And.intro
          all_goals first
            | exact True.intro
            | rfl
            | (rw [isum, i64_in (by omega)]; rfl)
            | trace_state
        · refine ⟨⟨rfl, rfl, ?_, rfl, trivial⟩, ⟨rfl, rfl, rfl, rfl, trivial⟩, trivial⟩
          show _ = iter dbl (i + 1) l
          rw [hS]; rfl
      · simp only [decide_eq_false_iff_not] at hge
        have : i = 10 := by omega
        rw [hT this]
        conv => whnf
        refine ⟨⟨rfl, trivial⟩, rfl, [], [], rfl, ⟨⟨rfl, rfl, rfl, trivial⟩, trivial⟩, trivial⟩
  · cases hr
end Go.Proofs.Ytjbagkimpmpfgaa
