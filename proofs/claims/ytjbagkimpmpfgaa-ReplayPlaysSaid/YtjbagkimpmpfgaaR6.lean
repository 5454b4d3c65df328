/- Replay: a new window, what came (numbers of 64 bits), walked. -/
import Derived.Test.YtjbagkimpmpfgaaR4
namespace Go.Proofs.Ytjbagkimpmpfgaa
open Go Go.Mx
set_option maxRecDepth 100000
set_option maxHeartbeats 4000000

def clampI (s : Int) : Int := if s < 1 then 1 else if s > 8192 then 8192 else s
theorem clamp_of (s : Int) : imin (imax s 1) 8192 = clampI s := by unfold imin imax clampI; (repeat' split) <;> omega
theorem clamp_in (s : Int) : 1 ≤ clampI s ∧ clampI s ≤ 8192 := by unfold clampI; split <;> (try split) <;> omega
/-- Of so many numbers from one on: those that a row has. -/
def cameUpto (l : List Int) (x : Int) : Nat → List Int
  | 0 => []
  | k + 1 => cameUpto l x k ++ (if hasW l (x + k) = true then [x + k] else [])
theorem cameUpto_succ (l : List Int) (x : Int) (k : Nat) : cameUpto l x (k + 1) = cameUpto l x k ++ (if hasW l (x + k) = true then [x + k] else []) := rfl
def cameW (z t : Int) (l : List Int) : List Int := cameUpto l (t - (min t.toNat (max z.toNat 1) : Nat)) (min t.toNat (max z.toNat 1))
def c51 : Ctr := fun args objs => match args, objs with
  | [.one (.int .i64 s)], [] => some ⟨[isI s], .v (.one (.ptr 0 0)), [], [.own 0 [.c (.int .i64 (clampI s)), .c (.int .u64 0), .c (.sl 1 0 0 1)], .own 1 [.ints .u64 [] 0]]⟩
  | _, _ => none
theorem m51 : Meets Try.prog 51 c51 := by
  refine meets_of_run2 tab_ok env0 mixed [.tmp 2] Try.func51 rfl Try.ntmps51 Try.call51 (fun t w => by simp [results, Try.results51, resS, rv1]) ?_
  intro args objs r hr hcs
  unfold c51 at hr
  split at hr
  · rename_i s
    simp only [Option.some.injEq] at hr; subst hr
    obtain ⟨h1, _⟩ := hcs
    refine ⟨rfl, ?_⟩
    conv => whnf
    refine ⟨?_, rfl, [0, 1], [(1, [.ints .u64 [] 0])], rfl, ⟨rfl, trivial⟩, ⟨rfl, ⟨rfl, ?_⟩, ⟨rfl, rfl⟩, ⟨rfl, rfl, Nat.le_refl _⟩, trivial⟩, ⟨rfl, rfl, rfl, rfl, trivial⟩, trivial⟩
    · repeat' apply And.intro
      all_goals first
        | exact True.intro
        | omega
        | decide +kernel
        | rfl
        | exact Nat.le_of_ble_eq_true rfl
        | (dsimp only; omega)
        | trace_state
    · exact clamp_of s
  · cases hr
def c111 : Ctr := fun args objs => match args, objs with
  | [.one (.sl 0 0 n 1)], [.own 1 [.ints .u64 _ n']] => some ⟨[n = n'], .v (.one (.clip 0 n)), [], []⟩
  | _, _ => none
theorem m111 : Meets Try.prog 111 c111 := by
  refine meets_of_run2 tab_ok env0 mixed [.tmp 2] Try.func111 rfl Try.ntmps111 Try.call111 (fun t w => by simp [results, Try.results111, resS, rv1]) ?_
  intro args objs r hr hcs
  unfold c111 at hr
  split at hr
  · rename_i n l n'
    simp only [Option.some.injEq] at hr; subst hr
    obtain ⟨h1, _⟩ := hcs
    refine ⟨rfl, ?_⟩
    conv => whnf
    subst h1
    refine ⟨?_, rfl, [0], [], rfl, ⟨rfl, trivial⟩, ⟨rfl, rfl, rfl, rfl, trivial⟩, trivial⟩
    repeat' apply And.intro
    all_goals first
      | exact True.intro
      | omega
      | decide +kernel
      | rfl
      | exact Nat.le_of_ble_eq_true rfl
      | (dsimp only; omega)
      | trace_state
  · cases hr
def envC64 : Env := fun f => match f with
  | 56 => some c56
  | 108 => some c108
  | 111 => some c111
  | _ => none
theorem envC64_ok : EnvOk Try.prog envC64 := by
  intro f c h
  unfold envC64 at h
  split at h
  · simp only [Option.some.injEq] at h; subst h; exact m56
  · simp only [Option.some.injEq] at h; subst h; exact m108
  · simp only [Option.some.injEq] at h; subst h; exact m111
  · cases h
def c58 : Ctr := fun args objs => match args, objs with
  | [.one (.ptr 0 0)], [.own 0 [.c (.int .i64 z), .c (.int .u64 t), .c (.sl 1 0 nw 1)], .own 1 [.ints .u64 l nw']] =>
    some ⟨[nw = nw', l.length = nw, allU l, nw ≤ 1000, 0 ≤ z ∧ z ≤ 8192, 0 ≤ t ∧ t ≤ 18446744073709551615], .v (.one (.clip 2 (cameW z t l).length)), [], [.own 1 [.ints .u64 (cameW z t l) (cameW z t l).length]]⟩
  | _, _ => none
theorem m58 : Meets Try.prog 58 c58 := by
  refine meets_of_run2 tab_ok envC64_ok mixed [.tmp 2] Try.func58 rfl Try.ntmps58 Try.call58 (fun t w => by simp [results, Try.results58, resS, rv1]) ?_
  intro args objs r hr hcs
  unfold c58 at hr
  split at hr
  · rename_i z t nw l nw'
    simp only [Option.some.injEq] at hr; subst hr
    obtain ⟨h1, h2, h3, h4, h5, h6, _⟩ := hcs
    refine ⟨rfl, ?_⟩
    conv => whnf
    subst h1
    refine ⟨trivial, fun h0 => ?_, fun h0 => ?_⟩
    · have ht : t = 0 := by simpa using h0
      have e : cameW z t l = [] := by rw [ht]; rfl
      rw [e]
      conv => whnf
      refine ⟨?_, rfl, [0, 1, 2], [(1, [.ints .u64 [] 0])], rfl, ⟨⟨rfl, Nat.le_refl _⟩, trivial⟩, ⟨rfl, ⟨rfl, rfl⟩, ⟨rfl, rfl⟩, rfl, trivial⟩, ⟨rfl, rfl, rfl, rfl, trivial⟩, ⟨rfl, rfl, rfl, rfl, trivial⟩, trivial⟩
      repeat' apply And.intro
      all_goals first
        | exact True.intro
        | omega
        | decide +kernel
        | rfl
        | exact Nat.le_of_ble_eq_true rfl
        | (dsimp only; omega)
        | trace_state
    · obtain ⟨n, hn⟩ : ∃ n : Nat, n = min t.toNat (max z.toNat 1) := ⟨_, rfl⟩
      obtain ⟨c, c0, cs, cE⟩ : ∃ c : Nat → List Int, c 0 = [] ∧ (∀ k, c (k + 1) = c k ++ (if hasW l (t - n + k) = true then [t - n + k] else [])) ∧ c n = cameW z t l := by
        refine ⟨cameUpto l (t - n), rfl, fun k => cameUpto_succ _ _ _, ?_⟩
        unfold cameW; rw [hn]
      have hcl : ∀ k, (c k).length ≤ k := fun k => by
        induction k with
        | zero => rw [c0]; exact Nat.le_refl _
        | succ k ih => rw [cs, List.length_append]; split <;> simp <;> omega
      rw [← cE]
      skip
      have e2 : conv .u64 (imax z 1) = ((max z.toNat 1 : Nat) : Int) := by rw [imax_nat h5.1, conv]; exact u64_nat _ (by omega)
      have e3 : imin t ((max z.toNat 1 : Nat) : Int) = (n : Int) := by unfold imin; split <;> omega
      conv => whnf
      rw [e2, e3]
      refine ⟨?_, { j : Nat // j ≤ n }, fun j => ⟨(.v (.one (.ptr 0 0)) :: .any :: .any :: .v (.one (.sl 2 0 (c j.1).length 1)) :: .v (.one (.int .u64 n)) :: .any :: .any :: .any :: .any :: .any :: .any :: .any :: .any :: .any :: .any :: .any :: .any :: .any :: .any :: .any :: .any :: .any :: .any :: .any :: .v (.one (.int .u64 n)) :: .v (.one (.int .u64 j.1)) :: .any :: .any :: .any :: .any :: .any :: .any :: .any :: .any :: .any :: .any :: .any :: .any :: .any :: .any :: .any :: .any :: .any :: .any :: .any :: .any :: []), [.own 0 [.c (.int .i64 z), .c (.int .u64 t), .c (.sl 1 0 nw 1)], .own 1 [.ints .u64 l nw], .own 1 [.ints .u64 (c j.1) (c j.1).length]]⟩, fun j => n - j.1, ⟨0, by omega⟩, ?_, fun _ => rfl, ?_⟩
      · repeat' apply And.intro
        all_goals first
          | exact True.intro
          | exact h5
          | omega
          | decide +kernel
          | rfl
          | exact Nat.le_of_ble_eq_true rfl
          | (dsimp only; omega)
          | trace_state
      · refine ⟨[0, 1, 2], [(1, [.ints .u64 [] 0])], rfl, ?_, ?_⟩
        · repeat' apply And.intro
          all_goals first
            | exact True.intro
            | rfl
            | exact Nat.le_refl _
            | (show (c 0).length = 0; rw [c0]; rfl)
            | trace_state
        · exact ⟨⟨rfl, ⟨rfl, rfl⟩, ⟨rfl, rfl⟩, rfl, trivial⟩, ⟨rfl, rfl, rfl, rfl, trivial⟩, ⟨rfl, rfl, c0.symm, by rw [c0]; rfl, trivial⟩, trivial⟩
      rintro ⟨j, hj⟩
      have hcj := hcl j
      show run tab envC64 2 _ ⟨(.v (.one (.ptr 0 0)) :: .any :: .any :: .v (.one (.sl 2 0 (c j).length 1)) :: .v (.one (.int .u64 n)) :: .any :: .any :: .any :: .any :: .any :: .any :: .any :: .any :: .any :: .any :: .any :: .any :: .any :: .any :: .any :: .any :: .any :: .any :: .any :: .v (.one (.int .u64 n)) :: .v (.one (.int .u64 j)) :: .any :: .any :: .any :: .any :: .any :: .any :: .any :: .any :: .any :: .any :: .any :: .any :: .any :: .any :: .any :: .any :: .any :: .any :: .any :: .any :: []), [.own 0 [.c (.int .i64 z), .c (.int .u64 t), .c (.sl 1 0 nw 1)], .own 1 [.ints .u64 l nw], .own 1 [.ints .u64 (c j) (c j).length]]⟩ _ _
      refine run_K (P := fun K => run tab envC64 2 _ ⟨_, _⟩ True K) ?_
      intro K hK
      conv => whnf
      refine ⟨trivial, fun hlt => ?_, fun hlt => ?_⟩
      · have hlt' : j < n := by simp at hlt; omega
        skip
        have f1 : idif .u64 t (n : Int) = t - n := by rw [idif, IntWalk.u64_in] <;> omega
        have f2 : isum .u64 (t - n) (j : Int) = t - n + j := by rw [isum, IntWalk.u64_in] <;> omega
        have f3 : isum .u64 (j : Int) 1 = ((j + 1 : Nat) : Int) := by rw [isum, IntWalk.u64_in] <;> omega
        conv => whnf
        rw [f1, f2]
        refine ⟨?_, fun hh => ?_, fun hh => ?_⟩
        · repeat' apply And.intro
          all_goals first
            | exact True.intro
            | exact h2
            | exact h3
            | omega
            | decide +kernel
            | rfl
            | exact Nat.le_of_ble_eq_true rfl
            | (dsimp only; omega)
            | trace_state
        · have ec : c (j + 1) = c j ++ [t - n + j] := by rw [cs, if_pos hh]
          have el : (c (j + 1)).length = (c j).length + 1 := by rw [ec, List.length_append]; rfl
          conv => whnf
          rw [f3]
          subst hK
          change _ ∧ _
          refine ⟨?_, ⟨j + 1, by omega⟩, by show n - (j + 1) < n - j; omega, [0, 1, 4], [], rfl, ?_, ?_⟩
          · repeat' apply And.intro
            all_goals first
              | exact True.intro
              | (show (c j).length + 1 ≤ 9223372036854775807; omega)
              | (show ((c j).length + 1) * 8 ≤ 140737488355328; omega)
              | (show ((c j).length + 1) * 4 ≤ 140737488355328; omega)
              | (show (c j).length * 1 = (c j).length + 0; omega)
              | omega
              | decide +kernel
              | rfl
              | exact Nat.le_of_ble_eq_true rfl
              | (dsimp only; omega)
              | trace_state
          · repeat' apply And.intro
            all_goals first
              | exact True.intro
              | rfl
              | (show C.sl _ 0 _ 1 = C.sl _ 0 (c (j + 1)).length 1; rw [el]; rfl)
              | trace_state
          · exact ⟨⟨rfl, ⟨rfl, rfl⟩, ⟨rfl, rfl⟩, rfl, trivial⟩, ⟨rfl, rfl, rfl, rfl, trivial⟩, ⟨rfl, rfl, ec.symm, el.symm, trivial⟩, trivial⟩
        · have ec : c (j + 1) = c j := by rw [cs, if_neg (by rw [hh]; decide), List.append_nil]
          conv => whnf
          rw [f3]
          subst hK
          change _ ∧ _
          refine ⟨?_, ⟨j + 1, by omega⟩, by show n - (j + 1) < n - j; omega, [0, 1, 2], [], rfl, ?_, ?_⟩
          · repeat' apply And.intro
            all_goals first
              | exact True.intro
              | omega
              | decide +kernel
              | rfl
              | exact Nat.le_of_ble_eq_true rfl
              | (dsimp only; omega)
              | trace_state
          · repeat' apply And.intro
            all_goals first
              | exact True.intro
              | rfl
              | (show C.sl _ 0 _ 1 = C.sl _ 0 (c (j + 1)).length 1; rw [ec]; rfl)
              | trace_state
          · exact ⟨⟨rfl, ⟨rfl, rfl⟩, ⟨rfl, rfl⟩, rfl, trivial⟩, ⟨rfl, rfl, rfl, rfl, trivial⟩, ⟨rfl, rfl, ec.symm, by rw [ec], trivial⟩, trivial⟩
      · have hlt' : j = n := by simp at hlt; omega
        subst hlt'
        conv => whnf
        subst hK
        conv => whnf
        refine ⟨?_, rfl, [0, 1, 2], [], rfl, ⟨rfl, trivial⟩, ⟨rfl, ⟨rfl, rfl⟩, ⟨rfl, rfl⟩, rfl, trivial⟩, ⟨rfl, rfl, rfl, rfl, trivial⟩, ⟨rfl, rfl, rfl, rfl, trivial⟩, trivial⟩
        repeat' apply And.intro
        all_goals first
          | exact True.intro
          | omega
          | decide +kernel
          | rfl
          | exact Nat.le_of_ble_eq_true rfl
          | (dsimp only; omega)
          | trace_state
  · cases hr
end Go.Proofs.Ytjbagkimpmpfgaa

