/- Replay: the law of the small windows, walked. -/
import Derived.Test.YtjbagkimpmpfgaaR11
import Derived.Test.YtjbagkimpmpfgaaR9
import Derived.Test.YtjbagkimpmpfgaaR5
namespace Go.Proofs.Ytjbagkimpmpfgaa
open Go Go.Mx
set_option maxRecDepth 100000
set_option maxHeartbeats 4000000

def env8 : Env := fun f => match f with
  | 39 => some c39
  | 40 => some c40
  | 41 => some c41
  | 42 => some c42
  | 43 => some c43
  | 44 => some c44
  | 45 => some c45
  | 46 => some c46
  | 47 => some c47
  | 48 => some c48
  | 49 => some c49
  | _ => none
theorem env8_ok : EnvOk Try.prog env8 := by
  intro f c h
  unfold env8 at h
  split at h
  · simp only [Option.some.injEq] at h; subst h; exact m39
  · simp only [Option.some.injEq] at h; subst h; exact m40
  · simp only [Option.some.injEq] at h; subst h; exact m41
  · simp only [Option.some.injEq] at h; subst h; exact m42
  · simp only [Option.some.injEq] at h; subst h; exact m43
  · simp only [Option.some.injEq] at h; subst h; exact m44
  · simp only [Option.some.injEq] at h; subst h; exact m45
  · simp only [Option.some.injEq] at h; subst h; exact m46
  · simp only [Option.some.injEq] at h; subst h; exact m47
  · simp only [Option.some.injEq] at h; subst h; exact m48
  · simp only [Option.some.injEq] at h; subst h; exact m49
  · cases h
structure St8 (N : Nat) (z : Int) where
  i : Nat
  t : Int
  l : List Int
  A : List Int
  rel : Rel 4294967295 z t l A
  hi : i ≤ N
  h4 : i ≤ 400
  ha : A.length ≤ i
def c8 : Ctr := fun args objs => match args, objs with
  | [.one (.int .i64 s), .one (.sl 0 0 n 1)], [.view 1 [.ints .u32 L n']] => some ⟨[isI s, n = n', L.length = n, ∀ x ∈ L, 0 ≤ x ∧ x ≤ 4294967295, n ≤ 9223372036854775807], .v (.one (.bool true true)), [], []⟩
  | _, _ => none
theorem m8 : Meets Try.prog 8 c8 := by
  refine meets_of_run2 tab_ok env8_ok mixed [.tmp 4] Try.func8 rfl Try.ntmps8 Try.call8 (fun t w => by simp [results, Try.results8, resS, rv1]) ?_
  intro args objs r hr hcs
  unfold c8 at hr
  split at hr
  · rename_i s n L n'
    simp only [Option.some.injEq] at hr; subst hr
    obtain ⟨h1, h2, h3, h4, h5, _⟩ := hcs
    refine ⟨rfl, ?_⟩
    conv => whnf
    subst h2
    obtain ⟨z, hz⟩ : ∃ z, z = clampI s := ⟨_, rfl⟩
    have hz1 : 1 ≤ z ∧ z ≤ 8192 := by rw [hz]; exact clamp_in s
    rw [← hz]
    refine ⟨?_, St8 n z, fun q => ⟨(.any :: .v (.one (.sl 0 0 n 1)) :: .any :: .any :: .any :: .any :: .v (.one (.ptr 1 0)) :: .v (.one (.ptr 3 0)) :: .v (.one (.int .i64 q.i)) :: .any :: .any :: .any :: .any :: .any :: .any :: .any :: .any :: .any :: .any :: .any :: .any :: .any :: .any :: .any :: .any :: .any :: .any :: .any :: .any :: .any :: .any :: .any :: .any :: .any :: .any :: .any :: .any :: .any :: .any :: .any :: .any :: .any :: .any :: .any :: .any :: .any :: .any :: .any :: .any :: .any :: .any :: .any :: .any :: .any :: .any :: .any :: .any :: .any :: .any :: .any :: .any :: .any :: .any :: .any :: .any :: .any :: .any :: .any :: .any :: .any :: .any :: .any :: .any :: .any :: .any :: .any :: .any :: []), [.view 1 [.ints .u32 L n], .own 0 [.c (.int .i64 z), .c (.int .u32 q.t), .c (.sl 2 0 q.l.length 1)], .own 1 [.ints .u64 q.l q.l.length], .own 0 [.c (.int .i64 z), .c (.int .u64 4294967295), .c (.sl 4 0 q.A.length 1)], .own 1 [.ints .u64 q.A q.A.length]]⟩, fun q => 400 - q.i, ⟨0, 0, [], [], Rel.start _ _, by omega, by omega, by simp⟩, ?_, fun _ => rfl, ?_⟩
    · repeat' apply And.intro
      all_goals first
        | exact True.intro
        | exact h1
        | omega
        | decide +kernel
        | rfl
        | exact Nat.le_of_ble_eq_true rfl
        | (dsimp only; omega)
        | trace_state
    · refine ⟨[0, 1, 2, 3, 4], [(1, [.ints .u64 [] 0])], rfl, ?_, ?_⟩
      · repeat' apply And.intro
        all_goals first
          | exact True.intro
          | rfl
          | exact Nat.le_refl _
          | decide +kernel
          | omega
          | trace_state
      · exact ⟨⟨rfl, rfl, rfl, rfl, trivial⟩, ⟨rfl, ⟨rfl, rfl⟩, ⟨rfl, rfl⟩, rfl, trivial⟩, ⟨rfl, rfl, rfl, rfl, trivial⟩, ⟨rfl, ⟨rfl, rfl⟩, ⟨rfl, rfl⟩, ⟨rfl, rfl, Nat.le_refl _⟩, trivial⟩, ⟨rfl, rfl, rfl, rfl, trivial⟩, trivial⟩
    rintro ⟨i, t, l, A, R, hi, hi4, hA⟩
    have hls := R.small hz1
    have ht : 0 ≤ t ∧ t ≤ 4294967295 := ⟨R.t0, R.tM (by decide)⟩
    have hAN : allN A := R.allN (by decide)
    have hAU : allU A := R.allUA (by decide)
    show run tab env8 1 _ ⟨(.any :: .v (.one (.sl 0 0 n 1)) :: .any :: .any :: .any :: .any :: .v (.one (.ptr 1 0)) :: .v (.one (.ptr 3 0)) :: .v (.one (.int .i64 i)) :: .any :: .any :: .any :: .any :: .any :: .any :: .any :: .any :: .any :: .any :: .any :: .any :: .any :: .any :: .any :: .any :: .any :: .any :: .any :: .any :: .any :: .any :: .any :: .any :: .any :: .any :: .any :: .any :: .any :: .any :: .any :: .any :: .any :: .any :: .any :: .any :: .any :: .any :: .any :: .any :: .any :: .any :: .any :: .any :: .any :: .any :: .any :: .any :: .any :: .any :: .any :: .any :: .any :: .any :: .any :: .any :: .any :: .any :: .any :: .any :: .any :: .any :: .any :: .any :: .any :: .any :: .any :: .any :: []), [.view 1 [.ints .u32 L n], .own 0 [.c (.int .i64 z), .c (.int .u32 t), .c (.sl 2 0 l.length 1)], .own 1 [.ints .u64 l l.length], .own 0 [.c (.int .i64 z), .c (.int .u64 4294967295), .c (.sl 4 0 A.length 1)], .own 1 [.ints .u64 A A.length]]⟩ _ _
    refine run_K (P := fun K => run tab env8 1 _ ⟨_, _⟩ True K) ?_
    intro K hK
    conv => whnf
    refine ⟨trivial, fun hlt => ?_, fun hlt => ?_⟩
    · have hlt' : i < n := by simp at hlt; omega
      conv => whnf
      refine ⟨trivial, fun hlt2 => ?_, fun hlt2 => ?_⟩
      · have hlt2' : i < 400 := by simp at hlt2; omega
        obtain ⟨x, hx⟩ : ∃ x, x = L.getD i 0 := ⟨_, rfl⟩
        have hx0 : 0 ≤ x ∧ x ≤ 4294967295 := by rw [hx]; exact h4 _ (getD_mem' (by omega))
        have cx : conv .u64 x = x := by rw [conv, IntWalk.u64_in]; omega
        have e1 : isum .i64 (i : Int) 1 = ((i + 1 : Nat) : Int) := by rw [isum, i64_in] <;> omega
        have fe := fresh_eq R hz1.1 hx0.1
        have S := step_rel R hz1 hx0.1 hx0.2
        have hA' := takeA_len 4294967295 z A x
        have hS0 := S.t0
        have hS1 := S.tM (by decide)
        have et : (conv .u64 (takeT 4294967295 z t l x) != topA (takeA 4294967295 z A x)) = false := by
          rw [conv, IntWalk.u64_in _ (by omega), S.top]; simp
        conv => whnf
        simp only [Int.toNat_natCast, Nat.zero_add]
        rw [← hx, cx, fe]
        refine ⟨?_, fun h => ?_, fun _ => ?_⟩
        · repeat' apply And.intro
          all_goals first
            | exact True.intro
            | exact R.U
            | exact ht
            | exact hx0
            | exact hAU
            | exact hx0.1
            | omega
            | decide +kernel
            | rfl
            | exact Nat.le_of_ble_eq_true rfl
            | (dsimp only; omega)
            | trace_state
        · simp at h
        conv => whnf
        simp only [Int.toNat_natCast, Nat.zero_add]
        rw [← hx, cx, fe]
        refine ⟨?_, fun h => ?_, fun _ => ?_⟩
        · repeat' apply And.intro
          all_goals first
            | exact True.intro
            | exact R.U
            | exact ht
            | exact hx0
            | exact hAU
            | exact hx0.1
            | exact R.tnil
            | omega
            | decide +kernel
            | rfl
            | exact Nat.le_of_ble_eq_true rfl
            | (dsimp only; omega)
            | trace_state
        · simp at h
        have hSN := S.allN (by decide)
        conv => whnf
        rw [et]
        refine ⟨?_, fun h => ?_, fun _ => ?_⟩
        · repeat' apply And.intro
          all_goals first
            | exact True.intro
            | exact hSN
            | omega
            | decide +kernel
            | rfl
            | exact Nat.le_of_ble_eq_true rfl
            | (dsimp only; omega)
            | trace_state
        · cases h
        conv => whnf
        rw [e1]
        subst hK
        change _ ∧ _
        refine ⟨trivial, ⟨i + 1, _, _, _, S, by omega, by omega, by omega⟩, by show 400 - (i + 1) < 400 - i; omega, [0, 1, 5, 3, 6], [], rfl, ?_, ?_⟩
        · repeat' apply And.intro
          all_goals first
            | exact True.intro
            | rfl
            | exact Nat.le_refl _
            | decide +kernel
            | omega
            | trace_state
        · exact ⟨⟨rfl, rfl, rfl, rfl, trivial⟩, ⟨rfl, ⟨rfl, rfl⟩, ⟨rfl, rfl⟩, rfl, trivial⟩, ⟨rfl, rfl, rfl, rfl, trivial⟩, ⟨rfl, ⟨rfl, rfl⟩, ⟨rfl, rfl⟩, rfl, trivial⟩, ⟨rfl, rfl, rfl, rfl, trivial⟩, trivial⟩
      · have hlt2' : ¬ i < 400 := by simp at hlt2; omega
        conv => whnf
        subst hK
        conv => whnf
        rw [came_eq R hz1.1]
        refine ⟨?_, rfl, [0], [], rfl, ⟨?_, trivial⟩, ⟨rfl, rfl, rfl, rfl, trivial⟩, trivial⟩
        · repeat' apply And.intro
          all_goals first
            | exact True.intro
            | exact R.U
            | exact ht
            | exact hAN
            | omega
            | decide +kernel
            | rfl
            | exact Nat.le_of_ble_eq_true rfl
            | (dsimp only; omega)
            | trace_state
        · show (_ == _) = true
          rw [beq_self_eq_true]
    · have hlt' : ¬ i < n := by simp at hlt; omega
      conv => whnf
      subst hK
      conv => whnf
      rw [came_eq R hz1.1]
      refine ⟨?_, rfl, [0], [], rfl, ⟨?_, trivial⟩, ⟨rfl, rfl, rfl, rfl, trivial⟩, trivial⟩
      · repeat' apply And.intro
        all_goals first
          | exact True.intro
          | exact R.U
          | exact ht
          | exact hAN
          | omega
          | decide +kernel
          | rfl
          | exact Nat.le_of_ble_eq_true rfl
          | (dsimp only; omega)
          | trace_state
      · show (_ == _) = true
        rw [beq_self_eq_true]
  · cases hr
end Go.Proofs.Ytjbagkimpmpfgaa

