/- Replay: the law of the plays, walked. -/
import Derived.Test.YtjbagkimpmpfgaaR16
import Derived.Test.YtjbagkimpmpfgaaR11
import Derived.Test.YtjbagkimpmpfgaaRunK
namespace Go.Proofs.Ytjbagkimpmpfgaa
open Go Go.Mx
set_option maxRecDepth 100000
set_option maxHeartbeats 4000000

theorem clear_rel (M z : Int) (w : Nat) (h : w = 0 ∨ w = wordsW z) : Rel M z 0 (List.replicate w 0) [] :=
  ⟨zeros_U _, by rw [List.length_replicate]; exact h, fun _ => rfl, rfl, fun x hx => by simp at hx, List.nodup_nil, fun _ x h0 h1 => by omega⟩
theorem cameAU_len (T z : Int) (A : List Int) : ∀ i, (cameAU T z A i).length ≤ i
  | 0 => Nat.le_refl _
  | i + 1 => by
    have := cameAU_len T z A i
    rw [cameAU]; split <;> (try rw [insA_len]) <;> omega
def c47n : Ctr := fun args objs => match args, objs with
  | [.one (.ptr 0 0)], [.own 0 [.c (.int .i64 _), .c (.int .u64 _), .c .nils]] => some ⟨[], .v (.one (.int .u64 0)), [], []⟩
  | _, _ => none
theorem m47n : Meets Try.prog 47 c47n := by
  refine meets_of_run2 tab_ok env0 mixed [.tmp 2] Try.func47 rfl Try.ntmps47 Try.call47 (fun t w => by simp [results, Try.results47, resS, rv1]) ?_
  intro args objs r hr hcs
  unfold c47n at hr
  split at hr
  · rename_i z la
    simp only [Option.some.injEq] at hr; subst hr
    refine ⟨rfl, ?_⟩
    conv => whnf
    refine ⟨?_, Unit, fun i => ⟨(.v (.one (.ptr 0 0)) :: .any :: .any :: .v (.one (.int .u64 0)) :: .v (.one (.int .i64 0)) :: .any :: .any :: .any :: .any :: .any :: .any :: .any :: .any :: .any :: .any :: .any :: .any :: .any :: .any :: .any :: .any :: .any :: .any :: .any :: .any :: .any :: .any :: .any :: .any :: .any :: .any :: .any :: .any :: []), [.own 0 [.c (.int .i64 z), .c (.int .u64 la), .c .nils]]⟩, fun i => 0, (), ?_, fun _ => rfl, ?_⟩
    · trivial
    · refine ⟨[0], [], rfl, ?_, ?_⟩
      · repeat' apply And.intro
        all_goals first
          | exact True.intro
          | rfl
          | exact Nat.le_refl _
          | decide +kernel
          | omega
          | trace_state
      · repeat' apply And.intro
        all_goals first
          | exact True.intro
          | rfl
          | exact Nat.le_refl _
          | decide +kernel
          | omega
          | trace_state
    rintro ⟨⟩
    show run tab (fun _ => none) 1 _ ⟨(.v (.one (.ptr 0 0)) :: .any :: .any :: .v (.one (.int .u64 0)) :: .v (.one (.int .i64 0)) :: .any :: .any :: .any :: .any :: .any :: .any :: .any :: .any :: .any :: .any :: .any :: .any :: .any :: .any :: .any :: .any :: .any :: .any :: .any :: .any :: .any :: .any :: .any :: .any :: .any :: .any :: .any :: .any :: []), [.own 0 [.c (.int .i64 z), .c (.int .u64 la), .c .nils]]⟩ _ _
    refine run_K (P := fun K => run tab (fun _ => none) 1 _ ⟨_, _⟩ True K) ?_
    intro K hK
    conv => whnf
    refine ⟨trivial, fun h => absurd h (by decide), fun _ => ?_⟩
    conv => whnf
    subst hK
    conv => whnf
    refine ⟨trivial, rfl, [0], [], rfl, ⟨⟨rfl, rfl⟩, trivial⟩, ⟨rfl, ⟨rfl, rfl⟩, ⟨rfl, rfl⟩, rfl, trivial⟩, trivial⟩
  · cases hr
def env10 : Env := fun f => match f with
  | 39 => some c39
  | 41 => some c41
  | 43 => some c43
  | 45 => some c45
  | 47 => some (orC c47n c47)
  | 49 => some c49
  | 51 => some c51
  | 52 => some c52
  | 53 => some c53
  | 54 => some c54
  | 55 => some c55
  | 56 => some c56
  | 57 => some c57
  | 58 => some c58
  | _ => none
theorem env10_ok : EnvOk Try.prog env10 := by
  intro f c h
  unfold env10 at h
  split at h
  · simp only [Option.some.injEq] at h; subst h; exact m39
  · simp only [Option.some.injEq] at h; subst h; exact m41
  · simp only [Option.some.injEq] at h; subst h; exact m43
  · simp only [Option.some.injEq] at h; subst h; exact m45
  · simp only [Option.some.injEq] at h; subst h; exact meets_or m47n m47
  · simp only [Option.some.injEq] at h; subst h; exact m49
  · simp only [Option.some.injEq] at h; subst h; exact m51
  · simp only [Option.some.injEq] at h; subst h; exact m52
  · simp only [Option.some.injEq] at h; subst h; exact m53
  · simp only [Option.some.injEq] at h; subst h; exact m54
  · simp only [Option.some.injEq] at h; subst h; exact m55
  · simp only [Option.some.injEq] at h; subst h; exact m56
  · simp only [Option.some.injEq] at h; subst h; exact m57
  · simp only [Option.some.injEq] at h; subst h; exact m58
  · cases h
structure St10 (N : Nat) (z : Int) where
  i : Nat
  t : Int
  l : List Int
  A : List Int
  rel : Rel 18446744073709551615 z t l A
  hi : i ≤ N
  h4 : i ≤ 400
  ha : A.length ≤ i
def c10 : Ctr := fun args objs => match args, objs with
  | [.one (.int .i64 s), .one (.sl 0 0 n 2)], [.view 2 [.rows 2 n' f]] => some ⟨[isI s, n = n', ∃ Ks Ns : Nat → Int, f = (fun j => [.int .i64 (Ks j), .int .u64 (Ns j)]) ∧ ∀ j, j < n → isI (Ks j) ∧ 0 ≤ Ns j ∧ Ns j ≤ 18446744073709551615, n ≤ 9223372036854775807], .v (.one (.bool true true)), [], []⟩
  | _, _ => none
theorem m10 : Meets Try.prog 10 c10 := by
  refine meets_of_run2 tab_ok env10_ok mixed [.tmp 4] Try.func10 rfl Try.ntmps10 Try.call10 (fun t w => by simp [results, Try.results10, resS, rv1]) ?_
  intro args objs r hr hcs
  unfold c10 at hr
  split at hr
  · rename_i s n n' f
    simp only [Option.some.injEq] at hr; subst hr
    obtain ⟨h1, h2, h3, h4, _⟩ := hcs
    refine ⟨rfl, ?_⟩
    conv => whnf
    subst h2
    obtain ⟨Ks, Ns, rfl, h3⟩ := h3
    obtain ⟨z, hz⟩ : ∃ z, z = clampI s := ⟨_, rfl⟩
    have hz1 : 1 ≤ z ∧ z ≤ 8192 := by rw [hz]; exact clamp_in s
    have imx : imax z 1 = z := by unfold imax; split <;> omega
    rw [← hz]
    refine ⟨?_, St10 n z, fun q => ⟨(.any :: .v (.one (.sl 0 0 n 2)) :: .any :: .any :: .any :: .any :: .v (.one (.ptr 1 0)) :: .v (.one (.ptr 3 0)) :: .v (.one (.int .i64 q.i)) :: .any :: .any :: .any :: .any :: .any :: .any :: .any :: .any :: .any :: .any :: .any :: .any :: .any :: .any :: .any :: .any :: .any :: .any :: .any :: .any :: .any :: .any :: .any :: .any :: .any :: .any :: .any :: .any :: .any :: .any :: .any :: .any :: .any :: .any :: .any :: .any :: .any :: .any :: .any :: .any :: .any :: .any :: .any :: .any :: .any :: .any :: .any :: .any :: .any :: .any :: .any :: .any :: .any :: .any :: .any :: .any :: .any :: .any :: .any :: .any :: .any :: .any :: .any :: .any :: .any :: .any :: .any :: .any :: .any :: .any :: .any :: .any :: .any :: .any :: .any :: .any :: .any :: .any :: .any :: .any :: .any :: .any :: .any :: .any :: .any :: .any :: .any :: .any :: .any :: .any :: .any :: .any :: .any :: .any :: .any :: .any :: .any :: .any :: .any :: .any :: .any :: .any :: .any :: .any :: .any :: .any :: .any :: .any :: .any :: .any :: .any :: .any :: .any :: .any :: .any :: .any :: .any :: .any :: .any :: .any :: .any :: .any :: .any :: .any :: .any :: .any :: .any :: .any :: .any :: .any :: .any :: .any :: .any :: []), [.view 2 [.rows 2 n (fun j => [.int .i64 (Ks j), .int .u64 (Ns j)])], .own 0 [.c (.int .i64 z), .c (.int .u64 q.t), .c (.sl 2 0 q.l.length 1)], .own 1 [.ints .u64 q.l q.l.length], .own 0 [.c (.int .i64 z), .c (.int .u64 18446744073709551615), .c (.sl 4 0 q.A.length 1)], .own 1 [.ints .u64 q.A q.A.length]]⟩, fun q => 400 - q.i, ⟨0, 0, [], [], Rel.start _ _, by omega, by omega, by simp⟩, ?_, fun _ => rfl, ?_⟩
    · repeat' apply And.intro
      all_goals first
        | exact True.intro
        | exact h1
        | omega
        | decide +kernel
        | rfl
        | exact Nat.le_of_ble_eq_true rfl
        | (dsimp only; omega)
        | trace_state
    · refine ⟨[0, 1, 2, 3, 4], [(1, [.ints .u64 [] 0])], rfl, ?_, ?_⟩
      · repeat' apply And.intro
        all_goals first
          | exact True.intro
          | rfl
          | exact Nat.le_refl _
          | decide +kernel
          | omega
          | trace_state
      · exact ⟨⟨rfl, rfl, rfl, fun _ _ => rfl, trivial⟩, ⟨rfl, ⟨rfl, rfl⟩, ⟨rfl, rfl⟩, rfl, trivial⟩, ⟨rfl, rfl, rfl, rfl, trivial⟩, ⟨rfl, ⟨rfl, rfl⟩, ⟨rfl, rfl⟩, ⟨rfl, rfl, Nat.le_refl _⟩, trivial⟩, ⟨rfl, rfl, rfl, rfl, trivial⟩, trivial⟩
    rintro ⟨i, t, l, A, R, hi, hi4, hA⟩
    have hls := R.small hz1
    have ht : 0 ≤ t ∧ t ≤ 18446744073709551615 := ⟨R.t0, R.tM (by decide)⟩
    have hAN : allN A := R.allN (by decide)
    have hAU : allU A := R.allUA (by decide)
    show run tab env10 1 _ ⟨(.any :: .v (.one (.sl 0 0 n 2)) :: .any :: .any :: .any :: .any :: .v (.one (.ptr 1 0)) :: .v (.one (.ptr 3 0)) :: .v (.one (.int .i64 i)) :: .any :: .any :: .any :: .any :: .any :: .any :: .any :: .any :: .any :: .any :: .any :: .any :: .any :: .any :: .any :: .any :: .any :: .any :: .any :: .any :: .any :: .any :: .any :: .any :: .any :: .any :: .any :: .any :: .any :: .any :: .any :: .any :: .any :: .any :: .any :: .any :: .any :: .any :: .any :: .any :: .any :: .any :: .any :: .any :: .any :: .any :: .any :: .any :: .any :: .any :: .any :: .any :: .any :: .any :: .any :: .any :: .any :: .any :: .any :: .any :: .any :: .any :: .any :: .any :: .any :: .any :: .any :: .any :: .any :: .any :: .any :: .any :: .any :: .any :: .any :: .any :: .any :: .any :: .any :: .any :: .any :: .any :: .any :: .any :: .any :: .any :: .any :: .any :: .any :: .any :: .any :: .any :: .any :: .any :: .any :: .any :: .any :: .any :: .any :: .any :: .any :: .any :: .any :: .any :: .any :: .any :: .any :: .any :: .any :: .any :: .any :: .any :: .any :: .any :: .any :: .any :: .any :: .any :: .any :: .any :: .any :: .any :: .any :: .any :: .any :: .any :: .any :: .any :: .any :: .any :: .any :: .any :: .any :: []), [.view 2 [.rows 2 n (fun j => [.int .i64 (Ks j), .int .u64 (Ns j)])], .own 0 [.c (.int .i64 z), .c (.int .u64 t), .c (.sl 2 0 l.length 1)], .own 1 [.ints .u64 l l.length], .own 0 [.c (.int .i64 z), .c (.int .u64 18446744073709551615), .c (.sl 4 0 A.length 1)], .own 1 [.ints .u64 A A.length]]⟩ _ _
    refine run_K (P := fun K => run tab env10 1 _ ⟨_, _⟩ True K) ?_
    intro K hK
    conv => whnf
    refine ⟨trivial, fun hlt => ?_, fun hlt => ?_⟩
    · have hlt' : i < n := by simp at hlt; omega
      conv => whnf
      refine ⟨trivial, fun hlt2 => ?_, fun hlt2 => ?_⟩
      · have hlt2' : i < 400 := by simp at hlt2; omega
        have e1 : isum .i64 (i : Int) 1 = ((i + 1 : Nat) : Int) := by rw [isum, i64_in] <;> omega
        obtain ⟨y, hy⟩ : ∃ y, y = Ks i := ⟨_, rfl⟩
        obtain ⟨x, hx⟩ : ∃ x, x = Ns i := ⟨_, rfl⟩
        have hx0 : 0 ≤ x ∧ x ≤ 18446744073709551615 := by rw [hx]; exact (h3 i hlt').2
        have fe := fresh_eq R hz1.1 hx0.1
        have S := step_rel R hz1 hx0.1 hx0.2
        obtain ⟨t1, ht1⟩ : ∃ t1, t1 = takeT 18446744073709551615 z t l x := ⟨_, rfl⟩
        obtain ⟨l1, hl1⟩ : ∃ l1, l1 = takeL 18446744073709551615 z t l x := ⟨_, rfl⟩
        have hA' := takeA_len 18446744073709551615 z A x
        obtain ⟨A1, hA1⟩ : ∃ A1, A1 = takeA 18446744073709551615 z A x := ⟨_, rfl⟩
        rw [← ht1, ← hl1, ← hA1] at S
        rw [← hA1] at hA'
        have hls1 := S.small hz1
        have ht1' : 0 ≤ t1 ∧ t1 ≤ 18446744073709551615 := ⟨S.t0, S.tM (by decide)⟩
        have hSN : allN A1 := S.allN (by decide)
        conv => whnf
        simp only [Int.toNat_natCast, Nat.zero_add]
        rw [← hx, fe]
        refine ⟨?_, fun h => ?_, fun _ => ?_⟩
        · repeat' apply And.intro
          all_goals first
            | exact True.intro
            | exact R.U
            | exact ht
            | exact hx0
            | exact hAU
            | exact hx0.1
            | omega
            | decide +kernel
            | rfl
            | exact Nat.le_of_ble_eq_true rfl
            | (dsimp only; omega)
            | trace_state
        · simp at h
        show run tab env10 1 (Code.seq _ _) ⟨_, _⟩ _ _
        refine run_seq_K ?_
        intro K1 hK1
        show K1.kn _ _
        subst hK1
        show run tab env10 1 (Code.seq _ _) ⟨_, _⟩ _ _
        refine run_seq_K ?_
        intro K1 hK1
        refine run_block_K ?_
        intro K2 hK2
        conv => whnf
        refine ⟨trivial, fun h6 => ?_, fun h6 => ?_⟩
        · have S2 := step_rel (A := A1) S hz1 (n := isum .u64 x 100) (by rw [isum, IntKind.wrap_u64]; exact Int.emod_nonneg _ (by decide)) (by rw [isum, IntKind.wrap_u64]; have := Int.emod_lt_of_pos (x + 100) (show (0 : Int) < 18446744073709551616 by decide); omega)
          have hx2 : 0 ≤ isum .u64 x 100 ∧ isum .u64 x 100 ≤ 18446744073709551615 := by
            rw [isum, IntKind.wrap_u64]
            have := Int.emod_nonneg (x + 100) (show (18446744073709551616 : Int) ≠ 0 by decide)
            have := Int.emod_lt_of_pos (x + 100) (show (0 : Int) < 18446744073709551616 by decide)
            omega
          conv => whnf
          refine ⟨?_, fun h => ?_, fun _ => ?_⟩
          · repeat' apply And.intro
            all_goals first
              | exact True.intro
              | exact hz1
              | omega
              | omega
              | decide +kernel
              | rfl
              | exact Nat.le_of_ble_eq_true rfl
              | (dsimp only; omega)
              | trace_state
          · simp at h
          conv => whnf
          rw [imx, imx]
          refine ⟨?_, fun h => ?_, fun _ => ?_⟩
          · repeat' apply And.intro
            all_goals first
              | exact True.intro
              | omega
              | decide +kernel
              | rfl
              | exact Nat.le_of_ble_eq_true rfl
              | (dsimp only; omega)
              | trace_state
          · simp at h
          conv => whnf
          rw [← ht1, ← hl1]
          subst hK2
          subst hK1
          conv => whnf
          refine ⟨?_, fun h => ?_, fun _ => ?_⟩
          · repeat' apply And.intro
            all_goals first
              | exact True.intro
              | exact R.U
              | exact ht
              | exact S.U
              | exact ht1'
              | exact hx0
              | exact hx2
              | exact S.tnil
              | exact R.tnil
              | exact hAN
              | exact hz1
              | omega
              | decide +kernel
              | rfl
              | exact Nat.le_of_ble_eq_true rfl
              | (dsimp only; omega)
              | trace_state
          · exfalso; rw [R.top] at h; simp at h
          conv => whnf
          rw [imx]
          refine ⟨?_, fun h => ?_, fun _ => ?_⟩
          · repeat' apply And.intro
            all_goals first
              | exact True.intro
              | omega
              | decide +kernel
              | rfl
              | exact Nat.le_of_ble_eq_true rfl
              | (dsimp only; omega)
              | trace_state
          · exfalso; simp at h
          conv => whnf
          rw [e1]
          subst hK
          change _ ∧ _
          refine ⟨trivial, ⟨i + 1, t, l, A, R, by omega, by omega, by omega⟩, by show 400 - (i + 1) < 400 - i; omega, [0, 1, 2, 3, 4], [], rfl, ?_, ?_⟩
          · repeat' apply And.intro
            all_goals first
              | exact True.intro
              | rfl
              | exact Nat.le_refl _
              | decide +kernel
              | omega
              | trace_state
          · exact ⟨⟨rfl, rfl, rfl, fun _ _ => rfl, trivial⟩, ⟨rfl, ⟨rfl, rfl⟩, ⟨rfl, rfl⟩, rfl, trivial⟩, ⟨rfl, rfl, rfl, rfl, trivial⟩, ⟨rfl, ⟨rfl, rfl⟩, ⟨rfl, rfl⟩, rfl, trivial⟩, ⟨rfl, rfl, rfl, rfl, trivial⟩, trivial⟩
        · conv => whnf
          refine ⟨trivial, fun h7 => ?_, fun h7 => ?_⟩
          · conv => whnf
            refine ⟨?_, fun h8 => ?_, fun h8 => ?_⟩
            · repeat' apply And.intro
              all_goals first
                | exact True.intro
                | omega
                | decide +kernel
                | rfl
                | exact Nat.le_of_ble_eq_true rfl
                | (dsimp only; omega)
                | trace_state
            · conv => whnf
              subst hK2
              subst hK1
              conv => whnf
              refine ⟨?_, fun h => ?_, fun _ => ?_⟩
              · repeat' apply And.intro
                all_goals first
                  | exact True.intro
                  | omega
                  | decide +kernel
                  | rfl
                  | exact Nat.le_of_ble_eq_true rfl
                  | (dsimp only; omega)
                  | trace_state
              · exfalso; simp at h
              conv => whnf
              rw [imx]
              refine ⟨?_, fun h => ?_, fun _ => ?_⟩
              · repeat' apply And.intro
                all_goals first
                  | exact True.intro
                  | omega
                  | decide +kernel
                  | rfl
                  | exact Nat.le_of_ble_eq_true rfl
                  | (dsimp only; omega)
                  | trace_state
              · exfalso; simp at h
              conv => whnf
              rw [e1]
              subst hK
              change _ ∧ _
              refine ⟨trivial, ⟨i + 1, 0, List.replicate l.length 0, [], clear_rel _ _ _ R.len, by omega, by omega, by simp⟩, by show 400 - (i + 1) < 400 - i; omega, [0, 1, 2, 3, 5], [(1, [.ints .u64 [] 0])], rfl, ?_, ?_⟩
              · repeat' apply And.intro
                all_goals first
                  | exact True.intro
                  | rfl
                  | exact Nat.le_refl _
                  | decide +kernel
                  | omega
                  | trace_state
              · refine ⟨⟨rfl, rfl, rfl, fun _ _ => rfl, trivial⟩, ⟨rfl, ⟨rfl, rfl⟩, ⟨rfl, rfl⟩, ?_, trivial⟩, ⟨rfl, rfl, rfl, List.length_replicate.symm, trivial⟩, ⟨rfl, ⟨rfl, rfl⟩, ⟨rfl, rfl⟩, ⟨rfl, rfl, Nat.le_refl _⟩, trivial⟩, ⟨rfl, rfl, rfl, rfl, trivial⟩, trivial⟩
                exact congrArg (fun k => C.sl 2 0 k 1) List.length_replicate.symm
            · skip
              conv => whnf
              rw [fe]
              refine ⟨?_, fun h => ?_, fun _ => ?_⟩
              · repeat' apply And.intro
                all_goals first
                  | exact True.intro
                  | exact R.U
                  | exact ht
                  | exact hx0
                  | exact hAU
                  | exact hx0.1
                  | exact R.tnil
                  | omega
                  | decide +kernel
                  | rfl
                  | exact Nat.le_of_ble_eq_true rfl
                  | (dsimp only; omega)
                  | trace_state
              · exfalso; simp at h
              conv => whnf
              rw [← ht1, ← hl1, ← hA1]
              subst hK2
              subst hK1
              conv => whnf
              refine ⟨?_, fun h => ?_, fun _ => ?_⟩
              · repeat' apply And.intro
                all_goals first
                  | exact True.intro
                  | exact hSN
                  | omega
                  | decide +kernel
                  | rfl
                  | exact Nat.le_of_ble_eq_true rfl
                  | (dsimp only; omega)
                  | trace_state
              · exfalso; rw [S.top] at h; simp at h
              conv => whnf
              rw [imx]
              refine ⟨?_, fun h => ?_, fun _ => ?_⟩
              · repeat' apply And.intro
                all_goals first
                  | exact True.intro
                  | omega
                  | decide +kernel
                  | rfl
                  | exact Nat.le_of_ble_eq_true rfl
                  | (dsimp only; omega)
                  | trace_state
              · exfalso; simp at h
              conv => whnf
              rw [e1]
              subst hK
              change _ ∧ _
              refine ⟨trivial, ⟨i + 1, t1, l1, A1, S, by omega, by omega, by omega⟩, by show 400 - (i + 1) < 400 - i; omega, [0, 1, 5, 3, 6], [], rfl, ?_, ?_⟩
              · repeat' apply And.intro
                all_goals first
                  | exact True.intro
                  | rfl
                  | exact Nat.le_refl _
                  | decide +kernel
                  | omega
                  | trace_state
              · exact ⟨⟨rfl, rfl, rfl, fun _ _ => rfl, trivial⟩, ⟨rfl, ⟨rfl, rfl⟩, ⟨rfl, rfl⟩, rfl, trivial⟩, ⟨rfl, rfl, rfl, rfl, trivial⟩, ⟨rfl, ⟨rfl, rfl⟩, ⟨rfl, rfl⟩, rfl, trivial⟩, ⟨rfl, rfl, rfl, rfl, trivial⟩, trivial⟩
          · skip
            conv => whnf
            rw [fe]
            refine ⟨?_, fun h => ?_, fun _ => ?_⟩
            · repeat' apply And.intro
              all_goals first
                | exact True.intro
                | exact R.U
                | exact ht
                | exact hx0
                | exact hAU
                | exact hx0.1
                | exact R.tnil
                | omega
                | decide +kernel
                | rfl
                | exact Nat.le_of_ble_eq_true rfl
                | (dsimp only; omega)
                | trace_state
            · exfalso; simp at h
            conv => whnf
            rw [← ht1, ← hl1, ← hA1]
            subst hK2
            subst hK1
            conv => whnf
            refine ⟨?_, fun h => ?_, fun _ => ?_⟩
            · repeat' apply And.intro
              all_goals first
                | exact True.intro
                | exact hSN
                | omega
                | decide +kernel
                | rfl
                | exact Nat.le_of_ble_eq_true rfl
                | (dsimp only; omega)
                | trace_state
            · exfalso; rw [S.top] at h; simp at h
            conv => whnf
            rw [imx]
            refine ⟨?_, fun h => ?_, fun _ => ?_⟩
            · repeat' apply And.intro
              all_goals first
                | exact True.intro
                | omega
                | decide +kernel
                | rfl
                | exact Nat.le_of_ble_eq_true rfl
                | (dsimp only; omega)
                | trace_state
            · exfalso; simp at h
            conv => whnf
            rw [e1]
            subst hK
            change _ ∧ _
            refine ⟨trivial, ⟨i + 1, t1, l1, A1, S, by omega, by omega, by omega⟩, by show 400 - (i + 1) < 400 - i; omega, [0, 1, 5, 3, 6], [], rfl, ?_, ?_⟩
            · repeat' apply And.intro
              all_goals first
                | exact True.intro
                | rfl
                | exact Nat.le_refl _
                | decide +kernel
                | omega
                | trace_state
            · exact ⟨⟨rfl, rfl, rfl, fun _ _ => rfl, trivial⟩, ⟨rfl, ⟨rfl, rfl⟩, ⟨rfl, rfl⟩, rfl, trivial⟩, ⟨rfl, rfl, rfl, rfl, trivial⟩, ⟨rfl, ⟨rfl, rfl⟩, ⟨rfl, rfl⟩, rfl, trivial⟩, ⟨rfl, rfl, rfl, rfl, trivial⟩, trivial⟩
      · have hie : ¬ i < 400 := by simp at hlt2; omega
        conv => whnf
        subst hK
        conv => whnf
        rw [came_eq R hz1.1]
        refine ⟨?_, fun h => ?_, fun _ => ?_⟩
        · repeat' apply And.intro
          all_goals first
            | exact True.intro
            | exact R.U
            | exact ht
            | exact hAN
            | omega
            | decide +kernel
            | rfl
            | exact Nat.le_of_ble_eq_true rfl
            | (dsimp only; omega)
            | trace_state
        · simp at h
        conv => whnf
        obtain ⟨C, hC⟩ : ∃ C, C = cameA z A := ⟨_, rfl⟩
        have hCl : C.length ≤ A.length := by rw [hC]; exact cameAU_len _ _ _ _
        rw [← hC]
        refine ⟨?_, { i : Nat // i ≤ C.length }, fun q => ⟨(.any :: .any :: .any :: .any :: .any :: .any :: .any :: .any :: .any :: .any :: .any :: .any :: .v (.one (.clip 1 C.length)) :: .v (.one (.sl 2 0 C.length 1)) :: .v (.one (.int .i64 q.1)) :: .any :: .any :: .any :: .any :: .any :: .any :: .any :: .any :: .any :: .any :: .any :: .any :: .any :: .any :: .any :: .any :: .any :: .any :: .any :: .any :: .any :: .any :: .any :: .any :: .any :: .any :: .any :: .any :: .any :: .any :: .any :: .any :: .any :: .any :: .any :: .any :: .any :: .any :: .any :: .any :: .any :: .any :: .any :: .any :: .any :: .any :: .any :: .any :: .any :: .any :: .any :: .any :: .any :: .any :: .any :: .any :: .any :: .any :: .any :: .any :: .any :: .any :: .any :: .any :: .any :: .any :: .any :: .any :: .any :: .any :: .any :: .any :: .any :: .any :: .any :: .any :: .any :: .any :: .any :: .any :: .any :: .any :: .any :: .any :: .any :: .any :: .any :: .any :: .any :: .any :: .any :: .any :: .any :: .any :: .any :: .any :: .any :: .any :: .any :: .any :: .any :: .any :: .any :: .any :: .any :: .any :: .any :: .any :: .any :: .any :: .any :: .any :: .any :: .any :: .any :: .any :: .any :: .any :: .any :: .any :: .any :: .any :: .any :: .any :: .any :: .any :: .any :: []), [.view 2 [.rows 2 n (fun j => [.int .i64 (Ks j), .int .u64 (Ns j)])], .own 1 [.ints .u64 C C.length], .own 1 [.ints .u64 C C.length]]⟩, fun q => C.length - q.1, ⟨0, by omega⟩, ?_, fun _ => rfl, ?_⟩
        · trivial
        · refine ⟨[0, 5, 6], [], rfl, ?_, ?_⟩
          · repeat' apply And.intro
            all_goals first
              | exact True.intro
              | rfl
              | exact Nat.le_refl _
              | decide +kernel
              | omega
              | trace_state
          · exact ⟨⟨rfl, rfl, rfl, fun _ _ => rfl, trivial⟩, ⟨rfl, rfl, rfl, rfl, trivial⟩, ⟨rfl, rfl, rfl, rfl, trivial⟩, trivial⟩
        rintro ⟨j, hj⟩
        show run tab env10 1 _ ⟨(.any :: .any :: .any :: .any :: .any :: .any :: .any :: .any :: .any :: .any :: .any :: .any :: .v (.one (.clip 1 C.length)) :: .v (.one (.sl 2 0 C.length 1)) :: .v (.one (.int .i64 j)) :: .any :: .any :: .any :: .any :: .any :: .any :: .any :: .any :: .any :: .any :: .any :: .any :: .any :: .any :: .any :: .any :: .any :: .any :: .any :: .any :: .any :: .any :: .any :: .any :: .any :: .any :: .any :: .any :: .any :: .any :: .any :: .any :: .any :: .any :: .any :: .any :: .any :: .any :: .any :: .any :: .any :: .any :: .any :: .any :: .any :: .any :: .any :: .any :: .any :: .any :: .any :: .any :: .any :: .any :: .any :: .any :: .any :: .any :: .any :: .any :: .any :: .any :: .any :: .any :: .any :: .any :: .any :: .any :: .any :: .any :: .any :: .any :: .any :: .any :: .any :: .any :: .any :: .any :: .any :: .any :: .any :: .any :: .any :: .any :: .any :: .any :: .any :: .any :: .any :: .any :: .any :: .any :: .any :: .any :: .any :: .any :: .any :: .any :: .any :: .any :: .any :: .any :: .any :: .any :: .any :: .any :: .any :: .any :: .any :: .any :: .any :: .any :: .any :: .any :: .any :: .any :: .any :: .any :: .any :: .any :: .any :: .any :: .any :: .any :: .any :: .any :: .any :: []), [.view 2 [.rows 2 n (fun j => [.int .i64 (Ks j), .int .u64 (Ns j)])], .own 1 [.ints .u64 C C.length], .own 1 [.ints .u64 C C.length]]⟩ _ _
        refine run_K (P := fun K => run tab env10 1 _ ⟨_, _⟩ True K) ?_
        intro K hK
        conv => whnf
        refine ⟨trivial, fun hjl => ?_, fun hjl => ?_⟩
        · have hjl' : j < C.length := by simp at hjl; omega
          have g1 : isum .i64 (j : Int) 1 = ((j + 1 : Nat) : Int) := by rw [isum, i64_in] <;> omega
          conv => whnf
          refine ⟨?_, fun h => ?_, fun _ => ?_⟩
          · repeat' apply And.intro
            all_goals first
              | exact True.intro
              | (rw [Int.toNat_natCast]; omega)
              | omega
              | decide +kernel
              | rfl
              | exact Nat.le_of_ble_eq_true rfl
              | (dsimp only; omega)
              | trace_state
          · simp at h
          conv => whnf
          rw [g1]
          subst hK
          change _ ∧ _
          refine ⟨trivial, ⟨j + 1, by omega⟩, by show C.length - (j + 1) < C.length - j; omega, [0, 1, 2], [], rfl, ?_, ?_⟩
          · repeat' apply And.intro
            all_goals first
              | exact True.intro
              | rfl
              | exact Nat.le_refl _
              | decide +kernel
              | omega
              | trace_state
          · exact ⟨⟨rfl, rfl, rfl, fun _ _ => rfl, trivial⟩, ⟨rfl, rfl, rfl, rfl, trivial⟩, ⟨rfl, rfl, rfl, rfl, trivial⟩, trivial⟩
        · conv => whnf
          subst hK
          conv => whnf
          refine ⟨trivial, rfl, [0], [], rfl, ⟨rfl, trivial⟩, ⟨rfl, rfl, rfl, fun _ _ => rfl, trivial⟩, trivial⟩
    · have hie : ¬ i < n := by simp at hlt; omega
      conv => whnf
      subst hK
      conv => whnf
      rw [came_eq R hz1.1]
      refine ⟨?_, fun h => ?_, fun _ => ?_⟩
      · repeat' apply And.intro
        all_goals first
          | exact True.intro
          | exact R.U
          | exact ht
          | exact hAN
          | omega
          | decide +kernel
          | rfl
          | exact Nat.le_of_ble_eq_true rfl
          | (dsimp only; omega)
          | trace_state
      · simp at h
      conv => whnf
      obtain ⟨C, hC⟩ : ∃ C, C = cameA z A := ⟨_, rfl⟩
      have hCl : C.length ≤ A.length := by rw [hC]; exact cameAU_len _ _ _ _
      rw [← hC]
      refine ⟨?_, { i : Nat // i ≤ C.length }, fun q => ⟨(.any :: .any :: .any :: .any :: .any :: .any :: .any :: .any :: .any :: .any :: .any :: .any :: .v (.one (.clip 1 C.length)) :: .v (.one (.sl 2 0 C.length 1)) :: .v (.one (.int .i64 q.1)) :: .any :: .any :: .any :: .any :: .any :: .any :: .any :: .any :: .any :: .any :: .any :: .any :: .any :: .any :: .any :: .any :: .any :: .any :: .any :: .any :: .any :: .any :: .any :: .any :: .any :: .any :: .any :: .any :: .any :: .any :: .any :: .any :: .any :: .any :: .any :: .any :: .any :: .any :: .any :: .any :: .any :: .any :: .any :: .any :: .any :: .any :: .any :: .any :: .any :: .any :: .any :: .any :: .any :: .any :: .any :: .any :: .any :: .any :: .any :: .any :: .any :: .any :: .any :: .any :: .any :: .any :: .any :: .any :: .any :: .any :: .any :: .any :: .any :: .any :: .any :: .any :: .any :: .any :: .any :: .any :: .any :: .any :: .any :: .any :: .any :: .any :: .any :: .any :: .any :: .any :: .any :: .any :: .any :: .any :: .any :: .any :: .any :: .any :: .any :: .any :: .any :: .any :: .any :: .any :: .any :: .any :: .any :: .any :: .any :: .any :: .any :: .any :: .any :: .any :: .any :: .any :: .any :: .any :: .any :: .any :: .any :: .any :: .any :: .any :: .any :: .any :: .any :: []), [.view 2 [.rows 2 n (fun j => [.int .i64 (Ks j), .int .u64 (Ns j)])], .own 1 [.ints .u64 C C.length], .own 1 [.ints .u64 C C.length]]⟩, fun q => C.length - q.1, ⟨0, by omega⟩, ?_, fun _ => rfl, ?_⟩
      · trivial
      · refine ⟨[0, 5, 6], [], rfl, ?_, ?_⟩
        · repeat' apply And.intro
          all_goals first
            | exact True.intro
            | rfl
            | exact Nat.le_refl _
            | decide +kernel
            | omega
            | trace_state
        · exact ⟨⟨rfl, rfl, rfl, fun _ _ => rfl, trivial⟩, ⟨rfl, rfl, rfl, rfl, trivial⟩, ⟨rfl, rfl, rfl, rfl, trivial⟩, trivial⟩
      rintro ⟨j, hj⟩
      show run tab env10 1 _ ⟨(.any :: .any :: .any :: .any :: .any :: .any :: .any :: .any :: .any :: .any :: .any :: .any :: .v (.one (.clip 1 C.length)) :: .v (.one (.sl 2 0 C.length 1)) :: .v (.one (.int .i64 j)) :: .any :: .any :: .any :: .any :: .any :: .any :: .any :: .any :: .any :: .any :: .any :: .any :: .any :: .any :: .any :: .any :: .any :: .any :: .any :: .any :: .any :: .any :: .any :: .any :: .any :: .any :: .any :: .any :: .any :: .any :: .any :: .any :: .any :: .any :: .any :: .any :: .any :: .any :: .any :: .any :: .any :: .any :: .any :: .any :: .any :: .any :: .any :: .any :: .any :: .any :: .any :: .any :: .any :: .any :: .any :: .any :: .any :: .any :: .any :: .any :: .any :: .any :: .any :: .any :: .any :: .any :: .any :: .any :: .any :: .any :: .any :: .any :: .any :: .any :: .any :: .any :: .any :: .any :: .any :: .any :: .any :: .any :: .any :: .any :: .any :: .any :: .any :: .any :: .any :: .any :: .any :: .any :: .any :: .any :: .any :: .any :: .any :: .any :: .any :: .any :: .any :: .any :: .any :: .any :: .any :: .any :: .any :: .any :: .any :: .any :: .any :: .any :: .any :: .any :: .any :: .any :: .any :: .any :: .any :: .any :: .any :: .any :: .any :: .any :: .any :: .any :: .any :: []), [.view 2 [.rows 2 n (fun j => [.int .i64 (Ks j), .int .u64 (Ns j)])], .own 1 [.ints .u64 C C.length], .own 1 [.ints .u64 C C.length]]⟩ _ _
      refine run_K (P := fun K => run tab env10 1 _ ⟨_, _⟩ True K) ?_
      intro K hK
      conv => whnf
      refine ⟨trivial, fun hjl => ?_, fun hjl => ?_⟩
      · have hjl' : j < C.length := by simp at hjl; omega
        have g1 : isum .i64 (j : Int) 1 = ((j + 1 : Nat) : Int) := by rw [isum, i64_in] <;> omega
        conv => whnf
        refine ⟨?_, fun h => ?_, fun _ => ?_⟩
        · repeat' apply And.intro
          all_goals first
            | exact True.intro
            | (rw [Int.toNat_natCast]; omega)
            | omega
            | decide +kernel
            | rfl
            | exact Nat.le_of_ble_eq_true rfl
            | (dsimp only; omega)
            | trace_state
        · simp at h
        conv => whnf
        rw [g1]
        subst hK
        change _ ∧ _
        refine ⟨trivial, ⟨j + 1, by omega⟩, by show C.length - (j + 1) < C.length - j; omega, [0, 1, 2], [], rfl, ?_, ?_⟩
        · repeat' apply And.intro
          all_goals first
            | exact True.intro
            | rfl
            | exact Nat.le_refl _
            | decide +kernel
            | omega
            | trace_state
        · exact ⟨⟨rfl, rfl, rfl, fun _ _ => rfl, trivial⟩, ⟨rfl, rfl, rfl, rfl, trivial⟩, ⟨rfl, rfl, rfl, rfl, trivial⟩, trivial⟩
      · conv => whnf
        subst hK
        conv => whnf
        refine ⟨trivial, rfl, [0], [], rfl, ⟨rfl, trivial⟩, ⟨rfl, rfl, rfl, fun _ _ => rfl, trivial⟩, trivial⟩
  · cases hr
end Go.Proofs.Ytjbagkimpmpfgaa

