/- Replay: the law of the counters that come once, walked. -/
import Derived.Test.YtjbagkimpmpfgaaR13
namespace Go.Proofs.Ytjbagkimpmpfgaa
open Go Go.Mx
set_option maxRecDepth 100000
set_option maxHeartbeats 4000000

def env9 : Env := fun f => match f with
  | 39 => some c39
  | 50 => some c50
  | 51 => some c51
  | 52 => some c52
  | 53 => some c53
  | _ => none
theorem env9_ok : EnvOk Try.prog env9 := by
  intro f c h
  unfold env9 at h
  split at h
  · simp only [Option.some.injEq] at h; subst h; exact m39
  · simp only [Option.some.injEq] at h; subst h; exact m50
  · simp only [Option.some.injEq] at h; subst h; exact m51
  · simp only [Option.some.injEq] at h; subst h; exact m52
  · simp only [Option.some.injEq] at h; subst h; exact m53
  · cases h
structure St9 (base : Int) (n k : Nat) where
  i : Nat
  L : List Int
  blk : Blk base n k L
  hi : i ≤ k
structure Tk9 (L : List Int) (n k : Nat) where
  i : Nat
  t : Int
  l : List Int
  rel : Rel 18446744073709551615 n t l (L.take i)
  hi : i ≤ k
def c9 : Ctr := fun args objs => match args, objs with
  | [.one (.int .i64 s), .one (.int .u64 base), .one (.sl 0 0 m 1)], [.view 1 [.ints .i64 W m']] => some ⟨[isI s, 0 ≤ base ∧ base ≤ 18446744073709551615, m = m', W.length = m, ∀ x ∈ W, isI x, m ≤ 9223372036854775807], .v (.one (.bool true true)), [], []⟩
  | _, _ => none
theorem m9 : Meets Try.prog 9 c9 := by
  refine meets_of_run2 tab_ok env9_ok mixed [.tmp 6] Try.func9 rfl Try.ntmps9 Try.call9 (fun t w => by simp [results, Try.results9, resS, rv1]) ?_
  intro args objs r hr hcs
  unfold c9 at hr
  split at hr
  · rename_i s base m W m'
    simp only [Option.some.injEq] at hr; subst hr
    obtain ⟨h1, h2, h3, h4, h5, h6, _⟩ := hcs
    refine ⟨rfl, ?_⟩
    conv => whnf
    subst h3
    obtain ⟨p, hp⟩ : ∃ p : Nat, pickI s 60 = (p : Int) := ⟨_, (Int.toNat_of_nonneg (pickI_lo (by omega))).symm⟩
    have hp2 : p < 60 := by have := pickI_hi (c := s) (n := 60) (by omega); omega
    obtain ⟨n, hn⟩ : ∃ n, n = p + 2 := ⟨_, rfl⟩
    have q1 : isum .i64 2 (p : Int) = (n : Int) := by rw [isum, i64_in] <;> omega
    have q2 : clampI (n : Int) = (n : Int) := by unfold clampI; (repeat' split) <;> omega
    rw [hp, q1, q2]
    refine ⟨?_, fun hb => ?_, fun hb => ?_⟩
    · repeat' apply And.intro
      all_goals first
        | exact True.intro
        | exact h1
        | exact ⟨by omega, by omega⟩
        | omega
        | decide +kernel
        | rfl
        | exact Nat.le_of_ble_eq_true rfl
        | (dsimp only; omega)
        | trace_state
    · conv => whnf
      refine ⟨trivial, rfl, [0], [], rfl, ⟨rfl, trivial⟩, ⟨rfl, rfl, rfl, rfl, trivial⟩, trivial⟩
    have hb' : base ≤ 1000000000000 := by simpa using hb
    conv => whnf
    obtain ⟨k, hk⟩ : ∃ k, k = min m 200 := ⟨_, rfl⟩
    obtain ⟨b, b0, bs, bl', bB⟩ : ∃ b : Nat → List Int, b 0 = [] ∧ (∀ i, b (i + 1) = b i ++ [base + i]) ∧ (∀ i, (b i).length = i) ∧ Blk base n k (b k) := ⟨baseL base, rfl, fun _ => rfl, baseL_len base, baseL_blk base n k⟩
    refine ⟨?_, { i : Nat // i ≤ k }, fun i => ⟨(.any :: .v (.one (.int .u64 base)) :: .v (.one (.sl 0 0 m 1)) :: .any :: .any :: .any :: .any :: .any :: .v (.one (.int .i64 n)) :: .v (.one (.ptr 1 0)) :: .v (.one (.sl 3 0 i.1 1)) :: .v (.one (.int .i64 i.1)) :: .any :: .any :: .any :: .any :: .any :: .any :: .any :: .any :: .any :: .any :: .any :: .any :: .any :: .any :: .any :: .any :: .any :: .any :: .any :: .any :: .any :: .any :: .any :: .any :: .any :: .any :: .any :: .any :: .any :: .any :: .any :: .any :: .any :: .any :: .any :: .any :: .any :: .any :: .any :: .any :: .any :: .any :: .any :: .any :: .any :: .any :: .any :: .any :: .any :: .any :: .any :: .any :: .any :: .any :: .any :: .any :: .any :: .any :: .any :: .any :: .any :: .any :: .any :: .any :: .any :: .any :: .any :: .any :: .any :: .any :: .any :: .any :: .any :: .any :: .any :: .any :: .any :: .any :: .any :: .any :: .any :: .any :: .any :: .any :: .any :: .any :: .any :: .any :: .any :: .any :: .any :: .any :: .any :: .any :: .any :: .any :: .any :: .any :: .any :: .any :: .any :: .any :: .any :: .any :: .any :: .any :: .any :: .any :: .any :: .any :: .any :: .any :: .any :: .any :: .any :: .any :: .any :: .any :: .any :: []), [.view 1 [.ints .i64 W m], .own 0 [.c (.int .i64 n), .c (.int .u64 0), .c (.sl 2 0 0 1)], .own 1 [.ints .u64 [] 0], .own 1 [.ints .u64 (b i.1) i.1]]⟩, fun i => 200 - i.1, ⟨0, by omega⟩, ?_, fun _ => rfl, ?_⟩
    · trivial
    · refine ⟨[0, 1, 2, 3], [(1, [.ints .u64 [] 0])], rfl, ?_, ?_⟩
      · repeat' apply And.intro
        all_goals first
          | exact True.intro
          | rfl
          | exact Nat.le_refl _
          | decide +kernel
          | omega
          | trace_state
      · exact ⟨⟨rfl, rfl, rfl, rfl, trivial⟩, ⟨rfl, ⟨rfl, rfl⟩, ⟨rfl, rfl⟩, rfl, trivial⟩, ⟨rfl, rfl, rfl, rfl, trivial⟩, ⟨rfl, rfl, b0.symm, rfl, trivial⟩, trivial⟩
    rintro ⟨i, hi⟩
    have hbl := bl' i
    show run tab env9 1 _ ⟨(.any :: .v (.one (.int .u64 base)) :: .v (.one (.sl 0 0 m 1)) :: .any :: .any :: .any :: .any :: .any :: .v (.one (.int .i64 n)) :: .v (.one (.ptr 1 0)) :: .v (.one (.sl 3 0 i 1)) :: .v (.one (.int .i64 i)) :: .any :: .any :: .any :: .any :: .any :: .any :: .any :: .any :: .any :: .any :: .any :: .any :: .any :: .any :: .any :: .any :: .any :: .any :: .any :: .any :: .any :: .any :: .any :: .any :: .any :: .any :: .any :: .any :: .any :: .any :: .any :: .any :: .any :: .any :: .any :: .any :: .any :: .any :: .any :: .any :: .any :: .any :: .any :: .any :: .any :: .any :: .any :: .any :: .any :: .any :: .any :: .any :: .any :: .any :: .any :: .any :: .any :: .any :: .any :: .any :: .any :: .any :: .any :: .any :: .any :: .any :: .any :: .any :: .any :: .any :: .any :: .any :: .any :: .any :: .any :: .any :: .any :: .any :: .any :: .any :: .any :: .any :: .any :: .any :: .any :: .any :: .any :: .any :: .any :: .any :: .any :: .any :: .any :: .any :: .any :: .any :: .any :: .any :: .any :: .any :: .any :: .any :: .any :: .any :: .any :: .any :: .any :: .any :: .any :: .any :: .any :: .any :: .any :: .any :: .any :: .any :: .any :: .any :: .any :: []), [.view 1 [.ints .i64 W m], .own 0 [.c (.int .i64 n), .c (.int .u64 0), .c (.sl 2 0 0 1)], .own 1 [.ints .u64 [] 0], .own 1 [.ints .u64 (b i) i]]⟩ _ _
    refine run_K (P := fun K => run tab env9 1 _ ⟨_, _⟩ True K) ?_
    intro K hK
    conv => whnf
    refine ⟨trivial, fun hlt => ?_, fun hlt => ?_⟩
    · have hlt' : i < m := by simp at hlt; omega
      conv => whnf
      refine ⟨trivial, fun hlt2 => ?_, fun hlt2 => ?_⟩
      · have hlt2' : i < 200 := by simp at hlt2; omega
        have e1 : isum .i64 (i : Int) 1 = ((i + 1 : Nat) : Int) := by rw [isum, i64_in] <;> omega
        have e2 : conv .u64 (i : Int) = (i : Int) := by rw [conv, IntWalk.u64_in]; omega
        have e3 : isum .u64 base (i : Int) = base + i := by rw [isum, IntWalk.u64_in]; omega
        conv => whnf
        rw [e1, e2, e3]
        subst hK
        change _ ∧ _
        refine ⟨?_, ⟨i + 1, by omega⟩, by show 200 - (i + 1) < 200 - i; omega, [0, 1, 2, 5], [], rfl, ?_, ?_⟩
        · repeat' apply And.intro
          all_goals first
            | exact True.intro
            | (show i + 1 ≤ 9223372036854775807; omega)
            | (show (i + 1) * 8 ≤ 140737488355328; omega)
            | (show i * 1 = i + 0; omega)
            | omega
            | decide +kernel
            | rfl
            | exact Nat.le_of_ble_eq_true rfl
            | (dsimp only; omega)
            | trace_state
        · repeat' apply And.intro
          all_goals first
            | exact True.intro
            | rfl
            | exact Nat.le_refl _
            | decide +kernel
            | omega
            | trace_state
        · refine ⟨⟨rfl, rfl, rfl, rfl, trivial⟩, ⟨rfl, ⟨rfl, rfl⟩, ⟨rfl, rfl⟩, rfl, trivial⟩, ⟨rfl, rfl, rfl, rfl, trivial⟩, ⟨rfl, rfl, ?_, rfl, trivial⟩, trivial⟩
          exact (bs i).symm
      · have hik : i = k := by simp at hlt2; omega
        have hki := hik.symm
        subst hki
        conv => whnf
        subst hK
        conv => whnf
        refine ⟨?_, St9 base n k, fun q => ⟨(.any :: .any :: .v (.one (.sl 0 0 m 1)) :: .any :: .any :: .any :: .any :: .any :: .v (.one (.int .i64 n)) :: .v (.one (.ptr 1 0)) :: .v (.one (.sl 3 0 k 1)) :: .any :: .v (.one (.int .i64 q.i)) :: .any :: .any :: .any :: .any :: .any :: .any :: .any :: .any :: .any :: .any :: .any :: .any :: .any :: .any :: .any :: .any :: .any :: .any :: .any :: .any :: .any :: .any :: .any :: .any :: .any :: .any :: .any :: .any :: .any :: .any :: .any :: .any :: .any :: .any :: .any :: .any :: .any :: .any :: .any :: .any :: .any :: .any :: .any :: .any :: .any :: .any :: .any :: .any :: .any :: .any :: .any :: .any :: .any :: .any :: .any :: .any :: .any :: .any :: .any :: .any :: .any :: .any :: .any :: .any :: .any :: .any :: .any :: .any :: .any :: .any :: .any :: .any :: .any :: .any :: .any :: .any :: .any :: .any :: .any :: .any :: .any :: .any :: .any :: .any :: .any :: .any :: .any :: .any :: .any :: .any :: .any :: .any :: .any :: .any :: .any :: .any :: .any :: .any :: .any :: .any :: .any :: .any :: .any :: .any :: .any :: .any :: .any :: .any :: .any :: .any :: .any :: .any :: .any :: .any :: .any :: .any :: .any :: .any :: []), [.view 1 [.ints .i64 W m], .own 0 [.c (.int .i64 n), .c (.int .u64 0), .c (.sl 2 0 0 1)], .own 1 [.ints .u64 [] 0], .own 1 [.ints .u64 q.L k]]⟩, fun q => k - q.i, ⟨0, b k, bB, by omega⟩, ?_, fun _ => rfl, ?_⟩
        · trivial
        · refine ⟨[0, 1, 2, 3], [], rfl, ?_, ?_⟩
          · repeat' apply And.intro
            all_goals first
              | exact True.intro
              | rfl
              | exact Nat.le_refl _
              | decide +kernel
              | omega
              | trace_state
          · exact ⟨⟨rfl, rfl, rfl, rfl, trivial⟩, ⟨rfl, ⟨rfl, rfl⟩, ⟨rfl, rfl⟩, rfl, trivial⟩, ⟨rfl, rfl, rfl, rfl, trivial⟩, ⟨rfl, rfl, rfl, rfl, trivial⟩, trivial⟩
        rintro ⟨i, L, B, hi2⟩
        show run tab env9 1 _ ⟨(.any :: .any :: .v (.one (.sl 0 0 m 1)) :: .any :: .any :: .any :: .any :: .any :: .v (.one (.int .i64 n)) :: .v (.one (.ptr 1 0)) :: .v (.one (.sl 3 0 k 1)) :: .any :: .v (.one (.int .i64 i)) :: .any :: .any :: .any :: .any :: .any :: .any :: .any :: .any :: .any :: .any :: .any :: .any :: .any :: .any :: .any :: .any :: .any :: .any :: .any :: .any :: .any :: .any :: .any :: .any :: .any :: .any :: .any :: .any :: .any :: .any :: .any :: .any :: .any :: .any :: .any :: .any :: .any :: .any :: .any :: .any :: .any :: .any :: .any :: .any :: .any :: .any :: .any :: .any :: .any :: .any :: .any :: .any :: .any :: .any :: .any :: .any :: .any :: .any :: .any :: .any :: .any :: .any :: .any :: .any :: .any :: .any :: .any :: .any :: .any :: .any :: .any :: .any :: .any :: .any :: .any :: .any :: .any :: .any :: .any :: .any :: .any :: .any :: .any :: .any :: .any :: .any :: .any :: .any :: .any :: .any :: .any :: .any :: .any :: .any :: .any :: .any :: .any :: .any :: .any :: .any :: .any :: .any :: .any :: .any :: .any :: .any :: .any :: .any :: .any :: .any :: .any :: .any :: .any :: .any :: .any :: .any :: .any :: .any :: []), [.view 1 [.ints .i64 W m], .own 0 [.c (.int .i64 n), .c (.int .u64 0), .c (.sl 2 0 0 1)], .own 1 [.ints .u64 [] 0], .own 1 [.ints .u64 L k]]⟩ _ _
        refine run_K (P := fun K => run tab env9 1 _ ⟨_, _⟩ True K) ?_
        intro K hK
        conv => whnf
        refine ⟨trivial, fun hlt => ?_, fun hlt => ?_⟩
        · have hlt' : i < k := by simp at hlt; omega
          have hn0 : 0 < n := by omega
          obtain ⟨y, hy⟩ : ∃ y, y = W.getD i 0 := ⟨_, rfl⟩
          have hyI : isI y := by rw [hy]; exact h5 _ (getD_mem' (by omega))
          obtain ⟨u, hu⟩ : ∃ u : Nat, pickI y (n : Int) = (u : Int) := ⟨_, (Int.toNat_of_nonneg (pickI_lo (by omega))).symm⟩
          have hu2 : u < n := by have := pickI_hi (c := y) (n := (n : Int)) (by omega); omega
          have d1 := Nat.div_le_self i n
          have d2 := Nat.div_mul_le_self i n
          have e1 : iquo .i64 (i : Int) (n : Int) = ((i / n : Nat) : Int) := by
            have d3 : ((i : Int) / (n : Int)) = ((i / n : Nat) : Int) := (Int.natCast_ediv i n).symm
            obtain ⟨v, hv⟩ : ∃ v, v = i / n := ⟨_, rfl⟩
            rw [← hv] at d1 d3 ⊢
            rw [iquo, Int.tdiv_eq_ediv_of_nonneg (by omega), d3, i64_in]; omega
          have e2 : imul .i64 ((i / n : Nat) : Int) (n : Int) = ((i / n * n : Nat) : Int) := by
            have d3 : ((i / n : Nat) : Int) * (n : Int) = ((i / n * n : Nat) : Int) := (Int.natCast_mul _ _).symm
            obtain ⟨v, hv⟩ : ∃ v, v = i / n * n := ⟨_, rfl⟩
            rw [← hv] at d2 d3 ⊢
            rw [imul, d3, i64_in]; omega
          obtain ⟨g, hg⟩ : ∃ g, g = i / n * n + u := ⟨_, rfl⟩
          have e3 : isum .i64 ((i / n * n : Nat) : Int) (u : Int) = (g : Int) := by rw [isum, i64_in] <;> omega
          have e4 : isum .i64 (i : Int) 1 = ((i + 1 : Nat) : Int) := by rw [isum, i64_in] <;> omega
          have hb : i / n = g / n := by
            rw [hg, Nat.add_comm, Nat.add_mul_div_right _ _ hn0, Nat.div_eq_of_lt hu2, Nat.zero_add]
          conv => whnf
          simp only [Int.toNat_natCast, Nat.zero_add]
          rw [← hy, e1, e2, hu, e3]
          refine ⟨?_, fun hgk => ?_, fun hgk => ?_⟩
          · repeat' apply And.intro
            all_goals first
              | exact True.intro
              | exact hyI
              | omega
              | decide +kernel
              | rfl
              | exact Nat.le_of_ble_eq_true rfl
              | (dsimp only; omega)
              | trace_state
          · have hgk' : g < k := by simp at hgk; omega
            conv => whnf
            rw [e4]
            subst hK
            change _ ∧ _
            refine ⟨?_, ⟨i + 1, swapL L i g, swap_blk B hlt' hgk' hb, by omega⟩, by show k - (i + 1) < k - i; omega, [0, 1, 2, 3], [], rfl, ?_, ?_⟩
            · repeat' apply And.intro
              all_goals first
                | exact True.intro
                | (rw [Int.toNat_natCast]; omega)
                | omega
                | decide +kernel
                | rfl
                | exact Nat.le_of_ble_eq_true rfl
                | (dsimp only; omega)
                | trace_state
            · repeat' apply And.intro
              all_goals first
                | exact True.intro
                | rfl
                | exact Nat.le_refl _
                | decide +kernel
                | omega
                | trace_state
            · refine ⟨⟨rfl, rfl, rfl, rfl, trivial⟩, ⟨rfl, ⟨rfl, rfl⟩, ⟨rfl, rfl⟩, rfl, trivial⟩, ⟨rfl, rfl, rfl, rfl, trivial⟩, ⟨rfl, rfl, ?_, rfl, trivial⟩, trivial⟩
              simp only [Int.toNat_natCast, Nat.zero_add]
              rfl
          · conv => whnf
            rw [e4]
            subst hK
            change _ ∧ _
            refine ⟨trivial, ⟨i + 1, L, B, by omega⟩, by show k - (i + 1) < k - i; omega, [0, 1, 2, 3], [], rfl, ?_, ?_⟩
            · repeat' apply And.intro
              all_goals first
                | exact True.intro
                | rfl
                | exact Nat.le_refl _
                | decide +kernel
                | omega
                | trace_state
            · exact ⟨⟨rfl, rfl, rfl, rfl, trivial⟩, ⟨rfl, ⟨rfl, rfl⟩, ⟨rfl, rfl⟩, rfl, trivial⟩, ⟨rfl, rfl, rfl, rfl, trivial⟩, ⟨rfl, rfl, rfl, rfl, trivial⟩, trivial⟩
        · conv => whnf
          subst hK
          conv => whnf
          refine ⟨?_, Tk9 L n k, fun q => ⟨(.any :: .any :: .any :: .any :: .any :: .any :: .any :: .any :: .any :: .v (.one (.ptr 1 0)) :: .v (.one (.sl 3 0 k 1)) :: .any :: .any :: .any :: .any :: .any :: .v (.one (.int .i64 q.i)) :: .any :: .any :: .any :: .any :: .any :: .any :: .any :: .any :: .any :: .any :: .any :: .any :: .any :: .any :: .any :: .any :: .any :: .any :: .any :: .any :: .any :: .any :: .any :: .any :: .any :: .any :: .any :: .any :: .any :: .any :: .any :: .any :: .any :: .any :: .any :: .any :: .any :: .any :: .any :: .any :: .any :: .any :: .any :: .any :: .any :: .any :: .any :: .any :: .any :: .any :: .any :: .any :: .any :: .any :: .any :: .any :: .any :: .any :: .any :: .any :: .any :: .any :: .any :: .any :: .any :: .any :: .any :: .any :: .any :: .any :: .any :: .any :: .any :: .any :: .any :: .any :: .any :: .any :: .any :: .any :: .any :: .any :: .any :: .any :: .any :: .any :: .any :: .any :: .any :: .any :: .any :: .any :: .any :: .any :: .any :: .any :: .any :: .any :: .any :: .any :: .any :: .any :: .any :: .any :: .any :: .any :: .any :: .any :: .any :: .any :: .any :: .any :: .any :: .any :: []), [.view 1 [.ints .i64 W m], .own 0 [.c (.int .i64 n), .c (.int .u64 q.t), .c (.sl 2 0 q.l.length 1)], .own 1 [.ints .u64 q.l q.l.length], .own 1 [.ints .u64 L k]]⟩, fun q => k - q.i, ⟨0, 0, [], Rel.start _ _, by omega⟩, ?_, fun _ => rfl, ?_⟩
          · trivial
          · refine ⟨[0, 1, 2, 3], [], rfl, ?_, ?_⟩
            · repeat' apply And.intro
              all_goals first
                | exact True.intro
                | rfl
                | exact Nat.le_refl _
                | decide +kernel
                | omega
                | trace_state
            · exact ⟨⟨rfl, rfl, rfl, rfl, trivial⟩, ⟨rfl, ⟨rfl, rfl⟩, ⟨rfl, rfl⟩, rfl, trivial⟩, ⟨rfl, rfl, rfl, rfl, trivial⟩, ⟨rfl, rfl, rfl, rfl, trivial⟩, trivial⟩
          clear hlt hi2
          rintro ⟨i, t, l, R, hi2⟩
          have hz1 : 1 ≤ (n : Int) ∧ (n : Int) ≤ 8192 := by omega
          have hls := R.small hz1
          have ht : 0 ≤ t ∧ t ≤ 18446744073709551615 := ⟨R.t0, R.tM (by decide)⟩
          show run tab env9 1 _ ⟨(.any :: .any :: .any :: .any :: .any :: .any :: .any :: .any :: .any :: .v (.one (.ptr 1 0)) :: .v (.one (.sl 3 0 k 1)) :: .any :: .any :: .any :: .any :: .any :: .v (.one (.int .i64 i)) :: .any :: .any :: .any :: .any :: .any :: .any :: .any :: .any :: .any :: .any :: .any :: .any :: .any :: .any :: .any :: .any :: .any :: .any :: .any :: .any :: .any :: .any :: .any :: .any :: .any :: .any :: .any :: .any :: .any :: .any :: .any :: .any :: .any :: .any :: .any :: .any :: .any :: .any :: .any :: .any :: .any :: .any :: .any :: .any :: .any :: .any :: .any :: .any :: .any :: .any :: .any :: .any :: .any :: .any :: .any :: .any :: .any :: .any :: .any :: .any :: .any :: .any :: .any :: .any :: .any :: .any :: .any :: .any :: .any :: .any :: .any :: .any :: .any :: .any :: .any :: .any :: .any :: .any :: .any :: .any :: .any :: .any :: .any :: .any :: .any :: .any :: .any :: .any :: .any :: .any :: .any :: .any :: .any :: .any :: .any :: .any :: .any :: .any :: .any :: .any :: .any :: .any :: .any :: .any :: .any :: .any :: .any :: .any :: .any :: .any :: .any :: .any :: .any :: .any :: []), [.view 1 [.ints .i64 W m], .own 0 [.c (.int .i64 n), .c (.int .u64 t), .c (.sl 2 0 l.length 1)], .own 1 [.ints .u64 l l.length], .own 1 [.ints .u64 L k]]⟩ _ _
          refine run_K (P := fun K => run tab env9 1 _ ⟨_, _⟩ True K) ?_
          intro K hK
          conv => whnf
          refine ⟨trivial, fun hlt => ?_, fun hlt => ?_⟩
          · have hlt' : i < k := by simp at hlt; omega
            obtain ⟨x, hx⟩ : ∃ x, x = L.getD i 0 := ⟨_, rfl⟩
            have hxl := B.lo i hlt'
            have hx0 : 0 ≤ x ∧ x ≤ 18446744073709551615 := by rw [hx]; omega
            have ff := blk_fresh B (by omega) (M := 18446744073709551615) (by omega) hlt'
            rw [← hx] at ff
            have f1 : freshW 18446744073709551615 n t l x = true := by rw [fresh_eq R hz1.1 hx0.1]; exact ff
            have S := take_rel R hz1 hx0.1 hx0.2 ff
            obtain ⟨t1, ht1⟩ : ∃ t1, t1 = takeT 18446744073709551615 n t l x := ⟨_, rfl⟩
            obtain ⟨l1, hl1⟩ : ∃ l1, l1 = takeL 18446744073709551615 n t l x := ⟨_, rfl⟩
            rw [← ht1, ← hl1] at S
            have hls1 := S.small hz1
            have htt : 0 ≤ t1 ∧ t1 ≤ 18446744073709551615 := ⟨S.t0, S.tM (by decide)⟩
            have f2 : freshW 18446744073709551615 n t1 l1 x = false := by rw [fresh_eq S hz1.1 hx0.1]; exact twice_fresh (by simp)
            have eL : takeL 18446744073709551615 n t1 l1 x = l1 := by unfold takeL; rw [if_neg (by rw [f2]; decide)]
            have eT : takeT 18446744073709551615 n t1 l1 x = t1 := by unfold takeT; rw [if_neg (by rw [f2]; simp)]
            have e4 : isum .i64 (i : Int) 1 = ((i + 1 : Nat) : Int) := by rw [isum, i64_in] <;> omega
            conv => whnf
            simp only [Int.toNat_natCast, Nat.zero_add]
            rw [← hx, f1]
            refine ⟨?_, fun h => ?_, fun _ => ?_⟩
            · repeat' apply And.intro
              all_goals first
                | exact True.intro
                | exact R.U
                | exact ht
                | exact hx0
                | omega
                | decide +kernel
                | rfl
                | exact Nat.le_of_ble_eq_true rfl
                | (dsimp only; omega)
                | trace_state
            · simp at h
            conv => whnf
            simp only [Int.toNat_natCast, Nat.zero_add]
            rw [← hx, f1, ← ht1, ← hl1]
            refine ⟨?_, fun h => ?_, fun _ => ?_⟩
            · repeat' apply And.intro
              all_goals first
                | exact True.intro
                | exact R.U
                | exact ht
                | exact hx0
                | exact R.tnil
                | omega
                | decide +kernel
                | rfl
                | exact Nat.le_of_ble_eq_true rfl
                | (dsimp only; omega)
                | trace_state
            · simp at h
            conv => whnf
            simp only [Int.toNat_natCast, Nat.zero_add]
            rw [← hx, f2, eL, eT]
            refine ⟨?_, fun h => ?_, fun _ => ?_⟩
            · repeat' apply And.intro
              all_goals first
                | exact True.intro
                | exact S.U
                | exact htt
                | exact hx0
                | exact S.tnil
                | omega
                | decide +kernel
                | rfl
                | exact Nat.le_of_ble_eq_true rfl
                | (dsimp only; omega)
                | trace_state
            · simp at h
            conv => whnf
            simp only [Int.toNat_natCast, Nat.zero_add]
            rw [← hx, f2]
            refine ⟨?_, fun h => ?_, fun _ => ?_⟩
            · repeat' apply And.intro
              all_goals first
                | exact True.intro
                | exact S.U
                | exact htt
                | exact hx0
                | omega
                | decide +kernel
                | rfl
                | exact Nat.le_of_ble_eq_true rfl
                | (dsimp only; omega)
                | trace_state
            · simp at h
            conv => whnf
            rw [e4]
            subst hK
            change _ ∧ _
            refine ⟨trivial, ⟨i + 1, t1, l1, by rw [take_snoc (by rw [B.len]; exact hlt'), ← hx]; exact S, by omega⟩, by show k - (i + 1) < k - i; omega, [0, 1, 5, 3], [], rfl, ?_, ?_⟩
            · repeat' apply And.intro
              all_goals first
                | exact True.intro
                | rfl
                | exact Nat.le_refl _
                | decide +kernel
                | omega
                | trace_state
            · exact ⟨⟨rfl, rfl, rfl, rfl, trivial⟩, ⟨rfl, ⟨rfl, rfl⟩, ⟨rfl, rfl⟩, rfl, trivial⟩, ⟨rfl, rfl, rfl, rfl, trivial⟩, ⟨rfl, rfl, rfl, rfl, trivial⟩, trivial⟩
          · conv => whnf
            subst hK
            conv => whnf
            refine ⟨trivial, rfl, [0], [], rfl, ⟨rfl, trivial⟩, ⟨rfl, rfl, rfl, rfl, trivial⟩, trivial⟩
    · have hik : i = k := by simp at hlt; omega
      have hki := hik.symm
      subst hki
      conv => whnf
      subst hK
      conv => whnf
      refine ⟨?_, St9 base n k, fun q => ⟨(.any :: .any :: .v (.one (.sl 0 0 m 1)) :: .any :: .any :: .any :: .any :: .any :: .v (.one (.int .i64 n)) :: .v (.one (.ptr 1 0)) :: .v (.one (.sl 3 0 k 1)) :: .any :: .v (.one (.int .i64 q.i)) :: .any :: .any :: .any :: .any :: .any :: .any :: .any :: .any :: .any :: .any :: .any :: .any :: .any :: .any :: .any :: .any :: .any :: .any :: .any :: .any :: .any :: .any :: .any :: .any :: .any :: .any :: .any :: .any :: .any :: .any :: .any :: .any :: .any :: .any :: .any :: .any :: .any :: .any :: .any :: .any :: .any :: .any :: .any :: .any :: .any :: .any :: .any :: .any :: .any :: .any :: .any :: .any :: .any :: .any :: .any :: .any :: .any :: .any :: .any :: .any :: .any :: .any :: .any :: .any :: .any :: .any :: .any :: .any :: .any :: .any :: .any :: .any :: .any :: .any :: .any :: .any :: .any :: .any :: .any :: .any :: .any :: .any :: .any :: .any :: .any :: .any :: .any :: .any :: .any :: .any :: .any :: .any :: .any :: .any :: .any :: .any :: .any :: .any :: .any :: .any :: .any :: .any :: .any :: .any :: .any :: .any :: .any :: .any :: .any :: .any :: .any :: .any :: .any :: .any :: .any :: .any :: .any :: .any :: []), [.view 1 [.ints .i64 W m], .own 0 [.c (.int .i64 n), .c (.int .u64 0), .c (.sl 2 0 0 1)], .own 1 [.ints .u64 [] 0], .own 1 [.ints .u64 q.L k]]⟩, fun q => k - q.i, ⟨0, b k, bB, by omega⟩, ?_, fun _ => rfl, ?_⟩
      · trivial
      · refine ⟨[0, 1, 2, 3], [], rfl, ?_, ?_⟩
        · repeat' apply And.intro
          all_goals first
            | exact True.intro
            | rfl
            | exact Nat.le_refl _
            | decide +kernel
            | omega
            | trace_state
        · exact ⟨⟨rfl, rfl, rfl, rfl, trivial⟩, ⟨rfl, ⟨rfl, rfl⟩, ⟨rfl, rfl⟩, rfl, trivial⟩, ⟨rfl, rfl, rfl, rfl, trivial⟩, ⟨rfl, rfl, rfl, rfl, trivial⟩, trivial⟩
      rintro ⟨i, L, B, hi2⟩
      show run tab env9 1 _ ⟨(.any :: .any :: .v (.one (.sl 0 0 m 1)) :: .any :: .any :: .any :: .any :: .any :: .v (.one (.int .i64 n)) :: .v (.one (.ptr 1 0)) :: .v (.one (.sl 3 0 k 1)) :: .any :: .v (.one (.int .i64 i)) :: .any :: .any :: .any :: .any :: .any :: .any :: .any :: .any :: .any :: .any :: .any :: .any :: .any :: .any :: .any :: .any :: .any :: .any :: .any :: .any :: .any :: .any :: .any :: .any :: .any :: .any :: .any :: .any :: .any :: .any :: .any :: .any :: .any :: .any :: .any :: .any :: .any :: .any :: .any :: .any :: .any :: .any :: .any :: .any :: .any :: .any :: .any :: .any :: .any :: .any :: .any :: .any :: .any :: .any :: .any :: .any :: .any :: .any :: .any :: .any :: .any :: .any :: .any :: .any :: .any :: .any :: .any :: .any :: .any :: .any :: .any :: .any :: .any :: .any :: .any :: .any :: .any :: .any :: .any :: .any :: .any :: .any :: .any :: .any :: .any :: .any :: .any :: .any :: .any :: .any :: .any :: .any :: .any :: .any :: .any :: .any :: .any :: .any :: .any :: .any :: .any :: .any :: .any :: .any :: .any :: .any :: .any :: .any :: .any :: .any :: .any :: .any :: .any :: .any :: .any :: .any :: .any :: .any :: []), [.view 1 [.ints .i64 W m], .own 0 [.c (.int .i64 n), .c (.int .u64 0), .c (.sl 2 0 0 1)], .own 1 [.ints .u64 [] 0], .own 1 [.ints .u64 L k]]⟩ _ _
      refine run_K (P := fun K => run tab env9 1 _ ⟨_, _⟩ True K) ?_
      intro K hK
      conv => whnf
      refine ⟨trivial, fun hlt => ?_, fun hlt => ?_⟩
      · have hlt' : i < k := by simp at hlt; omega
        have hn0 : 0 < n := by omega
        obtain ⟨y, hy⟩ : ∃ y, y = W.getD i 0 := ⟨_, rfl⟩
        have hyI : isI y := by rw [hy]; exact h5 _ (getD_mem' (by omega))
        obtain ⟨u, hu⟩ : ∃ u : Nat, pickI y (n : Int) = (u : Int) := ⟨_, (Int.toNat_of_nonneg (pickI_lo (by omega))).symm⟩
        have hu2 : u < n := by have := pickI_hi (c := y) (n := (n : Int)) (by omega); omega
        have d1 := Nat.div_le_self i n
        have d2 := Nat.div_mul_le_self i n
        have e1 : iquo .i64 (i : Int) (n : Int) = ((i / n : Nat) : Int) := by
          have d3 : ((i : Int) / (n : Int)) = ((i / n : Nat) : Int) := (Int.natCast_ediv i n).symm
          obtain ⟨v, hv⟩ : ∃ v, v = i / n := ⟨_, rfl⟩
          rw [← hv] at d1 d3 ⊢
          rw [iquo, Int.tdiv_eq_ediv_of_nonneg (by omega), d3, i64_in]; omega
        have e2 : imul .i64 ((i / n : Nat) : Int) (n : Int) = ((i / n * n : Nat) : Int) := by
          have d3 : ((i / n : Nat) : Int) * (n : Int) = ((i / n * n : Nat) : Int) := (Int.natCast_mul _ _).symm
          obtain ⟨v, hv⟩ : ∃ v, v = i / n * n := ⟨_, rfl⟩
          rw [← hv] at d2 d3 ⊢
          rw [imul, d3, i64_in]; omega
        obtain ⟨g, hg⟩ : ∃ g, g = i / n * n + u := ⟨_, rfl⟩
        have e3 : isum .i64 ((i / n * n : Nat) : Int) (u : Int) = (g : Int) := by rw [isum, i64_in] <;> omega
        have e4 : isum .i64 (i : Int) 1 = ((i + 1 : Nat) : Int) := by rw [isum, i64_in] <;> omega
        have hb : i / n = g / n := by
          rw [hg, Nat.add_comm, Nat.add_mul_div_right _ _ hn0, Nat.div_eq_of_lt hu2, Nat.zero_add]
        conv => whnf
        simp only [Int.toNat_natCast, Nat.zero_add]
        rw [← hy, e1, e2, hu, e3]
        refine ⟨?_, fun hgk => ?_, fun hgk => ?_⟩
        · repeat' apply And.intro
          all_goals first
            | exact True.intro
            | exact hyI
            | omega
            | decide +kernel
            | rfl
            | exact Nat.le_of_ble_eq_true rfl
            | (dsimp only; omega)
            | trace_state
        · have hgk' : g < k := by simp at hgk; omega
          conv => whnf
          rw [e4]
          subst hK
          change _ ∧ _
          refine ⟨?_, ⟨i + 1, swapL L i g, swap_blk B hlt' hgk' hb, by omega⟩, by show k - (i + 1) < k - i; omega, [0, 1, 2, 3], [], rfl, ?_, ?_⟩
          · repeat' apply And.intro
            all_goals first
              | exact True.intro
              | (rw [Int.toNat_natCast]; omega)
              | omega
              | decide +kernel
              | rfl
              | exact Nat.le_of_ble_eq_true rfl
              | (dsimp only; omega)
              | trace_state
          · repeat' apply And.intro
            all_goals first
              | exact True.intro
              | rfl
              | exact Nat.le_refl _
              | decide +kernel
              | omega
              | trace_state
          · refine ⟨⟨rfl, rfl, rfl, rfl, trivial⟩, ⟨rfl, ⟨rfl, rfl⟩, ⟨rfl, rfl⟩, rfl, trivial⟩, ⟨rfl, rfl, rfl, rfl, trivial⟩, ⟨rfl, rfl, ?_, rfl, trivial⟩, trivial⟩
            simp only [Int.toNat_natCast, Nat.zero_add]
            rfl
        · conv => whnf
          rw [e4]
          subst hK
          change _ ∧ _
          refine ⟨trivial, ⟨i + 1, L, B, by omega⟩, by show k - (i + 1) < k - i; omega, [0, 1, 2, 3], [], rfl, ?_, ?_⟩
          · repeat' apply And.intro
            all_goals first
              | exact True.intro
              | rfl
              | exact Nat.le_refl _
              | decide +kernel
              | omega
              | trace_state
          · exact ⟨⟨rfl, rfl, rfl, rfl, trivial⟩, ⟨rfl, ⟨rfl, rfl⟩, ⟨rfl, rfl⟩, rfl, trivial⟩, ⟨rfl, rfl, rfl, rfl, trivial⟩, ⟨rfl, rfl, rfl, rfl, trivial⟩, trivial⟩
      · conv => whnf
        subst hK
        conv => whnf
        refine ⟨?_, Tk9 L n k, fun q => ⟨(.any :: .any :: .any :: .any :: .any :: .any :: .any :: .any :: .any :: .v (.one (.ptr 1 0)) :: .v (.one (.sl 3 0 k 1)) :: .any :: .any :: .any :: .any :: .any :: .v (.one (.int .i64 q.i)) :: .any :: .any :: .any :: .any :: .any :: .any :: .any :: .any :: .any :: .any :: .any :: .any :: .any :: .any :: .any :: .any :: .any :: .any :: .any :: .any :: .any :: .any :: .any :: .any :: .any :: .any :: .any :: .any :: .any :: .any :: .any :: .any :: .any :: .any :: .any :: .any :: .any :: .any :: .any :: .any :: .any :: .any :: .any :: .any :: .any :: .any :: .any :: .any :: .any :: .any :: .any :: .any :: .any :: .any :: .any :: .any :: .any :: .any :: .any :: .any :: .any :: .any :: .any :: .any :: .any :: .any :: .any :: .any :: .any :: .any :: .any :: .any :: .any :: .any :: .any :: .any :: .any :: .any :: .any :: .any :: .any :: .any :: .any :: .any :: .any :: .any :: .any :: .any :: .any :: .any :: .any :: .any :: .any :: .any :: .any :: .any :: .any :: .any :: .any :: .any :: .any :: .any :: .any :: .any :: .any :: .any :: .any :: .any :: .any :: .any :: .any :: .any :: .any :: .any :: []), [.view 1 [.ints .i64 W m], .own 0 [.c (.int .i64 n), .c (.int .u64 q.t), .c (.sl 2 0 q.l.length 1)], .own 1 [.ints .u64 q.l q.l.length], .own 1 [.ints .u64 L k]]⟩, fun q => k - q.i, ⟨0, 0, [], Rel.start _ _, by omega⟩, ?_, fun _ => rfl, ?_⟩
        · trivial
        · refine ⟨[0, 1, 2, 3], [], rfl, ?_, ?_⟩
          · repeat' apply And.intro
            all_goals first
              | exact True.intro
              | rfl
              | exact Nat.le_refl _
              | decide +kernel
              | omega
              | trace_state
          · exact ⟨⟨rfl, rfl, rfl, rfl, trivial⟩, ⟨rfl, ⟨rfl, rfl⟩, ⟨rfl, rfl⟩, rfl, trivial⟩, ⟨rfl, rfl, rfl, rfl, trivial⟩, ⟨rfl, rfl, rfl, rfl, trivial⟩, trivial⟩
        clear hlt hi2
        rintro ⟨i, t, l, R, hi2⟩
        have hz1 : 1 ≤ (n : Int) ∧ (n : Int) ≤ 8192 := by omega
        have hls := R.small hz1
        have ht : 0 ≤ t ∧ t ≤ 18446744073709551615 := ⟨R.t0, R.tM (by decide)⟩
        show run tab env9 1 _ ⟨(.any :: .any :: .any :: .any :: .any :: .any :: .any :: .any :: .any :: .v (.one (.ptr 1 0)) :: .v (.one (.sl 3 0 k 1)) :: .any :: .any :: .any :: .any :: .any :: .v (.one (.int .i64 i)) :: .any :: .any :: .any :: .any :: .any :: .any :: .any :: .any :: .any :: .any :: .any :: .any :: .any :: .any :: .any :: .any :: .any :: .any :: .any :: .any :: .any :: .any :: .any :: .any :: .any :: .any :: .any :: .any :: .any :: .any :: .any :: .any :: .any :: .any :: .any :: .any :: .any :: .any :: .any :: .any :: .any :: .any :: .any :: .any :: .any :: .any :: .any :: .any :: .any :: .any :: .any :: .any :: .any :: .any :: .any :: .any :: .any :: .any :: .any :: .any :: .any :: .any :: .any :: .any :: .any :: .any :: .any :: .any :: .any :: .any :: .any :: .any :: .any :: .any :: .any :: .any :: .any :: .any :: .any :: .any :: .any :: .any :: .any :: .any :: .any :: .any :: .any :: .any :: .any :: .any :: .any :: .any :: .any :: .any :: .any :: .any :: .any :: .any :: .any :: .any :: .any :: .any :: .any :: .any :: .any :: .any :: .any :: .any :: .any :: .any :: .any :: .any :: .any :: .any :: []), [.view 1 [.ints .i64 W m], .own 0 [.c (.int .i64 n), .c (.int .u64 t), .c (.sl 2 0 l.length 1)], .own 1 [.ints .u64 l l.length], .own 1 [.ints .u64 L k]]⟩ _ _
        refine run_K (P := fun K => run tab env9 1 _ ⟨_, _⟩ True K) ?_
        intro K hK
        conv => whnf
        refine ⟨trivial, fun hlt => ?_, fun hlt => ?_⟩
        · have hlt' : i < k := by simp at hlt; omega
          obtain ⟨x, hx⟩ : ∃ x, x = L.getD i 0 := ⟨_, rfl⟩
          have hxl := B.lo i hlt'
          have hx0 : 0 ≤ x ∧ x ≤ 18446744073709551615 := by rw [hx]; omega
          have ff := blk_fresh B (by omega) (M := 18446744073709551615) (by omega) hlt'
          rw [← hx] at ff
          have f1 : freshW 18446744073709551615 n t l x = true := by rw [fresh_eq R hz1.1 hx0.1]; exact ff
          have S := take_rel R hz1 hx0.1 hx0.2 ff
          obtain ⟨t1, ht1⟩ : ∃ t1, t1 = takeT 18446744073709551615 n t l x := ⟨_, rfl⟩
          obtain ⟨l1, hl1⟩ : ∃ l1, l1 = takeL 18446744073709551615 n t l x := ⟨_, rfl⟩
          rw [← ht1, ← hl1] at S
          have hls1 := S.small hz1
          have htt : 0 ≤ t1 ∧ t1 ≤ 18446744073709551615 := ⟨S.t0, S.tM (by decide)⟩
          have f2 : freshW 18446744073709551615 n t1 l1 x = false := by rw [fresh_eq S hz1.1 hx0.1]; exact twice_fresh (by simp)
          have eL : takeL 18446744073709551615 n t1 l1 x = l1 := by unfold takeL; rw [if_neg (by rw [f2]; decide)]
          have eT : takeT 18446744073709551615 n t1 l1 x = t1 := by unfold takeT; rw [if_neg (by rw [f2]; simp)]
          have e4 : isum .i64 (i : Int) 1 = ((i + 1 : Nat) : Int) := by rw [isum, i64_in] <;> omega
          conv => whnf
          simp only [Int.toNat_natCast, Nat.zero_add]
          rw [← hx, f1]
          refine ⟨?_, fun h => ?_, fun _ => ?_⟩
          · repeat' apply And.intro
            all_goals first
              | exact True.intro
              | exact R.U
              | exact ht
              | exact hx0
              | omega
              | decide +kernel
              | rfl
              | exact Nat.le_of_ble_eq_true rfl
              | (dsimp only; omega)
              | trace_state
          · simp at h
          conv => whnf
          simp only [Int.toNat_natCast, Nat.zero_add]
          rw [← hx, f1, ← ht1, ← hl1]
          refine ⟨?_, fun h => ?_, fun _ => ?_⟩
          · repeat' apply And.intro
            all_goals first
              | exact True.intro
              | exact R.U
              | exact ht
              | exact hx0
              | exact R.tnil
              | omega
              | decide +kernel
              | rfl
              | exact Nat.le_of_ble_eq_true rfl
              | (dsimp only; omega)
              | trace_state
          · simp at h
          conv => whnf
          simp only [Int.toNat_natCast, Nat.zero_add]
          rw [← hx, f2, eL, eT]
          refine ⟨?_, fun h => ?_, fun _ => ?_⟩
          · repeat' apply And.intro
            all_goals first
              | exact True.intro
              | exact S.U
              | exact htt
              | exact hx0
              | exact S.tnil
              | omega
              | decide +kernel
              | rfl
              | exact Nat.le_of_ble_eq_true rfl
              | (dsimp only; omega)
              | trace_state
          · simp at h
          conv => whnf
          simp only [Int.toNat_natCast, Nat.zero_add]
          rw [← hx, f2]
          refine ⟨?_, fun h => ?_, fun _ => ?_⟩
          · repeat' apply And.intro
            all_goals first
              | exact True.intro
              | exact S.U
              | exact htt
              | exact hx0
              | omega
              | decide +kernel
              | rfl
              | exact Nat.le_of_ble_eq_true rfl
              | (dsimp only; omega)
              | trace_state
          · simp at h
          conv => whnf
          rw [e4]
          subst hK
          change _ ∧ _
          refine ⟨trivial, ⟨i + 1, t1, l1, by rw [take_snoc (by rw [B.len]; exact hlt'), ← hx]; exact S, by omega⟩, by show k - (i + 1) < k - i; omega, [0, 1, 5, 3], [], rfl, ?_, ?_⟩
          · repeat' apply And.intro
            all_goals first
              | exact True.intro
              | rfl
              | exact Nat.le_refl _
              | decide +kernel
              | omega
              | trace_state
          · exact ⟨⟨rfl, rfl, rfl, rfl, trivial⟩, ⟨rfl, ⟨rfl, rfl⟩, ⟨rfl, rfl⟩, rfl, trivial⟩, ⟨rfl, rfl, rfl, rfl, trivial⟩, ⟨rfl, rfl, rfl, rfl, trivial⟩, trivial⟩
        · conv => whnf
          subst hK
          conv => whnf
          refine ⟨trivial, rfl, [0], [], rfl, ⟨rfl, trivial⟩, ⟨rfl, rfl, rfl, rfl, trivial⟩, trivial⟩
  · cases hr
end Go.Proofs.Ytjbagkimpmpfgaa

