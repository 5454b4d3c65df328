/- Replay: the law of the late counters, walked. -/
import Derived.Test.YtjbagkimpmpfgaaR16
import Derived.Test.YtjbagkimpmpfgaaR11
import Derived.Test.YtjbagkimpmpfgaaPick
namespace Go.Proofs.Ytjbagkimpmpfgaa
open Go Go.Mx
set_option maxRecDepth 100000
set_option maxHeartbeats 4000000

theorem want_eq {M z t : Int} {l A : List Int} (h : Rel M z t l A) (hz : 1 ≤ z) {x : Int} (h0 : 0 ≤ x) (hM : x ≠ M) : freshW M z t l x = (!inA A x && (decide (x ≥ t) || decide (t - 1 - x < z))) := by
  rw [fresh_eq h hz h0]
  unfold freshA
  rw [beq_eq_false_iff_ne.2 hM, Bool.not_false, Bool.true_and]
  congr 1
  by_cases hx : x ≥ t
  · have i2 : lateA z A x = false := by
      rw [Bool.eq_false_iff, ne_eq, lateA_iff]
      rintro ⟨y, hy, h1, _⟩; have := lt_top hy; rw [← h.top] at this; omega
    rw [i2, decide_eq_true hx]; rfl
  · rw [decide_eq_false hx, Bool.false_or]
    by_cases hl : t - 1 - x < z
    · have i2 : lateA z A x = false := by rw [Bool.eq_false_iff, ne_eq, late_iff h hz (by omega) h0]; omega
      rw [i2, decide_eq_true hl]; rfl
    · have i2 : lateA z A x = true := by rw [late_iff h hz (by omega) h0]; omega
      rw [i2, decide_eq_false hl]; rfl
theorem inA_take {A : List Int} {x : Int} {k : Nat} (h : k < A.length) : inA (A.take (k + 1)) x = (inA (A.take k) x || A.getD k 0 == x) := by
  unfold inA
  rw [List.take_succ_eq_append_getElem h, List.any_append]
  simp [List.getD, h]
def env12 : Env := fun f => match f with
  | 39 => some c39
  | 50 => some c50
  | 51 => some c51
  | 52 => some c52
  | 53 => some c53
  | 54 => some c54
  | 55 => some c55
  | 57 => some c57
  | _ => none
theorem env12_ok : EnvOk Try.prog env12 := by
  intro f c h
  unfold env12 at h
  split at h
  · simp only [Option.some.injEq] at h; subst h; exact m39
  · simp only [Option.some.injEq] at h; subst h; exact m50
  · simp only [Option.some.injEq] at h; subst h; exact m51
  · simp only [Option.some.injEq] at h; subst h; exact m52
  · simp only [Option.some.injEq] at h; subst h; exact m53
  · simp only [Option.some.injEq] at h; subst h; exact m54
  · simp only [Option.some.injEq] at h; subst h; exact m55
  · simp only [Option.some.injEq] at h; subst h; exact m57
  · cases h
structure St12 (N : Nat) (n : Int) where
  i : Nat
  t : Int
  l : List Int
  A : List Int
  rel : Rel 18446744073709551615 n t l A
  hi : i ≤ N
  h1 : i ≤ 100
  ha : A.length ≤ i
  hA : ∀ x ∈ A, x < 100000
def c12 : Ctr := fun args objs => match args, objs with
  | [.one (.int .i64 s), .one (.sl 0 0 a 1), .one (.sl 1 0 b 1)], [.view 1 [.ints .u64 L a'], .view 1 [.ints .u64 Q b']] => some ⟨[isI s, a = a', L.length = a, ∀ x ∈ L, 0 ≤ x ∧ x ≤ 18446744073709551615, a ≤ 9223372036854775807, b = b', Q.length = b, ∀ x ∈ Q, 0 ≤ x ∧ x ≤ 18446744073709551615, b ≤ 9223372036854775807], .v (.one (.bool true true)), [], []⟩
  | _, _ => none
theorem m12 : Meets Try.prog 12 c12 := by
  refine meets_of_run2 tab_ok env12_ok mixed [.tmp 6] Try.func12 rfl Try.ntmps12 Try.call12 (fun t w => by simp [results, Try.results12, resS, rv1]) ?_
  intro args objs r hr hcs
  unfold c12 at hr
  split at hr
  · rename_i s a b L a' Q b'
    simp only [Option.some.injEq] at hr; subst hr
    obtain ⟨h1, h2, h3, h4, h5, h6, h7, h8, h9, _⟩ := hcs
    refine ⟨rfl, ?_⟩
    conv => whnf
    subst h2
    subst h6
    obtain ⟨p, hp⟩ : ∃ p : Nat, pickI s 200 = (p : Int) := ⟨_, (Int.toNat_of_nonneg (pickI_lo (by omega))).symm⟩
    have hp2 : p < 200 := by have := pickI_hi (c := s) (n := 200) (by omega); omega
    have q1 : isum .i64 1 (p : Int) = ((p + 1 : Nat) : Int) := by rw [isum, i64_in] <;> omega
    have q2 : clampI ((p + 1 : Nat) : Int) = ((p + 1 : Nat) : Int) := by unfold clampI; (repeat' split) <;> omega
    rw [hp, q1, q2]
    obtain ⟨n, hn⟩ : ∃ n : Int, n = ((p + 1 : Nat) : Int) := ⟨_, rfl⟩
    have hz1 : 1 ≤ n ∧ n ≤ 200 := by omega
    have hz2 : 1 ≤ n ∧ n ≤ 8192 := by omega
    have imx : imax n 1 = n := by unfold imax; split <;> omega
    rw [← hn]
    refine ⟨?_, St12 a n, fun q => ⟨(.any :: .v (.one (.sl 0 0 a 1)) :: .v (.one (.sl 1 0 b 1)) :: .any :: .any :: .any :: .any :: .any :: .v (.one (.int .i64 n)) :: .v (.one (.ptr 2 0)) :: .v (.one (.sl 4 0 q.A.length 1)) :: .v (.one (.int .u64 q.t)) :: .v (.one (.int .i64 q.i)) :: .any :: .any :: .any :: .any :: .any :: .any :: .any :: .any :: .any :: .any :: .any :: .any :: .any :: .any :: .any :: .any :: .any :: .any :: .any :: .any :: .any :: .any :: .any :: .any :: .any :: .any :: .any :: .any :: .any :: .any :: .any :: .any :: .any :: .any :: .any :: .any :: .any :: .any :: .any :: .any :: .any :: .any :: .any :: .any :: .any :: .any :: .any :: .any :: .any :: .any :: .any :: .any :: .any :: .any :: .any :: .any :: .any :: .any :: .any :: .any :: .any :: .any :: .any :: .any :: .any :: .any :: .any :: .any :: .any :: .any :: .any :: .any :: .any :: .any :: .any :: .any :: .any :: .any :: .any :: .any :: .any :: .any :: .any :: .any :: .any :: .any :: .any :: .any :: .any :: .any :: .any :: .any :: .any :: .any :: .any :: .any :: .any :: .any :: .any :: .any :: .any :: .any :: .any :: .any :: .any :: .any :: .any :: .any :: .any :: .any :: .any :: .any :: .any :: .any :: .any :: .any :: .any :: .any :: .any :: .any :: .any :: .any :: .any :: .any :: .any :: .any :: .any :: .any :: .any :: .any :: .any :: .any :: .any :: .any :: .any :: .any :: []), [.view 1 [.ints .u64 L a], .view 1 [.ints .u64 Q b], .own 0 [.c (.int .i64 n), .c (.int .u64 q.t), .c (.sl 3 0 q.l.length 1)], .own 1 [.ints .u64 q.l q.l.length], .own 1 [.ints .u64 q.A q.A.length]]⟩, fun q => 100 - q.i, ⟨0, 0, [], [], Rel.start _ _, by omega, by omega, by simp, by simp⟩, ?_, fun _ => rfl, ?_⟩
    · repeat' apply And.intro
      all_goals first
        | exact True.intro
        | exact h1
        | exact ⟨by omega, by omega⟩
        | omega
        | decide +kernel
        | rfl
        | exact Nat.le_of_ble_eq_true rfl
        | (dsimp only; omega)
        | trace_state
    · refine ⟨[0, 1, 2, 3, 4], [(1, [.ints .u64 [] 0])], rfl, ?_, ?_⟩
      · repeat' apply And.intro
        all_goals first
          | exact True.intro
          | rfl
          | exact Nat.le_refl _
          | decide +kernel
          | omega
          | trace_state
      · exact ⟨⟨rfl, rfl, rfl, rfl, trivial⟩, ⟨rfl, rfl, rfl, rfl, trivial⟩, ⟨rfl, ⟨rfl, rfl⟩, ⟨rfl, rfl⟩, rfl, trivial⟩, ⟨rfl, rfl, rfl, rfl, trivial⟩, ⟨rfl, rfl, rfl, rfl, trivial⟩, trivial⟩
    rintro ⟨i, t, l, A, R, hi, hi1, hA, hAx⟩
    have hls := R.small hz2
    have ht : 0 ≤ t ∧ t ≤ 18446744073709551615 := ⟨R.t0, R.tM (by decide)⟩
    have ht2 : t ≤ 100000 := by
      rcases top_mem A with e | e
      · rw [← R.top] at e; omega
      · rw [← R.top] at e; have := hAx _ e; omega
    have ftt : freshW 18446744073709551615 n t l t = true := by
      unfold freshW; rw [beq_eq_false_iff_ne.2 (by omega), decide_eq_true (show t ≥ t by omega)]; rfl
    have e5 : isum .u64 t 5 = t + 5 := by rw [isum, IntWalk.u64_in]; omega
    show run tab env12 2 _ ⟨(.any :: .v (.one (.sl 0 0 a 1)) :: .v (.one (.sl 1 0 b 1)) :: .any :: .any :: .any :: .any :: .any :: .v (.one (.int .i64 n)) :: .v (.one (.ptr 2 0)) :: .v (.one (.sl 4 0 A.length 1)) :: .v (.one (.int .u64 t)) :: .v (.one (.int .i64 i)) :: .any :: .any :: .any :: .any :: .any :: .any :: .any :: .any :: .any :: .any :: .any :: .any :: .any :: .any :: .any :: .any :: .any :: .any :: .any :: .any :: .any :: .any :: .any :: .any :: .any :: .any :: .any :: .any :: .any :: .any :: .any :: .any :: .any :: .any :: .any :: .any :: .any :: .any :: .any :: .any :: .any :: .any :: .any :: .any :: .any :: .any :: .any :: .any :: .any :: .any :: .any :: .any :: .any :: .any :: .any :: .any :: .any :: .any :: .any :: .any :: .any :: .any :: .any :: .any :: .any :: .any :: .any :: .any :: .any :: .any :: .any :: .any :: .any :: .any :: .any :: .any :: .any :: .any :: .any :: .any :: .any :: .any :: .any :: .any :: .any :: .any :: .any :: .any :: .any :: .any :: .any :: .any :: .any :: .any :: .any :: .any :: .any :: .any :: .any :: .any :: .any :: .any :: .any :: .any :: .any :: .any :: .any :: .any :: .any :: .any :: .any :: .any :: .any :: .any :: .any :: .any :: .any :: .any :: .any :: .any :: .any :: .any :: .any :: .any :: .any :: .any :: .any :: .any :: .any :: .any :: .any :: .any :: .any :: .any :: .any :: .any :: []), [.view 1 [.ints .u64 L a], .view 1 [.ints .u64 Q b], .own 0 [.c (.int .i64 n), .c (.int .u64 t), .c (.sl 3 0 l.length 1)], .own 1 [.ints .u64 l l.length], .own 1 [.ints .u64 A A.length]]⟩ _ _
    refine run_K (P := fun K => run tab env12 2 _ ⟨_, _⟩ True K) ?_
    intro K hK
    conv => whnf
    refine ⟨trivial, fun hlt => ?_, fun hlt => ?_⟩
    · have hlt' : i < a := by simp at hlt; omega
      conv => whnf
      refine ⟨trivial, fun hlt2 => ?_, fun hlt2 => ?_⟩
      · have hlt2' : i < 100 := by simp at hlt2; omega
        have e1 : isum .i64 (i : Int) 1 = ((i + 1 : Nat) : Int) := by rw [isum, i64_in] <;> omega
        obtain ⟨y, hy⟩ : ∃ y, y = L.getD i 0 := ⟨_, rfl⟩
        have hy0 : 0 ≤ y ∧ y ≤ 18446744073709551615 := by rw [hy]; exact h4 _ (getD_mem' (by omega))
        obtain ⟨x, hx⟩ : ∃ x, x = y.tmod 100000 := ⟨_, rfl⟩
        have hx0 : 0 ≤ x ∧ x < 100000 := by rw [hx, Int.tmod_eq_emod_of_nonneg hy0.1]; omega
        have e6 : isum .u64 x 1 = x + 1 := by rw [isum, IntWalk.u64_in]; omega
        have fe := fresh_eq R hz2.1 hx0.1
        conv => whnf
        simp only [Int.toNat_natCast, Nat.zero_add]
        rw [← hy, ← hx]
        refine ⟨?_, fun hf => ?_, fun hf => ?_⟩
        · repeat' apply And.intro
          all_goals first
            | exact True.intro
            | exact R.U
            | exact ht
            | exact R.tnil
            | omega
            | omega
            | decide +kernel
            | rfl
            | exact Nat.le_of_ble_eq_true rfl
            | (dsimp only; omega)
            | trace_state
        · have S := take_rel R hz2 hx0.1 (by omega) (by rw [← fe]; exact hf)
          have et : takeT 18446744073709551615 n t l x = if x + 1 > t then x + 1 else t := by
            unfold takeT; rw [hf]
            by_cases hc : x ≥ t
            · rw [if_pos ⟨rfl, hc⟩, if_pos (by omega)]
            · rw [if_neg (by rintro ⟨_, h⟩; exact hc h), if_neg (by omega)]
          have hAx' : ∀ y ∈ A ++ [x], y < 100000 := fun y hy => by
            rcases List.mem_append.1 hy with h | h
            · exact hAx y h
            · simp at h; subst h; exact hx0.2
          have hl' : (A ++ [x]).length = A.length + 1 := by simp
          conv => whnf
          rw [e6]
          refine ⟨?_, fun hg => ?_, fun hg => ?_⟩
          · repeat' apply And.intro
            all_goals first
              | exact True.intro
              | (show A.length + 1 ≤ 9223372036854775807; omega)
              | (show (A.length + 1) * 8 ≤ 140737488355328; omega)
              | (show A.length * 1 = A.length + 0; omega)
              | omega
              | decide +kernel
              | rfl
              | exact Nat.le_of_ble_eq_true rfl
              | (dsimp only; omega)
              | trace_state
          · have hg' : x + 1 > t := by simpa using hg
            rw [if_pos hg'] at et
            conv => whnf
            rw [e6, e1]
            subst hK
            change _ ∧ _
            refine ⟨trivial, ⟨i + 1, _, _, _, S, by omega, by omega, by rw [hl']; omega, hAx'⟩, by show 100 - (i + 1) < 100 - i; omega, [0, 1, 2, 5, 7], [], rfl, ?_, ?_⟩
            · repeat' apply And.intro
              all_goals first
                | exact True.intro
                | rfl
                | exact et.symm
                | exact congrArg (fun k => C.sl 7 0 k 1) hl'.symm
                | trace_state
            · exact ⟨⟨rfl, rfl, rfl, rfl, trivial⟩, ⟨rfl, rfl, rfl, rfl, trivial⟩, ⟨rfl, ⟨rfl, rfl⟩, ⟨rfl, rfl⟩, rfl, trivial⟩, ⟨rfl, rfl, rfl, rfl, trivial⟩, ⟨rfl, rfl, rfl, hl'.symm, trivial⟩, trivial⟩
          · have hg' : ¬ x + 1 > t := by simpa using hg
            rw [if_neg hg'] at et
            conv => whnf
            rw [e1]
            subst hK
            change _ ∧ _
            refine ⟨trivial, ⟨i + 1, _, _, _, S, by omega, by omega, by rw [hl']; omega, hAx'⟩, by show 100 - (i + 1) < 100 - i; omega, [0, 1, 2, 5, 7], [], rfl, ?_, ?_⟩
            · repeat' apply And.intro
              all_goals first
                | exact True.intro
                | rfl
                | exact et.symm
                | exact congrArg (fun k => C.sl 7 0 k 1) hl'.symm
                | trace_state
            · exact ⟨⟨rfl, rfl, rfl, rfl, trivial⟩, ⟨rfl, rfl, rfl, rfl, trivial⟩, ⟨rfl, ⟨rfl, rfl⟩, ⟨rfl, rfl⟩, rfl, trivial⟩, ⟨rfl, rfl, rfl, rfl, trivial⟩, ⟨rfl, rfl, rfl, hl'.symm, trivial⟩, trivial⟩
        · have eL : takeL 18446744073709551615 n t l x = l := by unfold takeL; rw [if_neg (by rw [hf]; decide)]
          have eT : takeT 18446744073709551615 n t l x = t := by unfold takeT; rw [if_neg (by rw [hf]; simp)]
          conv => whnf
          rw [e1, eL, eT]
          subst hK
          change _ ∧ _
          refine ⟨trivial, ⟨i + 1, t, l, A, R, by omega, by omega, by omega, hAx⟩, by show 100 - (i + 1) < 100 - i; omega, [0, 1, 2, 5, 4], [], rfl, ?_, ?_⟩
          · repeat' apply And.intro
            all_goals first
              | exact True.intro
              | rfl
              | exact Nat.le_refl _
              | decide +kernel
              | omega
              | trace_state
          · exact ⟨⟨rfl, rfl, rfl, rfl, trivial⟩, ⟨rfl, rfl, rfl, rfl, trivial⟩, ⟨rfl, ⟨rfl, rfl⟩, ⟨rfl, rfl⟩, rfl, trivial⟩, ⟨rfl, rfl, rfl, rfl, trivial⟩, ⟨rfl, rfl, rfl, rfl, trivial⟩, trivial⟩
      · have hie : ¬ i < 100 := by simp at hlt2; omega
        conv => whnf
        subst hK
        conv => whnf
        refine ⟨?_, fun h => ?_, fun _ => ?_⟩
        · repeat' apply And.intro
          all_goals first
            | exact True.intro
            | exact hz1
            | omega
            | decide +kernel
            | rfl
            | exact Nat.le_of_ble_eq_true rfl
            | (dsimp only; omega)
            | trace_state
        · simp at h
        conv => whnf
        refine ⟨?_, { i : Nat // i ≤ b ∧ i ≤ 100 }, fun q => ⟨(.any :: .any :: .v (.one (.sl 1 0 b 1)) :: .any :: .any :: .any :: .any :: .any :: .v (.one (.int .i64 n)) :: .v (.one (.ptr 2 0)) :: .v (.one (.sl 4 0 A.length 1)) :: .v (.one (.int .u64 t)) :: .any :: .any :: .v (.one (.ptr 5 0)) :: .v (.one (.int .i64 q.1)) :: .any :: .any :: .any :: .any :: .any :: .any :: .any :: .any :: .any :: .any :: .any :: .any :: .any :: .any :: .any :: .any :: .any :: .any :: .any :: .any :: .any :: .any :: .any :: .any :: .any :: .any :: .any :: .any :: .any :: .any :: .any :: .any :: .any :: .any :: .any :: .any :: .any :: .any :: .any :: .any :: .any :: .any :: .any :: .any :: .any :: .any :: .any :: .any :: .any :: .any :: .any :: .any :: .any :: .any :: .any :: .any :: .any :: .any :: .any :: .any :: .any :: .any :: .any :: .any :: .any :: .any :: .any :: .any :: .any :: .any :: .any :: .any :: .any :: .any :: .any :: .any :: .any :: .any :: .any :: .any :: .any :: .any :: .any :: .any :: .any :: .any :: .any :: .any :: .any :: .any :: .any :: .any :: .any :: .any :: .any :: .any :: .any :: .any :: .any :: .any :: .any :: .any :: .any :: .any :: .any :: .any :: .any :: .any :: .any :: .any :: .any :: .any :: .any :: .any :: .any :: .any :: .any :: .any :: .any :: .any :: .any :: .any :: .any :: .any :: .any :: .any :: .any :: .any :: .any :: .any :: .any :: .any :: .any :: []), [.view 1 [.ints .u64 L a], .view 1 [.ints .u64 Q b], .own 0 [.c (.int .i64 n), .c (.int .u64 t), .c (.sl 3 0 l.length 1)], .own 1 [.ints .u64 l l.length], .own 1 [.ints .u64 A A.length], .own 0 [.c (.int .i64 n), .c (.int .u64 t), .c (.sl 6 0 l.length 1)], .own 1 [.ints .u64 l l.length]]⟩, fun q => 100 - q.1, ⟨0, by omega, by omega⟩, ?_, fun _ => rfl, ?_⟩
        · trivial
        · refine ⟨[0, 1, 2, 3, 4, 5, 6], [], rfl, ?_, ?_⟩
          · repeat' apply And.intro
            all_goals first
              | exact True.intro
              | rfl
              | exact Nat.le_refl _
              | decide +kernel
              | omega
              | trace_state
          · exact ⟨⟨rfl, rfl, rfl, rfl, trivial⟩, ⟨rfl, rfl, rfl, rfl, trivial⟩, ⟨rfl, ⟨rfl, rfl⟩, ⟨rfl, rfl⟩, rfl, trivial⟩, ⟨rfl, rfl, rfl, rfl, trivial⟩, ⟨rfl, rfl, rfl, rfl, trivial⟩, ⟨rfl, ⟨rfl, imx⟩, ⟨rfl, rfl⟩, rfl, trivial⟩, ⟨rfl, rfl, rfl, rfl, trivial⟩, trivial⟩
        rintro ⟨i, hi, hi1⟩
        show run tab env12 2 _ ⟨(.any :: .any :: .v (.one (.sl 1 0 b 1)) :: .any :: .any :: .any :: .any :: .any :: .v (.one (.int .i64 n)) :: .v (.one (.ptr 2 0)) :: .v (.one (.sl 4 0 A.length 1)) :: .v (.one (.int .u64 t)) :: .any :: .any :: .v (.one (.ptr 5 0)) :: .v (.one (.int .i64 i)) :: .any :: .any :: .any :: .any :: .any :: .any :: .any :: .any :: .any :: .any :: .any :: .any :: .any :: .any :: .any :: .any :: .any :: .any :: .any :: .any :: .any :: .any :: .any :: .any :: .any :: .any :: .any :: .any :: .any :: .any :: .any :: .any :: .any :: .any :: .any :: .any :: .any :: .any :: .any :: .any :: .any :: .any :: .any :: .any :: .any :: .any :: .any :: .any :: .any :: .any :: .any :: .any :: .any :: .any :: .any :: .any :: .any :: .any :: .any :: .any :: .any :: .any :: .any :: .any :: .any :: .any :: .any :: .any :: .any :: .any :: .any :: .any :: .any :: .any :: .any :: .any :: .any :: .any :: .any :: .any :: .any :: .any :: .any :: .any :: .any :: .any :: .any :: .any :: .any :: .any :: .any :: .any :: .any :: .any :: .any :: .any :: .any :: .any :: .any :: .any :: .any :: .any :: .any :: .any :: .any :: .any :: .any :: .any :: .any :: .any :: .any :: .any :: .any :: .any :: .any :: .any :: .any :: .any :: .any :: .any :: .any :: .any :: .any :: .any :: .any :: .any :: .any :: .any :: .any :: .any :: .any :: .any :: .any :: []), [.view 1 [.ints .u64 L a], .view 1 [.ints .u64 Q b], .own 0 [.c (.int .i64 n), .c (.int .u64 t), .c (.sl 3 0 l.length 1)], .own 1 [.ints .u64 l l.length], .own 1 [.ints .u64 A A.length], .own 0 [.c (.int .i64 n), .c (.int .u64 t), .c (.sl 6 0 l.length 1)], .own 1 [.ints .u64 l l.length]]⟩ _ _
        refine run_K (P := fun K => run tab env12 2 _ ⟨_, _⟩ True K) ?_
        intro K hK
        conv => whnf
        refine ⟨trivial, fun hlt => ?_, fun hlt => ?_⟩
        · have hlt' : i < b := by simp at hlt; omega
          conv => whnf
          refine ⟨trivial, fun hlt2 => ?_, fun hlt2 => ?_⟩
          · have hlt2' : i < 100 := by simp at hlt2; omega
            have e1 : isum .i64 (i : Int) 1 = ((i + 1 : Nat) : Int) := by rw [isum, i64_in] <;> omega
            obtain ⟨y, hy⟩ : ∃ y, y = Q.getD i 0 := ⟨_, rfl⟩
            have hy0 : 0 ≤ y ∧ y ≤ 18446744073709551615 := by rw [hy]; exact h8 _ (getD_mem' (by omega))
            obtain ⟨x, hx⟩ : ∃ x, x = y.tmod 100100 := ⟨_, rfl⟩
            have hx0 : 0 ≤ x ∧ x < 100100 := by rw [hx, Int.tmod_eq_emod_of_nonneg hy0.1]; omega
            obtain ⟨U, u0, us, uE⟩ : ∃ U : Nat → Bool, U 0 = false ∧ (∀ k, k < A.length → U (k + 1) = (U k || A.getD k 0 == x)) ∧ U A.length = inA A x :=
              ⟨fun k => inA (A.take k) x, rfl, fun k hk => inA_take hk, by simp⟩
            conv => whnf
            simp only [Int.toNat_natCast, Nat.zero_add]
            rw [← hy, ← hx]
            refine ⟨?_, { k : Nat // k ≤ A.length }, fun q => ⟨(.any :: .any :: .v (.one (.sl 1 0 b 1)) :: .any :: .any :: .any :: .any :: .any :: .v (.one (.int .i64 n)) :: .v (.one (.ptr 2 0)) :: .v (.one (.sl 4 0 A.length 1)) :: .v (.one (.int .u64 t)) :: .any :: .any :: .v (.one (.ptr 5 0)) :: .v (.one (.int .i64 i)) :: .v (.one (.int .u64 x)) :: .v (.one (.bool false (U q.1))) :: .v (.one (.int .i64 q.1)) :: .any :: .any :: .any :: .any :: .any :: .any :: .any :: .any :: .any :: .any :: .any :: .any :: .any :: .any :: .any :: .any :: .any :: .any :: .any :: .any :: .any :: .any :: .any :: .any :: .any :: .any :: .any :: .any :: .any :: .any :: .any :: .any :: .any :: .any :: .any :: .any :: .any :: .any :: .any :: .any :: .any :: .any :: .any :: .any :: .any :: .any :: .any :: .any :: .any :: .any :: .any :: .any :: .any :: .any :: .any :: .any :: .any :: .any :: .any :: .any :: .any :: .any :: .any :: .any :: .any :: .any :: .any :: .any :: .any :: .any :: .any :: .any :: .any :: .any :: .any :: .any :: .any :: .any :: .any :: .any :: .any :: .any :: .any :: .any :: .any :: .any :: .any :: .any :: .any :: .any :: .any :: .any :: .any :: .any :: .any :: .any :: .any :: .any :: .any :: .any :: .any :: .any :: .any :: .any :: .any :: .any :: .any :: .any :: .any :: .any :: .any :: .any :: .any :: .any :: .any :: .any :: .any :: .any :: .any :: .any :: .any :: .any :: .any :: .any :: .any :: .any :: .any :: .any :: .any :: .any :: []), [.view 1 [.ints .u64 L a], .view 1 [.ints .u64 Q b], .own 0 [.c (.int .i64 n), .c (.int .u64 t), .c (.sl 3 0 l.length 1)], .own 1 [.ints .u64 l l.length], .own 1 [.ints .u64 A A.length], .own 0 [.c (.int .i64 n), .c (.int .u64 t), .c (.sl 6 0 l.length 1)], .own 1 [.ints .u64 l l.length]]⟩, fun q => A.length - q.1, ⟨0, by omega⟩, ?_, fun _ => rfl, ?_⟩
            · repeat' apply And.intro
              all_goals first
                | exact True.intro
                | omega
                | decide +kernel
                | rfl
                | exact Nat.le_of_ble_eq_true rfl
                | (dsimp only; omega)
                | trace_state
            · refine ⟨[0, 1, 2, 3, 4, 5, 6], [], rfl, ?_, ?_⟩
              · repeat' apply And.intro
                all_goals first
                  | exact True.intro
                  | rfl
                  | exact u0.symm
                  | trace_state
              · exact ⟨⟨rfl, rfl, rfl, rfl, trivial⟩, ⟨rfl, rfl, rfl, rfl, trivial⟩, ⟨rfl, ⟨rfl, rfl⟩, ⟨rfl, rfl⟩, rfl, trivial⟩, ⟨rfl, rfl, rfl, rfl, trivial⟩, ⟨rfl, rfl, rfl, rfl, trivial⟩, ⟨rfl, ⟨rfl, rfl⟩, ⟨rfl, rfl⟩, rfl, trivial⟩, ⟨rfl, rfl, rfl, rfl, trivial⟩, trivial⟩
            rintro ⟨k, hk⟩
            show run tab env12 2 _ ⟨(.any :: .any :: .v (.one (.sl 1 0 b 1)) :: .any :: .any :: .any :: .any :: .any :: .v (.one (.int .i64 n)) :: .v (.one (.ptr 2 0)) :: .v (.one (.sl 4 0 A.length 1)) :: .v (.one (.int .u64 t)) :: .any :: .any :: .v (.one (.ptr 5 0)) :: .v (.one (.int .i64 i)) :: .v (.one (.int .u64 x)) :: .v (.one (.bool false (U k))) :: .v (.one (.int .i64 k)) :: .any :: .any :: .any :: .any :: .any :: .any :: .any :: .any :: .any :: .any :: .any :: .any :: .any :: .any :: .any :: .any :: .any :: .any :: .any :: .any :: .any :: .any :: .any :: .any :: .any :: .any :: .any :: .any :: .any :: .any :: .any :: .any :: .any :: .any :: .any :: .any :: .any :: .any :: .any :: .any :: .any :: .any :: .any :: .any :: .any :: .any :: .any :: .any :: .any :: .any :: .any :: .any :: .any :: .any :: .any :: .any :: .any :: .any :: .any :: .any :: .any :: .any :: .any :: .any :: .any :: .any :: .any :: .any :: .any :: .any :: .any :: .any :: .any :: .any :: .any :: .any :: .any :: .any :: .any :: .any :: .any :: .any :: .any :: .any :: .any :: .any :: .any :: .any :: .any :: .any :: .any :: .any :: .any :: .any :: .any :: .any :: .any :: .any :: .any :: .any :: .any :: .any :: .any :: .any :: .any :: .any :: .any :: .any :: .any :: .any :: .any :: .any :: .any :: .any :: .any :: .any :: .any :: .any :: .any :: .any :: .any :: .any :: .any :: .any :: .any :: .any :: .any :: .any :: .any :: .any :: []), [.view 1 [.ints .u64 L a], .view 1 [.ints .u64 Q b], .own 0 [.c (.int .i64 n), .c (.int .u64 t), .c (.sl 3 0 l.length 1)], .own 1 [.ints .u64 l l.length], .own 1 [.ints .u64 A A.length], .own 0 [.c (.int .i64 n), .c (.int .u64 t), .c (.sl 6 0 l.length 1)], .own 1 [.ints .u64 l l.length]]⟩ _ _
            refine run_K (P := fun K => run tab env12 2 _ ⟨_, _⟩ True K) ?_
            intro K hK
            conv => whnf
            refine ⟨trivial, fun hkl => ?_, fun hkl => ?_⟩
            · have hkl' : k < A.length := by simp at hkl; omega
              have e2 : isum .i64 (k : Int) 1 = ((k + 1 : Nat) : Int) := by rw [isum, i64_in] <;> omega
              have hus := us k hkl'
              conv => whnf
              refine ⟨trivial, fun hu => ?_, fun hu => ?_⟩
              · conv => whnf
                rw [e2]
                subst hK
                change _ ∧ _
                refine ⟨trivial, ⟨k + 1, by omega⟩, by show A.length - (k + 1) < A.length - k; omega, [0, 1, 2, 3, 4, 5, 6], [], rfl, ?_, ?_⟩
                · repeat' apply And.intro
                  all_goals first
                    | exact True.intro
                    | rfl
                    | (show true = U (k + 1); rw [hus, hu]; rfl)
                    | trace_state
                · exact ⟨⟨rfl, rfl, rfl, rfl, trivial⟩, ⟨rfl, rfl, rfl, rfl, trivial⟩, ⟨rfl, ⟨rfl, rfl⟩, ⟨rfl, rfl⟩, rfl, trivial⟩, ⟨rfl, rfl, rfl, rfl, trivial⟩, ⟨rfl, rfl, rfl, rfl, trivial⟩, ⟨rfl, ⟨rfl, rfl⟩, ⟨rfl, rfl⟩, rfl, trivial⟩, ⟨rfl, rfl, rfl, rfl, trivial⟩, trivial⟩
              · conv => whnf
                simp only [Int.toNat_natCast, Nat.zero_add]
                rw [e2]
                subst hK
                change _ ∧ _
                refine ⟨?_, ⟨k + 1, by omega⟩, by show A.length - (k + 1) < A.length - k; omega, [0, 1, 2, 3, 4, 5, 6], [], rfl, ?_, ?_⟩
                · repeat' apply And.intro
                  all_goals first
                    | exact True.intro
                    | omega
                    | decide +kernel
                    | rfl
                    | exact Nat.le_of_ble_eq_true rfl
                    | (dsimp only; omega)
                    | trace_state
                · repeat' apply And.intro
                  all_goals first
                    | exact True.intro
                    | rfl
                    | (show _ = U (k + 1); rw [hus, hu]; rfl)
                    | trace_state
                · exact ⟨⟨rfl, rfl, rfl, rfl, trivial⟩, ⟨rfl, rfl, rfl, rfl, trivial⟩, ⟨rfl, ⟨rfl, rfl⟩, ⟨rfl, rfl⟩, rfl, trivial⟩, ⟨rfl, rfl, rfl, rfl, trivial⟩, ⟨rfl, rfl, rfl, rfl, trivial⟩, ⟨rfl, ⟨rfl, rfl⟩, ⟨rfl, rfl⟩, rfl, trivial⟩, ⟨rfl, rfl, rfl, rfl, trivial⟩, trivial⟩
            · have hkl' : k = A.length := by simp at hkl; omega
              have hw := want_eq R hz1.1 hx0.1 (by omega)
              rw [← uE, ← hkl'] at hw
              have d1 : idif .u64 t 1 = t - 1 ∨ t = 0 := by
                by_cases e : t = 0
                · exact .inr e
                · left; rw [idif, IntWalk.u64_in]; omega
              conv => whnf
              subst hK
              conv => whnf
              refine ⟨trivial, fun hu => ?_, fun hu => ?_⟩
              · have hu' : U k = false := by simpa using hu
                rw [hu', Bool.not_false, Bool.true_and] at hw
                conv => whnf
                refine ⟨trivial, fun hxt => ?_, fun hxt => ?_⟩
                · have hF : freshW 18446744073709551615 n t l x = true := by rw [hw, hxt]; rfl
                  conv => whnf
                  rw [hF]
                  refine ⟨?_, fun h => ?_, fun _ => ?_⟩
                  · repeat' apply And.intro
                    all_goals first
                      | exact True.intro
                      | exact R.U
                      | exact ht
                      | omega
                      | omega
                      | decide +kernel
                      | rfl
                      | exact Nat.le_of_ble_eq_true rfl
                      | (dsimp only; omega)
                      | trace_state
                  · simp at h
                  conv => whnf
                  rw [imx, hF]
                  refine ⟨?_, fun h => ?_, fun _ => ?_⟩
                  · repeat' apply And.intro
                    all_goals first
                      | exact True.intro
                      | exact R.U
                      | exact ht
                      | omega
                      | omega
                      | decide +kernel
                      | rfl
                      | exact Nat.le_of_ble_eq_true rfl
                      | (dsimp only; omega)
                      | trace_state
                  · simp at h
                  conv => whnf
                  rw [e1]
                  subst hK
                  change _ ∧ _
                  refine ⟨trivial, ⟨i + 1, by omega, by omega⟩, by show 100 - (i + 1) < 100 - i; omega, [0, 1, 2, 3, 4, 5, 6], [], rfl, ?_, ?_⟩
                  · repeat' apply And.intro
                    all_goals first
                      | exact True.intro
                      | rfl
                      | exact Nat.le_refl _
                      | decide +kernel
                      | omega
                      | trace_state
                  · exact ⟨⟨rfl, rfl, rfl, rfl, trivial⟩, ⟨rfl, rfl, rfl, rfl, trivial⟩, ⟨rfl, ⟨rfl, rfl⟩, ⟨rfl, rfl⟩, rfl, trivial⟩, ⟨rfl, rfl, rfl, rfl, trivial⟩, ⟨rfl, rfl, rfl, rfl, trivial⟩, ⟨rfl, ⟨rfl, rfl⟩, ⟨rfl, rfl⟩, rfl, trivial⟩, ⟨rfl, rfl, rfl, rfl, trivial⟩, trivial⟩
                · have hxt' : ¬ x ≥ t := by simpa using hxt
                  have hF : freshW 18446744073709551615 n t l x = decide (t - 1 - x < n) := by rw [hw, hxt]; rfl
                  have g1 : idif .u64 t 1 = t - 1 := by rw [idif, IntWalk.u64_in]; omega
                  have g2 : idif .u64 (t - 1) x = t - 1 - x := by rw [idif, IntWalk.u64_in]; omega
                  have g3 : conv .u64 n = n := by rw [conv, IntWalk.u64_in]; omega
                  conv => whnf
                  rw [g1, g2, g3]
                  rw [hF]
                  refine ⟨?_, fun h => ?_, fun _ => ?_⟩
                  · repeat' apply And.intro
                    all_goals first
                      | exact True.intro
                      | exact R.U
                      | exact ht
                      | omega
                      | omega
                      | decide +kernel
                      | rfl
                      | exact Nat.le_of_ble_eq_true rfl
                      | (dsimp only; omega)
                      | trace_state
                  · simp at h
                  conv => whnf
                  rw [imx, hF]
                  refine ⟨?_, fun h => ?_, fun _ => ?_⟩
                  · repeat' apply And.intro
                    all_goals first
                      | exact True.intro
                      | exact R.U
                      | exact ht
                      | omega
                      | omega
                      | decide +kernel
                      | rfl
                      | exact Nat.le_of_ble_eq_true rfl
                      | (dsimp only; omega)
                      | trace_state
                  · simp at h
                  conv => whnf
                  rw [e1]
                  subst hK
                  change _ ∧ _
                  refine ⟨trivial, ⟨i + 1, by omega, by omega⟩, by show 100 - (i + 1) < 100 - i; omega, [0, 1, 2, 3, 4, 5, 6], [], rfl, ?_, ?_⟩
                  · repeat' apply And.intro
                    all_goals first
                      | exact True.intro
                      | rfl
                      | exact Nat.le_refl _
                      | decide +kernel
                      | omega
                      | trace_state
                  · exact ⟨⟨rfl, rfl, rfl, rfl, trivial⟩, ⟨rfl, rfl, rfl, rfl, trivial⟩, ⟨rfl, ⟨rfl, rfl⟩, ⟨rfl, rfl⟩, rfl, trivial⟩, ⟨rfl, rfl, rfl, rfl, trivial⟩, ⟨rfl, rfl, rfl, rfl, trivial⟩, ⟨rfl, ⟨rfl, rfl⟩, ⟨rfl, rfl⟩, rfl, trivial⟩, ⟨rfl, rfl, rfl, rfl, trivial⟩, trivial⟩
              · have hu' : U k = true := by simpa using hu
                have hF : freshW 18446744073709551615 n t l x = false := by rw [hw, hu']; rfl
                conv => whnf
                rw [hF]
                refine ⟨?_, fun h => ?_, fun _ => ?_⟩
                · repeat' apply And.intro
                  all_goals first
                    | exact True.intro
                    | exact R.U
                    | exact ht
                    | omega
                    | omega
                    | decide +kernel
                    | rfl
                    | exact Nat.le_of_ble_eq_true rfl
                    | (dsimp only; omega)
                    | trace_state
                · simp at h
                conv => whnf
                rw [imx, hF]
                refine ⟨?_, fun h => ?_, fun _ => ?_⟩
                · repeat' apply And.intro
                  all_goals first
                    | exact True.intro
                    | exact R.U
                    | exact ht
                    | omega
                    | omega
                    | decide +kernel
                    | rfl
                    | exact Nat.le_of_ble_eq_true rfl
                    | (dsimp only; omega)
                    | trace_state
                · simp at h
                conv => whnf
                rw [e1]
                subst hK
                change _ ∧ _
                refine ⟨trivial, ⟨i + 1, by omega, by omega⟩, by show 100 - (i + 1) < 100 - i; omega, [0, 1, 2, 3, 4, 5, 6], [], rfl, ?_, ?_⟩
                · repeat' apply And.intro
                  all_goals first
                    | exact True.intro
                    | rfl
                    | exact Nat.le_refl _
                    | decide +kernel
                    | omega
                    | trace_state
                · exact ⟨⟨rfl, rfl, rfl, rfl, trivial⟩, ⟨rfl, rfl, rfl, rfl, trivial⟩, ⟨rfl, ⟨rfl, rfl⟩, ⟨rfl, rfl⟩, rfl, trivial⟩, ⟨rfl, rfl, rfl, rfl, trivial⟩, ⟨rfl, rfl, rfl, rfl, trivial⟩, ⟨rfl, ⟨rfl, rfl⟩, ⟨rfl, rfl⟩, rfl, trivial⟩, ⟨rfl, rfl, rfl, rfl, trivial⟩, trivial⟩
          · have hie : ¬ i < 100 := by simp at hlt2; omega
            conv => whnf
            subst hK
            conv => whnf
            rw [e5]
            refine ⟨?_, fun _ => ?_, fun h => ?_⟩
            · repeat' apply And.intro
              all_goals first
                | exact True.intro
                | exact R.U
                | exact ht
                | exact R.tnil
                | omega
                | omega
                | decide +kernel
                | rfl
                | exact Nat.le_of_ble_eq_true rfl
                | (dsimp only; omega)
                | trace_state
            · conv => whnf
              refine ⟨?_, fun _ => ?_, fun h => ?_⟩
              · repeat' apply And.intro
                all_goals first
                  | exact True.intro
                  | omega
                  | decide +kernel
                  | rfl
                  | exact Nat.le_of_ble_eq_true rfl
                  | (dsimp only; omega)
                  | trace_state
              · conv => whnf
                rw [ftt]
                refine ⟨?_, rfl, [0, 1], [], rfl, ⟨rfl, trivial⟩, ⟨rfl, rfl, rfl, rfl, trivial⟩, ⟨rfl, rfl, rfl, rfl, trivial⟩, trivial⟩
                repeat' apply And.intro
                all_goals first
                  | exact True.intro
                  | exact R.U
                  | exact ht
                  | omega
                  | decide +kernel
                  | rfl
                  | exact Nat.le_of_ble_eq_true rfl
                  | (dsimp only; omega)
                  | trace_state
              · simp at h
            · simp at h
        · have hie : ¬ i < b := by simp at hlt; omega
          conv => whnf
          subst hK
          conv => whnf
          rw [e5]
          refine ⟨?_, fun _ => ?_, fun h => ?_⟩
          · repeat' apply And.intro
            all_goals first
              | exact True.intro
              | exact R.U
              | exact ht
              | exact R.tnil
              | omega
              | omega
              | decide +kernel
              | rfl
              | exact Nat.le_of_ble_eq_true rfl
              | (dsimp only; omega)
              | trace_state
          · conv => whnf
            refine ⟨?_, fun _ => ?_, fun h => ?_⟩
            · repeat' apply And.intro
              all_goals first
                | exact True.intro
                | omega
                | decide +kernel
                | rfl
                | exact Nat.le_of_ble_eq_true rfl
                | (dsimp only; omega)
                | trace_state
            · conv => whnf
              rw [ftt]
              refine ⟨?_, rfl, [0, 1], [], rfl, ⟨rfl, trivial⟩, ⟨rfl, rfl, rfl, rfl, trivial⟩, ⟨rfl, rfl, rfl, rfl, trivial⟩, trivial⟩
              repeat' apply And.intro
              all_goals first
                | exact True.intro
                | exact R.U
                | exact ht
                | omega
                | decide +kernel
                | rfl
                | exact Nat.le_of_ble_eq_true rfl
                | (dsimp only; omega)
                | trace_state
            · simp at h
          · simp at h
    · have hie : ¬ i < a := by simp at hlt; omega
      conv => whnf
      subst hK
      conv => whnf
      refine ⟨?_, fun h => ?_, fun _ => ?_⟩
      · repeat' apply And.intro
        all_goals first
          | exact True.intro
          | exact hz1
          | omega
          | decide +kernel
          | rfl
          | exact Nat.le_of_ble_eq_true rfl
          | (dsimp only; omega)
          | trace_state
      · simp at h
      conv => whnf
      refine ⟨?_, { i : Nat // i ≤ b ∧ i ≤ 100 }, fun q => ⟨(.any :: .any :: .v (.one (.sl 1 0 b 1)) :: .any :: .any :: .any :: .any :: .any :: .v (.one (.int .i64 n)) :: .v (.one (.ptr 2 0)) :: .v (.one (.sl 4 0 A.length 1)) :: .v (.one (.int .u64 t)) :: .any :: .any :: .v (.one (.ptr 5 0)) :: .v (.one (.int .i64 q.1)) :: .any :: .any :: .any :: .any :: .any :: .any :: .any :: .any :: .any :: .any :: .any :: .any :: .any :: .any :: .any :: .any :: .any :: .any :: .any :: .any :: .any :: .any :: .any :: .any :: .any :: .any :: .any :: .any :: .any :: .any :: .any :: .any :: .any :: .any :: .any :: .any :: .any :: .any :: .any :: .any :: .any :: .any :: .any :: .any :: .any :: .any :: .any :: .any :: .any :: .any :: .any :: .any :: .any :: .any :: .any :: .any :: .any :: .any :: .any :: .any :: .any :: .any :: .any :: .any :: .any :: .any :: .any :: .any :: .any :: .any :: .any :: .any :: .any :: .any :: .any :: .any :: .any :: .any :: .any :: .any :: .any :: .any :: .any :: .any :: .any :: .any :: .any :: .any :: .any :: .any :: .any :: .any :: .any :: .any :: .any :: .any :: .any :: .any :: .any :: .any :: .any :: .any :: .any :: .any :: .any :: .any :: .any :: .any :: .any :: .any :: .any :: .any :: .any :: .any :: .any :: .any :: .any :: .any :: .any :: .any :: .any :: .any :: .any :: .any :: .any :: .any :: .any :: .any :: .any :: .any :: .any :: .any :: .any :: []), [.view 1 [.ints .u64 L a], .view 1 [.ints .u64 Q b], .own 0 [.c (.int .i64 n), .c (.int .u64 t), .c (.sl 3 0 l.length 1)], .own 1 [.ints .u64 l l.length], .own 1 [.ints .u64 A A.length], .own 0 [.c (.int .i64 n), .c (.int .u64 t), .c (.sl 6 0 l.length 1)], .own 1 [.ints .u64 l l.length]]⟩, fun q => 100 - q.1, ⟨0, by omega, by omega⟩, ?_, fun _ => rfl, ?_⟩
      · trivial
      · refine ⟨[0, 1, 2, 3, 4, 5, 6], [], rfl, ?_, ?_⟩
        · repeat' apply And.intro
          all_goals first
            | exact True.intro
            | rfl
            | exact Nat.le_refl _
            | decide +kernel
            | omega
            | trace_state
        · exact ⟨⟨rfl, rfl, rfl, rfl, trivial⟩, ⟨rfl, rfl, rfl, rfl, trivial⟩, ⟨rfl, ⟨rfl, rfl⟩, ⟨rfl, rfl⟩, rfl, trivial⟩, ⟨rfl, rfl, rfl, rfl, trivial⟩, ⟨rfl, rfl, rfl, rfl, trivial⟩, ⟨rfl, ⟨rfl, imx⟩, ⟨rfl, rfl⟩, rfl, trivial⟩, ⟨rfl, rfl, rfl, rfl, trivial⟩, trivial⟩
      rintro ⟨i, hi, hi1⟩
      show run tab env12 2 _ ⟨(.any :: .any :: .v (.one (.sl 1 0 b 1)) :: .any :: .any :: .any :: .any :: .any :: .v (.one (.int .i64 n)) :: .v (.one (.ptr 2 0)) :: .v (.one (.sl 4 0 A.length 1)) :: .v (.one (.int .u64 t)) :: .any :: .any :: .v (.one (.ptr 5 0)) :: .v (.one (.int .i64 i)) :: .any :: .any :: .any :: .any :: .any :: .any :: .any :: .any :: .any :: .any :: .any :: .any :: .any :: .any :: .any :: .any :: .any :: .any :: .any :: .any :: .any :: .any :: .any :: .any :: .any :: .any :: .any :: .any :: .any :: .any :: .any :: .any :: .any :: .any :: .any :: .any :: .any :: .any :: .any :: .any :: .any :: .any :: .any :: .any :: .any :: .any :: .any :: .any :: .any :: .any :: .any :: .any :: .any :: .any :: .any :: .any :: .any :: .any :: .any :: .any :: .any :: .any :: .any :: .any :: .any :: .any :: .any :: .any :: .any :: .any :: .any :: .any :: .any :: .any :: .any :: .any :: .any :: .any :: .any :: .any :: .any :: .any :: .any :: .any :: .any :: .any :: .any :: .any :: .any :: .any :: .any :: .any :: .any :: .any :: .any :: .any :: .any :: .any :: .any :: .any :: .any :: .any :: .any :: .any :: .any :: .any :: .any :: .any :: .any :: .any :: .any :: .any :: .any :: .any :: .any :: .any :: .any :: .any :: .any :: .any :: .any :: .any :: .any :: .any :: .any :: .any :: .any :: .any :: .any :: .any :: .any :: .any :: .any :: []), [.view 1 [.ints .u64 L a], .view 1 [.ints .u64 Q b], .own 0 [.c (.int .i64 n), .c (.int .u64 t), .c (.sl 3 0 l.length 1)], .own 1 [.ints .u64 l l.length], .own 1 [.ints .u64 A A.length], .own 0 [.c (.int .i64 n), .c (.int .u64 t), .c (.sl 6 0 l.length 1)], .own 1 [.ints .u64 l l.length]]⟩ _ _
      refine run_K (P := fun K => run tab env12 2 _ ⟨_, _⟩ True K) ?_
      intro K hK
      conv => whnf
      refine ⟨trivial, fun hlt => ?_, fun hlt => ?_⟩
      · have hlt' : i < b := by simp at hlt; omega
        conv => whnf
        refine ⟨trivial, fun hlt2 => ?_, fun hlt2 => ?_⟩
        · have hlt2' : i < 100 := by simp at hlt2; omega
          have e1 : isum .i64 (i : Int) 1 = ((i + 1 : Nat) : Int) := by rw [isum, i64_in] <;> omega
          obtain ⟨y, hy⟩ : ∃ y, y = Q.getD i 0 := ⟨_, rfl⟩
          have hy0 : 0 ≤ y ∧ y ≤ 18446744073709551615 := by rw [hy]; exact h8 _ (getD_mem' (by omega))
          obtain ⟨x, hx⟩ : ∃ x, x = y.tmod 100100 := ⟨_, rfl⟩
          have hx0 : 0 ≤ x ∧ x < 100100 := by rw [hx, Int.tmod_eq_emod_of_nonneg hy0.1]; omega
          obtain ⟨U, u0, us, uE⟩ : ∃ U : Nat → Bool, U 0 = false ∧ (∀ k, k < A.length → U (k + 1) = (U k || A.getD k 0 == x)) ∧ U A.length = inA A x :=
            ⟨fun k => inA (A.take k) x, rfl, fun k hk => inA_take hk, by simp⟩
          conv => whnf
          simp only [Int.toNat_natCast, Nat.zero_add]
          rw [← hy, ← hx]
          refine ⟨?_, { k : Nat // k ≤ A.length }, fun q => ⟨(.any :: .any :: .v (.one (.sl 1 0 b 1)) :: .any :: .any :: .any :: .any :: .any :: .v (.one (.int .i64 n)) :: .v (.one (.ptr 2 0)) :: .v (.one (.sl 4 0 A.length 1)) :: .v (.one (.int .u64 t)) :: .any :: .any :: .v (.one (.ptr 5 0)) :: .v (.one (.int .i64 i)) :: .v (.one (.int .u64 x)) :: .v (.one (.bool false (U q.1))) :: .v (.one (.int .i64 q.1)) :: .any :: .any :: .any :: .any :: .any :: .any :: .any :: .any :: .any :: .any :: .any :: .any :: .any :: .any :: .any :: .any :: .any :: .any :: .any :: .any :: .any :: .any :: .any :: .any :: .any :: .any :: .any :: .any :: .any :: .any :: .any :: .any :: .any :: .any :: .any :: .any :: .any :: .any :: .any :: .any :: .any :: .any :: .any :: .any :: .any :: .any :: .any :: .any :: .any :: .any :: .any :: .any :: .any :: .any :: .any :: .any :: .any :: .any :: .any :: .any :: .any :: .any :: .any :: .any :: .any :: .any :: .any :: .any :: .any :: .any :: .any :: .any :: .any :: .any :: .any :: .any :: .any :: .any :: .any :: .any :: .any :: .any :: .any :: .any :: .any :: .any :: .any :: .any :: .any :: .any :: .any :: .any :: .any :: .any :: .any :: .any :: .any :: .any :: .any :: .any :: .any :: .any :: .any :: .any :: .any :: .any :: .any :: .any :: .any :: .any :: .any :: .any :: .any :: .any :: .any :: .any :: .any :: .any :: .any :: .any :: .any :: .any :: .any :: .any :: .any :: .any :: .any :: .any :: .any :: .any :: []), [.view 1 [.ints .u64 L a], .view 1 [.ints .u64 Q b], .own 0 [.c (.int .i64 n), .c (.int .u64 t), .c (.sl 3 0 l.length 1)], .own 1 [.ints .u64 l l.length], .own 1 [.ints .u64 A A.length], .own 0 [.c (.int .i64 n), .c (.int .u64 t), .c (.sl 6 0 l.length 1)], .own 1 [.ints .u64 l l.length]]⟩, fun q => A.length - q.1, ⟨0, by omega⟩, ?_, fun _ => rfl, ?_⟩
          · repeat' apply And.intro
            all_goals first
              | exact True.intro
              | omega
              | decide +kernel
              | rfl
              | exact Nat.le_of_ble_eq_true rfl
              | (dsimp only; omega)
              | trace_state
          · refine ⟨[0, 1, 2, 3, 4, 5, 6], [], rfl, ?_, ?_⟩
            · repeat' apply And.intro
              all_goals first
                | exact True.intro
                | rfl
                | exact u0.symm
                | trace_state
            · exact ⟨⟨rfl, rfl, rfl, rfl, trivial⟩, ⟨rfl, rfl, rfl, rfl, trivial⟩, ⟨rfl, ⟨rfl, rfl⟩, ⟨rfl, rfl⟩, rfl, trivial⟩, ⟨rfl, rfl, rfl, rfl, trivial⟩, ⟨rfl, rfl, rfl, rfl, trivial⟩, ⟨rfl, ⟨rfl, rfl⟩, ⟨rfl, rfl⟩, rfl, trivial⟩, ⟨rfl, rfl, rfl, rfl, trivial⟩, trivial⟩
          rintro ⟨k, hk⟩
          show run tab env12 2 _ ⟨(.any :: .any :: .v (.one (.sl 1 0 b 1)) :: .any :: .any :: .any :: .any :: .any :: .v (.one (.int .i64 n)) :: .v (.one (.ptr 2 0)) :: .v (.one (.sl 4 0 A.length 1)) :: .v (.one (.int .u64 t)) :: .any :: .any :: .v (.one (.ptr 5 0)) :: .v (.one (.int .i64 i)) :: .v (.one (.int .u64 x)) :: .v (.one (.bool false (U k))) :: .v (.one (.int .i64 k)) :: .any :: .any :: .any :: .any :: .any :: .any :: .any :: .any :: .any :: .any :: .any :: .any :: .any :: .any :: .any :: .any :: .any :: .any :: .any :: .any :: .any :: .any :: .any :: .any :: .any :: .any :: .any :: .any :: .any :: .any :: .any :: .any :: .any :: .any :: .any :: .any :: .any :: .any :: .any :: .any :: .any :: .any :: .any :: .any :: .any :: .any :: .any :: .any :: .any :: .any :: .any :: .any :: .any :: .any :: .any :: .any :: .any :: .any :: .any :: .any :: .any :: .any :: .any :: .any :: .any :: .any :: .any :: .any :: .any :: .any :: .any :: .any :: .any :: .any :: .any :: .any :: .any :: .any :: .any :: .any :: .any :: .any :: .any :: .any :: .any :: .any :: .any :: .any :: .any :: .any :: .any :: .any :: .any :: .any :: .any :: .any :: .any :: .any :: .any :: .any :: .any :: .any :: .any :: .any :: .any :: .any :: .any :: .any :: .any :: .any :: .any :: .any :: .any :: .any :: .any :: .any :: .any :: .any :: .any :: .any :: .any :: .any :: .any :: .any :: .any :: .any :: .any :: .any :: .any :: .any :: []), [.view 1 [.ints .u64 L a], .view 1 [.ints .u64 Q b], .own 0 [.c (.int .i64 n), .c (.int .u64 t), .c (.sl 3 0 l.length 1)], .own 1 [.ints .u64 l l.length], .own 1 [.ints .u64 A A.length], .own 0 [.c (.int .i64 n), .c (.int .u64 t), .c (.sl 6 0 l.length 1)], .own 1 [.ints .u64 l l.length]]⟩ _ _
          refine run_K (P := fun K => run tab env12 2 _ ⟨_, _⟩ True K) ?_
          intro K hK
          conv => whnf
          refine ⟨trivial, fun hkl => ?_, fun hkl => ?_⟩
          · have hkl' : k < A.length := by simp at hkl; omega
            have e2 : isum .i64 (k : Int) 1 = ((k + 1 : Nat) : Int) := by rw [isum, i64_in] <;> omega
            have hus := us k hkl'
            conv => whnf
            refine ⟨trivial, fun hu => ?_, fun hu => ?_⟩
            · conv => whnf
              rw [e2]
              subst hK
              change _ ∧ _
              refine ⟨trivial, ⟨k + 1, by omega⟩, by show A.length - (k + 1) < A.length - k; omega, [0, 1, 2, 3, 4, 5, 6], [], rfl, ?_, ?_⟩
              · repeat' apply And.intro
                all_goals first
                  | exact True.intro
                  | rfl
                  | (show true = U (k + 1); rw [hus, hu]; rfl)
                  | trace_state
              · exact ⟨⟨rfl, rfl, rfl, rfl, trivial⟩, ⟨rfl, rfl, rfl, rfl, trivial⟩, ⟨rfl, ⟨rfl, rfl⟩, ⟨rfl, rfl⟩, rfl, trivial⟩, ⟨rfl, rfl, rfl, rfl, trivial⟩, ⟨rfl, rfl, rfl, rfl, trivial⟩, ⟨rfl, ⟨rfl, rfl⟩, ⟨rfl, rfl⟩, rfl, trivial⟩, ⟨rfl, rfl, rfl, rfl, trivial⟩, trivial⟩
            · conv => whnf
              simp only [Int.toNat_natCast, Nat.zero_add]
              rw [e2]
              subst hK
              change _ ∧ _
              refine ⟨?_, ⟨k + 1, by omega⟩, by show A.length - (k + 1) < A.length - k; omega, [0, 1, 2, 3, 4, 5, 6], [], rfl, ?_, ?_⟩
              · repeat' apply And.intro
                all_goals first
                  | exact True.intro
                  | omega
                  | decide +kernel
                  | rfl
                  | exact Nat.le_of_ble_eq_true rfl
                  | (dsimp only; omega)
                  | trace_state
              · repeat' apply And.intro
                all_goals first
                  | exact True.intro
                  | rfl
                  | (show _ = U (k + 1); rw [hus, hu]; rfl)
                  | trace_state
              · exact ⟨⟨rfl, rfl, rfl, rfl, trivial⟩, ⟨rfl, rfl, rfl, rfl, trivial⟩, ⟨rfl, ⟨rfl, rfl⟩, ⟨rfl, rfl⟩, rfl, trivial⟩, ⟨rfl, rfl, rfl, rfl, trivial⟩, ⟨rfl, rfl, rfl, rfl, trivial⟩, ⟨rfl, ⟨rfl, rfl⟩, ⟨rfl, rfl⟩, rfl, trivial⟩, ⟨rfl, rfl, rfl, rfl, trivial⟩, trivial⟩
          · have hkl' : k = A.length := by simp at hkl; omega
            have hw := want_eq R hz1.1 hx0.1 (by omega)
            rw [← uE, ← hkl'] at hw
            have d1 : idif .u64 t 1 = t - 1 ∨ t = 0 := by
              by_cases e : t = 0
              · exact .inr e
              · left; rw [idif, IntWalk.u64_in]; omega
            conv => whnf
            subst hK
            conv => whnf
            refine ⟨trivial, fun hu => ?_, fun hu => ?_⟩
            · have hu' : U k = false := by simpa using hu
              rw [hu', Bool.not_false, Bool.true_and] at hw
              conv => whnf
              refine ⟨trivial, fun hxt => ?_, fun hxt => ?_⟩
              · have hF : freshW 18446744073709551615 n t l x = true := by rw [hw, hxt]; rfl
                conv => whnf
                rw [hF]
                refine ⟨?_, fun h => ?_, fun _ => ?_⟩
                · repeat' apply And.intro
                  all_goals first
                    | exact True.intro
                    | exact R.U
                    | exact ht
                    | omega
                    | omega
                    | decide +kernel
                    | rfl
                    | exact Nat.le_of_ble_eq_true rfl
                    | (dsimp only; omega)
                    | trace_state
                · simp at h
                conv => whnf
                rw [imx, hF]
                refine ⟨?_, fun h => ?_, fun _ => ?_⟩
                · repeat' apply And.intro
                  all_goals first
                    | exact True.intro
                    | exact R.U
                    | exact ht
                    | omega
                    | omega
                    | decide +kernel
                    | rfl
                    | exact Nat.le_of_ble_eq_true rfl
                    | (dsimp only; omega)
                    | trace_state
                · simp at h
                conv => whnf
                rw [e1]
                subst hK
                change _ ∧ _
                refine ⟨trivial, ⟨i + 1, by omega, by omega⟩, by show 100 - (i + 1) < 100 - i; omega, [0, 1, 2, 3, 4, 5, 6], [], rfl, ?_, ?_⟩
                · repeat' apply And.intro
                  all_goals first
                    | exact True.intro
                    | rfl
                    | exact Nat.le_refl _
                    | decide +kernel
                    | omega
                    | trace_state
                · exact ⟨⟨rfl, rfl, rfl, rfl, trivial⟩, ⟨rfl, rfl, rfl, rfl, trivial⟩, ⟨rfl, ⟨rfl, rfl⟩, ⟨rfl, rfl⟩, rfl, trivial⟩, ⟨rfl, rfl, rfl, rfl, trivial⟩, ⟨rfl, rfl, rfl, rfl, trivial⟩, ⟨rfl, ⟨rfl, rfl⟩, ⟨rfl, rfl⟩, rfl, trivial⟩, ⟨rfl, rfl, rfl, rfl, trivial⟩, trivial⟩
              · have hxt' : ¬ x ≥ t := by simpa using hxt
                have hF : freshW 18446744073709551615 n t l x = decide (t - 1 - x < n) := by rw [hw, hxt]; rfl
                have g1 : idif .u64 t 1 = t - 1 := by rw [idif, IntWalk.u64_in]; omega
                have g2 : idif .u64 (t - 1) x = t - 1 - x := by rw [idif, IntWalk.u64_in]; omega
                have g3 : conv .u64 n = n := by rw [conv, IntWalk.u64_in]; omega
                conv => whnf
                rw [g1, g2, g3]
                rw [hF]
                refine ⟨?_, fun h => ?_, fun _ => ?_⟩
                · repeat' apply And.intro
                  all_goals first
                    | exact True.intro
                    | exact R.U
                    | exact ht
                    | omega
                    | omega
                    | decide +kernel
                    | rfl
                    | exact Nat.le_of_ble_eq_true rfl
                    | (dsimp only; omega)
                    | trace_state
                · simp at h
                conv => whnf
                rw [imx, hF]
                refine ⟨?_, fun h => ?_, fun _ => ?_⟩
                · repeat' apply And.intro
                  all_goals first
                    | exact True.intro
                    | exact R.U
                    | exact ht
                    | omega
                    | omega
                    | decide +kernel
                    | rfl
                    | exact Nat.le_of_ble_eq_true rfl
                    | (dsimp only; omega)
                    | trace_state
                · simp at h
                conv => whnf
                rw [e1]
                subst hK
                change _ ∧ _
                refine ⟨trivial, ⟨i + 1, by omega, by omega⟩, by show 100 - (i + 1) < 100 - i; omega, [0, 1, 2, 3, 4, 5, 6], [], rfl, ?_, ?_⟩
                · repeat' apply And.intro
                  all_goals first
                    | exact True.intro
                    | rfl
                    | exact Nat.le_refl _
                    | decide +kernel
                    | omega
                    | trace_state
                · exact ⟨⟨rfl, rfl, rfl, rfl, trivial⟩, ⟨rfl, rfl, rfl, rfl, trivial⟩, ⟨rfl, ⟨rfl, rfl⟩, ⟨rfl, rfl⟩, rfl, trivial⟩, ⟨rfl, rfl, rfl, rfl, trivial⟩, ⟨rfl, rfl, rfl, rfl, trivial⟩, ⟨rfl, ⟨rfl, rfl⟩, ⟨rfl, rfl⟩, rfl, trivial⟩, ⟨rfl, rfl, rfl, rfl, trivial⟩, trivial⟩
            · have hu' : U k = true := by simpa using hu
              have hF : freshW 18446744073709551615 n t l x = false := by rw [hw, hu']; rfl
              conv => whnf
              rw [hF]
              refine ⟨?_, fun h => ?_, fun _ => ?_⟩
              · repeat' apply And.intro
                all_goals first
                  | exact True.intro
                  | exact R.U
                  | exact ht
                  | omega
                  | omega
                  | decide +kernel
                  | rfl
                  | exact Nat.le_of_ble_eq_true rfl
                  | (dsimp only; omega)
                  | trace_state
              · simp at h
              conv => whnf
              rw [imx, hF]
              refine ⟨?_, fun h => ?_, fun _ => ?_⟩
              · repeat' apply And.intro
                all_goals first
                  | exact True.intro
                  | exact R.U
                  | exact ht
                  | omega
                  | omega
                  | decide +kernel
                  | rfl
                  | exact Nat.le_of_ble_eq_true rfl
                  | (dsimp only; omega)
                  | trace_state
              · simp at h
              conv => whnf
              rw [e1]
              subst hK
              change _ ∧ _
              refine ⟨trivial, ⟨i + 1, by omega, by omega⟩, by show 100 - (i + 1) < 100 - i; omega, [0, 1, 2, 3, 4, 5, 6], [], rfl, ?_, ?_⟩
              · repeat' apply And.intro
                all_goals first
                  | exact True.intro
                  | rfl
                  | exact Nat.le_refl _
                  | decide +kernel
                  | omega
                  | trace_state
              · exact ⟨⟨rfl, rfl, rfl, rfl, trivial⟩, ⟨rfl, rfl, rfl, rfl, trivial⟩, ⟨rfl, ⟨rfl, rfl⟩, ⟨rfl, rfl⟩, rfl, trivial⟩, ⟨rfl, rfl, rfl, rfl, trivial⟩, ⟨rfl, rfl, rfl, rfl, trivial⟩, ⟨rfl, ⟨rfl, rfl⟩, ⟨rfl, rfl⟩, rfl, trivial⟩, ⟨rfl, rfl, rfl, rfl, trivial⟩, trivial⟩
        · have hie : ¬ i < 100 := by simp at hlt2; omega
          conv => whnf
          subst hK
          conv => whnf
          rw [e5]
          refine ⟨?_, fun _ => ?_, fun h => ?_⟩
          · repeat' apply And.intro
            all_goals first
              | exact True.intro
              | exact R.U
              | exact ht
              | exact R.tnil
              | omega
              | omega
              | decide +kernel
              | rfl
              | exact Nat.le_of_ble_eq_true rfl
              | (dsimp only; omega)
              | trace_state
          · conv => whnf
            refine ⟨?_, fun _ => ?_, fun h => ?_⟩
            · repeat' apply And.intro
              all_goals first
                | exact True.intro
                | omega
                | decide +kernel
                | rfl
                | exact Nat.le_of_ble_eq_true rfl
                | (dsimp only; omega)
                | trace_state
            · conv => whnf
              rw [ftt]
              refine ⟨?_, rfl, [0, 1], [], rfl, ⟨rfl, trivial⟩, ⟨rfl, rfl, rfl, rfl, trivial⟩, ⟨rfl, rfl, rfl, rfl, trivial⟩, trivial⟩
              repeat' apply And.intro
              all_goals first
                | exact True.intro
                | exact R.U
                | exact ht
                | omega
                | decide +kernel
                | rfl
                | exact Nat.le_of_ble_eq_true rfl
                | (dsimp only; omega)
                | trace_state
            · simp at h
          · simp at h
      · have hie : ¬ i < b := by simp at hlt; omega
        conv => whnf
        subst hK
        conv => whnf
        rw [e5]
        refine ⟨?_, fun _ => ?_, fun h => ?_⟩
        · repeat' apply And.intro
          all_goals first
            | exact True.intro
            | exact R.U
            | exact ht
            | exact R.tnil
            | omega
            | omega
            | decide +kernel
            | rfl
            | exact Nat.le_of_ble_eq_true rfl
            | (dsimp only; omega)
            | trace_state
        · conv => whnf
          refine ⟨?_, fun _ => ?_, fun h => ?_⟩
          · repeat' apply And.intro
            all_goals first
              | exact True.intro
              | omega
              | decide +kernel
              | rfl
              | exact Nat.le_of_ble_eq_true rfl
              | (dsimp only; omega)
              | trace_state
          · conv => whnf
            rw [ftt]
            refine ⟨?_, rfl, [0, 1], [], rfl, ⟨rfl, trivial⟩, ⟨rfl, rfl, rfl, rfl, trivial⟩, ⟨rfl, rfl, rfl, rfl, trivial⟩, trivial⟩
            repeat' apply And.intro
            all_goals first
              | exact True.intro
              | exact R.U
              | exact ht
              | omega
              | decide +kernel
              | rfl
              | exact Nat.le_of_ble_eq_true rfl
              | (dsimp only; omega)
              | trace_state
          · simp at h
        · simp at h
  · cases hr
end Go.Proofs.Ytjbagkimpmpfgaa

