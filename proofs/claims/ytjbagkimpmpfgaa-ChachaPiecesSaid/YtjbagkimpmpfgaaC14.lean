/- Chacha: the document's stream, walked. -/
import Derived.Test.YtjbagkimpmpfgaaC13
namespace Go.Proofs.Ytjbagkimpmpfgaa
open Go Go.Mx
set_option maxRecDepth 100000
set_option maxHeartbeats 4000000

def c37 : Ctr := fun args objs => match args, objs with
  | [.agg [.ints .u8 k 32], .one (.int .u32 c), .agg [.ints .u8 n 12], .one (.str s)], [] => some ⟨[allB k, k.length = 32, isW c, allB n, n.length = 12, s.size ≤ 9223372036854775807], .v (.one (.str (ofL (streamI k c n (bl s))))), [], []⟩
  | _, _ => none
theorem m37 : Meets Try.prog 37 c37 := by
  refine meets_of_run2 tab_ok envP_ok mixed [.tmp 8] Try.func37 rfl Try.ntmps37 Try.call37 (fun t w => by simp [results, Try.results37, resS, rv1]) ?_
  intro args objs r hr hcs
  unfold c37 at hr
  split at hr
  · rename_i k c n s
    simp only [Option.some.injEq] at hr; subst hr
    obtain ⟨h1, h2, h3, h4, h5, h6, _⟩ := hcs
    refine ⟨rfl, ?_⟩
    conv => whnf
    obtain ⟨S, hS⟩ : ∃ S, S = s.size := ⟨_, rfl⟩
    obtain ⟨t, ht⟩ : ∃ t, t = bl s := ⟨_, rfl⟩
    have hl : t.length = S := by rw [ht, hS, bl_length]
    obtain ⟨U, hU⟩ : ∃ U, U = uptoI k c n t := ⟨_, rfl⟩
    obtain ⟨D, hD⟩ : ∃ D : Nat → Int, D = ctrI c := ⟨_, rfl⟩
    have hDW : ∀ i, isW (D i) := fun i => by rw [hD]; exact ctrI_W _ _
    have hD0 : D 0 = c := by rw [hD]; exact ctrI_zero h3
    have hD1 : ∀ i, isum .u32 (D i) 1 = D (i + 1) := fun i => by rw [hD]; exact ctrI_succ _ _
    have hU0 : U 0 = t := by rw [hU]; exact uptoI_zero _ _ _ _
    have hU1 : ∀ j q, q < 64 → 64 * j + q < S → (U (64 * j + q)).set (64 * j + q) (bxorI .u8 ((U (64 * j + q)).getD (64 * j + q) 0) ((blockI k (D j) n).getD q 0)) = U (64 * j + (q + 1)) := fun j q hq h => by
      have e : (blockI k (D j) n).getD q 0 = ksI k c n (64 * j + q) := by
        unfold ksI; rw [hD]; congr 3 <;> omega
      rw [e, hU, uptoI_get (by omega)]; exact uptoI_step (by omega)
    have hU2 : U S = streamI k c n t := by rw [hU, ← hl]; exact uptoI_all _ _ _ _
    have hUL : ∀ i, i ≤ S → (U i).length = S := fun i h => by rw [hU, uptoI_len (by omega)]; exact hl
    rw [← hS] at h6
    rw [← hS, ← ht]
    clear hU hD hS ht
    refine ⟨?_, { j : Nat // 64 * j < S + 64 }, fun j => ⟨(.any :: .v (.one (.int .u32 (D j.1))) :: .any :: .any :: .v (.one (.ptr 0 0)) :: .any :: .v (.one (.ptr 1 0)) :: .any :: .any :: .v (.one (.sl 2 0 S 1)) :: .v (.one (.int .i64 ((min (64 * j.1) S : Nat) : Int))) :: .any :: .any :: .any :: .any :: .any :: .any :: .any :: .any :: .any :: .any :: .any :: .any :: .any :: .any :: .any :: .any :: .any :: .any :: .any :: .any :: .any :: .any :: .any :: .any :: .any :: .any :: .any :: .any :: .any :: .any :: .any :: .any :: .any :: .any :: .any :: .any :: .any :: .any :: .any :: []), [.own 0 [.ints .u8 k 32], .own 0 [.ints .u8 n 12], .own 1 [.ints .u8 (U (min (64 * j.1) S)) S]]⟩, fun j => S + 64 - 64 * j.1, ⟨0, by omega⟩, ?_, fun _ => rfl, ?_⟩
    · repeat' apply And.intro
      all_goals first
        | exact True.intro
        | omega
        | decide +kernel
        | rfl
        | exact Nat.le_of_ble_eq_true rfl
        | (dsimp only; omega)
        | trace_state
    · refine ⟨[0, 1, 2], [], rfl, ?_, ?_⟩
      · repeat' apply And.intro
        all_goals first
          | exact True.intro
          | rfl
          | exact hD0.symm
          | (simp; done)
          | trace_state
      · refine ⟨⟨rfl, rfl, rfl, rfl, trivial⟩, ⟨rfl, rfl, rfl, rfl, trivial⟩, ⟨rfl, rfl, ?_, rfl, trivial⟩, trivial⟩
        rw [Nat.mul_zero, Nat.zero_min]; exact hU0.symm
    rintro ⟨j, hj⟩
    obtain ⟨i, hi⟩ : ∃ i, i = min (64 * j) S := ⟨_, rfl⟩
    show run tab envP 0 _ ⟨(.any :: .v (.one (.int .u32 (D j))) :: .any :: .any :: .v (.one (.ptr 0 0)) :: .any :: .v (.one (.ptr 1 0)) :: .any :: .any :: .v (.one (.sl 2 0 S 1)) :: .v (.one (.int .i64 ((min (64 * j) S : Nat) : Int))) :: .any :: .any :: .any :: .any :: .any :: .any :: .any :: .any :: .any :: .any :: .any :: .any :: .any :: .any :: .any :: .any :: .any :: .any :: .any :: .any :: .any :: .any :: .any :: .any :: .any :: .any :: .any :: .any :: .any :: .any :: .any :: .any :: .any :: .any :: .any :: .any :: .any :: .any :: .any :: []), [.own 0 [.ints .u8 k 32], .own 0 [.ints .u8 n 12], .own 1 [.ints .u8 (U (min (64 * j) S)) S]]⟩ _ _
    refine run_K (P := fun K => run tab envP 0 _ ⟨_, _⟩ True K) ?_
    intro K hK
    rw [← hi]
    conv => whnf
    refine ⟨trivial, fun hlt => ?_, fun hge => ?_⟩
    · simp only [decide_eq_true_eq] at hlt
      have hij : i = 64 * j := by omega
      subst hij
      conv => whnf
      refine ⟨?_, { q : Nat // q ≤ 64 ∧ 64 * j + q ≤ S }, fun q => ⟨(.any :: .v (.one (.int .u32 (D j))) :: .any :: .any :: .v (.one (.ptr 0 0)) :: .any :: .v (.one (.ptr 1 0)) :: .any :: .any :: .v (.one (.sl 2 0 S 1)) :: .v (.one (.int .i64 ((64 * j + q.1 : Nat) : Int))) :: .v (.one (.ptr 3 0)) :: .v (.one (.int .i64 q.1)) :: .any :: .any :: .any :: .any :: .any :: .any :: .any :: .any :: .any :: .any :: .any :: .any :: .any :: .any :: .any :: .any :: .any :: .any :: .any :: .any :: .any :: .any :: .any :: .any :: .any :: .any :: .any :: .any :: .any :: .any :: .any :: .any :: .any :: .any :: .any :: .any :: .any :: []), [.own 0 [.ints .u8 k 32], .own 0 [.ints .u8 n 12], .own 1 [.ints .u8 (U (64 * j + q.1)) S], .own 0 [.ints .u8 (blockI k (D j) n) 64]]⟩, fun q => 64 - q.1, ⟨0, by omega⟩, ?_, fun _ => rfl, ?_⟩
      · repeat' apply And.intro
        all_goals first
          | exact True.intro
          | exact h1
          | exact h2
          | exact hDW j
          | exact h4
          | exact h5
          | omega
          | decide +kernel
          | rfl
          | exact Nat.le_of_ble_eq_true rfl
          | (dsimp only; omega)
          | trace_state
      · refine ⟨[0, 1, 2, 3], [], rfl, ?_, ?_⟩
        · repeat' apply And.intro
          all_goals first
            | exact True.intro
            | rfl
            | exact Nat.le_refl _
            | decide +kernel
            | omega
            | trace_state
        · repeat' apply And.intro
          all_goals first
            | exact True.intro
            | rfl
            | exact Nat.le_refl _
            | decide +kernel
            | omega
            | trace_state
      rintro ⟨q, hq, hq2⟩
      show run tab envP 0 _ ⟨(.any :: .v (.one (.int .u32 (D j))) :: .any :: .any :: .v (.one (.ptr 0 0)) :: .any :: .v (.one (.ptr 1 0)) :: .any :: .any :: .v (.one (.sl 2 0 S 1)) :: .v (.one (.int .i64 ((64 * j + q : Nat) : Int))) :: .v (.one (.ptr 3 0)) :: .v (.one (.int .i64 q)) :: .any :: .any :: .any :: .any :: .any :: .any :: .any :: .any :: .any :: .any :: .any :: .any :: .any :: .any :: .any :: .any :: .any :: .any :: .any :: .any :: .any :: .any :: .any :: .any :: .any :: .any :: .any :: .any :: .any :: .any :: .any :: .any :: .any :: .any :: .any :: .any :: .any :: []), [.own 0 [.ints .u8 k 32], .own 0 [.ints .u8 n 12], .own 1 [.ints .u8 (U (64 * j + q)) S], .own 0 [.ints .u8 (blockI k (D j) n) 64]]⟩ _ _
      refine run_K (P := fun K => run tab envP 0 _ ⟨_, _⟩ True K) ?_
      intro K hK
      conv => whnf
      refine ⟨trivial, fun hq3 => ?_, fun hq3 => ?_⟩
      · simp only [decide_eq_true_eq] at hq3
        conv => whnf
        refine ⟨trivial, fun hlt2 => ?_, fun hge2 => ?_⟩
        · simp only [decide_eq_true_eq] at hlt2
          have e1 : isum .i64 ((64 * j + q : Nat) : Int) 1 = ((64 * j + (q + 1) : Nat) : Int) := by rw [isum, i64_in] <;> omega
          have e2 : isum .i64 (q : Int) 1 = ((q + 1 : Nat) : Int) := by rw [isum, i64_in] <;> omega
          conv => whnf
          rw [e1, e2]
          subst hK
          change _ ∧ _
          refine ⟨?_, ⟨q + 1, by omega, by omega⟩, by show 64 - (q + 1) < 64 - q; omega, [0, 1, 2, 3], [], rfl, ?_, ?_⟩
          · repeat' apply And.intro
            all_goals first
              | exact True.intro
              | (rw [Int.toNat_natCast]; omega)
              | omega
              | decide +kernel
              | rfl
              | exact Nat.le_of_ble_eq_true rfl
              | (dsimp only; omega)
              | trace_state
          · repeat' apply And.intro
            all_goals first
              | exact True.intro
              | rfl
              | exact Nat.le_refl _
              | decide +kernel
              | omega
              | trace_state
          · refine ⟨⟨rfl, rfl, rfl, rfl, trivial⟩, ⟨rfl, rfl, rfl, rfl, trivial⟩, ⟨rfl, rfl, ?_, rfl, trivial⟩, ⟨rfl, rfl, rfl, rfl, trivial⟩, trivial⟩
            simp only [Int.toNat_natCast, Nat.zero_add]
            exact hU1 j q (by omega) (by omega)
        · simp only [decide_eq_false_iff_not] at hge2
          have hend : 64 * j + q = min (64 * (j + 1)) S := by omega
          conv => whnf
          subst hK
          conv => whnf
          rw [hD1]
          subst hK
          change _ ∧ _
          refine ⟨?_, ⟨j + 1, by omega⟩, by show S + 64 - 64 * (j + 1) < S + 64 - 64 * j; omega, [0, 1, 2], [], rfl, ?_, ?_⟩
          · repeat' apply And.intro
            all_goals first
              | exact True.intro
              | omega
              | decide +kernel
              | rfl
              | exact Nat.le_of_ble_eq_true rfl
              | (dsimp only; omega)
              | trace_state
          · repeat' apply And.intro
            all_goals first
              | exact True.intro
              | rfl
              | exact congrArg (fun x : Nat => (x : Int)) hend
              | trace_state
          · exact ⟨⟨rfl, rfl, rfl, rfl, trivial⟩, ⟨rfl, rfl, rfl, rfl, trivial⟩, ⟨rfl, rfl, congrArg U hend, rfl, trivial⟩, trivial⟩
      · simp only [decide_eq_false_iff_not] at hq3
        have hend : 64 * j + q = min (64 * (j + 1)) S := by omega
        conv => whnf
        subst hK
        conv => whnf
        rw [hD1]
        subst hK
        change _ ∧ _
        refine ⟨?_, ⟨j + 1, by omega⟩, by show S + 64 - 64 * (j + 1) < S + 64 - 64 * j; omega, [0, 1, 2], [], rfl, ?_, ?_⟩
        · repeat' apply And.intro
          all_goals first
            | exact True.intro
            | omega
            | decide +kernel
            | rfl
            | exact Nat.le_of_ble_eq_true rfl
            | (dsimp only; omega)
            | trace_state
        · repeat' apply And.intro
          all_goals first
            | exact True.intro
            | rfl
            | exact congrArg (fun x : Nat => (x : Int)) hend
            | trace_state
        · exact ⟨⟨rfl, rfl, rfl, rfl, trivial⟩, ⟨rfl, rfl, rfl, rfl, trivial⟩, ⟨rfl, rfl, congrArg U hend, rfl, trivial⟩, trivial⟩
    · simp only [decide_eq_false_iff_not] at hge
      have : i = S := by omega
      conv => whnf
      subst hK
      conv => whnf
      have ht : List.take S (List.drop 0 (U i)) = streamI k c n t := by rw [List.drop_zero, this, List.take_of_length_le (by rw [hUL S (by omega)]; omega), hU2]
      refine ⟨?_, rfl, [], [], rfl, ⟨?_, trivial⟩, trivial⟩
      · repeat' apply And.intro
        all_goals first
          | exact True.intro
          | omega
          | decide +kernel
          | rfl
          | exact Nat.le_of_ble_eq_true rfl
          | (dsimp only; omega)
          | trace_state
      · show ofL _ = ofL _
        rw [ht]
  · cases hr
end Go.Proofs.Ytjbagkimpmpfgaa

