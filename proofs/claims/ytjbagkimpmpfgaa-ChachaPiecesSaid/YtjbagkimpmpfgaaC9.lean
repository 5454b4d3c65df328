/- Chacha: the document's functions, walked. -/
import Derived.Test.YtjbagkimpmpfgaaC8
namespace Go.Proofs.Ytjbagkimpmpfgaa
open Go Go.Mx
set_option maxRecDepth 100000
set_option maxHeartbeats 4000000

def c100 : Ctr := fun args objs => match args, objs with
  | [.one (.int .i64 x)], [] => some ⟨[isW x], .v (.one (.sl 0 0 4 1)), [], [.own 1 [.ints .u8 (four x) 4]]⟩
  | _, _ => none
theorem m100 : Meets Try.prog 100 c100 := by
  refine meets_of_run2 tab_ok env0 mixed [.tmp 2] Try.func100 rfl Try.ntmps100 Try.call100 (fun t w => by simp [results, Try.results100, resS, rv1]) ?_
  intro args objs r hr hcs
  unfold c100 at hr
  split at hr
  · rename_i x
    simp only [Option.some.injEq] at hr; subst hr
    obtain ⟨h1, _⟩ := hcs
    refine ⟨rfl, ?_⟩
    conv => whnf
    simp only [ti5, Nat.mul_one, List.replicate, List.set]
    rw [four_of h1]
    refine ⟨?_, rfl, [0], [], rfl, ⟨rfl, trivial⟩, ⟨rfl, rfl, rfl, rfl, trivial⟩, trivial⟩
    repeat' apply And.intro
    all_goals first
      | exact True.intro
      | omega
      | decide +kernel
      | rfl
      | exact Nat.le_of_ble_eq_true rfl
      | (dsimp only; omega)
      | trace_state
  · cases hr
def c141 : Ctr := fun args objs => match args, objs with
  | [.one (.sl 0 0 n 1), .one (.int .i64 at')], [.own 1 [.ints .u8 l n']] => some ⟨[n = n', l.length = n, allB l, 0 ≤ at' ∧ at' + 4 ≤ n, n < 1000000], .v (.one (.int .i64 (word4 l at'.toNat))), [], []⟩
  | _, _ => none
theorem m141 : Meets Try.prog 141 c141 := by
  refine meets_of_run2 tab_ok env0 mixed [.tmp 4] Try.func141 rfl Try.ntmps141 Try.call141 (fun t w => by simp [results, Try.results141, resS, rv1]) ?_
  intro args objs r hr hcs
  unfold c141 at hr
  split at hr
  · rename_i n a l n'
    simp only [Option.some.injEq] at hr; subst hr
    obtain ⟨h1, h2, h3, h4, h5, _⟩ := hcs
    refine ⟨rfl, ?_⟩
    conv => whnf
    subst h1
    obtain ⟨at', rfl⟩ : ∃ i : Nat, a = (i : Int) := ⟨_, (Int.toNat_of_nonneg h4.1).symm⟩
    have e1 : isum .i64 (at' : Int) 1 = ((at' + 1 : Nat) : Int) := by rw [isum, i64_in] <;> omega
    have e2 : isum .i64 (at' : Int) 2 = ((at' + 2 : Nat) : Int) := by rw [isum, i64_in] <;> omega
    have e3 : isum .i64 (at' : Int) 3 = ((at' + 3 : Nat) : Int) := by rw [isum, i64_in] <;> omega
    rw [e1, e2, e3]
    refine ⟨?_, rfl, [0], [], rfl, ⟨⟨rfl, ?_⟩, trivial⟩, ⟨rfl, rfl, rfl, rfl, trivial⟩, trivial⟩
    · repeat' apply And.intro
      all_goals first
        | exact True.intro
        | omega
        | decide +kernel
        | rfl
        | exact Nat.le_of_ble_eq_true rfl
        | (dsimp only; omega)
        | trace_state
    · simp only [Int.toNat_natCast, Nat.zero_add]
      exact sum4 (h3 _ (by omega)) (h3 _ (by omega)) (h3 _ (by omega)) (h3 _ (by omega))
  · cases hr
def c101 : Ctr := fun args objs => match args, objs with
  | [.agg [.ints .u8 k 32], .agg [.ints .u8 m 16]], [] => some ⟨[allB k, k.length = 32, allB m, m.length = 16], .v (.one (.sl 0 0 16 1)), [], [.own 1 [.ints .i64 (squareI k (fourW m)) 16]]⟩
  | _, _ => none
def envS : Env := fun f => match f with
  | 141 => some c141
  | _ => none
theorem envS_ok : EnvOk Try.prog envS := by
  intro f c h
  unfold envS at h
  split at h
  · simp only [Option.some.injEq] at h; subst h; exact m141
  · cases h
theorem m101 : Meets Try.prog 101 c101 := by
  refine meets_of_run2 tab_ok envS_ok mixed [.tmp 4] Try.func101 rfl Try.ntmps101 Try.call101 (fun t w => by simp [results, Try.results101, resS, rv1]) ?_
  intro args objs r hr hcs
  unfold c101 at hr
  split at hr
  · rename_i k m
    simp only [Option.some.injEq] at hr; subst hr
    obtain ⟨h1, h2, h3, h4, _⟩ := hcs
    refine ⟨rfl, ?_⟩
    conv => whnf
    simp only [ti5, Nat.mul_one, List.replicate, List.set]
    have hLL : (consB ++ k ++ m).length = 64 := by rw [List.length_append, List.length_append, h2, h4]; rfl
    have hLB : allB (consB ++ k ++ m) := allB_app (allB_app consB_B h1) h3
    have hE : wordsI (consB ++ k ++ m) 16 = squareI k (fourW m) := square_words h2
    have tk : List.take 32 (List.drop 0 k) = k := by rw [List.drop_zero, List.take_of_length_le (by omega)]
    have tm : List.take 16 (List.drop 0 m) = m := by rw [List.drop_zero, List.take_of_length_le (by omega)]
    refine ⟨?_, { i : Nat // i ≤ 16 }, fun i => ⟨(.any :: .any :: .any :: .any :: .any :: .v (.one (.sl 0 0 64 1)) :: .v (.one (.sl 1 0 i.1 1)) :: .v (.one (.int .i64 i.1)) :: .any :: .any :: .any :: .any :: .any :: .any :: .any :: .any :: .any :: .any :: .any :: .any :: .any :: .any :: .any :: .any :: .any :: .any :: .any :: []), [.own 1 [.ints .u8 (consB ++ k ++ m) 64], .own 1 [.ints .i64 (wordsI (consB ++ k ++ m) i.1) i.1]]⟩, fun i => 16 - i.1, ⟨0, by omega⟩, ?_, fun _ => rfl, ?_⟩
    · repeat' apply And.intro
      all_goals first
        | exact True.intro
        | omega
        | decide +kernel
        | rfl
        | exact Nat.le_of_ble_eq_true rfl
        | (dsimp only; omega)
        | trace_state
    · refine ⟨[4, 5], [(1, [.ints .i64 [] 0])], rfl, ?_, ?_⟩
      · repeat' apply And.intro
        all_goals first
          | exact True.intro
          | rfl
          | exact Nat.le_refl _
          | decide +kernel
          | omega
          | trace_state
      · refine ⟨⟨rfl, rfl, ?_, rfl, trivial⟩, ⟨rfl, rfl, rfl, rfl, trivial⟩, trivial⟩
        show [101, 120, 112, 97, 110, 100, 32, 51, 50, 45, 98, 121, 116, 101, 32, 107] ++ List.take 32 (List.drop 0 k) ++ List.take 16 (List.drop 0 m) = _
        rw [tk, tm]
        rfl
    · rintro ⟨i, hi⟩
      rw [← hE]
      generalize consB ++ k ++ m = L at hLL hLB ⊢
      show run tab envS 0 _ ⟨(.any :: .any :: .any :: .any :: .any :: .v (.one (.sl 0 0 64 1)) :: .v (.one (.sl 1 0 i 1)) :: .v (.one (.int .i64 i)) :: .any :: .any :: .any :: .any :: .any :: .any :: .any :: .any :: .any :: .any :: .any :: .any :: .any :: .any :: .any :: .any :: .any :: .any :: .any :: []), [.own 1 [.ints .u8 L 64], .own 1 [.ints .i64 (wordsI L i) i]]⟩ _ _
      refine run_K (P := fun K => run tab envS 0 _ ⟨_, _⟩ True K) ?_
      intro K hK
      conv => whnf
      refine ⟨trivial, fun hlt => ?_, fun hge => ?_⟩
      · simp only [decide_eq_true_eq] at hlt
        have e2 : imul .i64 4 (i : Int) = ((4 * i : Nat) : Int) := by rw [imul, i64_in] <;> omega
        have e3 : isum .i64 (i : Int) 1 = ((i + 1 : Nat) : Int) := by rw [isum, i64_in] <;> omega
        conv => whnf
        rw [e2, e3]
        subst hK
        change _ ∧ _
        refine ⟨?_, ⟨i + 1, by omega⟩, by show 16 - (i + 1) < 16 - i; omega, [0, 3], [], rfl, ?_, ?_⟩
        · repeat' apply And.intro
          all_goals first
            | exact True.intro
            | exact hLB
            | exact hLL
            | (show i + 1 ≤ 9223372036854775807; omega)
            | (show (i + 1) * 8 ≤ 140737488355328; omega)
            | (show i * 1 = i + 0; omega)
            | omega
            | decide +kernel
            | rfl
            | exact Nat.le_of_ble_eq_true rfl
            | (dsimp only; omega)
            | trace_state
        · repeat' apply And.intro
          all_goals first
            | exact True.intro
            | rfl
            | exact Nat.le_refl _
            | decide +kernel
            | omega
            | trace_state
        · refine ⟨⟨rfl, rfl, rfl, rfl, trivial⟩, ⟨rfl, rfl, ?_, rfl, trivial⟩, trivial⟩
          show wordsI L i ++ [word4 L (4 * i)] = wordsI L (i + 1)
          rw [wordsI_snoc]
      · simp only [decide_eq_false_iff_not] at hge
        have : i = 16 := by omega
        subst this
        conv => whnf
        subst hK
        conv => whnf
        refine ⟨?_, rfl, [1], [], rfl, ⟨rfl, trivial⟩, ⟨rfl, rfl, rfl, rfl, trivial⟩, trivial⟩
        repeat' apply And.intro
        all_goals first
          | exact True.intro
          | omega
          | decide +kernel
          | rfl
          | exact Nat.le_of_ble_eq_true rfl
          | (dsimp only; omega)
          | trace_state
  · cases hr
def c102 : Ctr := fun args objs => match args, objs with
  | [.one (.sl 0 0 n 1)], [.own 1 [.ints .i64 l 16]] => some ⟨[n = 16, allW l, l.length = 16], .v (.one (.sl 1 0 16 1)), [], [.own 1 [.ints .i64 (iter dbl 10 l) 16]]⟩
  | _, _ => none
def envT : Env := fun f => match f with
  | 29 => some c29
  | _ => none
theorem envT_ok : EnvOk Try.prog envT := by
  intro f c h
  unfold envT at h
  split at h
  · simp only [Option.some.injEq] at h; subst h; exact m29
  · cases h
theorem m102 : Meets Try.prog 102 c102 := by
  refine meets_of_run2 tab_ok envT_ok mixed [.tmp 2] Try.func102 rfl Try.ntmps102 Try.call102 (fun t w => by simp [results, Try.results102, resS, rv1]) ?_
  intro args objs r hr hcs
  unfold c102 at hr
  split at hr
  · rename_i n l
    simp only [Option.some.injEq] at hr; subst hr
    obtain ⟨h1, h2, h3, _⟩ := hcs
    refine ⟨rfl, ?_⟩
    conv => whnf
    subst h1
    have tl : List.take 16 (List.drop 0 l) = l := by rw [List.drop_zero, List.take_of_length_le (by omega)]
    refine ⟨?_, { i : Nat // i ≤ 10 }, fun i => ⟨(.v (.one (.sl 1 0 16 1)) :: .any :: .any :: .v (.one (.int .i64 i.1)) :: .any :: .any :: .any :: .any :: .any :: .any :: .any :: .any :: .any :: .any :: .any :: .any :: .any :: .any :: .any :: .any :: .any :: .any :: .any :: .any :: .any :: .any :: .any :: .any :: .any :: .any :: .any :: .any :: .any :: .any :: .any :: .any :: .any :: .any :: .any :: .any :: .any :: .any :: .any :: .any :: .any :: .any :: []), [.own 1 [.ints .i64 l 16], .own 1 [.ints .i64 (iter dbl i.1 l) 16]]⟩, fun i => 10 - i.1, ⟨0, by omega⟩, ?_, fun _ => rfl, ?_⟩
    · repeat' apply And.intro
      all_goals first
        | exact True.intro
        | omega
        | decide +kernel
        | rfl
        | exact Nat.le_of_ble_eq_true rfl
        | (dsimp only; omega)
        | trace_state
    · refine ⟨[0, 2], [], rfl, ?_, ?_⟩
      · repeat' apply And.intro
        all_goals first
          | exact True.intro
          | rfl
          | exact Nat.le_refl _
          | decide +kernel
          | omega
          | trace_state
      · refine ⟨⟨rfl, rfl, rfl, rfl, trivial⟩, ⟨rfl, rfl, ?_, rfl, trivial⟩, trivial⟩
        exact tl
    · rintro ⟨i, hi⟩
      have hW := iter_W i h2
      have hL := (iter_len i l).trans h3
      have hS : iter dbl (i + 1) l = dbl (iter dbl i l) := rfl
      have hT : i = 10 → iter dbl 10 l = iter dbl i l := fun h => by rw [h]
      show run tab envT 1 _ ⟨(.v (.one (.sl 1 0 16 1)) :: .any :: .any :: .v (.one (.int .i64 i)) :: .any :: .any :: .any :: .any :: .any :: .any :: .any :: .any :: .any :: .any :: .any :: .any :: .any :: .any :: .any :: .any :: .any :: .any :: .any :: .any :: .any :: .any :: .any :: .any :: .any :: .any :: .any :: .any :: .any :: .any :: .any :: .any :: .any :: .any :: .any :: .any :: .any :: .any :: .any :: .any :: .any :: .any :: []), [.own 1 [.ints .i64 l 16], .own 1 [.ints .i64 (iter dbl i l) 16]]⟩ _ _
      refine run_K (P := fun K => run tab envT 1 _ ⟨_, _⟩ True K) ?_
      intro K hK
      generalize iter dbl i l = m at hW hL hS hT ⊢
      conv => whnf
      refine ⟨trivial, fun hlt => ?_, fun hge => ?_⟩
      · simp only [decide_eq_true_eq] at hlt
        conv => whnf
        obtain ⟨h, g, h0, hs, g0, gs, g4, hW1, hL1, hW2, hL2⟩ := halves hW hL
        refine ⟨?_, { k : Nat // k ≤ 4 }, fun k => ⟨(.v (.one (.sl 1 0 16 1)) :: .any :: .any :: .v (.one (.int .i64 i)) :: .v (.one (.int .i64 k.1)) :: .any :: .any :: .any :: .any :: .any :: .any :: .any :: .any :: .any :: .any :: .any :: .any :: .any :: .any :: .any :: .any :: .any :: .any :: .any :: .any :: .any :: .any :: .any :: .any :: .any :: .any :: .any :: .any :: .any :: .any :: .any :: .any :: .any :: .any :: .any :: .any :: .any :: .any :: .any :: .any :: .any :: []), [.own 1 [.ints .i64 l 16], .own 1 [.ints .i64 (h k.1) 16]]⟩, fun k => 4 - k.1, ⟨0, by omega⟩, ?_, fun _ => rfl, ?_⟩
        · trivial
        · refine ⟨[0, 1], [], rfl, ?_, ?_⟩
          · repeat' apply And.intro
            all_goals first
              | exact True.intro
              | rfl
              | exact Nat.le_refl _
              | decide +kernel
              | omega
              | trace_state
          · exact ⟨⟨rfl, rfl, rfl, rfl, trivial⟩, ⟨rfl, rfl, h0.symm, rfl, trivial⟩, trivial⟩
        rintro ⟨k, hk⟩
        show run tab envT 1 _ ⟨(.v (.one (.sl 1 0 16 1)) :: .any :: .any :: .v (.one (.int .i64 i)) :: .v (.one (.int .i64 k)) :: .any :: .any :: .any :: .any :: .any :: .any :: .any :: .any :: .any :: .any :: .any :: .any :: .any :: .any :: .any :: .any :: .any :: .any :: .any :: .any :: .any :: .any :: .any :: .any :: .any :: .any :: .any :: .any :: .any :: .any :: .any :: .any :: .any :: .any :: .any :: .any :: .any :: .any :: .any :: .any :: .any :: []), [.own 1 [.ints .i64 l 16], .own 1 [.ints .i64 (h k) 16]]⟩ _ _
        refine run_K (P := fun K => run tab envT 1 _ ⟨_, _⟩ True K) ?_
        intro K hK
        conv => whnf
        refine ⟨trivial, fun hlt1 => ?_, fun hge1 => ?_⟩
        · simp only [decide_eq_true_eq] at hlt1
          have e1 : isum .i64 4 (k : Int) = ((4 + k : Nat) : Int) := by rw [isum, i64_in] <;> omega
          have e2 : isum .i64 8 (k : Int) = ((8 + k : Nat) : Int) := by rw [isum, i64_in] <;> omega
          have e3 : isum .i64 12 (k : Int) = ((12 + k : Nat) : Int) := by rw [isum, i64_in] <;> omega
          have e4 : isum .i64 (k : Int) 1 = ((k + 1 : Nat) : Int) := by rw [isum, i64_in] <;> omega
          conv => whnf
          rw [e1, e2, e3, e4]
          subst hK
          change _ ∧ _
          refine ⟨?_, ⟨k + 1, by omega⟩, by show 4 - (k + 1) < 4 - k; omega, [0, 1], [], rfl, ?_, ?_⟩
          · repeat' apply And.intro
            all_goals first
              | exact True.intro
              | exact hW1 k
              | exact hL1 k
              | omega
              | decide +kernel
              | rfl
              | exact Nat.le_of_ble_eq_true rfl
              | (dsimp only; omega)
              | trace_state
          · repeat' apply And.intro
            all_goals first
              | exact True.intro
              | rfl
              | exact Nat.le_refl _
              | decide +kernel
              | omega
              | trace_state
          · exact ⟨⟨rfl, rfl, rfl, rfl, trivial⟩, ⟨rfl, rfl, (hs k).symm, rfl, trivial⟩, trivial⟩
        · simp only [decide_eq_false_iff_not] at hge1
          have : k = 4 := by omega
          subst this
          conv => whnf
          subst hK
          conv => whnf
          refine ⟨?_, { k : Nat // k ≤ 4 }, fun k => ⟨(.v (.one (.sl 1 0 16 1)) :: .any :: .any :: .v (.one (.int .i64 i)) :: .any :: .v (.one (.int .i64 k.1)) :: .any :: .any :: .any :: .any :: .any :: .any :: .any :: .any :: .any :: .any :: .any :: .any :: .any :: .any :: .any :: .any :: .any :: .any :: .any :: .any :: .any :: .any :: .any :: .any :: .any :: .any :: .any :: .any :: .any :: .any :: .any :: .any :: .any :: .any :: .any :: .any :: .any :: .any :: .any :: .any :: []), [.own 1 [.ints .i64 l 16], .own 1 [.ints .i64 (g k.1) 16]]⟩, fun k => 4 - k.1, ⟨0, by omega⟩, ?_, fun _ => rfl, ?_⟩
          · trivial
          · refine ⟨[0, 1], [], rfl, ?_, ?_⟩
            · repeat' apply And.intro
              all_goals first
                | exact True.intro
                | rfl
                | exact Nat.le_refl _
                | decide +kernel
                | omega
                | trace_state
            · exact ⟨⟨rfl, rfl, rfl, rfl, trivial⟩, ⟨rfl, rfl, g0.symm, rfl, trivial⟩, trivial⟩
          rintro ⟨k, hk⟩
          show run tab envT 1 _ ⟨(.v (.one (.sl 1 0 16 1)) :: .any :: .any :: .v (.one (.int .i64 i)) :: .any :: .v (.one (.int .i64 k)) :: .any :: .any :: .any :: .any :: .any :: .any :: .any :: .any :: .any :: .any :: .any :: .any :: .any :: .any :: .any :: .any :: .any :: .any :: .any :: .any :: .any :: .any :: .any :: .any :: .any :: .any :: .any :: .any :: .any :: .any :: .any :: .any :: .any :: .any :: .any :: .any :: .any :: .any :: .any :: .any :: []), [.own 1 [.ints .i64 l 16], .own 1 [.ints .i64 (g k) 16]]⟩ _ _
          refine run_K (P := fun K => run tab envT 1 _ ⟨_, _⟩ True K) ?_
          intro K hK
          conv => whnf
          refine ⟨trivial, fun hlt1 => ?_, fun hge1 => ?_⟩
          · simp only [decide_eq_true_eq] at hlt1
            have e1 : isum .i64 (k : Int) 1 = ((k + 1 : Nat) : Int) := by rw [isum, i64_in] <;> omega
            have e2 : isum .i64 (k : Int) 2 = ((k + 2 : Nat) : Int) := by rw [isum, i64_in] <;> omega
            have e3 : isum .i64 (k : Int) 3 = ((k + 3 : Nat) : Int) := by rw [isum, i64_in] <;> omega
            have r1 : ((k + 1 : Nat) : Int).tmod 4 = (((k + 1) % 4 : Nat) : Int) := by rw [Int.tmod_eq_emod_of_nonneg (by omega)]; omega
            have r2 : ((k + 2 : Nat) : Int).tmod 4 = (((k + 2) % 4 : Nat) : Int) := by rw [Int.tmod_eq_emod_of_nonneg (by omega)]; omega
            have r3 : ((k + 3 : Nat) : Int).tmod 4 = (((k + 3) % 4 : Nat) : Int) := by rw [Int.tmod_eq_emod_of_nonneg (by omega)]; omega
            have f1 : isum .i64 4 (((k + 1) % 4 : Nat) : Int) = ((4 + (k + 1) % 4 : Nat) : Int) := by rw [isum, i64_in] <;> omega
            have f2 : isum .i64 8 (((k + 2) % 4 : Nat) : Int) = ((8 + (k + 2) % 4 : Nat) : Int) := by rw [isum, i64_in] <;> omega
            have f3 : isum .i64 12 (((k + 3) % 4 : Nat) : Int) = ((12 + (k + 3) % 4 : Nat) : Int) := by rw [isum, i64_in] <;> omega
            conv => whnf
            rw [e1, e2, e3, r1, r2, r3, f1, f2, f3]
            subst hK
            change _ ∧ _
            refine ⟨?_, ⟨k + 1, by omega⟩, by show 4 - (k + 1) < 4 - k; omega, [0, 1], [], rfl, ?_, ?_⟩
            · repeat' apply And.intro
              all_goals first
                | exact True.intro
                | exact hW2 k
                | exact hL2 k
                | omega
                | decide +kernel
                | rfl
                | exact Nat.le_of_ble_eq_true rfl
                | (dsimp only; omega)
                | trace_state
            · repeat' apply And.intro
              all_goals first
                | exact True.intro
                | rfl
                | exact Nat.le_refl _
                | decide +kernel
                | omega
                | trace_state
            · exact ⟨⟨rfl, rfl, rfl, rfl, trivial⟩, ⟨rfl, rfl, (gs k).symm, rfl, trivial⟩, trivial⟩
          · simp only [decide_eq_false_iff_not] at hge1
            have : k = 4 := by omega
            subst this
            have e4 : isum .i64 (i : Int) 1 = ((i + 1 : Nat) : Int) := by rw [isum, i64_in] <;> omega
            conv => whnf
            subst hK
            conv => whnf
            rw [e4]
            subst hK
            change _ ∧ _
            refine ⟨?_, ⟨i + 1, by omega⟩, by show 10 - (i + 1) < 10 - i; omega, [0, 1], [], rfl, ?_, ?_⟩
            · repeat' apply And.intro
              all_goals first
                | exact True.intro
                | omega
                | decide +kernel
                | rfl
                | exact Nat.le_of_ble_eq_true rfl
                | (dsimp only; omega)
                | trace_state
            · repeat' apply And.intro
              all_goals first
                | exact True.intro
                | rfl
                | exact Nat.le_refl _
                | decide +kernel
                | omega
                | trace_state
            · exact ⟨⟨rfl, rfl, rfl, rfl, trivial⟩, ⟨rfl, rfl, g4.trans hS.symm, rfl, trivial⟩, trivial⟩
      · simp only [decide_eq_false_iff_not] at hge
        have : i = 10 := by omega
        rw [hT this] at hK
        conv => whnf
        subst hK
        conv => whnf
        refine ⟨?_, rfl, [0, 1], [], rfl, ⟨rfl, trivial⟩, ⟨rfl, rfl, rfl, rfl, trivial⟩, ⟨rfl, rfl, rfl, rfl, trivial⟩, trivial⟩
        repeat' apply And.intro
        all_goals first
          | exact True.intro
          | omega
          | decide +kernel
          | rfl
          | exact Nat.le_of_ble_eq_true rfl
          | (dsimp only; omega)
          | trace_state
  · cases hr
end Go.Proofs.Ytjbagkimpmpfgaa

