/- Replay: the window's functions, walked (numbers of 64 bits). -/
import Derived.Test.YtjbagkimpmpfgaaC1
import Derived.Test.YtjbagkimpmpfgaaR2
namespace Go.Proofs.Ytjbagkimpmpfgaa
open Go Go.Mx
set_option maxRecDepth 100000
set_option maxHeartbeats 4000000

/-! ### Size, Top -/
def c56 : Ctr := fun args objs => match args, objs with
  | [.one (.ptr 0 0)], [.own 0 [.c (.int .i64 z), .c (.int .u64 _), .c (.sl 1 0 _ 1)], .own 1 [.ints .u64 _ _]] => some ⟨[0 ≤ z ∧ z ≤ 8192], .v (.one (.int .i64 (imax z 1))), [], []⟩
  | _, _ => none
theorem m56 : Meets Try.prog 56 c56 := by
  refine meets_of_run2 tab_ok env0 mixed [.tmp 2] Try.func56 rfl Try.ntmps56 Try.call56 (fun t w => by simp [results, Try.results56, resS, rv1]) ?_
  intro args objs r hr hcs
  unfold c56 at hr
  split at hr
  · rename_i z t nw l nw'
    simp only [Option.some.injEq] at hr; subst hr
    obtain ⟨h1, _⟩ := hcs
    refine ⟨rfl, ?_⟩
    conv => whnf
    refine ⟨?_, rfl, [0, 1], [], rfl, ⟨⟨rfl, rfl⟩, trivial⟩, ⟨rfl, ⟨rfl, rfl⟩, ⟨rfl, rfl⟩, rfl, trivial⟩, ⟨rfl, rfl, rfl, rfl, trivial⟩, trivial⟩
    repeat' apply And.intro
    all_goals first
      | exact True.intro
      | omega
      | decide +kernel
      | rfl
      | exact Nat.le_of_ble_eq_true rfl
      | (dsimp only; omega)
      | trace_state
  · cases hr
def c55 : Ctr := fun args objs => match args, objs with
  | [.one (.ptr 0 0)], [.own 0 [.c (.int .i64 _), .c (.int .u64 t), .c (.sl 1 0 _ 1)], .own 1 [.ints .u64 _ _]] => some ⟨[], .v (.one (.int .u64 t)), [], []⟩
  | _, _ => none
theorem m55 : Meets Try.prog 55 c55 := by
  refine meets_of_run2 tab_ok env0 mixed [.tmp 2] Try.func55 rfl Try.ntmps55 Try.call55 (fun t w => by simp [results, Try.results55, resS, rv1]) ?_
  intro args objs r hr hcs
  unfold c55 at hr
  split at hr
  · rename_i z t nw l nw'
    simp only [Option.some.injEq] at hr; subst hr
    refine ⟨rfl, ?_⟩
    conv => whnf
    refine ⟨?_, rfl, [0, 1], [], rfl, ⟨⟨rfl, rfl⟩, trivial⟩, ⟨rfl, ⟨rfl, rfl⟩, ⟨rfl, rfl⟩, rfl, trivial⟩, ⟨rfl, rfl, rfl, rfl, trivial⟩, trivial⟩
    repeat' apply And.intro
    all_goals first
      | exact True.intro
      | omega
      | decide +kernel
      | rfl
      | exact Nat.le_of_ble_eq_true rfl
      | (dsimp only; omega)
      | trace_state
  · cases hr
/-! ### place, has -/
def c109 : Ctr := fun args objs => match args, objs with
  | [.one (.ptr 0 0), .one (.int .u64 n)], [.own 0 [.c (.int .i64 _), .c (.int .u64 _), .c (.sl 1 0 nw 1)], .own 1 [.ints .u64 _ _]] =>
    some ⟨[0 < nw, nw ≤ 1000, 0 ≤ n ∧ n ≤ 18446744073709551615], .tup [.one (.int .i64 ((n.toNat % (nw * 64) / 64 : Nat) : Int)), .one (.int .u64 (shlI .u64 1 ((n.toNat % (nw * 64) % 64 : Nat) : Int)))], [], []⟩
  | _, _ => none
theorem m109 : Meets Try.prog 109 c109 := by
  refine meets_of_run tab_ok env0 mixed [4, 5] Try.func109 rfl Try.ntmps109 Try.call109 (fun t w => by simp [results, Try.results109, resV]) ?_
  intro args objs r hr hcs
  unfold c109 at hr
  split at hr
  · rename_i n z t nw l nw'
    simp only [Option.some.injEq] at hr; subst hr
    obtain ⟨h1, h2, h3, _⟩ := hcs
    refine ⟨rfl, ?_⟩
    conv => whnf
    obtain ⟨n, rfl⟩ : ∃ i : Nat, n = (i : Int) := ⟨_, (Int.toNat_of_nonneg h3.1).symm⟩
    have hp := Nat.mod_lt n (show 0 < nw * 64 by omega)
    skip
    rw [place_k (by omega) h1 h2, place_w (by omega), place_b]
    refine ⟨?_, rfl, [0, 1], [], rfl, ⟨⟨⟨rfl, rfl⟩, ⟨rfl, rfl⟩, trivial⟩, trivial⟩, ⟨rfl, ⟨rfl, rfl⟩, ⟨rfl, rfl⟩, rfl, trivial⟩, ⟨rfl, rfl, rfl, rfl, trivial⟩, trivial⟩
    repeat' apply And.intro
    all_goals first
      | exact True.intro
      | exact mul_ne h1 h2
      | omega
      | decide +kernel
      | rfl
      | exact Nat.le_of_ble_eq_true rfl
      | (dsimp only; omega)
      | trace_state
  · cases hr
def envH64 : Env := fun f => match f with
  | 109 => some c109
  | 56 => some c56
  | _ => none
theorem envH64_ok : EnvOk Try.prog envH64 := by
  intro f c h
  unfold envH64 at h
  split at h
  · simp only [Option.some.injEq] at h; subst h; exact m109
  · simp only [Option.some.injEq] at h; subst h; exact m56
  · cases h
def c108 : Ctr := fun args objs => match args, objs with
  | [.one (.ptr 0 0), .one (.int .u64 n)], [.own 0 [.c (.int .i64 _), .c (.int .u64 _), .c (.sl 1 0 nw 1)], .own 1 [.ints .u64 l nw']] =>
    some ⟨[nw = nw', l.length = nw, allU l, nw ≤ 1000, 0 ≤ n ∧ n ≤ 18446744073709551615], .v (.one (.bool false (hasW l n))), [], []⟩
  | _, _ => none
theorem m108 : Meets Try.prog 108 c108 := by
  refine meets_of_run2 tab_ok envH64_ok mixed [.tmp 4] Try.func108 rfl Try.ntmps108 Try.call108 (fun t w => by simp [results, Try.results108, resS, rv1]) ?_
  intro args objs r hr hcs
  unfold c108 at hr
  split at hr
  · rename_i n z t nw l nw'
    simp only [Option.some.injEq] at hr; subst hr
    obtain ⟨h1, h2, h3, h4, h5, _⟩ := hcs
    refine ⟨rfl, ?_⟩
    conv => whnf
    subst h1
    refine ⟨trivial, fun h0 => ?_, fun h0 => ?_⟩
    · have h0' : nw = 0 := by simp at h0; omega
      conv => whnf
      refine ⟨?_, rfl, [0, 1], [], rfl, ⟨?_, trivial⟩, ⟨rfl, ⟨rfl, rfl⟩, ⟨rfl, rfl⟩, rfl, trivial⟩, ⟨rfl, rfl, rfl, rfl, trivial⟩, trivial⟩
      · repeat' apply And.intro
        all_goals first
          | exact True.intro
          | omega
          | decide +kernel
          | rfl
          | exact Nat.le_of_ble_eq_true rfl
          | (dsimp only; omega)
          | trace_state
      · show false = hasW l n
        unfold hasW; rw [h2, h0']; rfl
    · have h0' : 0 < nw := by
        rcases Nat.eq_zero_or_pos nw with e | e
        · subst e; simp at h0
        · exact e
      have hp := Nat.mod_lt n.toNat (show 0 < nw * 64 by omega)
      conv => whnf
      refine ⟨?_, rfl, [0, 1], [], rfl, ⟨?_, trivial⟩, ⟨rfl, ⟨rfl, rfl⟩, ⟨rfl, rfl⟩, rfl, trivial⟩, ⟨rfl, rfl, rfl, rfl, trivial⟩, trivial⟩
      · repeat' apply And.intro
        all_goals first
          | exact True.intro
          | exact h5
          | (rw [Int.toNat_natCast]; omega)
          | omega
          | decide +kernel
          | rfl
          | exact Nat.le_of_ble_eq_true rfl
          | (dsimp only; omega)
          | trace_state
      · show _ = hasW l n
        simp only [Int.toNat_natCast, Nat.zero_add]
        rw [has_bit h3 (by omega)]
        unfold hasW
        rw [h2]
        have : (nw == 0) = false := by simp; omega
        rw [this]; rfl
  · cases hr
/-! ### Fresh -/
def envF64 : Env := fun f => match f with
  | 56 => some c56
  | 108 => some c108
  | _ => none
theorem envF64_ok : EnvOk Try.prog envF64 := by
  intro f c h
  unfold envF64 at h
  split at h
  · simp only [Option.some.injEq] at h; subst h; exact m56
  · simp only [Option.some.injEq] at h; subst h; exact m108
  · cases h
def c52 : Ctr := fun args objs => match args, objs with
  | [.one (.ptr 0 0), .one (.int .u64 n)], [.own 0 [.c (.int .i64 z), .c (.int .u64 t), .c (.sl 1 0 nw 1)], .own 1 [.ints .u64 l nw']] =>
    some ⟨[nw = nw', l.length = nw, allU l, nw ≤ 1000, 0 ≤ n ∧ n ≤ 18446744073709551615, 0 ≤ z ∧ z ≤ 8192, 0 ≤ t ∧ t ≤ 18446744073709551615], .v (.one (.bool false (freshW 18446744073709551615 z t l n))), [], []⟩
  | _, _ => none
theorem m52 : Meets Try.prog 52 c52 := by
  refine meets_of_run2 tab_ok envF64_ok mixed [.tmp 4] Try.func52 rfl Try.ntmps52 Try.call52 (fun t w => by simp [results, Try.results52, resS, rv1]) ?_
  intro args objs r hr hcs
  unfold c52 at hr
  split at hr
  · rename_i n z t nw l nw'
    simp only [Option.some.injEq] at hr; subst hr
    obtain ⟨h1, h2, h3, h4, h5, h6, h7, _⟩ := hcs
    refine ⟨rfl, ?_⟩
    conv => whnf
    subst h1
    have m0 : bnotI .u64 (conv .u64 0) = 18446744073709551615 := by decide +kernel
    rw [m0]
    refine ⟨trivial, fun hm => ?_, fun hm => ?_⟩
    · conv => whnf
      refine ⟨?_, rfl, [0, 1], [], rfl, ⟨?_, trivial⟩, ⟨rfl, ⟨rfl, rfl⟩, ⟨rfl, rfl⟩, rfl, trivial⟩, ⟨rfl, rfl, rfl, rfl, trivial⟩, trivial⟩
      · repeat' apply And.intro
        all_goals first
          | exact True.intro
          | omega
          | decide +kernel
          | rfl
          | exact Nat.le_of_ble_eq_true rfl
          | (dsimp only; omega)
          | trace_state
      · show false = freshW 18446744073709551615 z t l n
        unfold freshW; rw [hm]; rfl
    · conv => whnf
      refine ⟨trivial, fun ht => ?_, fun ht => ?_⟩
      · conv => whnf
        refine ⟨?_, rfl, [0, 1], [], rfl, ⟨?_, trivial⟩, ⟨rfl, ⟨rfl, rfl⟩, ⟨rfl, rfl⟩, rfl, trivial⟩, ⟨rfl, rfl, rfl, rfl, trivial⟩, trivial⟩
        · repeat' apply And.intro
          all_goals first
            | exact True.intro
            | omega
            | decide +kernel
            | rfl
            | exact Nat.le_of_ble_eq_true rfl
            | (dsimp only; omega)
            | trace_state
        · show true = freshW 18446744073709551615 z t l n
          unfold freshW; rw [hm, ht]; rfl
      · have ht' : n < t := by simpa using ht
        have d1 : idif .u64 t 1 = t - 1 := by rw [idif, IntWalk.u64_in] <;> omega
        have d2 : idif .u64 (t - 1) n = t - 1 - n := by rw [idif, IntWalk.u64_in] <;> omega
        have d3 : conv .u64 (imax z 1) = imax z 1 := by rw [imax_nat h6.1, conv]; exact u64_nat _ (by omega)
        skip
        conv => whnf
        rw [d1, d2, d3]
        refine ⟨?_, fun hl => ?_, fun hl => ?_⟩
        · repeat' apply And.intro
          all_goals first
            | exact True.intro
            | exact h6
            | omega
            | decide +kernel
            | rfl
            | exact Nat.le_of_ble_eq_true rfl
            | (dsimp only; omega)
            | trace_state
        · conv => whnf
          refine ⟨?_, rfl, [0, 1], [], rfl, ⟨?_, trivial⟩, ⟨rfl, ⟨rfl, rfl⟩, ⟨rfl, rfl⟩, rfl, trivial⟩, ⟨rfl, rfl, rfl, rfl, trivial⟩, trivial⟩
          · repeat' apply And.intro
            all_goals first
              | exact True.intro
              | exact h2
              | exact h3
              | exact h5
              | omega
              | decide +kernel
              | rfl
              | exact Nat.le_of_ble_eq_true rfl
              | (dsimp only; omega)
              | trace_state
          · show (!hasW l n) = freshW 18446744073709551615 z t l n
            unfold freshW; rw [hm, ht, hl]; rfl
        · conv => whnf
          refine ⟨?_, rfl, [0, 1], [], rfl, ⟨?_, trivial⟩, ⟨rfl, ⟨rfl, rfl⟩, ⟨rfl, rfl⟩, rfl, trivial⟩, ⟨rfl, rfl, rfl, rfl, trivial⟩, trivial⟩
          · repeat' apply And.intro
            all_goals first
              | exact True.intro
              | omega
              | decide +kernel
              | rfl
              | exact Nat.le_of_ble_eq_true rfl
              | (dsimp only; omega)
              | trace_state
          · show false = freshW 18446744073709551615 z t l n
            unfold freshW; rw [hm, ht, hl]; rfl
  · cases hr
/-! ### Take -/
def envT64 : Env := fun f => match f with
  | 52 => some c52
  | 56 => some c56
  | 109 => some c109
  | _ => none
theorem envT64_ok : EnvOk Try.prog envT64 := by
  intro f c h
  unfold envT64 at h
  split at h
  · simp only [Option.some.injEq] at h; subst h; exact m52
  · simp only [Option.some.injEq] at h; subst h; exact m56
  · simp only [Option.some.injEq] at h; subst h; exact m109
  · cases h
def c53 : Ctr := fun args objs => match args, objs with
  | [.one (.ptr 0 0), .one (.int .u64 n)], [.own 0 [.c (.int .i64 z), .c (.int .u64 t), .c (.sl 1 0 nw 1)], .own 1 [.ints .u64 l nw']] =>
    some ⟨[nw = nw', l.length = nw, allU l, nw ≤ 1000, 0 ≤ n ∧ n ≤ 18446744073709551615, 0 ≤ z ∧ z ≤ 8192, 0 ≤ t ∧ t ≤ 18446744073709551615, nw = 0 → t = 0], .v (.one (.bool false (freshW 18446744073709551615 z t l n))),
      [(0, .own 0 [.c (.int .i64 z), .c (.int .u64 (takeT 18446744073709551615 z t l n)), .c (.sl 2 0 (takeL 18446744073709551615 z t l n).length 1)]), (1, .gone)], [.own 1 [.ints .u64 (takeL 18446744073709551615 z t l n) (takeL 18446744073709551615 z t l n).length]]⟩
  | _, _ => none
theorem m53 : Meets Try.prog 53 c53 := by
  refine meets_of_run2 tab_ok envT64_ok mixed [.tmp 4] Try.func53 rfl Try.ntmps53 Try.call53 (fun t w => by simp [results, Try.results53, resS, rv1]) ?_
  intro args objs r hr hcs
  unfold c53 at hr
  split at hr
  · rename_i n z t nw l nw'
    simp only [Option.some.injEq] at hr; subst hr
    obtain ⟨h1, h2, h3, h4, h5, h6, h7, h8, _⟩ := hcs
    refine ⟨rfl, ?_⟩
    conv => whnf
    subst h1
    refine ⟨?_, fun hF => ?_, fun hF => ?_⟩
    · repeat' apply And.intro
      all_goals first
        | exact True.intro
        | exact h2
        | exact h3
        | exact h5
        | exact h6
        | exact h7
        | omega
        | decide +kernel
        | rfl
        | exact Nat.le_of_ble_eq_true rfl
        | (dsimp only; omega)
        | trace_state
    · have hF' : freshW 18446744073709551615 z t l n = false := by simpa using hF
      have eL : takeL 18446744073709551615 z t l n = l := by unfold takeL; rw [if_neg (by rw [hF']; decide)]
      have eT : takeT 18446744073709551615 z t l n = t := by unfold takeT; rw [if_neg (by rw [hF']; simp)]
      rw [eL, eT, hF', h2]
      conv => whnf
      refine ⟨?_, rfl, [0, 1, 1], [], rfl, ⟨rfl, trivial⟩, ⟨rfl, ⟨rfl, rfl⟩, ⟨rfl, rfl⟩, rfl, trivial⟩, trivial, ⟨rfl, rfl, rfl, rfl, trivial⟩, trivial⟩
      repeat' apply And.intro
      all_goals first
        | exact True.intro
        | omega
        | decide +kernel
        | rfl
        | exact Nat.le_of_ble_eq_true rfl
        | (dsimp only; omega)
        | trace_state
    · have hF' : freshW 18446744073709551615 z t l n = true := by simpa using hF
      obtain ⟨r, hr⟩ : ∃ r, r = rowW z l := ⟨_, rfl⟩
      obtain ⟨W, hW⟩ : ∃ W, W = r.length := ⟨_, rfl⟩
      have hW0 : 0 < W := by rw [hW, hr]; exact (rowW_len h6.1 h6.2 (by omega)).1
      have hW1 : W ≤ 1000 := by rw [hW, hr]; exact (rowW_len h6.1 h6.2 (by omega)).2
      have hrU : allU r := by rw [hr]; exact rowW_U h3
      have eT : takeT 18446744073709551615 z t l n = if n ≥ t then n + 1 else t := by unfold takeT; rw [hF']; simp
      have eL : takeL 18446744073709551615 z t l n = setB (if n ≥ t then goneW t r n else r) (n.toNat % (W * 64)) := by unfold takeL; rw [if_pos hF', hW, hr]
      have eN : (takeL 18446744073709551615 z t l n).length = W := by rw [takeL_len, if_pos hF', hW, hr]
      have hnm : n ≠ 18446744073709551615 := by
        intro e; unfold freshW at hF'; rw [e] at hF'; simp at hF'
      rw [hF', eN, eL, eT]
      conv => whnf
      refine ⟨trivial, fun h0 => ?_, fun h0 => ?_⟩
      · have h0' : nw = 0 := by simp at h0; omega
        have ht0 : t = 0 := h8 h0'
        have er : List.replicate (wordsW z) 0 = r := by rw [hr]; unfold rowW; rw [if_pos (by omega)]
        have eW : wordsW z = W := by rw [hW, ← er, List.length_replicate]
        have i1 : isum .i64 (imax z 1) 63 = (((max z.toNat 1) + 63 : Nat) : Int) := by rw [imax_nat h6.1, isum, i64_in] <;> omega
        have i2 : iquo .i64 (((max z.toNat 1) + 63 : Nat) : Int) 64 = ((((max z.toNat 1) + 63) / 64 : Nat) : Int) := by rw [iquo, Int.tdiv_eq_ediv_of_nonneg (by omega), i64_in] <;> omega
        have i3 : isum .i64 ((((max z.toNat 1) + 63) / 64 : Nat) : Int) 1 = (W : Int) := by
          rw [← eW]; unfold wordsW; rw [imax_nat h6.1, isum, i64_in] <;> omega
        conv => whnf
        rw [i1, i2, i3, show List.replicate (Int.toNat (W : Int)) (0 : Int) = r by rw [Int.toNat_natCast, ← eW, er], Int.toNat_natCast]
        refine ⟨?_, fun hge => ?_, fun hge => ?_⟩
        · repeat' apply And.intro
          all_goals first
            | exact True.intro
            | exact h6
            | (show (8 : Int) * (W : Int) ≤ 281474976710656; omega)
            | omega
            | decide +kernel
            | rfl
            | exact Nat.le_of_ble_eq_true rfl
            | (dsimp only; omega)
            | trace_state
        · have hge' : n ≥ t := by simpa using hge
          have hp := Nat.mod_lt n.toNat (show 0 < W * 64 by omega)
          have a1 : conv .u64 (imul .i64 (W : Int) 64) = ((W * 64 : Nat) : Int) := by
            have e : imul .i64 (W : Int) 64 = ((W * 64 : Nat) : Int) := by rw [imul, i64_in] <;> omega
            rw [e, conv, IntWalk.u64_in]; omega
          have a2 : idif .u64 n t = n - t := by rw [idif, IntWalk.u64_in]; omega
          have a3 : conv .u64 (n - t) = n - t := by rw [conv, IntWalk.u64_in]; omega
          have ix : isum .u64 n 1 = n + 1 := by rw [isum, IntWalk.u64_in]; omega
          rw [if_pos hge', if_pos hge']
          conv => whnf
          rw [a1, a2]
          refine ⟨trivial, fun hb => ?_, fun hb => ?_⟩
          · have hb' : n - t ≥ ((W * 64 : Nat) : Int) := by simpa using hb
            have eg : goneW t r n = List.replicate W 0 := by unfold goneW; rw [← hW, if_pos hb']
            have es : splI r 0 (List.replicate W 0) = List.replicate W 0 := by
              unfold splI
              rw [List.take_zero, List.nil_append, List.length_replicate, List.drop_of_length_le (by omega), List.append_nil]
            rw [eg]
            conv => whnf
            rw [ix]
            refine ⟨?_, rfl, [0, 1, 2], [], rfl, ⟨rfl, trivial⟩, ⟨rfl, ⟨rfl, rfl⟩, ⟨rfl, rfl⟩, rfl, trivial⟩, trivial, ⟨rfl, rfl, ?_, rfl, trivial⟩, trivial⟩
            · repeat' apply And.intro
              all_goals first
                | exact True.intro
                | exact h5
                | (rw [Int.toNat_natCast]; omega)
                | omega
                | decide +kernel
                | rfl
                | exact Nat.le_of_ble_eq_true rfl
                | (dsimp only; omega)
                | trace_state
            · simp only [Int.toNat_natCast, Nat.zero_add]
              rw [es]; rfl
          · have hb' : n - t < ((W * 64 : Nat) : Int) := by simpa using hb
            obtain ⟨J, hJ⟩ : ∃ J, J = (n - t).toNat := ⟨_, rfl⟩
            obtain ⟨c, c0, cs, cU, cl, cJ⟩ : ∃ c : Nat → List Int, c 0 = r ∧ (∀ k, c (k + 1) = clrB (c k) ((t.toNat + k) % (W * 64))) ∧ (∀ k, allU (c k)) ∧ (∀ k, (c k).length = W) ∧ c J = goneW t r n :=
              ⟨clrFrom r (W * 64) t.toNat, rfl, fun _ => rfl, clrFrom_U hrU (by rw [hW]) (by omega) _, fun k => by rw [clrFrom_len, hW], by unfold goneW; rw [← hW, if_neg (by omega), hJ]⟩
            rw [← cJ]
            conv => whnf
            refine ⟨?_, { j : Nat // j ≤ J }, fun j => ⟨(.v (.one (.ptr 0 0)) :: .v (.one (.int .u64 n)) :: .any :: .any :: .any :: .any :: .v (.one (.int .u64 (t + (j.1 : Int)))) :: .any :: .any :: .any :: .any :: .any :: .any :: .any :: .any :: .any :: .any :: .any :: .any :: .any :: .any :: .any :: .any :: .any :: .any :: .any :: .any :: .any :: .any :: .any :: .any :: .any :: .any :: .any :: .any :: .any :: .any :: .any :: .any :: .any :: .any :: .any :: .any :: .any :: .any :: .any :: .any :: .any :: .any :: .any :: .any :: .any :: .any :: .any :: .any :: .any :: .any :: .any :: .any :: .any :: .any :: .any :: .any :: .any :: .any :: .any :: .any :: .any :: .any :: .any :: .any :: .any :: .any :: .any :: .any :: .any :: .any :: .any :: .any :: .any :: .any :: .any :: .any :: .any :: .any :: .any :: .any :: .any :: .any :: .any :: .any :: .any :: .any :: .any :: .any :: .any :: .any :: .any :: .any :: .any :: .any :: []), [.own 0 [.c (.int .i64 z), .c (.int .u64 t), .c (.sl 2 0 W 1)], .own 1 [.ints .u64 l nw], .own 1 [.ints .u64 (c j.1) W]]⟩, fun j => J - j.1, ⟨0, by omega⟩, ?_, fun _ => rfl, ?_⟩
            · repeat' apply And.intro
              all_goals first
                | exact True.intro
                | omega
                | decide +kernel
                | rfl
                | exact Nat.le_of_ble_eq_true rfl
                | (dsimp only; omega)
                | trace_state
            · refine ⟨[0, 1, 2], [], rfl, ?_, ?_⟩
              · repeat' apply And.intro
                all_goals first
                  | exact True.intro
                  | rfl
                  | exact (Int.add_zero t).symm
                  | trace_state
              · exact ⟨⟨rfl, ⟨rfl, rfl⟩, ⟨rfl, rfl⟩, rfl, trivial⟩, ⟨rfl, rfl, rfl, rfl, trivial⟩, ⟨rfl, rfl, c0.symm, rfl, trivial⟩, trivial⟩
            rintro ⟨j, hj⟩
            have hq := Nat.mod_lt (t.toNat + j) (show 0 < W * 64 by omega)
            show run tab envT64 2 _ ⟨(.v (.one (.ptr 0 0)) :: .v (.one (.int .u64 n)) :: .any :: .any :: .any :: .any :: .v (.one (.int .u64 (t + (j : Int)))) :: .any :: .any :: .any :: .any :: .any :: .any :: .any :: .any :: .any :: .any :: .any :: .any :: .any :: .any :: .any :: .any :: .any :: .any :: .any :: .any :: .any :: .any :: .any :: .any :: .any :: .any :: .any :: .any :: .any :: .any :: .any :: .any :: .any :: .any :: .any :: .any :: .any :: .any :: .any :: .any :: .any :: .any :: .any :: .any :: .any :: .any :: .any :: .any :: .any :: .any :: .any :: .any :: .any :: .any :: .any :: .any :: .any :: .any :: .any :: .any :: .any :: .any :: .any :: .any :: .any :: .any :: .any :: .any :: .any :: .any :: .any :: .any :: .any :: .any :: .any :: .any :: .any :: .any :: .any :: .any :: .any :: .any :: .any :: .any :: .any :: .any :: .any :: .any :: .any :: .any :: .any :: .any :: .any :: .any :: []), [.own 0 [.c (.int .i64 z), .c (.int .u64 t), .c (.sl 2 0 W 1)], .own 1 [.ints .u64 l nw], .own 1 [.ints .u64 (c j) W]]⟩ _ _
            refine run_K (P := fun K => run tab envT64 2 _ ⟨_, _⟩ True K) ?_
            intro K hK
            conv => whnf
            refine ⟨trivial, fun hlt => ?_, fun hlt => ?_⟩
            · have hlt' : t + (j : Int) < n := by simpa using hlt
              have e1 : isum .u64 (t + (j : Int)) 1 = t + ((j + 1 : Nat) : Int) := by rw [isum, IntWalk.u64_in] <;> omega
              have e3 : (t + (j : Int)).toNat = t.toNat + j := by omega
              conv => whnf
              rw [e1, e3]
              subst hK
              change _ ∧ _
              refine ⟨?_, ⟨j + 1, by omega⟩, by show J - (j + 1) < J - j; omega, [0, 1, 2], [], rfl, ?_, ?_⟩
              · repeat' apply And.intro
                all_goals first
                  | exact True.intro
                  | (rw [Int.toNat_natCast]; omega)
                  | omega
                  | decide +kernel
                  | rfl
                  | exact Nat.le_of_ble_eq_true rfl
                  | (dsimp only; omega)
                  | trace_state
              · repeat' apply And.intro
                all_goals first
                  | exact True.intro
                  | rfl
                  | exact Nat.le_refl _
                  | decide +kernel
                  | omega
                  | trace_state
              · refine ⟨⟨rfl, ⟨rfl, rfl⟩, ⟨rfl, rfl⟩, rfl, trivial⟩, ⟨rfl, rfl, rfl, rfl, trivial⟩, ⟨rfl, rfl, ?_, rfl, trivial⟩, trivial⟩
                simp only [Int.toNat_natCast, Nat.zero_add]
                rw [cs]; rfl
            · have hlt' : n ≤ t + (j : Int) := by simpa using hlt
              have : j = J := by omega
              subst this
              conv => whnf
              subst hK
              conv => whnf
              rw [ix]
              refine ⟨?_, rfl, [0, 1, 2], [], rfl, ⟨rfl, trivial⟩, ⟨rfl, ⟨rfl, rfl⟩, ⟨rfl, rfl⟩, rfl, trivial⟩, trivial, ⟨rfl, rfl, ?_, rfl, trivial⟩, trivial⟩
              · repeat' apply And.intro
                all_goals first
                  | exact True.intro
                  | exact h5
                  | (rw [Int.toNat_natCast]; omega)
                  | omega
                  | decide +kernel
                  | rfl
                  | exact Nat.le_of_ble_eq_true rfl
                  | (dsimp only; omega)
                  | trace_state
              · simp only [Int.toNat_natCast, Nat.zero_add]
                rfl
        · have hge' : ¬ n ≥ t := by simpa using hge
          have hp := Nat.mod_lt n.toNat (show 0 < W * 64 by omega)
          rw [if_neg hge', if_neg hge']
          conv => whnf
          refine ⟨?_, rfl, [0, 1, 2], [], rfl, ⟨rfl, trivial⟩, ⟨rfl, ⟨rfl, rfl⟩, ⟨rfl, rfl⟩, rfl, trivial⟩, trivial, ⟨rfl, rfl, ?_, rfl, trivial⟩, trivial⟩
          · repeat' apply And.intro
            all_goals first
              | exact True.intro
              | exact h5
              | (rw [Int.toNat_natCast]; omega)
              | omega
              | decide +kernel
              | rfl
              | exact Nat.le_of_ble_eq_true rfl
              | (dsimp only; omega)
              | trace_state
          · simp only [Int.toNat_natCast, Nat.zero_add]
            rfl
      · have h0' : 0 < nw := by
          rcases Nat.eq_zero_or_pos nw with e | e
          · subst e; simp at h0
          · exact e
        have er : r = l := by rw [hr]; unfold rowW; rw [if_neg (by omega)]
        have hWn : W = nw := by rw [hW, er, h2]
        rw [← er]
        subst hWn
        conv => whnf
        refine ⟨?_, fun hge => ?_, fun hge => ?_⟩
        · repeat' apply And.intro
          all_goals first
            | exact True.intro
            | exact h6
            | (show (8 : Int) * (W : Int) ≤ 281474976710656; omega)
            | omega
            | decide +kernel
            | rfl
            | exact Nat.le_of_ble_eq_true rfl
            | (dsimp only; omega)
            | trace_state
        · have hge' : n ≥ t := by simpa using hge
          have hp := Nat.mod_lt n.toNat (show 0 < W * 64 by omega)
          have a1 : conv .u64 (imul .i64 (W : Int) 64) = ((W * 64 : Nat) : Int) := by
            have e : imul .i64 (W : Int) 64 = ((W * 64 : Nat) : Int) := by rw [imul, i64_in] <;> omega
            rw [e, conv, IntWalk.u64_in]; omega
          have a2 : idif .u64 n t = n - t := by rw [idif, IntWalk.u64_in]; omega
          have a3 : conv .u64 (n - t) = n - t := by rw [conv, IntWalk.u64_in]; omega
          have ix : isum .u64 n 1 = n + 1 := by rw [isum, IntWalk.u64_in]; omega
          rw [if_pos hge', if_pos hge']
          conv => whnf
          rw [a1, a2]
          refine ⟨trivial, fun hb => ?_, fun hb => ?_⟩
          · have hb' : n - t ≥ ((W * 64 : Nat) : Int) := by simpa using hb
            have eg : goneW t r n = List.replicate W 0 := by unfold goneW; rw [← hW, if_pos hb']
            have es : splI r 0 (List.replicate W 0) = List.replicate W 0 := by
              unfold splI
              rw [List.take_zero, List.nil_append, List.length_replicate, List.drop_of_length_le (by omega), List.append_nil]
            rw [eg]
            conv => whnf
            rw [ix]
            refine ⟨?_, rfl, [0, 1, 1], [], rfl, ⟨rfl, trivial⟩, ⟨rfl, ⟨rfl, rfl⟩, ⟨rfl, rfl⟩, rfl, trivial⟩, trivial, ⟨rfl, rfl, ?_, rfl, trivial⟩, trivial⟩
            · repeat' apply And.intro
              all_goals first
                | exact True.intro
                | exact h5
                | (rw [Int.toNat_natCast]; omega)
                | omega
                | decide +kernel
                | rfl
                | exact Nat.le_of_ble_eq_true rfl
                | (dsimp only; omega)
                | trace_state
            · simp only [Int.toNat_natCast, Nat.zero_add]
              rw [es]; rfl
          · have hb' : n - t < ((W * 64 : Nat) : Int) := by simpa using hb
            obtain ⟨J, hJ⟩ : ∃ J, J = (n - t).toNat := ⟨_, rfl⟩
            obtain ⟨c, c0, cs, cU, cl, cJ⟩ : ∃ c : Nat → List Int, c 0 = r ∧ (∀ k, c (k + 1) = clrB (c k) ((t.toNat + k) % (W * 64))) ∧ (∀ k, allU (c k)) ∧ (∀ k, (c k).length = W) ∧ c J = goneW t r n :=
              ⟨clrFrom r (W * 64) t.toNat, rfl, fun _ => rfl, clrFrom_U hrU (by rw [hW]) (by omega) _, fun k => by rw [clrFrom_len, hW], by unfold goneW; rw [← hW, if_neg (by omega), hJ]⟩
            rw [← cJ]
            conv => whnf
            refine ⟨?_, { j : Nat // j ≤ J }, fun j => ⟨(.v (.one (.ptr 0 0)) :: .v (.one (.int .u64 n)) :: .any :: .any :: .any :: .any :: .v (.one (.int .u64 (t + (j.1 : Int)))) :: .any :: .any :: .any :: .any :: .any :: .any :: .any :: .any :: .any :: .any :: .any :: .any :: .any :: .any :: .any :: .any :: .any :: .any :: .any :: .any :: .any :: .any :: .any :: .any :: .any :: .any :: .any :: .any :: .any :: .any :: .any :: .any :: .any :: .any :: .any :: .any :: .any :: .any :: .any :: .any :: .any :: .any :: .any :: .any :: .any :: .any :: .any :: .any :: .any :: .any :: .any :: .any :: .any :: .any :: .any :: .any :: .any :: .any :: .any :: .any :: .any :: .any :: .any :: .any :: .any :: .any :: .any :: .any :: .any :: .any :: .any :: .any :: .any :: .any :: .any :: .any :: .any :: .any :: .any :: .any :: .any :: .any :: .any :: .any :: .any :: .any :: .any :: .any :: .any :: .any :: .any :: .any :: .any :: .any :: []), [.own 0 [.c (.int .i64 z), .c (.int .u64 t), .c (.sl 1 0 W 1)], .own 1 [.ints .u64 (c j.1) W]]⟩, fun j => J - j.1, ⟨0, by omega⟩, ?_, fun _ => rfl, ?_⟩
            · repeat' apply And.intro
              all_goals first
                | exact True.intro
                | omega
                | decide +kernel
                | rfl
                | exact Nat.le_of_ble_eq_true rfl
                | (dsimp only; omega)
                | trace_state
            · refine ⟨[0, 1], [], rfl, ?_, ?_⟩
              · repeat' apply And.intro
                all_goals first
                  | exact True.intro
                  | rfl
                  | exact (Int.add_zero t).symm
                  | trace_state
              · exact ⟨⟨rfl, ⟨rfl, rfl⟩, ⟨rfl, rfl⟩, rfl, trivial⟩, ⟨rfl, rfl, c0.symm, rfl, trivial⟩, trivial⟩
            rintro ⟨j, hj⟩
            have hq := Nat.mod_lt (t.toNat + j) (show 0 < W * 64 by omega)
            show run tab envT64 2 _ ⟨(.v (.one (.ptr 0 0)) :: .v (.one (.int .u64 n)) :: .any :: .any :: .any :: .any :: .v (.one (.int .u64 (t + (j : Int)))) :: .any :: .any :: .any :: .any :: .any :: .any :: .any :: .any :: .any :: .any :: .any :: .any :: .any :: .any :: .any :: .any :: .any :: .any :: .any :: .any :: .any :: .any :: .any :: .any :: .any :: .any :: .any :: .any :: .any :: .any :: .any :: .any :: .any :: .any :: .any :: .any :: .any :: .any :: .any :: .any :: .any :: .any :: .any :: .any :: .any :: .any :: .any :: .any :: .any :: .any :: .any :: .any :: .any :: .any :: .any :: .any :: .any :: .any :: .any :: .any :: .any :: .any :: .any :: .any :: .any :: .any :: .any :: .any :: .any :: .any :: .any :: .any :: .any :: .any :: .any :: .any :: .any :: .any :: .any :: .any :: .any :: .any :: .any :: .any :: .any :: .any :: .any :: .any :: .any :: .any :: .any :: .any :: .any :: .any :: []), [.own 0 [.c (.int .i64 z), .c (.int .u64 t), .c (.sl 1 0 W 1)], .own 1 [.ints .u64 (c j) W]]⟩ _ _
            refine run_K (P := fun K => run tab envT64 2 _ ⟨_, _⟩ True K) ?_
            intro K hK
            conv => whnf
            refine ⟨trivial, fun hlt => ?_, fun hlt => ?_⟩
            · have hlt' : t + (j : Int) < n := by simpa using hlt
              have e1 : isum .u64 (t + (j : Int)) 1 = t + ((j + 1 : Nat) : Int) := by rw [isum, IntWalk.u64_in] <;> omega
              have e3 : (t + (j : Int)).toNat = t.toNat + j := by omega
              conv => whnf
              rw [e1, e3]
              subst hK
              change _ ∧ _
              refine ⟨?_, ⟨j + 1, by omega⟩, by show J - (j + 1) < J - j; omega, [0, 1], [], rfl, ?_, ?_⟩
              · repeat' apply And.intro
                all_goals first
                  | exact True.intro
                  | (rw [Int.toNat_natCast]; omega)
                  | omega
                  | decide +kernel
                  | rfl
                  | exact Nat.le_of_ble_eq_true rfl
                  | (dsimp only; omega)
                  | trace_state
              · repeat' apply And.intro
                all_goals first
                  | exact True.intro
                  | rfl
                  | exact Nat.le_refl _
                  | decide +kernel
                  | omega
                  | trace_state
              · refine ⟨⟨rfl, ⟨rfl, rfl⟩, ⟨rfl, rfl⟩, rfl, trivial⟩, ⟨rfl, rfl, ?_, rfl, trivial⟩, trivial⟩
                simp only [Int.toNat_natCast, Nat.zero_add]
                rw [cs]; rfl
            · have hlt' : n ≤ t + (j : Int) := by simpa using hlt
              have : j = J := by omega
              subst this
              conv => whnf
              subst hK
              conv => whnf
              rw [ix]
              refine ⟨?_, rfl, [0, 1, 1], [], rfl, ⟨rfl, trivial⟩, ⟨rfl, ⟨rfl, rfl⟩, ⟨rfl, rfl⟩, rfl, trivial⟩, trivial, ⟨rfl, rfl, ?_, rfl, trivial⟩, trivial⟩
              · repeat' apply And.intro
                all_goals first
                  | exact True.intro
                  | exact h5
                  | (rw [Int.toNat_natCast]; omega)
                  | omega
                  | decide +kernel
                  | rfl
                  | exact Nat.le_of_ble_eq_true rfl
                  | (dsimp only; omega)
                  | trace_state
              · simp only [Int.toNat_natCast, Nat.zero_add]
                rfl
        · have hge' : ¬ n ≥ t := by simpa using hge
          have hp := Nat.mod_lt n.toNat (show 0 < W * 64 by omega)
          rw [if_neg hge', if_neg hge']
          conv => whnf
          refine ⟨?_, rfl, [0, 1, 1], [], rfl, ⟨rfl, trivial⟩, ⟨rfl, ⟨rfl, rfl⟩, ⟨rfl, rfl⟩, rfl, trivial⟩, trivial, ⟨rfl, rfl, ?_, rfl, trivial⟩, trivial⟩
          · repeat' apply And.intro
            all_goals first
              | exact True.intro
              | exact h5
              | (rw [Int.toNat_natCast]; omega)
              | omega
              | decide +kernel
              | rfl
              | exact Nat.le_of_ble_eq_true rfl
              | (dsimp only; omega)
              | trace_state
          · simp only [Int.toNat_natCast, Nat.zero_add]
            rfl
  · cases hr
end Go.Proofs.Ytjbagkimpmpfgaa

