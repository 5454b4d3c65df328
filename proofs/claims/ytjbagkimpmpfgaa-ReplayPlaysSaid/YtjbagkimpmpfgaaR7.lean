/- Replay: the document's window, walked. -/
import Derived.Test.YtjbagkimpmpfgaaC1
import Derived.Test.YtjbagkimpmpfgaaR2
namespace Go.Proofs.Ytjbagkimpmpfgaa
open Go Go.Mx
set_option maxRecDepth 100000
set_option maxHeartbeats 4000000

/-- A row's elements are counters. -/
def allN (l : List Int) : Prop := ∀ i, i < l.length → 0 ≤ l.getD i 0 ∧ l.getD i 0 < 18446744073709551615
def inA (A : List Int) (n : Int) : Bool := A.any (fun x => x == n)
def lateA (z : Int) (A : List Int) (n : Int) : Bool := A.any (fun x => decide (x > n) && decide (x - n ≥ z))
def freshA (last z : Int) (A : List Int) (n : Int) : Bool := !(n == last) && (!inA A n && !lateA z A n)
def takeA (last z : Int) (A : List Int) (n : Int) : List Int := if freshA last z A n = true then A ++ [n] else A
def topU (A : List Int) : Nat → Int
  | 0 => 0
  | i + 1 => if A.getD i 0 + 1 > topU A i then A.getD i 0 + 1 else topU A i
def topA (A : List Int) : Int := topU A A.length
theorem any_true {A : List Int} {p : Int → Bool} {i : Nat} (h : i < A.length) (hp : p (A.getD i 0) = true) : A.any p = true := by
  rw [List.any_eq_true]
  exact ⟨A[i], List.getElem_mem h, by simpa [List.getD, h] using hp⟩
theorem any_false {A : List Int} {p : Int → Bool} (h : ∀ i, i < A.length → p (A.getD i 0) = false) : A.any p = false := by
  rw [List.any_eq_false]
  intro x hx
  obtain ⟨i, hi, rfl⟩ := List.mem_iff_getElem.1 hx
  have := h i hi
  simpa [List.getD, hi] using this
theorem topU_in {A : List Int} (h : allN A) : ∀ i, i ≤ A.length → 0 ≤ topU A i ∧ topU A i < 18446744073709551616
  | 0, _ => by simp [topU]
  | i + 1, hi => by
    have := topU_in h i (by omega)
    have := h i (by omega)
    rw [topU]; split <;> omega

def c105 : Ctr := fun args objs => match args, objs with
  | [.one (.ptr 0 0), .one (.int .u64 n)], [.own 0 [.c (.int .i64 _), .c (.int .u64 _), .c (.sl 1 0 m 1)], .own 1 [.ints .u64 A m']] =>
    some ⟨[m = m', A.length = m, m < 1000000], .v (.one (.bool false (inA A n))), [], []⟩
  | _, _ => none
theorem m105 : Meets Try.prog 105 c105 := by
  refine meets_of_run2 tab_ok env0 mixed [.tmp 4] Try.func105 rfl Try.ntmps105 Try.call105 (fun t w => by simp [results, Try.results105, resS, rv1]) ?_
  intro args objs r hr hcs
  unfold c105 at hr
  split at hr
  · rename_i n z la m A m'
    simp only [Option.some.injEq] at hr; subst hr
    obtain ⟨h1, h2, h3, _⟩ := hcs
    refine ⟨rfl, ?_⟩
    conv => whnf
    subst h1
    refine ⟨?_, { i : Nat // i ≤ m ∧ ∀ j, j < i → (A.getD j 0 == n) = false }, fun i => ⟨(.v (.one (.ptr 0 0)) :: .v (.one (.int .u64 n)) :: .any :: .any :: .any :: .v (.one (.int .i64 i.1)) :: .any :: .any :: .any :: .any :: .any :: .any :: .any :: .any :: .any :: .any :: .any :: .any :: .any :: .any :: .any :: .any :: .any :: .any :: []), [.own 0 [.c (.int .i64 z), .c (.int .u64 la), .c (.sl 1 0 m 1)], .own 1 [.ints .u64 A m]]⟩, fun i => m - i.1, ⟨0, by omega, fun j hj => by omega⟩, ?_, fun _ => rfl, ?_⟩
    · repeat' apply And.intro
      all_goals first
        | exact True.intro
        | omega
        | decide +kernel
        | rfl
        | exact Nat.le_of_ble_eq_true rfl
        | (dsimp only; omega)
        | trace_state
    · refine ⟨[0, 1], [], rfl, ?_, ?_⟩
      · repeat' apply And.intro
        all_goals first
          | exact True.intro
          | rfl
          | exact Nat.le_refl _
          | decide +kernel
          | omega
          | trace_state
      · repeat' apply And.intro
        all_goals first
          | exact True.intro
          | rfl
          | exact Nat.le_refl _
          | decide +kernel
          | omega
          | trace_state
    rintro ⟨i, hi, hj⟩
    show run tab (fun _ => none) 2 _ ⟨(.v (.one (.ptr 0 0)) :: .v (.one (.int .u64 n)) :: .any :: .any :: .any :: .v (.one (.int .i64 i)) :: .any :: .any :: .any :: .any :: .any :: .any :: .any :: .any :: .any :: .any :: .any :: .any :: .any :: .any :: .any :: .any :: .any :: .any :: []), [.own 0 [.c (.int .i64 z), .c (.int .u64 la), .c (.sl 1 0 m 1)], .own 1 [.ints .u64 A m]]⟩ _ _
    refine run_K (P := fun K => run tab (fun _ => none) 2 _ ⟨_, _⟩ True K) ?_
    intro K hK
    conv => whnf
    refine ⟨trivial, fun hlt => ?_, fun hlt => ?_⟩
    · have hlt' : i < m := by simp at hlt; omega
      have e1 : isum .i64 (i : Int) 1 = ((i + 1 : Nat) : Int) := by rw [isum, i64_in] <;> omega
      conv => whnf
      refine ⟨?_, fun he => ?_, fun he => ?_⟩
      · repeat' apply And.intro
        all_goals first
          | exact True.intro
          | (rw [Int.toNat_natCast]; omega)
          | omega
          | decide +kernel
          | rfl
          | exact Nat.le_of_ble_eq_true rfl
          | (dsimp only; omega)
          | trace_state
      · conv => whnf
        subst hK
        conv => whnf
        simp only [Int.toNat_natCast, Nat.zero_add] at he
        refine ⟨?_, rfl, [0, 1], [], rfl, ⟨(any_true (p := fun x => x == n) (by omega) he).symm, trivial⟩, ⟨rfl, ⟨rfl, rfl⟩, ⟨rfl, rfl⟩, rfl, trivial⟩, ⟨rfl, rfl, rfl, rfl, trivial⟩, trivial⟩
        repeat' apply And.intro
        all_goals first
          | exact True.intro
          | omega
          | decide +kernel
          | rfl
          | exact Nat.le_of_ble_eq_true rfl
          | (dsimp only; omega)
          | trace_state
      · simp only [Int.toNat_natCast, Nat.zero_add] at he
        conv => whnf
        rw [e1]
        subst hK
        change _ ∧ _
        refine ⟨?_, ⟨i + 1, by omega, fun j hj' => ?_⟩, by show m - (i + 1) < m - i; omega, [0, 1], [], rfl, ?_, ?_⟩
        · repeat' apply And.intro
          all_goals first
            | exact True.intro
            | omega
            | decide +kernel
            | rfl
            | exact Nat.le_of_ble_eq_true rfl
            | (dsimp only; omega)
            | trace_state
        · by_cases e : j = i
          · subst e; exact he
          · exact hj j (by omega)
        · repeat' apply And.intro
          all_goals first
            | exact True.intro
            | rfl
            | exact Nat.le_refl _
            | decide +kernel
            | omega
            | trace_state
        · repeat' apply And.intro
          all_goals first
            | exact True.intro
            | rfl
            | exact Nat.le_refl _
            | decide +kernel
            | omega
            | trace_state
    · have hlt' : i = m := by simp at hlt; omega
      conv => whnf
      subst hK
      conv => whnf
      refine ⟨?_, rfl, [0, 1], [], rfl, ⟨(any_false (p := fun x => x == n) (fun j hj' => hj j (by omega))).symm, trivial⟩, ⟨rfl, ⟨rfl, rfl⟩, ⟨rfl, rfl⟩, rfl, trivial⟩, ⟨rfl, rfl, rfl, rfl, trivial⟩, trivial⟩
      repeat' apply And.intro
      all_goals first
        | exact True.intro
        | omega
        | decide +kernel
        | rfl
        | exact Nat.le_of_ble_eq_true rfl
        | (dsimp only; omega)
        | trace_state
  · cases hr
def envRF : Env := fun f => match f with
  | 105 => some c105
  | _ => none
theorem envRF_ok : EnvOk Try.prog envRF := by
  intro f c h
  unfold envRF at h
  split at h
  · simp only [Option.some.injEq] at h; subst h; exact m105
  · cases h
def c43 : Ctr := fun args objs => match args, objs with
  | [.one (.ptr 0 0), .one (.int .u64 n)], [.own 0 [.c (.int .i64 z), .c (.int .u64 la), .c (.sl 1 0 m 1)], .own 1 [.ints .u64 A m']] =>
    some ⟨[m = m', A.length = m, m < 1000000, allU A, 0 ≤ n, 0 ≤ z ∧ z ≤ 8192], .v (.one (.bool false (freshA la z A n))), [], []⟩
  | _, _ => none
theorem m43 : Meets Try.prog 43 c43 := by
  refine meets_of_run2 tab_ok envRF_ok mixed [.tmp 4] Try.func43 rfl Try.ntmps43 Try.call43 (fun t w => by simp [results, Try.results43, resS, rv1]) ?_
  intro args objs r hr hcs
  unfold c43 at hr
  split at hr
  · rename_i n z la m A m'
    simp only [Option.some.injEq] at hr; subst hr
    obtain ⟨h1, h2, h3, h4, h5, h6, _⟩ := hcs
    refine ⟨rfl, ?_⟩
    conv => whnf
    subst h1
    refine ⟨?_, fun hl => ?_, fun hl => ?_⟩
    · repeat' apply And.intro
      all_goals first
        | exact True.intro
        | exact h2
        | omega
        | decide +kernel
        | rfl
        | exact Nat.le_of_ble_eq_true rfl
        | (dsimp only; omega)
        | trace_state
    · conv => whnf
      refine ⟨trivial, rfl, [0, 1], [], rfl, ⟨?_, trivial⟩, ⟨rfl, ⟨rfl, rfl⟩, ⟨rfl, rfl⟩, rfl, trivial⟩, ⟨rfl, rfl, rfl, rfl, trivial⟩, trivial⟩
      show false = freshA la z A n
      unfold freshA; rw [hl]; rfl
    · conv => whnf
      refine ⟨trivial, fun hi => ?_, fun hi => ?_⟩
      · conv => whnf
        refine ⟨trivial, rfl, [0, 1], [], rfl, ⟨?_, trivial⟩, ⟨rfl, ⟨rfl, rfl⟩, ⟨rfl, rfl⟩, rfl, trivial⟩, ⟨rfl, rfl, rfl, rfl, trivial⟩, trivial⟩
        show false = freshA la z A n
        unfold freshA; rw [hl, hi]; rfl
      · conv => whnf
        refine ⟨?_, { i : Nat // i ≤ m ∧ ∀ j, j < i → (decide (A.getD j 0 > n) && decide (A.getD j 0 - n ≥ z)) = false }, fun i => ⟨(.v (.one (.ptr 0 0)) :: .v (.one (.int .u64 n)) :: .any :: .any :: .any :: .any :: .v (.one (.int .i64 i.1)) :: .any :: .any :: .any :: .any :: .any :: .any :: .any :: .any :: .any :: .any :: .any :: .any :: .any :: .any :: .any :: .any :: .any :: .any :: .any :: .any :: .any :: .any :: .any :: .any :: .any :: .any :: .any :: .any :: .any :: .any :: .any :: .any :: .any :: .any :: .any :: .any :: .any :: .any :: .any :: .any :: .any :: .any :: .any :: .any :: .any :: .any :: .any :: []), [.own 0 [.c (.int .i64 z), .c (.int .u64 la), .c (.sl 1 0 m 1)], .own 1 [.ints .u64 A m]]⟩, fun i => m - i.1, ⟨0, by omega, fun j hj => by omega⟩, ?_, fun _ => rfl, ?_⟩
        · repeat' apply And.intro
          all_goals first
            | exact True.intro
            | omega
            | decide +kernel
            | rfl
            | exact Nat.le_of_ble_eq_true rfl
            | (dsimp only; omega)
            | trace_state
        · refine ⟨[0, 1], [], rfl, ?_, ?_⟩
          · repeat' apply And.intro
            all_goals first
              | exact True.intro
              | rfl
              | exact Nat.le_refl _
              | decide +kernel
              | omega
              | trace_state
          · repeat' apply And.intro
            all_goals first
              | exact True.intro
              | rfl
              | exact Nat.le_refl _
              | decide +kernel
              | omega
              | trace_state
        rintro ⟨i, hi', hj⟩
        show run tab envRF 2 _ ⟨(.v (.one (.ptr 0 0)) :: .v (.one (.int .u64 n)) :: .any :: .any :: .any :: .any :: .v (.one (.int .i64 i)) :: .any :: .any :: .any :: .any :: .any :: .any :: .any :: .any :: .any :: .any :: .any :: .any :: .any :: .any :: .any :: .any :: .any :: .any :: .any :: .any :: .any :: .any :: .any :: .any :: .any :: .any :: .any :: .any :: .any :: .any :: .any :: .any :: .any :: .any :: .any :: .any :: .any :: .any :: .any :: .any :: .any :: .any :: .any :: .any :: .any :: .any :: .any :: []), [.own 0 [.c (.int .i64 z), .c (.int .u64 la), .c (.sl 1 0 m 1)], .own 1 [.ints .u64 A m]]⟩ _ _
        refine run_K (P := fun K => run tab envRF 2 _ ⟨_, _⟩ True K) ?_
        intro K hK
        conv => whnf
        refine ⟨trivial, fun hlt => ?_, fun hlt => ?_⟩
        · have hlt' : i < m := by simp at hlt; omega
          have e1 : isum .i64 (i : Int) 1 = ((i + 1 : Nat) : Int) := by rw [isum, i64_in] <;> omega
          obtain ⟨u1, u2⟩ := h4 i (by omega)
          conv => whnf
          refine ⟨?_, fun hg => ?_, fun hg => ?_⟩
          · repeat' apply And.intro
            all_goals first
              | exact True.intro
              | (rw [Int.toNat_natCast]; omega)
              | omega
              | decide +kernel
              | rfl
              | exact Nat.le_of_ble_eq_true rfl
              | (dsimp only; omega)
              | trace_state
          · simp only [Int.toNat_natCast, Nat.zero_add] at hg
            have hg' : A.getD i 0 > n := by simpa using hg
            have d1 : idif .u64 (A.getD i 0) n = A.getD i 0 - n := by rw [idif, IntWalk.u64_in]; omega
            have d2 : conv .u64 z = z := by rw [conv, IntWalk.u64_in]; omega
            conv => whnf
            simp only [Int.toNat_natCast, Nat.zero_add]
            rw [d1, d2]
            refine ⟨?_, fun hg2 => ?_, fun hg2 => ?_⟩
            · repeat' apply And.intro
              all_goals first
                | exact True.intro
                | omega
                | decide +kernel
                | rfl
                | exact Nat.le_of_ble_eq_true rfl
                | (dsimp only; omega)
                | trace_state
            · have hq : lateA z A n = true := any_true (p := fun x => decide (x > n) && decide (x - n ≥ z)) (i := i) (by omega) (by show (decide _ && decide _) = true; rw [hg2, hg]; rfl)
              conv => whnf
              subst hK
              conv => whnf
              refine ⟨?_, rfl, [0, 1], [], rfl, ⟨?_, trivial⟩, ⟨rfl, ⟨rfl, rfl⟩, ⟨rfl, rfl⟩, rfl, trivial⟩, ⟨rfl, rfl, rfl, rfl, trivial⟩, trivial⟩
              · repeat' apply And.intro
                all_goals first
                  | exact True.intro
                  | omega
                  | decide +kernel
                  | rfl
                  | exact Nat.le_of_ble_eq_true rfl
                  | (dsimp only; omega)
                  | trace_state
              · show false = freshA la z A n
                unfold freshA; rw [hl, hi, hq]; rfl
            · conv => whnf
              rw [e1]
              subst hK
              change _ ∧ _
              refine ⟨?_, ⟨i + 1, by omega, fun j hj' => ?_⟩, by show m - (i + 1) < m - i; omega, [0, 1], [], rfl, ?_, ?_⟩
              · repeat' apply And.intro
                all_goals first
                  | exact True.intro
                  | omega
                  | decide +kernel
                  | rfl
                  | exact Nat.le_of_ble_eq_true rfl
                  | (dsimp only; omega)
                  | trace_state
              · by_cases e : j = i
                · subst e; rw [hg, hg2]; rfl
                · exact hj j (by omega)
              · repeat' apply And.intro
                all_goals first
                  | exact True.intro
                  | rfl
                  | exact Nat.le_refl _
                  | decide +kernel
                  | omega
                  | trace_state
              · repeat' apply And.intro
                all_goals first
                  | exact True.intro
                  | rfl
                  | exact Nat.le_refl _
                  | decide +kernel
                  | omega
                  | trace_state
          · simp only [Int.toNat_natCast, Nat.zero_add] at hg
            conv => whnf
            rw [e1]
            subst hK
            change _ ∧ _
            refine ⟨?_, ⟨i + 1, by omega, fun j hj' => ?_⟩, by show m - (i + 1) < m - i; omega, [0, 1], [], rfl, ?_, ?_⟩
            · repeat' apply And.intro
              all_goals first
                | exact True.intro
                | omega
                | decide +kernel
                | rfl
                | exact Nat.le_of_ble_eq_true rfl
                | (dsimp only; omega)
                | trace_state
            · by_cases e : j = i
              · subst e; rw [hg]; rfl
              · exact hj j (by omega)
            · repeat' apply And.intro
              all_goals first
                | exact True.intro
                | rfl
                | exact Nat.le_refl _
                | decide +kernel
                | omega
                | trace_state
            · repeat' apply And.intro
              all_goals first
                | exact True.intro
                | rfl
                | exact Nat.le_refl _
                | decide +kernel
                | omega
                | trace_state
        · have hlt' : i = m := by simp at hlt; omega
          have hq : lateA z A n = false := any_false (p := fun x => decide (x > n) && decide (x - n ≥ z)) (fun j hj' => hj j (by omega))
          conv => whnf
          subst hK
          conv => whnf
          refine ⟨?_, rfl, [0, 1], [], rfl, ⟨?_, trivial⟩, ⟨rfl, ⟨rfl, rfl⟩, ⟨rfl, rfl⟩, rfl, trivial⟩, ⟨rfl, rfl, rfl, rfl, trivial⟩, trivial⟩
          · repeat' apply And.intro
            all_goals first
              | exact True.intro
              | omega
              | decide +kernel
              | rfl
              | exact Nat.le_of_ble_eq_true rfl
              | (dsimp only; omega)
              | trace_state
          · show true = freshA la z A n
            unfold freshA; rw [hl, hi, hq]; rfl
  · cases hr
def envRT : Env := fun f => match f with
  | 43 => some c43
  | _ => none
theorem envRT_ok : EnvOk Try.prog envRT := by
  intro f c h
  unfold envRT at h
  split at h
  · simp only [Option.some.injEq] at h; subst h; exact m43
  · cases h
def c45 : Ctr := fun args objs => match args, objs with
  | [.one (.ptr 0 0), .one (.int .u64 n)], [.own 0 [.c (.int .i64 z), .c (.int .u64 la), .c (.sl 1 0 m 1)], .own 1 [.ints .u64 A m']] =>
    some ⟨[m = m', A.length = m, m < 999999, allU A, 0 ≤ n, 0 ≤ z ∧ z ≤ 8192], .v (.one (.bool false (freshA la z A n))),
      [(0, .own 0 [.c (.int .i64 z), .c (.int .u64 la), .c (.sl 2 0 (takeA la z A n).length 1)]), (1, .gone)], [.own 1 [.ints .u64 (takeA la z A n) (takeA la z A n).length]]⟩
  | _, _ => none
theorem m45 : Meets Try.prog 45 c45 := by
  refine meets_of_run2 tab_ok envRT_ok mixed [.tmp 4] Try.func45 rfl Try.ntmps45 Try.call45 (fun t w => by simp [results, Try.results45, resS, rv1]) ?_
  intro args objs r hr hcs
  unfold c45 at hr
  split at hr
  · rename_i n z la m A m'
    simp only [Option.some.injEq] at hr; subst hr
    obtain ⟨h1, h2, h3, h4, h5, h6, _⟩ := hcs
    refine ⟨rfl, ?_⟩
    conv => whnf
    subst h1
    refine ⟨?_, fun hF => ?_, fun hF => ?_⟩
    · repeat' apply And.intro
      all_goals first
        | exact True.intro
        | exact h2
        | exact h4
        | exact h6
        | omega
        | decide +kernel
        | rfl
        | exact Nat.le_of_ble_eq_true rfl
        | (dsimp only; omega)
        | trace_state
    · have e : takeA la z A n = A ++ [n] := by unfold takeA; rw [if_pos hF]
      have el : (A ++ [n]).length = m + 1 := by rw [List.length_append, h2]; rfl
      rw [hF, e, el]
      conv => whnf
      refine ⟨?_, rfl, [0, 1, 3], [], rfl, ⟨rfl, trivial⟩, ⟨rfl, ⟨rfl, rfl⟩, ⟨rfl, rfl⟩, rfl, trivial⟩, trivial, ⟨rfl, rfl, rfl, rfl, trivial⟩, trivial⟩
      repeat' apply And.intro
      all_goals first
        | exact True.intro
        | (show m + 1 ≤ 9223372036854775807; omega)
        | (show (m + 1) * 8 ≤ 140737488355328; omega)
        | (show m * 1 = m + 0; omega)
        | omega
        | decide +kernel
        | rfl
        | exact Nat.le_of_ble_eq_true rfl
        | (dsimp only; omega)
        | trace_state
    · have e : takeA la z A n = A := by unfold takeA; rw [if_neg (by rw [hF]; decide)]
      rw [hF, e, h2]
      conv => whnf
      refine ⟨?_, rfl, [0, 1, 1], [], rfl, ⟨rfl, trivial⟩, ⟨rfl, ⟨rfl, rfl⟩, ⟨rfl, rfl⟩, rfl, trivial⟩, trivial, ⟨rfl, rfl, rfl, rfl, trivial⟩, trivial⟩
      repeat' apply And.intro
      all_goals first
        | exact True.intro
        | omega
        | decide +kernel
        | rfl
        | exact Nat.le_of_ble_eq_true rfl
        | (dsimp only; omega)
        | trace_state
  · cases hr
def c47 : Ctr := fun args objs => match args, objs with
  | [.one (.ptr 0 0)], [.own 0 [.c (.int .i64 _), .c (.int .u64 _), .c (.sl 1 0 m 1)], .own 1 [.ints .u64 A m']] =>
    some ⟨[m = m', A.length = m, m < 1000000, allN A], .v (.one (.int .u64 (topA A))), [], []⟩
  | _, _ => none
theorem m47 : Meets Try.prog 47 c47 := by
  refine meets_of_run2 tab_ok env0 mixed [.tmp 2] Try.func47 rfl Try.ntmps47 Try.call47 (fun t w => by simp [results, Try.results47, resS, rv1]) ?_
  intro args objs r hr hcs
  unfold c47 at hr
  split at hr
  · rename_i z la m A m'
    simp only [Option.some.injEq] at hr; subst hr
    obtain ⟨h1, h2, h3, h4, _⟩ := hcs
    refine ⟨rfl, ?_⟩
    conv => whnf
    subst h1
    refine ⟨?_, { i : Nat // i ≤ m }, fun i => ⟨(.v (.one (.ptr 0 0)) :: .any :: .any :: .v (.one (.int .u64 (topU A i.1))) :: .v (.one (.int .i64 i.1)) :: .any :: .any :: .any :: .any :: .any :: .any :: .any :: .any :: .any :: .any :: .any :: .any :: .any :: .any :: .any :: .any :: .any :: .any :: .any :: .any :: .any :: .any :: .any :: .any :: .any :: .any :: .any :: .any :: []), [.own 0 [.c (.int .i64 z), .c (.int .u64 la), .c (.sl 1 0 m 1)], .own 1 [.ints .u64 A m]]⟩, fun i => m - i.1, ⟨0, by omega⟩, ?_, fun _ => rfl, ?_⟩
    · repeat' apply And.intro
      all_goals first
        | exact True.intro
        | omega
        | decide +kernel
        | rfl
        | exact Nat.le_of_ble_eq_true rfl
        | (dsimp only; omega)
        | trace_state
    · refine ⟨[0, 1], [], rfl, ?_, ?_⟩
      · repeat' apply And.intro
        all_goals first
          | exact True.intro
          | rfl
          | exact Nat.le_refl _
          | decide +kernel
          | omega
          | trace_state
      · repeat' apply And.intro
        all_goals first
          | exact True.intro
          | rfl
          | exact Nat.le_refl _
          | decide +kernel
          | omega
          | trace_state
    rintro ⟨i, hi⟩
    have hs : topU A (i + 1) = if A.getD i 0 + 1 > topU A i then A.getD i 0 + 1 else topU A i := rfl
    obtain ⟨u, hu⟩ : ∃ u, u = topU A i := ⟨_, rfl⟩
    show run tab (fun _ => none) 2 _ ⟨(.v (.one (.ptr 0 0)) :: .any :: .any :: .v (.one (.int .u64 (topU A i))) :: .v (.one (.int .i64 i)) :: .any :: .any :: .any :: .any :: .any :: .any :: .any :: .any :: .any :: .any :: .any :: .any :: .any :: .any :: .any :: .any :: .any :: .any :: .any :: .any :: .any :: .any :: .any :: .any :: .any :: .any :: .any :: .any :: []), [.own 0 [.c (.int .i64 z), .c (.int .u64 la), .c (.sl 1 0 m 1)], .own 1 [.ints .u64 A m]]⟩ _ _
    refine run_K (P := fun K => run tab (fun _ => none) 2 _ ⟨_, _⟩ True K) ?_
    intro K hK
    rw [← hu]
    conv => whnf
    refine ⟨trivial, fun hlt => ?_, fun hlt => ?_⟩
    · have hlt' : i < m := by simp at hlt; omega
      have e1 : isum .i64 (i : Int) 1 = ((i + 1 : Nat) : Int) := by rw [isum, i64_in] <;> omega
      obtain ⟨u1, u2⟩ := h4 i (by omega)
      have e2 : isum .u64 (A.getD i 0) 1 = A.getD i 0 + 1 := by rw [isum, IntWalk.u64_in]; omega
      conv => whnf
      simp only [Int.toNat_natCast, Nat.zero_add]
      rw [e2]
      refine ⟨?_, fun hg => ?_, fun hg => ?_⟩
      · repeat' apply And.intro
        all_goals first
          | exact True.intro
          | omega
          | decide +kernel
          | rfl
          | exact Nat.le_of_ble_eq_true rfl
          | (dsimp only; omega)
          | trace_state
      · have ex : A.getD i 0 + 1 = topU A (i + 1) := by rw [hs, ← hu, if_pos (by simpa using hg)]
        conv => whnf
        simp only [Int.toNat_natCast, Nat.zero_add]
        rw [e1, e2]
        subst hK
        change _ ∧ _
        refine ⟨?_, ⟨i + 1, by omega⟩, by show m - (i + 1) < m - i; omega, [0, 1], [], rfl, ?_, ?_⟩
        · repeat' apply And.intro
          all_goals first
            | exact True.intro
            | omega
            | decide +kernel
            | rfl
            | exact Nat.le_of_ble_eq_true rfl
            | (dsimp only; omega)
            | trace_state
        · repeat' apply And.intro
          all_goals first
            | exact True.intro
            | rfl
            | exact ex
            | trace_state
        · repeat' apply And.intro
          all_goals first
            | exact True.intro
            | rfl
            | exact Nat.le_refl _
            | decide +kernel
            | omega
            | trace_state
      · have ex : u = topU A (i + 1) := by rw [hs, ← hu, if_neg (by simpa using hg)]
        conv => whnf
        rw [e1]
        subst hK
        change _ ∧ _
        refine ⟨?_, ⟨i + 1, by omega⟩, by show m - (i + 1) < m - i; omega, [0, 1], [], rfl, ?_, ?_⟩
        · repeat' apply And.intro
          all_goals first
            | exact True.intro
            | omega
            | decide +kernel
            | rfl
            | exact Nat.le_of_ble_eq_true rfl
            | (dsimp only; omega)
            | trace_state
        · repeat' apply And.intro
          all_goals first
            | exact True.intro
            | rfl
            | exact ex
            | trace_state
        · repeat' apply And.intro
          all_goals first
            | exact True.intro
            | rfl
            | exact Nat.le_refl _
            | decide +kernel
            | omega
            | trace_state
    · have hlt' : i = m := by simp at hlt; omega
      have ex : u = topA A := by unfold topA; rw [hu, h2, hlt']
      conv => whnf
      subst hK
      conv => whnf
      refine ⟨?_, rfl, [0, 1], [], rfl, ⟨⟨rfl, ex⟩, trivial⟩, ⟨rfl, ⟨rfl, rfl⟩, ⟨rfl, rfl⟩, rfl, trivial⟩, ⟨rfl, rfl, rfl, rfl, trivial⟩, trivial⟩
      repeat' apply And.intro
      all_goals first
        | exact True.intro
        | omega
        | decide +kernel
        | rfl
        | exact Nat.le_of_ble_eq_true rfl
        | (dsimp only; omega)
        | trace_state
  · cases hr
end Go.Proofs.Ytjbagkimpmpfgaa

