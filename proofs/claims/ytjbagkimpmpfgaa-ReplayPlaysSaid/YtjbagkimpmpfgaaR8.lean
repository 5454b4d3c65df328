/- Replay: the document's Clamp and Came, walked. -/
import Derived.Test.YtjbagkimpmpfgaaR7
import Derived.Test.YtjbagkimpmpfgaaR6
namespace Go.Proofs.Ytjbagkimpmpfgaa
open Go Go.Mx
set_option maxRecDepth 100000
set_option maxHeartbeats 4000000

def c41 : Ctr := fun args objs => match args, objs with
  | [.one (.int .i64 s)], [] => some ⟨[], .v (.one (.int .i64 (clampI s))), [], []⟩
  | _, _ => none
theorem m41 : Meets Try.prog 41 c41 := by
  refine meets_of_run2 tab_ok env0 mixed [.tmp 2] Try.func41 rfl Try.ntmps41 Try.call41 (fun t w => by simp [results, Try.results41, resS, rv1]) ?_
  intro args objs r hr hcs
  unfold c41 at hr
  split at hr
  · rename_i s
    simp only [Option.some.injEq] at hr; subst hr
    refine ⟨rfl, ?_⟩
    conv => whnf
    refine ⟨trivial, fun h => ?_, fun h => ?_⟩
    · have h' : s < 1 := by simpa using h
      conv => whnf
      refine ⟨trivial, rfl, [], [], rfl, ⟨⟨rfl, ?_⟩, trivial⟩, trivial⟩
      unfold clampI; rw [if_pos h']
    · have h' : ¬ s < 1 := by simpa using h
      conv => whnf
      refine ⟨trivial, fun h2 => ?_, fun h2 => ?_⟩
      · have h2' : s > 8192 := by simpa using h2
        conv => whnf
        refine ⟨trivial, rfl, [], [], rfl, ⟨⟨rfl, ?_⟩, trivial⟩, trivial⟩
        unfold clampI; rw [if_neg h', if_pos h2']
      · have h2' : ¬ s > 8192 := by simpa using h2
        conv => whnf
        refine ⟨trivial, rfl, [], [], rfl, ⟨⟨rfl, ?_⟩, trivial⟩, trivial⟩
        unfold clampI; rw [if_neg h', if_neg h2']
  · cases hr
/-- A counter at its place among those that rise. -/
def insA (out : List Int) (n : Int) : List Int := out.takeWhile (fun x => decide (x < n)) ++ [n] ++ out.dropWhile (fun x => decide (x < n))
theorem while_of {p : Int → Bool} : ∀ {out : List Int} {a : Nat}, a ≤ out.length → (∀ j, j < a → p (out.getD j 0) = true) → (a = out.length ∨ p (out.getD a 0) = false) → out.takeWhile p = out.take a ∧ out.dropWhile p = out.drop a
  | [], a, h, _, _ => by
    have : a = 0 := by simpa using h
    subst this; simp
  | x :: l, 0, _, _, h => by
    rcases h with h | h
    · simp at h
    · have h' : p x = false := by simpa using h
      simp [h']
  | x :: l, a + 1, h, hj, he => by
    have hx : p x = true := by simpa using hj 0 (by omega)
    obtain ⟨h1, h2⟩ := while_of (p := p) (out := l) (a := a) (by simpa using h) (fun j hj' => by simpa using hj (j + 1) (by omega)) (by
      rcases he with he | he
      · left; simpa using he
      · right; simpa using he)
    simp [hx, h1, h2]
theorem insA_len (out : List Int) (n : Int) : (insA out n).length = out.length + 1 := by
  have := congrArg List.length (List.takeWhile_append_dropWhile (p := fun x => decide (x < n)) (l := out))
  rw [List.length_append] at this
  unfold insA
  rw [List.length_append, List.length_append]
  simp only [List.length_cons, List.length_nil]
  omega
def cameAU (top z : Int) (A : List Int) : Nat → List Int
  | 0 => []
  | i + 1 => if top - 1 - A.getD i 0 ≥ z then cameAU top z A i else insA (cameAU top z A i) (A.getD i 0)
def cameA (z : Int) (A : List Int) : List Int := cameAU (topA A) z A A.length
theorem topU_mono (A : List Int) (i : Nat) : topU A i ≤ topU A (i + 1) := by rw [topU]; split <;> omega
theorem topU_le (A : List Int) : ∀ (j i : Nat), i ≤ j → topU A i ≤ topU A j
  | 0, i, h => by have : i = 0 := by omega
                  subst this; exact Int.le_refl _
  | j + 1, i, h => by
    by_cases e : i = j + 1
    · subst e; exact Int.le_refl _
    · exact Int.le_trans (topU_le A j i (by omega)) (topU_mono A j)
theorem topA_gt (A : List Int) {i : Nat} (h : i < A.length) : A.getD i 0 + 1 ≤ topA A := by
  have := topU_le A A.length (i + 1) (by omega)
  have h2 : A.getD i 0 + 1 ≤ topU A (i + 1) := by rw [topU]; split <;> omega
  unfold topA; omega
def envRC : Env := fun f => match f with
  | 47 => some c47
  | _ => none
theorem envRC_ok : EnvOk Try.prog envRC := by
  intro f c h
  unfold envRC at h
  split at h
  · simp only [Option.some.injEq] at h; subst h; exact m47
  · cases h
def c49 : Ctr := fun args objs => match args, objs with
  | [.one (.ptr 0 0)], [.own 0 [.c (.int .i64 z), .c (.int .u64 _), .c (.sl 1 0 m 1)], .own 1 [.ints .u64 A m']] =>
    some ⟨[m = m', A.length = m, m < 1000000, allN A, 0 ≤ z ∧ z ≤ 8192], .v (.one (.sl 2 0 (cameA z A).length 1)), [], [.own 1 [.ints .u64 (cameA z A) (cameA z A).length]]⟩
  | _, _ => none
theorem m49 : Meets Try.prog 49 c49 := by
  refine meets_of_run2 tab_ok envRC_ok mixed [.tmp 2] Try.func49 rfl Try.ntmps49 Try.call49 (fun t w => by simp [results, Try.results49, resS, rv1]) ?_
  intro args objs r hr hcs
  unfold c49 at hr
  split at hr
  · rename_i z la m A m'
    simp only [Option.some.injEq] at hr; subst hr
    obtain ⟨h1, h2, h3, h4, h5, _⟩ := hcs
    refine ⟨rfl, ?_⟩
    conv => whnf
    subst h1
    obtain ⟨T, hT⟩ : ∃ T, T = topA A := ⟨_, rfl⟩
    obtain ⟨c, c0, cs, cE⟩ : ∃ c : Nat → List Int, c 0 = [] ∧ (∀ i, c (i + 1) = if T - 1 - A.getD i 0 ≥ z then c i else insA (c i) (A.getD i 0)) ∧ c m = cameA z A :=
      ⟨cameAU T z A, rfl, fun _ => rfl, by unfold cameA; rw [h2, hT]⟩
    have hT1 := topU_in h4 A.length (Nat.le_refl _)
    change 0 ≤ topA A ∧ topA A < _ at hT1
    rw [← hT] at hT1
    have hcl : ∀ i, (c i).length ≤ i := fun i => by
      induction i with
      | zero => rw [c0]; exact Nat.le_refl _
      | succ i ih => rw [cs]; split <;> (try rw [insA_len]) <;> omega
    rw [← cE, ← hT]
    refine ⟨?_, { i : Nat // i ≤ m }, fun i => ⟨(.v (.one (.ptr 0 0)) :: .any :: .any :: .v (.one (.sl 2 0 (c i.1).length 1)) :: .v (.one (.int .u64 T)) :: .v (.one (.int .i64 i.1)) :: .any :: .any :: .any :: .any :: .any :: .any :: .any :: .any :: .any :: .any :: .any :: .any :: .any :: .any :: .any :: .any :: .any :: .any :: .any :: .any :: .any :: .any :: .any :: .any :: .any :: .any :: .any :: .any :: .any :: .any :: .any :: .any :: .any :: .any :: .any :: .any :: .any :: .any :: .any :: .any :: .any :: .any :: .any :: .any :: .any :: .any :: .any :: .any :: .any :: .any :: .any :: .any :: .any :: .any :: .any :: .any :: .any :: .any :: .any :: .any :: []), [.own 0 [.c (.int .i64 z), .c (.int .u64 la), .c (.sl 1 0 m 1)], .own 1 [.ints .u64 A m], .own 1 [.ints .u64 (c i.1) (c i.1).length]]⟩, fun i => m - i.1, ⟨0, by omega⟩, ?_, fun _ => rfl, ?_⟩
    · repeat' apply And.intro
      all_goals first
        | exact True.intro
        | exact h2
        | exact h4
        | omega
        | decide +kernel
        | rfl
        | exact Nat.le_of_ble_eq_true rfl
        | (dsimp only; omega)
        | trace_state
    · refine ⟨[0, 1, 2], [(1, [.ints .u64 [] 0])], rfl, ?_, ?_⟩
      · repeat' apply And.intro
        all_goals first
          | exact True.intro
          | rfl
          | exact Nat.le_refl _
          | (show (c 0).length = 0; rw [c0]; rfl)
          | trace_state
      · exact ⟨⟨rfl, ⟨rfl, rfl⟩, ⟨rfl, rfl⟩, rfl, trivial⟩, ⟨rfl, rfl, rfl, rfl, trivial⟩, ⟨rfl, rfl, c0.symm, by rw [c0]; rfl, trivial⟩, trivial⟩
    rintro ⟨i, hi⟩
    have hci := hcl i
    have hs := cs i
    obtain ⟨w, hw⟩ : ∃ w, w = c i := ⟨_, rfl⟩
    show run tab envRC 2 _ ⟨(.v (.one (.ptr 0 0)) :: .any :: .any :: .v (.one (.sl 2 0 (c i).length 1)) :: .v (.one (.int .u64 T)) :: .v (.one (.int .i64 i)) :: .any :: .any :: .any :: .any :: .any :: .any :: .any :: .any :: .any :: .any :: .any :: .any :: .any :: .any :: .any :: .any :: .any :: .any :: .any :: .any :: .any :: .any :: .any :: .any :: .any :: .any :: .any :: .any :: .any :: .any :: .any :: .any :: .any :: .any :: .any :: .any :: .any :: .any :: .any :: .any :: .any :: .any :: .any :: .any :: .any :: .any :: .any :: .any :: .any :: .any :: .any :: .any :: .any :: .any :: .any :: .any :: .any :: .any :: .any :: .any :: []), [.own 0 [.c (.int .i64 z), .c (.int .u64 la), .c (.sl 1 0 m 1)], .own 1 [.ints .u64 A m], .own 1 [.ints .u64 (c i) (c i).length]]⟩ _ _
    refine run_K (P := fun K => run tab envRC 2 _ ⟨_, _⟩ True K) ?_
    intro K hK
    rw [← hw]
    conv => whnf
    refine ⟨trivial, fun hlt => ?_, fun hlt => ?_⟩
    · have hlt' : i < m := by simp at hlt; omega
      have e1 : isum .i64 (i : Int) 1 = ((i + 1 : Nat) : Int) := by rw [isum, i64_in] <;> omega
      obtain ⟨u1, u2⟩ := h4 i (by omega)
      have u3 := topA_gt A (i := i) (by omega)
      rw [← hT] at u3
      obtain ⟨n, hn⟩ : ∃ n, n = A.getD i 0 := ⟨_, rfl⟩
      have d1 : idif .u64 T 1 = T - 1 := by rw [idif, IntWalk.u64_in]; omega
      have d2 : idif .u64 (T - 1) n = T - 1 - n := by rw [idif, IntWalk.u64_in]; omega
      have d3 : conv .u64 z = z := by rw [conv, IntWalk.u64_in]; omega
      rw [← hn] at hs u1 u2 u3
      rw [← hw] at hs hci
      conv => whnf
      simp only [Int.toNat_natCast, Nat.zero_add]
      rw [← hn, d1, d2, d3]
      refine ⟨?_, fun hg => ?_, fun hg => ?_⟩
      · repeat' apply And.intro
        all_goals first
          | exact True.intro
          | omega
          | decide +kernel
          | rfl
          | exact Nat.le_of_ble_eq_true rfl
          | (dsimp only; omega)
          | trace_state
      · have ec : c (i + 1) = w := by rw [hs, if_pos (by simpa using hg)]
        conv => whnf
        rw [e1]
        subst hK
        change _ ∧ _
        refine ⟨?_, ⟨i + 1, by omega⟩, by show m - (i + 1) < m - i; omega, [0, 1, 2], [], rfl, ?_, ?_⟩
        · repeat' apply And.intro
          all_goals first
            | exact True.intro
            | omega
            | decide +kernel
            | rfl
            | exact Nat.le_of_ble_eq_true rfl
            | (dsimp only; omega)
            | trace_state
        · repeat' apply And.intro
          all_goals first
            | exact True.intro
            | rfl
            | (show C.sl _ 0 _ 1 = C.sl _ 0 (c (i + 1)).length 1; rw [ec]; rfl)
            | trace_state
        · exact ⟨⟨rfl, ⟨rfl, rfl⟩, ⟨rfl, rfl⟩, rfl, trivial⟩, ⟨rfl, rfl, rfl, rfl, trivial⟩, ⟨rfl, rfl, ec.symm, by rw [ec], trivial⟩, trivial⟩
      · have ec : c (i + 1) = insA w n := by rw [hs, if_neg (by simpa using hg)]
        conv => whnf
        refine ⟨?_, { a : Nat // a ≤ w.length ∧ ∀ j, j < a → decide (w.getD j 0 < n) = true }, fun a => ⟨(.v (.one (.ptr 0 0)) :: .any :: .any :: .v (.one (.sl 2 0 w.length 1)) :: .v (.one (.int .u64 T)) :: .v (.one (.int .i64 i)) :: .v (.one (.int .u64 n)) :: .v (.one (.int .i64 a.1)) :: .any :: .any :: .any :: .any :: .any :: .any :: .any :: .any :: .any :: .any :: .any :: .any :: .any :: .any :: .any :: .any :: .any :: .any :: .any :: .any :: .any :: .any :: .any :: .any :: .any :: .any :: .any :: .any :: .any :: .any :: .any :: .any :: .any :: .any :: .any :: .any :: .any :: .any :: .any :: .any :: .any :: .any :: .any :: .any :: .any :: .any :: .any :: .any :: .any :: .any :: .any :: .any :: .any :: .any :: .any :: .any :: .any :: .any :: []), [.own 0 [.c (.int .i64 z), .c (.int .u64 la), .c (.sl 1 0 m 1)], .own 1 [.ints .u64 A m], .own 1 [.ints .u64 w w.length]]⟩, fun a => w.length - a.1, ⟨0, by omega, fun j hj => by omega⟩, ?_, fun _ => rfl, ?_⟩
        · repeat' apply And.intro
          all_goals first
            | exact True.intro
            | omega
            | decide +kernel
            | rfl
            | exact Nat.le_of_ble_eq_true rfl
            | (dsimp only; omega)
            | trace_state
        · refine ⟨[0, 1, 2], [], rfl, ?_, ?_⟩
          · repeat' apply And.intro
            all_goals first
              | exact True.intro
              | rfl
              | exact Nat.le_refl _
              | decide +kernel
              | omega
              | trace_state
          · repeat' apply And.intro
            all_goals first
              | exact True.intro
              | rfl
              | exact Nat.le_refl _
              | decide +kernel
              | omega
              | trace_state
        rintro ⟨a, ha, haj⟩
        show run tab envRC 2 _ ⟨(.v (.one (.ptr 0 0)) :: .any :: .any :: .v (.one (.sl 2 0 w.length 1)) :: .v (.one (.int .u64 T)) :: .v (.one (.int .i64 i)) :: .v (.one (.int .u64 n)) :: .v (.one (.int .i64 a)) :: .any :: .any :: .any :: .any :: .any :: .any :: .any :: .any :: .any :: .any :: .any :: .any :: .any :: .any :: .any :: .any :: .any :: .any :: .any :: .any :: .any :: .any :: .any :: .any :: .any :: .any :: .any :: .any :: .any :: .any :: .any :: .any :: .any :: .any :: .any :: .any :: .any :: .any :: .any :: .any :: .any :: .any :: .any :: .any :: .any :: .any :: .any :: .any :: .any :: .any :: .any :: .any :: .any :: .any :: .any :: .any :: .any :: .any :: []), [.own 0 [.c (.int .i64 z), .c (.int .u64 la), .c (.sl 1 0 m 1)], .own 1 [.ints .u64 A m], .own 1 [.ints .u64 w w.length]]⟩ _ _
        refine run_K (P := fun K => run tab envRC 2 _ ⟨_, _⟩ True K) ?_
        intro K hK
        conv => whnf
        refine ⟨trivial, fun hlt2 => ?_, fun hlt2 => ?_⟩
        · have hlt2' : a < w.length := by simp at hlt2; omega
          have e2 : isum .i64 (a : Int) 1 = ((a + 1 : Nat) : Int) := by rw [isum, i64_in] <;> omega
          conv => whnf
          simp only [Int.toNat_natCast, Nat.zero_add]
          refine ⟨?_, fun hg2 => ?_, fun hg2 => ?_⟩
          · repeat' apply And.intro
            all_goals first
              | exact True.intro
              | omega
              | decide +kernel
              | rfl
              | exact Nat.le_of_ble_eq_true rfl
              | (dsimp only; omega)
              | trace_state
          · conv => whnf
            rw [e2]
            subst hK
            change _ ∧ _
            refine ⟨?_, ⟨a + 1, by omega, fun j hj' => ?_⟩, by show w.length - (a + 1) < w.length - a; omega, [0, 1, 2], [], rfl, ?_, ?_⟩
            · repeat' apply And.intro
              all_goals first
                | exact True.intro
                | omega
                | decide +kernel
                | rfl
                | exact Nat.le_of_ble_eq_true rfl
                | (dsimp only; omega)
                | trace_state
            · by_cases e : j = a
              · subst e; exact hg2
              · exact haj j (by omega)
            · repeat' apply And.intro
              all_goals first
                | exact True.intro
                | rfl
                | exact Nat.le_refl _
                | decide +kernel
                | omega
                | trace_state
            · repeat' apply And.intro
              all_goals first
                | exact True.intro
                | rfl
                | exact Nat.le_refl _
                | decide +kernel
                | omega
                | trace_state
          · have hex : a = w.length ∨ decide (w.getD a 0 < n) = false := .inr hg2
            obtain ⟨w1, w2⟩ := while_of (p := fun x => decide (x < n)) ha haj hex
            have ei : insA w n = w.take a ++ [n] ++ w.drop a := by unfold insA; rw [w1, w2]
            have hlen : (c (i + 1)).length = w.length + 1 := by rw [ec, insA_len]
            have hdr : List.take (w.length - a) (List.drop a w) = List.drop a w := List.take_of_length_le (by rw [List.length_drop]; omega)
            conv => whnf
            subst hK
            conv => whnf
            rw [e1]
            subst hK
            change _ ∧ _
            refine ⟨?_, ⟨i + 1, by omega⟩, by show m - (i + 1) < m - i; omega, [0, 1, 6], [], rfl, ?_, ?_⟩
            · dsimp only [ti47]
              simp only [sizeS, Seg.size, Int.toNat_natCast, Int.toNat_zero, natB]
              repeat' apply And.intro
              all_goals first
                | exact True.intro
                | omega
                | decide +kernel
                | rfl
                | exact Nat.le_of_ble_eq_true rfl
                | (dsimp only; omega)
                | trace_state
            · repeat' apply And.intro
              all_goals first
                | exact True.intro
                | rfl
                | (show C.sl 6 0 (a - 0 + 1 + (w.length - a)) 1 = C.sl 6 0 (c (i + 1)).length 1; rw [hlen]; congr 1; omega)
                | trace_state
            · refine ⟨⟨rfl, ⟨rfl, rfl⟩, ⟨rfl, rfl⟩, rfl, trivial⟩, ⟨rfl, rfl, rfl, rfl, trivial⟩, ⟨rfl, rfl, ?_, ?_, trivial⟩, trivial⟩
              · show List.take (a - 0) (List.drop 0 w) ++ [n] ++ List.take (w.length - a) (List.drop a w) = c (i + 1)
                rw [ec, ei, hdr]; rfl
              · show a - 0 + 1 + (w.length - a) = (c (i + 1)).length
                rw [hlen]; omega
        · have hex : a = w.length ∨ decide (w.getD a 0 < n) = false := .inl (by simp at hlt2; omega)
          obtain ⟨w1, w2⟩ := while_of (p := fun x => decide (x < n)) ha haj hex
          have ei : insA w n = w.take a ++ [n] ++ w.drop a := by unfold insA; rw [w1, w2]
          have hlen : (c (i + 1)).length = w.length + 1 := by rw [ec, insA_len]
          have hdr : List.take (w.length - a) (List.drop a w) = List.drop a w := List.take_of_length_le (by rw [List.length_drop]; omega)
          conv => whnf
          subst hK
          conv => whnf
          rw [e1]
          subst hK
          change _ ∧ _
          refine ⟨?_, ⟨i + 1, by omega⟩, by show m - (i + 1) < m - i; omega, [0, 1, 6], [], rfl, ?_, ?_⟩
          · dsimp only [ti47]
            simp only [sizeS, Seg.size, Int.toNat_natCast, Int.toNat_zero, natB]
            repeat' apply And.intro
            all_goals first
              | exact True.intro
              | omega
              | decide +kernel
              | rfl
              | exact Nat.le_of_ble_eq_true rfl
              | (dsimp only; omega)
              | trace_state
          · repeat' apply And.intro
            all_goals first
              | exact True.intro
              | rfl
              | (show C.sl 6 0 (a - 0 + 1 + (w.length - a)) 1 = C.sl 6 0 (c (i + 1)).length 1; rw [hlen]; congr 1; omega)
              | trace_state
          · refine ⟨⟨rfl, ⟨rfl, rfl⟩, ⟨rfl, rfl⟩, rfl, trivial⟩, ⟨rfl, rfl, rfl, rfl, trivial⟩, ⟨rfl, rfl, ?_, ?_, trivial⟩, trivial⟩
            · show List.take (a - 0) (List.drop 0 w) ++ [n] ++ List.take (w.length - a) (List.drop a w) = c (i + 1)
              rw [ec, ei, hdr]; rfl
            · show a - 0 + 1 + (w.length - a) = (c (i + 1)).length
              rw [hlen]; omega
    · have hlt' : i = m := by simp at hlt; omega
      subst hlt'
      rw [← hw] at hK
      conv => whnf
      subst hK
      conv => whnf
      refine ⟨?_, rfl, [0, 1, 2], [], rfl, ⟨rfl, trivial⟩, ⟨rfl, ⟨rfl, rfl⟩, ⟨rfl, rfl⟩, rfl, trivial⟩, ⟨rfl, rfl, rfl, rfl, trivial⟩, ⟨rfl, rfl, rfl, rfl, trivial⟩, trivial⟩
      repeat' apply And.intro
      all_goals first
        | exact True.intro
        | omega
        | decide +kernel
        | rfl
        | exact Nat.le_of_ble_eq_true rfl
        | (dsimp only; omega)
        | trace_state
  · cases hr
end Go.Proofs.Ytjbagkimpmpfgaa

