/- Chacha: the streams, walked. -/
import Derived.Test.YtjbagkimpmpfgaaC12
namespace Go.Proofs.Ytjbagkimpmpfgaa
open Go Go.Mx
set_option maxRecDepth 100000
set_option maxHeartbeats 4000000

def envP : Env := fun f => match f with
  | 32 => some c32
  | 33 => some c33
  | _ => none
theorem envP_ok : EnvOk Try.prog envP := by
  intro f c h
  unfold envP at h
  split at h
  · simp only [Option.some.injEq] at h; subst h; exact m32
  · simp only [Option.some.injEq] at h; subst h; exact m33
  · cases h
/-- The block at hand when i bytes are done. -/
def handI (k : List Int) (c : Int) (n : List Int) (i : Nat) : List Int := if i = 0 then List.replicate 64 0 else blockI k (ctrI c ((i - 1) / 64)) n
def doneI (i : Nat) : Nat := (i + 63) / 64
theorem blockI_len (k : List Int) (c : Int) (n : List Int) : (blockI k c n).length = 64 := by
  have h : (squareI k (moreI c n)).length = 16 := squareI_len rfl
  have h2 := (iter_len 10 (squareI k (moreI c n))).trans h
  unfold blockI
  rw [lays_len, addI_len (by omega), h2]
def c36 : Ctr := fun args objs => match args, objs with
  | [.agg [.ints .u8 k 32], .one (.int .u32 c), .agg [.ints .u8 n 12], .one (.str s)], [] => some ⟨[allB k, k.length = 32, isW c, allB n, n.length = 12, s.size ≤ 9223372036854775807], .v (.one (.str (ofL (streamI k c n (bl s))))), [], []⟩
  | _, _ => none
theorem hand_next {k : List Int} {c : Int} {n : List Int} {i : Nat} (h : i % 64 ≠ 0) : handI k c n (i + 1) = handI k c n i := by
  unfold handI
  rw [if_neg (by omega), if_neg (by omega)]
  congr 2; omega
theorem hand_new {k : List Int} {c : Int} {n : List Int} {i : Nat} (h : i % 64 = 0) : handI k c n (i + 1) = blockI k (ctrI c (doneI i)) n := by
  unfold handI doneI
  rw [if_neg (by omega)]
  congr 2; omega
theorem hand_get {k : List Int} {c : Int} {n : List Int} {i : Nat} : (handI k c n (i + 1)).getD (i % 64) 0 = ksI k c n i := by
  unfold handI ksI
  rw [if_neg (by omega)]
  congr 3
theorem hand_len {k : List Int} {c : Int} {n : List Int} {i : Nat} : (handI k c n i).length = 64 := by
  unfold handI
  split
  · simp
  · exact blockI_len _ _ _
theorem m36 : Meets Try.prog 36 c36 := by
  refine meets_of_run2 tab_ok envP_ok mixed [.tmp 8] Try.func36 rfl Try.ntmps36 Try.call36 (fun t w => by simp [results, Try.results36, resS, rv1]) ?_
  intro args objs r hr hcs
  unfold c36 at hr
  split at hr
  · rename_i k c n s
    simp only [Option.some.injEq] at hr; subst hr
    obtain ⟨h1, h2, h3, h4, h5, h6, _⟩ := hcs
    refine ⟨rfl, ?_⟩
    conv => whnf
    obtain ⟨S, hS⟩ : ∃ S, S = s.size := ⟨_, rfl⟩
    obtain ⟨t, ht⟩ : ∃ t, t = bl s := ⟨_, rfl⟩
    have hl : t.length = S := by rw [ht, hS, bl_length]
    have hlB : allB t := by rw [ht]; exact bl_B s
    obtain ⟨U, hU⟩ : ∃ U, U = uptoI k c n t := ⟨_, rfl⟩
    obtain ⟨B, hB⟩ : ∃ B, B = handI k c n := ⟨_, rfl⟩
    obtain ⟨D, hD⟩ : ∃ D : Nat → Int, D = fun i => ctrI c (doneI i) := ⟨_, rfl⟩
    have hDW : ∀ i, isW (D i) := fun i => by rw [hD]; exact ctrI_W _ _
    have hD0 : D 0 = c := by rw [hD]; exact ctrI_zero h3
    have hD1 : ∀ i, i % 64 = 0 → isum .u32 (D i) 1 = D (i + 1) := fun i h => by
      rw [hD]; simp only [ctrI_succ]; congr 1; unfold doneI; omega
    have hD2 : ∀ i, i % 64 ≠ 0 → D (i + 1) = D i := fun i h => by
      rw [hD]; simp only; congr 1; unfold doneI; omega
    have hB0 : B 0 = List.replicate 64 0 := by rw [hB]; rfl
    have hB1 : ∀ i, i % 64 = 0 → blockI k (D i) n = B (i + 1) := fun i h => by rw [hB, hD]; exact (hand_new h).symm
    have hB2 : ∀ i, i % 64 ≠ 0 → B (i + 1) = B i := fun i h => by rw [hB]; exact hand_next h
    have hB3 : ∀ i, (B (i + 1)).getD (i % 64) 0 = ksI k c n i := fun i => by rw [hB]; exact hand_get
    have hU0 : U 0 = t := by rw [hU]; exact uptoI_zero _ _ _ _
    have hU1 : ∀ i, i < S → (U i).set i (bxorI .u8 ((U i).getD i 0) ((B (i + 1)).getD (i % 64) 0)) = U (i + 1) := fun i h => by
      rw [hB3, hU, uptoI_get (by omega)]; exact uptoI_step (by omega)
    have hU2 : U S = streamI k c n t := by rw [hU, ← hl]; exact uptoI_all _ _ _ _
    have hUL : ∀ i, i ≤ S → (U i).length = S := fun i h => by rw [hU, uptoI_len (by omega)]; exact hl
    rw [← hS] at h6
    rw [← hS, ← ht]
    clear hU hB hD hS ht
    refine ⟨?_, { i : Nat // i ≤ S }, fun i => ⟨(.any :: .v (.one (.int .u32 (D i.1))) :: .any :: .any :: .v (.one (.ptr 0 0)) :: .any :: .v (.one (.ptr 1 0)) :: .any :: .any :: .v (.one (.sl 2 0 S 1)) :: .v (.one (.ptr 3 0)) :: .any :: .any :: .any :: .any :: .v (.one (.int .i64 S)) :: .v (.one (.int .i64 i.1)) :: .any :: .any :: .any :: .any :: .any :: .any :: .any :: .any :: .any :: .any :: .any :: .any :: .any :: .any :: .any :: .any :: .any :: .any :: .any :: .any :: .any :: .any :: .any :: .any :: []), [.own 0 [.ints .u8 k 32], .own 0 [.ints .u8 n 12], .own 1 [.ints .u8 (U i.1) S], .own 0 [.ints .u8 (B i.1) 64]]⟩, fun i => S - i.1, ⟨0, by omega⟩, ?_, fun _ => rfl, ?_⟩
    · repeat' apply And.intro
      all_goals first
        | exact True.intro
        | omega
        | decide +kernel
        | rfl
        | exact Nat.le_of_ble_eq_true rfl
        | (dsimp only; omega)
        | trace_state
    · refine ⟨[0, 1, 2, 3], [], rfl, ?_, ?_⟩
      · repeat' apply And.intro
        all_goals first
          | exact True.intro
          | rfl
          | exact hD0.symm
          | trace_state
      · exact ⟨⟨rfl, rfl, rfl, rfl, trivial⟩, ⟨rfl, rfl, rfl, rfl, trivial⟩, ⟨rfl, rfl, hU0.symm, rfl, trivial⟩, ⟨rfl, rfl, hB0.symm, rfl, trivial⟩, trivial⟩
    rintro ⟨i, hi⟩
    show run tab envP 0 _ ⟨(.any :: .v (.one (.int .u32 (D i))) :: .any :: .any :: .v (.one (.ptr 0 0)) :: .any :: .v (.one (.ptr 1 0)) :: .any :: .any :: .v (.one (.sl 2 0 S 1)) :: .v (.one (.ptr 3 0)) :: .any :: .any :: .any :: .any :: .v (.one (.int .i64 S)) :: .v (.one (.int .i64 i)) :: .any :: .any :: .any :: .any :: .any :: .any :: .any :: .any :: .any :: .any :: .any :: .any :: .any :: .any :: .any :: .any :: .any :: .any :: .any :: .any :: .any :: .any :: .any :: .any :: []), [.own 0 [.ints .u8 k 32], .own 0 [.ints .u8 n 12], .own 1 [.ints .u8 (U i) S], .own 0 [.ints .u8 (B i) 64]]⟩ _ _
    refine run_K (P := fun K => run tab envP 0 _ ⟨_, _⟩ True K) ?_
    intro K hK
    conv => whnf
    refine ⟨trivial, fun hlt => ?_, fun hge => ?_⟩
    · simp only [decide_eq_true_eq] at hlt
      have e1 : isum .i64 (i : Int) 1 = ((i + 1 : Nat) : Int) := by rw [isum, i64_in] <;> omega
      have e2 : (i : Int).tmod 64 = ((i % 64 : Nat) : Int) := by rw [Int.tmod_eq_emod_of_nonneg (by omega)]; omega
      conv => whnf
      rw [e2]
      refine ⟨?_, fun h0 => ?_, fun h0 => ?_⟩
      · repeat' apply And.intro
        all_goals first
          | exact True.intro
          | omega
          | decide +kernel
          | rfl
          | exact Nat.le_of_ble_eq_true rfl
          | (dsimp only; omega)
          | trace_state
      · have h0' : i % 64 = 0 := by simp at h0; omega
        conv => whnf
        rw [hD1 i h0', hB1 i h0', e1, e2]
        subst hK
        change _ ∧ _
        refine ⟨?_, ⟨i + 1, by omega⟩, by show S - (i + 1) < S - i; omega, [0, 1, 2, 3], [], rfl, ?_, ?_⟩
        · repeat' apply And.intro
          all_goals first
            | exact True.intro
            | exact h1
            | exact h2
            | exact hDW i
            | exact h4
            | exact h5
            | (rw [Int.toNat_natCast]; omega)
            | omega
            | decide +kernel
            | rfl
            | exact Nat.le_of_ble_eq_true rfl
            | (dsimp only; omega)
            | trace_state
        · repeat' apply And.intro
          all_goals first
            | exact True.intro
            | rfl
            | exact Nat.le_refl _
            | decide +kernel
            | omega
            | trace_state
        · refine ⟨⟨rfl, rfl, rfl, rfl, trivial⟩, ⟨rfl, rfl, rfl, rfl, trivial⟩, ⟨rfl, rfl, ?_, rfl, trivial⟩, ⟨rfl, rfl, rfl, rfl, trivial⟩, trivial⟩
          simp only [Int.toNat_natCast, Nat.zero_add]
          exact hU1 i (by omega)
      · have h0' : i % 64 ≠ 0 := by
          intro h; rw [h] at h0; simp at h0
        conv => whnf
        rw [e1, e2]
        subst hK
        change _ ∧ _
        refine ⟨?_, ⟨i + 1, by omega⟩, by show S - (i + 1) < S - i; omega, [0, 1, 2, 3], [], rfl, ?_, ?_⟩
        · repeat' apply And.intro
          all_goals first
            | exact True.intro
            | (rw [Int.toNat_natCast]; omega)
            | omega
            | decide +kernel
            | rfl
            | exact Nat.le_of_ble_eq_true rfl
            | (dsimp only; omega)
            | trace_state
        · repeat' apply And.intro
          all_goals first
            | exact True.intro
            | rfl
            | exact (hD2 i h0').symm
            | trace_state
        · refine ⟨⟨rfl, rfl, rfl, rfl, trivial⟩, ⟨rfl, rfl, rfl, rfl, trivial⟩, ⟨rfl, rfl, ?_, rfl, trivial⟩, ⟨rfl, rfl, (hB2 i h0').symm, rfl, trivial⟩, trivial⟩
          simp only [Int.toNat_natCast, Nat.zero_add]
          have := hU1 i (by omega)
          rw [hB2 i h0'] at this
          exact this
    · simp only [decide_eq_false_iff_not] at hge
      have : i = S := by omega
      subst this
      conv => whnf
      subst hK
      conv => whnf
      have ht : List.take i (List.drop 0 (U i)) = streamI k c n t := by rw [List.drop_zero, List.take_of_length_le (by rw [hUL i (by omega)]; omega), hU2]
      refine ⟨?_, rfl, [], [], rfl, ⟨?_, trivial⟩, trivial⟩
      · repeat' apply And.intro
        all_goals first
          | exact True.intro
          | omega
          | decide +kernel
          | rfl
          | exact Nat.le_of_ble_eq_true rfl
          | (dsimp only; omega)
          | trace_state
      · show ofL _ = ofL _
        rw [ht]
  · cases hr
end Go.Proofs.Ytjbagkimpmpfgaa

