/- Texts joined for the claims: C1, C3, C4, C5, C6, C7, C8, C9, C10, C11, C12, C13, C14, Pick. Conditions: those that each lists. -/
import Derived.Test.YtjbagkimpmpfgaaLB
set_option linter.unusedSimpArgs false
set_option linter.unusedVariables false

/- Chacha: the quarter rounds. -/
namespace Go.Proofs.Ytjbagkimpmpfgaa
open Go Go.Mx
set_option maxRecDepth 100000

abbrev vW (a : W) : V1 := .one (.int .u32 (wI a))
def isTurn (k : Int) : Prop := k = 16 ∨ k = 12 ∨ k = 8 ∨ k = 7

def c95 : Ctr := fun args objs => match args, objs with
  | [.one (.int .u32 x), .one (.int .i64 k)], [] => some ⟨[isW x, isTurn k], .v (vW (rotl (wB x) k.toNat)), [], []⟩
  | _, _ => none
def c94 : Ctr := fun args objs => match args, objs with
  | [.one (.int .i64 x), .one (.int .i64 k)], [] => some ⟨[isW x, isTurn k], .v (.one (.int .i64 (wI (rotl (wB x) k.toNat)))), [], []⟩
  | _, _ => none
theorem env0 : EnvOk Try.prog (fun _ => none) := fun _ _ h => nomatch h

theorem sh64 {k : Int} (h : isTurn k) : bandI .u64 (conv .u64 k) 31 = k ∧ idif .u64 32 k = 32 - k ∧ 0 ≤ k ∧ 0 ≤ 32 - k := by
  rcases h with rfl | rfl | rfl | rfl <;> decide
theorem turn_nat {k : Int} (h : isTurn k) : ∃ n : Nat, k = n ∧ n ≤ 32 ∧ (32 : Int) - k = ((32 - n : Nat) : Int) ∧ n ≤ 16 ∧ 0 < n := by
  rcases h with rfl | rfl | rfl | rfl
  · exact ⟨16, rfl, by omega, rfl, by omega, by omega⟩
  · exact ⟨12, rfl, by omega, rfl, by omega, by omega⟩
  · exact ⟨8, rfl, by omega, rfl, by omega, by omega⟩
  · exact ⟨7, rfl, by omega, rfl, by omega, by omega⟩

theorem m95 : Meets Try.prog 95 c95 := by
  refine meets_of_run tab_ok env0 mixed [4] Try.func95 rfl Try.ntmps95 Try.call95 (fun t w => by simp [results, Try.results95, resV]) ?_
  intro args objs r hr hcs
  unfold c95 at hr
  split at hr
  · simp only [Option.some.injEq] at hr; subst hr
    obtain ⟨h1, h2, _⟩ := hcs
    obtain ⟨a, rfl⟩ := of_isW h1
    obtain ⟨e1, e2, e3, e4⟩ := sh64 h2
    refine ⟨rfl, ?_⟩
    conv => whnf
    rw [e1, e2]
    refine ⟨⟨e4, e3, trivial⟩, rfl, [], [], rfl, ⟨⟨rfl, ?_⟩, trivial⟩, trivial⟩
    obtain ⟨n, rfl, hn, e5, _⟩ := turn_nat h2
    rw [e5, wB_wI, u32_shl a hn, shr_any .u32 a (by simp [IntKind.bits]), u32_or]
    rfl
  · cases hr

theorem turn64 (a : W) {n : Nat} (hn : n ≤ 16) (h0 : 0 < n) : borI .i64 ((shlI .i64 (wI a) (n : Int)).tmod 4294967296) (shrI .i64 (wI a) ((32 - n : Nat) : Int)) = wI (rotl a n) := by
  have hl := a.isLt
  have e1 : shlI .i64 (wI a) (n : Int) = ((a.toNat * 2 ^ n : Nat) : Int) := by
    have e : min ((n : Int).toNat) IntKind.i64.bits = n := by simp [IntKind.bits]; omega
    simp only [shlI, e, wI]
    have h2 : a.toNat * 2 ^ n ≤ 4294967295 * 2 ^ 16 := Nat.mul_le_mul (by omega) (Nat.pow_le_pow_right (by omega) hn)
    rw [i64_in]
    · push_cast; rfl
    · have : ((a.toNat : Int) * 2 ^ n) = ((a.toNat * 2 ^ n : Nat) : Int) := by push_cast; rfl
      rw [this]
      omega
  have e2 : (((a.toNat * 2 ^ n : Nat) : Int)).tmod 4294967296 = wI (a <<< n) := by
    rw [Int.tmod_eq_emod_of_nonneg (by omega)]
    simp [wI, BitVec.toNat_shiftLeft, Nat.shiftLeft_eq]
  rw [e1, e2, shr_any .i64 a (by simp [IntKind.bits]; omega), i64_or]
  rfl

theorem m94 : Meets Try.prog 94 c94 := by
  refine meets_of_run tab_ok env0 mixed [4] Try.func94 rfl Try.ntmps94 Try.call94 (fun t w => by simp [results, Try.results94, resV]) ?_
  intro args objs r hr hcs
  unfold c94 at hr
  split at hr
  · simp only [Option.some.injEq] at hr; subst hr
    obtain ⟨h1, h2, _⟩ := hcs
    obtain ⟨a, rfl⟩ := of_isW h1
    refine ⟨rfl, ?_⟩
    conv => whnf
    obtain ⟨n, rfl, hn, e5, h16, h0⟩ := turn_nat h2
    have e6 : idif .i64 32 (n : Int) = ((32 - n : Nat) : Int) := by rw [← e5, idif, i64_in]; omega
    rw [e6]
    refine ⟨⟨by decide +kernel, by omega, by decide, by omega, trivial⟩, rfl, [], [], rfl, ⟨⟨rfl, ?_⟩, trivial⟩, trivial⟩
    rw [turn64 a h16 h0, wB_wI]
    rfl
  · cases hr

def quarter (a b c d : W) : W × W × W × W :=
  let a := a + b
  let d := rotl (d ^^^ a) 16
  let c := c + d
  let b := rotl (b ^^^ c) 12
  let a := a + b
  let d := rotl (d ^^^ a) 8
  let c := c + d
  let b := rotl (b ^^^ c) 7
  (a, b, c, d)
def c30 : Ctr := fun args objs => match args, objs with
  | [.one (.int .u32 a), .one (.int .u32 b), .one (.int .u32 c), .one (.int .u32 d)], [] =>
    some ⟨[isW a, isW b, isW c, isW d], .tup [vW (quarter (wB a) (wB b) (wB c) (wB d)).1, vW (quarter (wB a) (wB b) (wB c) (wB d)).2.1, vW (quarter (wB a) (wB b) (wB c) (wB d)).2.2.1, vW (quarter (wB a) (wB b) (wB c) (wB d)).2.2.2], [], []⟩
  | _, _ => none
def envQ : Env := fun f => match f with
  | 94 => some c94
  | 95 => some c95
  | _ => none
theorem envQ_ok : EnvOk Try.prog envQ := by
  intro f c h
  unfold envQ at h
  split at h
  · simp at h; subst h; exact m94
  · simp at h; subst h; exact m95
  · cases h
theorem m30 : Meets Try.prog 30 c30 := by
  refine meets_of_run tab_ok envQ_ok mixed [8, 9, 10, 11] Try.func30 rfl Try.ntmps30 Try.call30 (fun t w => by simp [results, Try.results30, resV]) ?_
  intro args objs r hr hcs
  unfold c30 at hr
  split at hr
  · simp only [Option.some.injEq] at hr; subst hr
    obtain ⟨h1, h2, h3, h4, _⟩ := hcs
    obtain ⟨a, rfl⟩ := of_isW h1
    obtain ⟨b, rfl⟩ := of_isW h2
    obtain ⟨c, rfl⟩ := of_isW h3
    obtain ⟨d, rfl⟩ := of_isW h4
    refine ⟨rfl, ?_⟩
    conv => whnf
    simp only [u32_sum, u32_xor, wB_wI]
    refine ⟨⟨by simp [isTurn], wI_is _, by simp [isTurn], wI_is _, by simp [isTurn], wI_is _, by simp [isTurn], wI_is _, trivial⟩, rfl, [], [], rfl, ⟨⟨⟨rfl, rfl⟩, ⟨rfl, rfl⟩, ⟨rfl, rfl⟩, ⟨rfl, rfl⟩, trivial⟩, trivial⟩, trivial⟩
  · cases hr

/-- The quarter round at four places of a list. -/
def quarterAt (l : List Int) (a b c d : Nat) : List Int :=
  let q := quarter (wB (l.getD a 0)) (wB (l.getD b 0)) (wB (l.getD c 0)) (wB (l.getD d 0))
  (((l.set a (wI q.1)).set b (wI q.2.1)).set c (wI q.2.2.1)).set d (wI q.2.2.2)
def allW (l : List Int) : Prop := ∀ i, i < l.length → isW (l.getD i 0)
def c29 : Ctr := fun args objs => match args, objs with
  | [.one (.sl 0 0 n 1), .one (.int .i64 a), .one (.int .i64 b), .one (.int .i64 c), .one (.int .i64 d)], [.own 1 [.ints .i64 l n']] =>
    some ⟨[n = n', allW l, l.length = n, 0 ≤ a ∧ a < n, 0 ≤ b ∧ b < n, 0 ≤ c ∧ c < n, 0 ≤ d ∧ d < n, a ≠ b ∧ a ≠ c ∧ a ≠ d ∧ b ≠ c ∧ b ≠ d ∧ c ≠ d], .tup [], [(0, .own 1 [.ints .i64 (quarterAt l a.toNat b.toNat c.toNat d.toNat) n])], []⟩
  | _, _ => none
theorem gset_same {l : List Int} {i : Nat} {v : Int} (h : i < l.length) : (l.set i v).getD i 0 = v := by simp [List.getD, h]
theorem gset_ne {l : List Int} {i j : Nat} {v : Int} (h : i ≠ j) : (l.set i v).getD j 0 = l.getD j 0 := by simp [List.getD, List.getElem?_set_ne h]
theorem set8 {l : List Int} {a b c d : Nat} {a1 b1 c1 d1 a2 b2 c2 d2 : Int} (hab : a ≠ b) (hac : a ≠ c) (had : a ≠ d) (hbc : b ≠ c) (hbd : b ≠ d) (hcd : c ≠ d) :
    (((((((l.set a a1).set d d1).set c c1).set b b1).set a a2).set d d2).set c c2).set b b2 = (((l.set a a2).set b b2).set c c2).set d d2 := by
  apply List.ext_getElem?
  intro i
  simp only [List.getElem?_set, List.length_set]
  by_cases h1 : a = i
  · subst h1
    simp [Ne.symm hab, Ne.symm hac, Ne.symm had]
  · by_cases h2 : b = i
    · subst h2; simp [Ne.symm hbc, Ne.symm hbd]
    · by_cases h3 : c = i
      · subst h3; simp [h2, Ne.symm hcd]
      · by_cases h4 : d = i
        · subst h4; simp [h2, h3]
        · simp [h1, h2, h3, h4]
theorem sum_rem (a b : W) : (isum .i64 (wI a) (wI b)).tmod 4294967296 = wI (a + b) := by
  rw [i64_sum]
  have := wI_lt a
  have := wI_lt b
  rw [Int.tmod_eq_emod_of_nonneg (by omega)]
  simp only [wI, BitVec.toNat_add]
  omega
theorem m29 : Meets Try.prog 29 c29 := by
  refine meets_of_run tab_ok envQ_ok mixed [] Try.func29 rfl Try.ntmps29 Try.call29 (fun t w => by simp [results, Try.results29, resV]) ?_
  intro args objs r hr hcs
  unfold c29 at hr
  split at hr
  · rename_i n a0 b0 c0 d0 l n'
    simp only [Option.some.injEq] at hr; subst hr
    obtain ⟨h1, h2, h3, h4, h5, h6, h7, h8, _⟩ := hcs
    refine ⟨rfl, ?_⟩
    conv => whnf
    subst h1
    obtain ⟨a, rfl⟩ : ∃ i : Nat, a0 = (i : Int) := ⟨_, (Int.toNat_of_nonneg h4.1).symm⟩
    obtain ⟨b, rfl⟩ : ∃ i : Nat, b0 = (i : Int) := ⟨_, (Int.toNat_of_nonneg h5.1).symm⟩
    obtain ⟨c, rfl⟩ : ∃ i : Nat, c0 = (i : Int) := ⟨_, (Int.toNat_of_nonneg h6.1).symm⟩
    obtain ⟨d, rfl⟩ : ∃ i : Nat, d0 = (i : Int) := ⟨_, (Int.toNat_of_nonneg h7.1).symm⟩
    subst h3
    have la : a < l.length := by omega
    have lb : b < l.length := by omega
    have lc : c < l.length := by omega
    have ld : d < l.length := by omega
    obtain ⟨x, hx⟩ := of_isW (h2 a la)
    obtain ⟨y, hy⟩ := of_isW (h2 b lb)
    obtain ⟨z, hz⟩ := of_isW (h2 c lc)
    obtain ⟨u, hu⟩ := of_isW (h2 d ld)
    have hab : a ≠ b := by omega
    have hac : a ≠ c := by omega
    have had : a ≠ d := by omega
    have hbc : b ≠ c := by omega
    have hbd : b ≠ d := by omega
    have hcd : c ≠ d := by omega
    simp only [Int.toNat_natCast, Nat.zero_add, gset_same, gset_ne, List.length_set, la, lb, lc, ld, ne_eq, hab, hac, had, hbc, hbd, hcd, Ne.symm hab, Ne.symm hac, Ne.symm had, Ne.symm hbc, Ne.symm hbd, Ne.symm hcd, not_false_eq_true, hx, hy, hz, hu, sum_rem, i64_xor, wB_wI]
    refine ⟨?_, rfl, [0], [], rfl, ⟨trivial, trivial⟩, ⟨rfl, rfl, ?_, rfl, trivial⟩, trivial⟩
    · repeat' apply And.intro
      all_goals first
        | exact True.intro
        | assumption
        | omega
        | decide +kernel
        | exact wI_is _
        | simp [isTurn]
    · rw [set8 hab hac had hbc hbd hcd]
      simp only [quarterAt, hx, hy, hz, hu, wB_wI]
      rfl
  · cases hr

def c31 : Ctr := fun args objs => match args, objs with
  | [], [] => some ⟨[], .v (.one (.bool true true)), [], []⟩
  | _, _ => none
def envA : Env := fun f => match f with
  | 29 => some c29
  | 30 => some c30
  | 94 => some c94
  | 95 => some c95
  | _ => none
theorem envA_ok : EnvOk Try.prog envA := by
  intro f c h
  unfold envA at h
  split at h
  · simp at h; subst h; exact m29
  · simp at h; subst h; exact m30
  · simp at h; subst h; exact m94
  · simp at h; subst h; exact m95
  · cases h
theorem m31 : Meets Try.prog 31 c31 := by
  refine meets_of_run tab_ok envA_ok mixed [0] Try.func31 rfl Try.ntmps31 Try.call31 (fun t w => by simp [results, Try.results31, resV]) ?_
  intro args objs r hr hcs
  unfold c31 at hr
  split at hr
  · simp only [Option.some.injEq] at hr; subst hr
    refine ⟨rfl, ?_⟩
    conv => whnf
    have q : quarter (wB 286331153) (wB 16909060) (wB 2609737539) (wB 19088743) = (3928658676#32, 3407673550#32, 1166100270#32, 1484899515#32) := by decide +kernel
    rw [q]
    refine ⟨⟨⟨by decide, by decide⟩, ⟨by decide, by decide⟩, ⟨by decide, by decide⟩, ⟨by decide, by decide⟩, trivial⟩, fun _ => ?_, fun h => absurd h (by decide)⟩
    conv => whnf
    refine ⟨trivial, fun _ => ?_, fun h => absurd h (by decide)⟩
    conv => whnf
    refine ⟨trivial, fun _ => ?_, fun h => absurd h (by decide)⟩
    conv => whnf
    refine ⟨trivial, rfl, [], [], rfl, ⟨(by show (wI (1484899515#32) == 1484899515) = true; decide +kernel), trivial⟩, trivial⟩
  · cases hr

def envL : Env := fun f => match f with
  | 31 => some c31
  | f => envA f
theorem envL_ok : EnvOk Try.prog envL := by
  intro f c h
  unfold envL at h
  split at h
  · simp at h; subst h; exact m31
  · exact envA_ok _ _ h
def c3 : Ctr := fun args objs => match args, objs with
  | [.one (.int .u32 a), .one (.int .u32 b), .one (.int .u32 c), .one (.int .u32 d)], [] => some ⟨[isW a, isW b, isW c, isW d], .v (.one (.bool true true)), [], []⟩
  | _, _ => none
theorem no_self {x y : Int} (e : y = x) (h : (x == y) = false) : False := by subst e; simp at h
theorem quarter4 (a b c d : W) : quarterAt [wI a, wI b, wI c, wI d] 0 (Int.toNat 1) (Int.toNat 2) (Int.toNat 3) = [wI (quarter a b c d).1, wI (quarter a b c d).2.1, wI (quarter a b c d).2.2.1, wI (quarter a b c d).2.2.2] := by
  show quarterAt [wI a, wI b, wI c, wI d] 0 1 2 3 = _
  simp [quarterAt, wB_wI]
theorem allW4 (a b c d : W) : allW [wI a, wI b, wI c, wI d] := by
  intro i hi
  match i, hi with
  | 0, _ => exact wI_is _
  | 1, _ => exact wI_is _
  | 2, _ => exact wI_is _
  | 3, _ => exact wI_is _
theorem m3 : Meets Try.prog 3 c3 := by
  refine meets_of_run tab_ok envL_ok mixed [8] Try.func3 rfl Try.ntmps3 Try.call3 (fun t w => by simp [results, Try.results3, resV]) ?_
  intro args objs r hr hcs
  unfold c3 at hr
  split at hr
  · simp only [Option.some.injEq] at hr; subst hr
    obtain ⟨h1, h2, h3, h4, _⟩ := hcs
    obtain ⟨a, rfl⟩ := of_isW h1
    obtain ⟨b, rfl⟩ := of_isW h2
    obtain ⟨c, rfl⟩ := of_isW h3
    obtain ⟨d, rfl⟩ := of_isW h4
    refine ⟨rfl, ?_⟩
    conv => whnf
    simp only [i64_conv, wB_wI, ti3, Nat.mul_one, List.replicate, List.set, Nat.zero_add, Int.toNat_zero, quarter4 a b c d]
    refine ⟨?_, fun _ => ?_, fun h => (no_self rfl h).elim⟩
    · repeat' apply And.intro
      all_goals first
        | exact True.intro
        | assumption
        | exact allW4 a b c d
        | rfl
        | decide +kernel
    conv => whnf
    refine ⟨?_, fun _ => ?_, fun h => (by simp only [i64_conv] at h; exact (no_self rfl h).elim)⟩
    · repeat' apply And.intro
      all_goals first
        | exact True.intro
        | decide +kernel
    conv => whnf
    refine ⟨?_, fun _ => ?_, fun h => (by simp only [i64_conv] at h; exact (no_self rfl h).elim)⟩
    · repeat' apply And.intro
      all_goals first
        | exact True.intro
        | decide +kernel
    conv => whnf
    refine ⟨?_, fun _ => ?_, fun h => (by simp only [i64_conv] at h; exact (no_self rfl h).elim)⟩
    · repeat' apply And.intro
      all_goals first
        | exact True.intro
        | decide +kernel
    conv => whnf
    refine ⟨?_, rfl, [], [], rfl, ⟨rfl, trivial⟩, trivial⟩
    · repeat' apply And.intro
      all_goals first
        | exact True.intro
        | decide +kernel
  · cases hr
end Go.Proofs.Ytjbagkimpmpfgaa

/- Chacha: rounds, words, bytes. -/
namespace Go.Proofs.Ytjbagkimpmpfgaa
open Go Go.Mx
set_option maxRecDepth 100000
set_option maxHeartbeats 4000000

/-! ### A quarter round on the square -/
def c140 : Ctr := fun args objs => match args, objs with
  | [.one (.ptr 0 0), .one (.int .i64 a), .one (.int .i64 b), .one (.int .i64 c), .one (.int .i64 d)], [.own e [.ints .u32 l 16]] =>
    some ⟨[allW l, l.length = 16, 0 ≤ a ∧ a < 16, 0 ≤ b ∧ b < 16, 0 ≤ c ∧ c < 16, 0 ≤ d ∧ d < 16], .tup [], [(0, .own e [.ints .u32 (quarterAt l a.toNat b.toNat c.toNat d.toNat) 16])], []⟩
  | _, _ => none
theorem m140 : Meets Try.prog 140 c140 := by
  refine meets_of_run tab_ok envA_ok mixed [] Try.func140 rfl Try.ntmps140 Try.call140 (fun t w => by simp [results, Try.results140, resV]) ?_
  intro args objs r hr hcs
  unfold c140 at hr
  split at hr
  · rename_i a b c d e l
    simp only [Option.some.injEq] at hr; subst hr
    obtain ⟨h1, h2, h4, h5, h6, h7, _⟩ := hcs
    refine ⟨rfl, ?_⟩
    conv => whnf
    refine ⟨?_, rfl, [0], [], rfl, ⟨trivial, trivial⟩, ⟨rfl, rfl, ?_, rfl, trivial⟩, trivial⟩
    · repeat' apply And.intro
      all_goals first
        | exact True.intro
        | assumption
        | omega
        | decide +kernel
        | exact h1 _ (by omega)
    · rfl
  · cases hr

/-! ### The rounds -/
def dbl (l : List Int) : List Int :=
  quarterAt (quarterAt (quarterAt (quarterAt (quarterAt (quarterAt (quarterAt (quarterAt l 0 4 8 12) 1 5 9 13) 2 6 10 14) 3 7 11 15) 0 5 10 15) 1 6 11 12) 2 7 8 13) 3 4 9 14
def iter (f : List Int → List Int) : Nat → List Int → List Int
  | 0, l => l
  | n + 1, l => f (iter f n l)
theorem quarterAt_len (l : List Int) (a b c d : Nat) : (quarterAt l a b c d).length = l.length := by simp [quarterAt]
theorem quarterAt_W {l : List Int} (h : allW l) (a b c d : Nat) : allW (quarterAt l a b c d) := by
  intro i hi
  rw [quarterAt_len] at hi
  simp only [quarterAt]
  have st : ∀ (l : List Int) (k : Nat) (x : W), (∀ i, i < l.length → isW (l.getD i 0)) → ∀ i, i < (l.set k (wI x)).length → isW ((l.set k (wI x)).getD i 0) := by
    intro l k x hl i hi
    rw [List.length_set] at hi
    by_cases hk : k = i
    · subst hk; rw [gset_same hi]; exact wI_is x
    · rw [gset_ne hk]; exact hl i hi
  exact st _ _ _ (st _ _ _ (st _ _ _ (st _ _ _ h))) i (by simp; exact hi)
theorem dbl_len (l : List Int) : (dbl l).length = l.length := by simp [dbl, quarterAt_len]
theorem dbl_W {l : List Int} (h : allW l) : allW (dbl l) := by
  unfold dbl; repeat apply quarterAt_W
  exact h
theorem iter_len (n : Nat) (l : List Int) : (iter dbl n l).length = l.length := by
  induction n with
  | zero => rfl
  | succ n ih => simp [iter, dbl_len, ih]
theorem iter_W (n : Nat) {l : List Int} (h : allW l) : allW (iter dbl n l) := by
  induction n with
  | zero => exact h
  | succ n ih => exact dbl_W ih
def c98 : Ctr := fun args objs => match args, objs with
  | [.agg [.ints .u32 l 16]], [] => some ⟨[allW l, l.length = 16], .v (.agg [.ints .u32 (iter dbl 10 l) 16]), [], []⟩
  | _, _ => none
def envR : Env := fun f => match f with
  | 140 => some c140
  | f => envL f
theorem envR_ok : EnvOk Try.prog envR := by
  intro f c h
  unfold envR at h
  split at h
  · simp at h; subst h; exact m140
  · exact envL_ok _ _ h
theorem m98 : Meets Try.prog 98 c98 := by
  refine meets_of_run2 tab_ok envR_ok mixed [.cell 2 146] Try.func98 rfl Try.ntmps98 Try.call98 (fun t w => by simp [results, Try.results98, resS, rv1]) ?_
  intro args objs r hr hcs
  unfold c98 at hr
  split at hr
  · rename_i l
    simp only [Option.some.injEq] at hr; subst hr
    obtain ⟨h1, h2, _⟩ := hcs
    refine ⟨rfl, ?_⟩
    conv => whnf
    refine ⟨by trivial, { i : Nat // i ≤ 10 }, fun i => ⟨[.any, .v (.one (.ptr 0 0)), .v (.one (.ptr 1 0)), .v (.one (.int .i64 i.1)), .any, .any, .any, .any, .any, .any, .any, .any, .any, .any, .any], [.own 0 [.ints .u32 (iter dbl i.1 l) 16], .own 0 [.ints .u32 (List.replicate 16 0) 16]]⟩, fun i => 10 - i.1, ⟨0, by omega⟩, ?_, fun _ => rfl, ?_⟩
    · refine ⟨[0, 1], [], rfl, ?_, ?_⟩
      all_goals
        repeat' apply And.intro
      all_goals first
        | exact True.intro
        | rfl
    · rintro ⟨i, hi⟩
      have hW := iter_W i h1
      have hL := (iter_len i l).trans h2
      have hS : iter dbl (i + 1) l = dbl (iter dbl i l) := rfl
      have hT : i = 10 → iter dbl 10 l = iter dbl i l := fun h => by rw [h]
      show run tab envR 0 _ ⟨[.any, .v (.one (.ptr 0 0)), .v (.one (.ptr 1 0)), .v (.one (.int .i64 i)), .any, .any, .any, .any, .any, .any, .any, .any, .any, .any, .any], [.own 0 [.ints .u32 (iter dbl i l) 16], .own 0 [.ints .u32 (List.replicate 16 0) 16]]⟩ _ _
      generalize iter dbl i l = m at hW hL hS hT ⊢
      conv => whnf
      refine ⟨trivial, fun hlt => ?_, fun hge => ?_⟩
      · simp only [decide_eq_true_eq] at hlt
        conv => whnf
        refine ⟨?_, ⟨i + 1, by omega⟩, by show 10 - (i + 1) < 10 - i; omega, [0, 1], [], rfl, ?_, ?_⟩
        · repeat' apply And.intro
          all_goals first
            | exact True.intro
            | decide +kernel
            | (simp only [quarterAt_len]; exact hL)
            | exact hL
            | ((repeat apply quarterAt_W); exact hW)
            | trace_state
        · repeat' apply And.intro
          all_goals first
            | exact True.intro
            | rfl
            | (rw [isum, i64_in (by omega)]; rfl)
            | trace_state
        · refine ⟨⟨rfl, rfl, ?_, rfl, trivial⟩, ⟨rfl, rfl, rfl, rfl, trivial⟩, trivial⟩
          show _ = iter dbl (i + 1) l
          rw [hS]; rfl
      · simp only [decide_eq_false_iff_not] at hge
        have : i = 10 := by omega
        rw [hT this]
        conv => whnf
        refine ⟨⟨rfl, trivial⟩, rfl, [], [], rfl, ⟨⟨rfl, rfl, rfl, trivial⟩, trivial⟩, trivial⟩
  · cases hr
end Go.Proofs.Ytjbagkimpmpfgaa

/- Chacha: words out of bytes, the square. -/
namespace Go.Proofs.Ytjbagkimpmpfgaa
open Go Go.Mx
set_option maxRecDepth 100000
set_option maxHeartbeats 4000000

structure isB (x : Int) : Prop where
  lo : 0 ≤ x
  hi : x < 256
def allB (l : List Int) : Prop := ∀ i, i < l.length → isB (l.getD i 0)
/-- Four bytes from a place on, the lowest first. -/
def word4 (l : List Int) (k : Nat) : Int := l.getD k 0 + 256 * l.getD (k + 1) 0 + 65536 * l.getD (k + 2) 0 + 16777216 * l.getD (k + 3) 0
theorem word4_is {l : List Int} (h : allB l) {k : Nat} (hk : k + 4 ≤ l.length) : isW (word4 l k) := by
  have a := h k (by omega)
  have b := h (k + 1) (by omega)
  have c := h (k + 2) (by omega)
  have d := h (k + 3) (by omega)
  have := a.lo; have := a.hi; have := b.lo; have := b.hi; have := c.lo; have := c.hi; have := d.lo; have := d.hi
  constructor <;> unfold word4 <;> omega
theorem or_add (p q k : Nat) (hp : p < 2 ^ k) (h : p + q * 2 ^ k < 4294967296) : borI .u32 (p : Int) ((q * 2 ^ k : Nat) : Int) = ((p + q * 2 ^ k : Nat) : Int) := by
  simp only [borI]
  show IntKind.u32.wrap (((BitVec.ofInt 32 (p : Int) ||| BitVec.ofInt 32 ((q * 2 ^ k : Nat) : Int)).toNat : Nat) : Int) = _
  rw [BitVec.ofInt_natCast, BitVec.ofInt_natCast, BitVec.toNat_or, BitVec.toNat_ofNat, BitVec.toNat_ofNat, Nat.mod_eq_of_lt (by omega), Nat.mod_eq_of_lt (by omega), Nat.or_comm, ← Nat.shiftLeft_eq, ← Nat.shiftLeft_add_eq_or_of_lt hp, Nat.shiftLeft_eq]
  rw [IntWalk.u32_in _ (by omega)]
  omega
theorem bytes4 {a b c d : Int} (ha : isB a) (hb : isB b) (hc : isB c) (hd : isB d) :
    borI .u32 (borI .u32 (borI .u32 (conv .u32 a) (shlI .u32 (conv .u32 b) 8)) (shlI .u32 (conv .u32 c) 16)) (shlI .u32 (conv .u32 d) 24) = a + 256 * b + 65536 * c + 16777216 * d := by
  have cv : ∀ {x : Int}, isB x → conv .u32 x = x := fun {x} h => by have := h.lo; have := h.hi; rw [conv, IntWalk.u32_in]; omega
  rw [cv ha, cv hb, cv hc, cv hd]
  obtain ⟨a, rfl⟩ := Int.eq_ofNat_of_zero_le ha.lo
  obtain ⟨b, rfl⟩ := Int.eq_ofNat_of_zero_le hb.lo
  obtain ⟨c, rfl⟩ := Int.eq_ofNat_of_zero_le hc.lo
  obtain ⟨d, rfl⟩ := Int.eq_ofNat_of_zero_le hd.lo
  have h1 := ha.hi; have h2 := hb.hi; have h3 := hc.hi; have h4 := hd.hi
  have sh : ∀ (x : Nat) (k : Nat), k ≤ 24 → x < 256 → shlI .u32 (x : Int) (k : Int) = ((x * 2 ^ k : Nat) : Int) := fun x k hk hx => by
    have e : min ((k : Int).toNat) IntKind.u32.bits = k := by simp [IntKind.bits]; omega
    have h5 : x * 2 ^ k ≤ 255 * 2 ^ 24 := Nat.mul_le_mul (by omega) (Nat.pow_le_pow_right (by omega) hk)
    have : ((x : Int) * 2 ^ k) = ((x * 2 ^ k : Nat) : Int) := by push_cast; rfl
    simp only [shlI, e, this]
    rw [IntWalk.u32_in]
    omega
  have s8 := sh b 8 (by omega) (by omega)
  have s16 := sh c 16 (by omega) (by omega)
  have s24 := sh d 24 (by omega) (by omega)
  change shlI .u32 (b : Int) 8 = _ at s8
  change shlI .u32 (c : Int) 16 = _ at s16
  change shlI .u32 (d : Int) 24 = _ at s24
  rw [s8, s16, s24, or_add a b 8 (by omega) (by omega), or_add _ c 16 (by omega) (by omega), or_add _ d 24 (by omega) (by omega)]
  omega

def c97 : Ctr := fun args objs => match args, objs with
  | [.one (.sx 0 0 1 lo len _ _)], [.own _ [.ints .u8 l n]] => some ⟨[allB l, 4 ≤ len, lo + len ≤ n, l.length = n], .v (.one (.int .u32 (word4 l lo))), [], []⟩
  | _, _ => none
theorem m97 : Meets Try.prog 97 c97 := by
  refine meets_of_run tab_ok env0 mixed [2] Try.func97 rfl Try.ntmps97 Try.call97 (fun t w => by simp [results, Try.results97, resV]) ?_
  intro args objs r hr hcs
  unfold c97 at hr
  split at hr
  · rename_i lo len cap adr e l n
    simp only [Option.some.injEq] at hr; subst hr
    obtain ⟨h1, h2, h3, h4, _⟩ := hcs
    refine ⟨rfl, ?_⟩
    conv => whnf
    refine ⟨?_, rfl, [0], [], rfl, ⟨⟨rfl, ?_⟩, trivial⟩, ⟨rfl, rfl, rfl, rfl, trivial⟩, trivial⟩
    · repeat' apply And.intro
      all_goals first
        | exact True.intro
        | decide +kernel
        | omega
        | (show lo + 3 < n; omega)
        | (show lo + 2 < n; omega)
        | (show lo + 1 < n; omega)
        | (show lo + 0 < n; omega)
    · exact bytes4 (h1 lo (by omega)) (h1 (lo + 1) (by omega)) (h1 (lo + 2) (by omega)) (h1 (lo + 3) (by omega))
  · cases hr

/-! ### The square -/
def consts : List Int := [1634760805, 857760878, 2036477234, 1797285236]
def layI (k : List Int) (i : Nat) : List Int := consts ++ (List.range i).map (fun j => word4 k (4 * j)) ++ List.replicate (12 - i) 0
theorem layI_len (k : List Int) {i : Nat} (hi : i ≤ 12) : (layI k i).length = 16 := by simp [layI, consts]; omega
theorem layI_step (k : List Int) {i : Nat} (hi : i < 8) : (layI k i).set (4 + i) (word4 k (4 * i)) = layI k (i + 1) := by
  obtain ⟨r, hr⟩ : ∃ r, 12 - i = r + 1 := ⟨11 - i, by omega⟩
  have hr' : 12 - (i + 1) = r := by omega
  simp only [layI, hr, hr', List.range_succ, List.map_append, List.replicate_succ, List.map_cons, List.map_nil]
  have hl : (consts ++ (List.range i).map (fun j => word4 k (4 * j))).length = 4 + i := by simp [consts]; omega
  rw [List.set_append_right _ _ (by omega), hl, Nat.sub_self]
  simp [consts]
def squareI (k m : List Int) : List Int := consts ++ (List.range 8).map (fun j => word4 k (4 * j)) ++ m
theorem layI_end (k m : List Int) (hm : m.length = 4) : splI (layI k 8) 12 m = squareI k m := by
  have e : layI k 8 = (consts ++ (List.range 8).map (fun j => word4 k (4 * j))) ++ [0, 0, 0, 0] := rfl
  have hl : (consts ++ (List.range 8).map (fun j => word4 k (4 * j))).length = 12 := rfl
  unfold splI squareI
  rw [e, List.take_left' hl, List.drop_eq_nil_of_le (by rw [List.length_append, hl, hm]; simp)]
  simp
def c96 : Ctr := fun args objs => match args, objs with
  | [.one (.ptr 0 0), .agg [.ints .u32 m 4]], [.own _ [.ints .u8 k 32]] => some ⟨[allB k, k.length = 32, m.length = 4], .v (.agg [.ints .u32 (squareI k m) 16]), [], []⟩
  | _, _ => none
def envW : Env := fun f => match f with
  | 97 => some c97
  | _ => none
theorem envW_ok : EnvOk Try.prog envW := by
  intro f c h
  unfold envW at h
  split at h
  · simp at h; subst h; exact m97
  · cases h
theorem m96 : Meets Try.prog 96 c96 := by
  refine meets_of_run2 tab_ok envW_ok mixed [.cell 4 146] Try.func96 rfl Try.ntmps96 Try.call96 (fun t w => by simp [results, Try.results96, resS, rv1]) ?_
  intro args objs r hr hcs
  unfold c96 at hr
  split at hr
  · rename_i m e k
    simp only [Option.some.injEq] at hr; subst hr
    obtain ⟨h1, h2, h3, _⟩ := hcs
    refine ⟨rfl, ?_⟩
    conv => whnf
    refine ⟨?_, { i : Nat // i ≤ 8 }, fun i => ⟨[.v (.one (.ptr 0 0)), .any, .any, .v (.one (.ptr 1 0)), .v (.one (.ptr 2 0)), .v (.one (.ptr 3 0)), .any, .any, .v (.one (.int .i64 i.1)), .any, .any, .any, .any, .any, .any, .any, .any, .any, .any, .any, .any, .any, .any, .any, .any], [.own e [.ints .u8 k 32], .own 0 [.ints .u32 m 4], .own 0 [.ints .u32 (List.replicate 16 0) 16], .own 0 [.ints .u32 (layI k i.1) 16]]⟩, fun i => 8 - i.1, ⟨0, by omega⟩, ?_, fun _ => rfl, ?_⟩
    · repeat' apply And.intro
      all_goals first
        | exact True.intro
        | rfl
        | decide +kernel
    · refine ⟨[0, 1, 2, 3], [], rfl, ?_, ?_⟩
      all_goals
        repeat' apply And.intro
      all_goals first
        | exact True.intro
        | rfl
    · rintro ⟨i, hi⟩
      have hL := layI_len k (i := i) (by omega)
      show run tab envW 1 _ ⟨[.v (.one (.ptr 0 0)), .any, .any, .v (.one (.ptr 1 0)), .v (.one (.ptr 2 0)), .v (.one (.ptr 3 0)), .any, .any, .v (.one (.int .i64 i)), .any, .any, .any, .any, .any, .any, .any, .any, .any, .any, .any, .any, .any, .any, .any, .any], [.own e [.ints .u8 k 32], .own 0 [.ints .u32 m 4], .own 0 [.ints .u32 (List.replicate 16 0) 16], .own 0 [.ints .u32 (layI k i) 16]]⟩ _ _
      conv => whnf
      refine ⟨trivial, fun hlt => ?_, fun hge => ?_⟩
      · simp only [decide_eq_true_eq] at hlt
        have e1 : isum .i64 4 (i : Int) = ((4 + i : Nat) : Int) := by rw [isum, i64_in] <;> omega
        have e2 : imul .i64 4 (i : Int) = ((4 * i : Nat) : Int) := by rw [imul, i64_in] <;> omega
        have e3 : isum .i64 (i : Int) 1 = ((i + 1 : Nat) : Int) := by rw [isum, i64_in] <;> omega
        conv => whnf
        rw [e1, e2, e3]
        refine ⟨?_, ⟨i + 1, by omega⟩, by show 8 - (i + 1) < 8 - i; omega, [0, 1, 2, 3], [], rfl, ?_, ?_⟩
        · repeat' apply And.intro
          all_goals first
            | exact True.intro
            | assumption
            | omega
            | (simp only [natB]; omega)
        · repeat' apply And.intro
          all_goals first
            | exact True.intro
            | rfl
        · refine ⟨⟨rfl, rfl, rfl, rfl, trivial⟩, ⟨rfl, rfl, rfl, rfl, trivial⟩, ⟨rfl, rfl, rfl, rfl, trivial⟩, ⟨rfl, rfl, ?_, rfl, trivial⟩, trivial⟩
          simp only [Int.toNat_natCast]
          exact layI_step k (by omega)
      · simp only [decide_eq_false_iff_not] at hge
        have : i = 8 := by omega
        subst this
        conv => whnf
        refine ⟨?_, rfl, [0], [], rfl, ⟨⟨rfl, ?_, rfl, trivial⟩, trivial⟩, ⟨rfl, rfl, rfl, rfl, trivial⟩, trivial⟩
        · repeat' apply And.intro
          all_goals first
            | exact True.intro
            | rfl
            | decide +kernel
            | (simp [natB]; done)
        · show splI (layI k 8) 12 (List.take 4 (List.take 4 (List.drop 0 m))) = _
          have ht : List.take 4 m = m := List.take_of_length_le (by omega)
          rw [List.drop_zero, ht, ht]
          exact layI_end k m h3
  · cases hr

/-! ### Words laid down as bytes -/
/-- The four bytes of a word. -/
def four (x : Int) : List Int := [x % 256, x / 256 % 256, x / 65536 % 256, x / 16777216 % 256]
def lays (l : List Int) : List Int := l.flatMap four
theorem lays_len : ∀ l : List Int, (lays l).length = 4 * l.length
  | [] => rfl
  | x :: l => by
    have := lays_len l
    simp only [lays, List.flatMap_cons, List.length_append, List.length_cons] at *
    simp only [four, List.length_cons, List.length_nil]
    omega
end Go.Proofs.Ytjbagkimpmpfgaa

/- Chacha: words laid down as bytes. -/
namespace Go.Proofs.Ytjbagkimpmpfgaa
open Go Go.Mx
set_option maxRecDepth 100000
set_option maxHeartbeats 4000000

theorem take4 : ∀ {l : List Int}, 4 ≤ l.length → ∃ a b c d r, l = a :: b :: c :: d :: r
  | a :: b :: c :: d :: r, _ => ⟨a, b, c, d, r, rfl⟩
  | [], h => by simp at h
  | [_], h => by simp at h
  | [_, _], h => by simp at h
  | [_, _, _], h => by simp at h
theorem lay4 {o m : List Int} {lo i : Nat} {a b c d : Int} (hm : m.length = 4 * i) (h : lo + 4 * i + 4 ≤ o.length) :
    ((((splI o lo m).set (lo + 4 * i) a).set (lo + (4 * i + 1)) b).set (lo + (4 * i + 2)) c).set (lo + (4 * i + 3)) d = splI o lo (m ++ [a, b, c, d]) := by
  obtain ⟨x0, x1, x2, x3, r, hr⟩ := take4 (l := o.drop (lo + m.length)) (by rw [List.length_drop]; omega)
  have hr2 : o.drop (lo + (m ++ [a, b, c, d]).length) = r := by
    have : lo + (m ++ [a, b, c, d]).length = (lo + m.length) + 4 := by simp; omega
    rw [this, ← List.drop_drop, hr]; rfl
  have hl : (o.take lo ++ m).length = lo + 4 * i := by rw [List.length_append, List.length_take, hm]; omega
  unfold splI
  rw [hr, hr2]
  rw [List.set_append_right _ _ (by omega), hl, Nat.sub_self]
  rw [List.set_append_right _ _ (by omega), hl, show lo + (4 * i + 1) - (lo + 4 * i) = 1 by omega]
  rw [List.set_append_right _ _ (by omega), hl, show lo + (4 * i + 2) - (lo + 4 * i) = 2 by omega]
  rw [List.set_append_right _ _ (by omega), hl, show lo + (4 * i + 3) - (lo + 4 * i) = 3 by omega]
  simp
theorem byte0 (x : Int) : conv .u8 x = x % 256 := by rw [conv, IntKind.wrap_u8]
theorem byteK {x : Int} (k : Nat) (_h : 0 ≤ x) (hk : k ≤ 32) : conv .u8 (shrI .u32 x (k : Int)) = x / 2 ^ k % 256 := by
  have e : min ((k : Int).toNat) IntKind.u32.bits = k := by simp [IntKind.bits]; omega
  rw [conv, IntKind.wrap_u8, shrI, e, Int.fdiv_eq_ediv_of_nonneg _ (by exact Int.le_of_lt (Int.pow_pos (by decide)))]
theorem lays_snoc (l : List Int) (x : Int) : lays (l ++ [x]) = lays l ++ four x := by simp [lays]
theorem mid_succ {l : List Int} {lo i : Nat} (h : lo + i < l.length) : (l.drop lo).take (i + 1) = (l.drop lo).take i ++ [l.getD (lo + i) 0] := by
  rw [List.take_add_one, List.getElem?_drop, List.getElem?_eq_getElem h]
  simp [List.getD, h]
def putI (o : List Int) (lo : Nat) (l : List Int) (lo2 i : Nat) : List Int := splI o lo (lays ((l.drop lo2).take i))
theorem putI_step {o l : List Int} {lo lo2 i : Nat} (h : lo + 4 * i + 4 ≤ o.length) (h2 : lo2 + i < l.length) (hx : 0 ≤ l.getD (lo2 + i) 0) :
    ((((putI o lo l lo2 i).set (lo + 4 * i) (conv .u8 (l.getD (lo2 + i) 0))).set (lo + (4 * i + 1)) (conv .u8 (shrI .u32 (l.getD (lo2 + i) 0) 8))).set (lo + (4 * i + 2)) (conv .u8 (shrI .u32 (l.getD (lo2 + i) 0) 16))).set (lo + (4 * i + 3)) (conv .u8 (shrI .u32 (l.getD (lo2 + i) 0) 24)) = putI o lo l lo2 (i + 1) := by
  have hlen : ((l.drop lo2).take i).length = i := by rw [List.length_take, List.length_drop]; omega
  unfold putI
  rw [mid_succ h2, lays_snoc, lay4 (by rw [lays_len, hlen]) h]
  have b8 := byteK 8 hx (by omega)
  have b16 := byteK 16 hx (by omega)
  have b24 := byteK 24 hx (by omega)
  change conv .u8 (shrI .u32 _ 8) = _ at b8
  change conv .u8 (shrI .u32 _ 16) = _ at b16
  change conv .u8 (shrI .u32 _ 24) = _ at b24
  rw [byte0, b8, b16, b24]
  rfl
theorem putI_len {o l : List Int} {lo lo2 i : Nat} (h : lo + 4 * i ≤ o.length) (h2 : lo2 + i ≤ l.length) : (putI o lo l lo2 i).length = o.length := by
  have hlen : ((l.drop lo2).take i).length = i := by rw [List.length_take, List.length_drop]; omega
  unfold putI
  rw [splI_length]
  rw [lays_len, hlen]; exact h
def c99 : Ctr := fun args objs => match args, objs with
  | [.one (.sx 0 0 1 lo len _ _), .one (.sx 1 0 1 lo2 len2 _ _)], [.own e [.ints .u8 o n], .own _ [.ints .u32 l n2]] =>
    some ⟨[4 * len2 ≤ len, lo + len ≤ n, lo2 + len2 ≤ n2, o.length = n, l.length = n2, allW l, n < 1000000], .tup [], [(0, .own e [.ints .u8 (putI o lo l lo2 len2) n])], []⟩
  | _, _ => none
theorem m99 : Meets Try.prog 99 c99 := by
  refine meets_of_run tab_ok env0 mixed [] Try.func99 rfl Try.ntmps99 Try.call99 (fun t w => by simp [results, Try.results99, resV]) ?_
  intro args objs r hr hcs
  unfold c99 at hr
  split at hr
  · rename_i lo len cap adr lo2 len2 cap2 adr2 e o n e2 l n2
    simp only [Option.some.injEq] at hr; subst hr
    obtain ⟨h1, h2, h3, h4, h5, h6, h7, _⟩ := hcs
    refine ⟨rfl, ?_⟩
    conv => whnf
    refine ⟨?_, { i : Nat // i ≤ len2 }, fun i => ⟨[.v (.one (.sx 0 0 1 lo len cap adr)), .v (.one (.sx 1 0 1 lo2 len2 cap2 adr2)), .any, .any, .any, .any, .v (.one (.sx 1 0 1 lo2 len2 cap2 adr2)), .v (.one (.int .i64 len2)), .v (.one (.int .i64 i.1)), .any, .any, .any, .any, .any, .any, .any, .any, .any, .any, .any, .any, .any, .any, .any, .any, .any, .any, .any, .any, .any, .any, .any, .any, .any, .any, .any, .any, .any, .any, .any, .any, .any, .any, .any], [.own e [.ints .u8 (putI o lo l lo2 i.1) n], .own e2 [.ints .u32 l n2]]⟩, fun i => len2 - i.1, ⟨0, by omega⟩, ?_, fun _ => rfl, ?_⟩
    · repeat' apply And.intro
      all_goals first
        | exact True.intro
        | rfl
        | decide +kernel
    · refine ⟨[0, 1], [], rfl, ?_, ?_⟩
      · repeat' apply And.intro
        all_goals first
          | exact True.intro
          | rfl
      · refine ⟨⟨rfl, rfl, ?_, rfl, trivial⟩, ⟨rfl, rfl, rfl, rfl, trivial⟩, trivial⟩
        simp [putI, splI, lays]
    · rintro ⟨i, hi⟩
      show run tab (fun _ => none) 2 _ ⟨[.v (.one (.sx 0 0 1 lo len cap adr)), .v (.one (.sx 1 0 1 lo2 len2 cap2 adr2)), .any, .any, .any, .any, .v (.one (.sx 1 0 1 lo2 len2 cap2 adr2)), .v (.one (.int .i64 len2)), .v (.one (.int .i64 i)), .any, .any, .any, .any, .any, .any, .any, .any, .any, .any, .any, .any, .any, .any, .any, .any, .any, .any, .any, .any, .any, .any, .any, .any, .any, .any, .any, .any, .any, .any, .any, .any, .any, .any, .any], [.own e [.ints .u8 (putI o lo l lo2 i) n], .own e2 [.ints .u32 l n2]]⟩ _ _
      conv => whnf
      refine ⟨trivial, fun hlt => ?_, fun hge => ?_⟩
      · simp only [decide_eq_true_eq] at hlt
        have e0 : imul .i64 4 (i : Int) = ((4 * i : Nat) : Int) := by rw [imul, i64_in] <;> omega
        have e1 : isum .i64 ((4 * i : Nat) : Int) 1 = ((4 * i + 1 : Nat) : Int) := by rw [isum, i64_in] <;> omega
        have e2 : isum .i64 ((4 * i : Nat) : Int) 2 = ((4 * i + 2 : Nat) : Int) := by rw [isum, i64_in] <;> omega
        have e3 : isum .i64 ((4 * i : Nat) : Int) 3 = ((4 * i + 3 : Nat) : Int) := by rw [isum, i64_in] <;> omega
        have e4 : isum .i64 (i : Int) 1 = ((i + 1 : Nat) : Int) := by rw [isum, i64_in] <;> omega
        conv => whnf
        rw [e0, e1, e2, e3, e4]
        refine ⟨?_, ⟨i + 1, by omega⟩, by show len2 - (i + 1) < len2 - i; omega, [0, 1], [], rfl, ?_, ?_⟩
        · repeat' apply And.intro
          all_goals first
            | exact True.intro
            | omega
            | decide +kernel
            | trace_state
        · repeat' apply And.intro
          all_goals first
            | exact True.intro
            | rfl
        · refine ⟨⟨rfl, rfl, ?_, rfl, trivial⟩, ⟨rfl, rfl, rfl, rfl, trivial⟩, trivial⟩
          simp only [Int.toNat_natCast]
          exact putI_step (by omega) (by omega) (h6 _ (by omega)).lo
      · simp only [decide_eq_false_iff_not] at hge
        have : i = len2 := by omega
        subst this
        conv => whnf
        refine ⟨trivial, rfl, [0, 1], [], rfl, ⟨trivial, trivial⟩, ⟨rfl, rfl, rfl, rfl, trivial⟩, ⟨rfl, rfl, rfl, rfl, trivial⟩, trivial⟩
  · cases hr
end Go.Proofs.Ytjbagkimpmpfgaa

/- Chacha: the program's block and derived key. -/
namespace Go.Proofs.Ytjbagkimpmpfgaa
open Go Go.Mx
set_option maxRecDepth 100000
set_option maxHeartbeats 4000000

/-- The first i of t have been added to. -/
def addI (s t : List Int) (i : Nat) : List Int := (List.range i).map (fun j => isum .u32 (t.getD j 0) (s.getD j 0)) ++ t.drop i
theorem addI_zero (s t : List Int) : addI s t 0 = t := by simp [addI]
theorem addI_len {s t : List Int} {i : Nat} (h : i ≤ t.length) : (addI s t i).length = t.length := by simp [addI]; omega
theorem drop_cons {t : List Int} {i : Nat} (h : i < t.length) : t.drop i = t.getD i 0 :: t.drop (i + 1) := by
  rw [List.drop_eq_getElem_cons h]; simp [List.getD, h]
theorem addI_step {s t : List Int} {i : Nat} (h : i < t.length) : (addI s t i).set i (isum .u32 ((addI s t i).getD i 0) (s.getD i 0)) = addI s t (i + 1) := by
  have hl : ((List.range i).map (fun j => isum .u32 (t.getD j 0) (s.getD j 0))).length = i := by simp
  have e : (addI s t i).getD i 0 = t.getD i 0 := by
    unfold addI
    rw [drop_cons h]
    simp [List.getD]
  rw [e]
  unfold addI
  rw [drop_cons h, List.set_append_right _ _ (by omega), hl, Nat.sub_self, List.range_succ, List.map_append]
  simp
theorem allW_of {l : List Int} (h : ∀ x ∈ l, isW x) : allW l := fun i hi => by
  rw [show l.getD i 0 = l[i] by simp [List.getD, hi]]
  exact h _ (List.getElem_mem hi)
theorem of_allW {l : List Int} (h : allW l) : ∀ x ∈ l, isW x := fun x hx => by
  obtain ⟨i, hi, rfl⟩ := List.mem_iff_getElem.1 hx
  have := h i hi
  rwa [show l.getD i 0 = l[i] by simp [List.getD, hi]] at this
theorem sum_is {x y : Int} (hx : isW x) (hy : isW y) : isW (isum .u32 x y) := by
  obtain ⟨a, rfl⟩ := of_isW hx
  obtain ⟨b, rfl⟩ := of_isW hy
  rw [u32_sum]; exact wI_is _
theorem addI_W {s t : List Int} (hs : allW s) (ht : allW t) (hl : s.length = t.length) {i : Nat} (hi : i ≤ t.length) : allW (addI s t i) := by
  apply allW_of
  intro x hx
  unfold addI at hx
  rcases List.mem_append.1 hx with h | h
  · simp only [List.mem_map, List.mem_range] at h
    obtain ⟨j, hj, rfl⟩ := h
    exact sum_is (ht j (by omega)) (hs j (by omega))
  · exact of_allW ht x (List.mem_of_mem_drop h)
theorem consts_W : allW consts := by
  apply allW_of
  intro x hx
  simp only [consts, List.mem_cons, List.not_mem_nil, or_false] at hx
  rcases hx with rfl | rfl | rfl | rfl <;> exact ⟨by decide, by decide⟩
theorem squareI_len {k m : List Int} (hm : m.length = 4) : (squareI k m).length = 16 := by simp [squareI, consts, hm]
theorem squareI_W {k m : List Int} (hk : allB k) (hkl : k.length = 32) (hm : allW m) : allW (squareI k m) := by
  apply allW_of
  intro x hx
  unfold squareI at hx
  rcases List.mem_append.1 hx with h | h
  · rcases List.mem_append.1 h with h | h
    · exact of_allW consts_W x h
    · simp only [List.mem_map, List.mem_range] at h
      obtain ⟨j, hj, rfl⟩ := h
      exact word4_is hk (by omega)
  · exact of_allW hm x h
def moreI (ctr : Int) (n : List Int) : List Int := [ctr, word4 n 0, word4 n 4, word4 n 8]
theorem moreI_W {ctr : Int} {n : List Int} (hc : isW ctr) (hn : allB n) (hl : n.length = 12) : allW (moreI ctr n) := by
  apply allW_of
  intro x hx
  simp only [moreI, List.mem_cons, List.not_mem_nil, or_false] at hx
  rcases hx with rfl | rfl | rfl | rfl
  · exact hc
  · exact word4_is hn (by omega)
  · exact word4_is hn (by omega)
  · exact word4_is hn (by omega)
/-- The block of a key, a number, a nonce, as bytes. -/
def blockI (k : List Int) (ctr : Int) (n : List Int) : List Int := lays (addI (squareI k (moreI ctr n)) (iter dbl 10 (squareI k (moreI ctr n))) 16)
def c32 : Ctr := fun args objs => match args, objs with
  | [.agg [.ints .u8 k 32], .one (.int .u32 ctr), .agg [.ints .u8 n 12]], [] => some ⟨[allB k, k.length = 32, isW ctr, allB n, n.length = 12], .v (.agg [.ints .u8 (blockI k ctr n) 64]), [], []⟩
  | _, _ => none
def envB : Env := fun f => match f with
  | 96 => some c96
  | 97 => some c97
  | 98 => some c98
  | 99 => some c99
  | _ => none
theorem envB_ok : EnvOk Try.prog envB := by
  intro f c h
  unfold envB at h
  split at h
  · simp at h; subst h; exact m96
  · simp at h; subst h; exact m97
  · simp at h; subst h; exact m98
  · simp at h; subst h; exact m99
  · cases h
theorem putI_all {o l : List Int} (h : o.length = 4 * l.length) : putI o 0 l 0 l.length = lays l := by
  unfold putI splI
  rw [List.drop_zero, List.take_length, List.take_zero, List.nil_append, List.drop_of_length_le (by rw [lays_len]; omega), List.append_nil]
theorem m32 : Meets Try.prog 32 c32 := by
  refine meets_of_run2 tab_ok envB_ok mixed [.cell 6 34] Try.func32 rfl Try.ntmps32 Try.call32 (fun t w => by simp [results, Try.results32, resS, rv1]) ?_
  intro args objs r hr hcs
  unfold c32 at hr
  split at hr
  · rename_i k ctr n
    simp only [Option.some.injEq] at hr; subst hr
    obtain ⟨h1, h2, h3, h4, h5, _⟩ := hcs
    refine ⟨rfl, ?_⟩
    conv => whnf
    have hSW := squareI_W h1 h2 (moreI_W h3 h4 h5)
    have hSL : (squareI k (moreI ctr n)).length = 16 := squareI_len rfl
    refine ⟨?_, { i : Nat // i ≤ 16 }, fun i => ⟨[.any, .any, .any, .v (.one (.ptr 0 0)), .any, .v (.one (.ptr 1 0)), .v (.one (.ptr 2 0)), .v (.one (.ptr 3 0)), .v (.one (.ptr 4 0)), .any, .any, .any, .any, .any, .any, .any, .any, .any, .any, .any, .any, .any, .v (.one (.int .i64 i.1)), .any, .any, .any, .any, .any, .any, .any, .any, .any, .any, .any, .any, .any, .any, .any], [.own 0 [.ints .u8 k 32], .own 0 [.ints .u8 n 12], .own 0 [.ints .u8 (List.replicate 64 0) 64], .own 0 [.ints .u32 (squareI k (moreI ctr n)) 16], .own 0 [.ints .u32 (addI (squareI k (moreI ctr n)) (iter dbl 10 (squareI k (moreI ctr n))) i.1) 16]]⟩, fun i => 16 - i.1, ⟨0, by omega⟩, ?_, fun _ => rfl, ?_⟩
    · repeat' apply And.intro
      all_goals first
        | exact True.intro
        | decide +kernel
        | exact h1
        | exact h2
        | exact h3
        | exact h4
        | exact h5
        | (refine squareI_W h1 h2 ?_; exact moreI_W h3 h4 h5)
        | exact squareI_len rfl
        | rfl
    · refine ⟨[0, 1, 2, 3, 4], [], rfl, ?_, ?_⟩
      · repeat' apply And.intro
        all_goals first
          | exact True.intro
          | rfl
      · exact ⟨⟨rfl, rfl, rfl, rfl, trivial⟩, ⟨rfl, rfl, rfl, rfl, trivial⟩, ⟨rfl, rfl, rfl, rfl, trivial⟩, ⟨rfl, rfl, rfl, rfl, trivial⟩, ⟨rfl, rfl, (addI_zero _ _).symm, rfl, trivial⟩, trivial⟩
    · rintro ⟨i, hi⟩
      have hTW := iter_W 10 hSW
      have hTL : (iter dbl 10 (squareI k (moreI ctr n))).length = 16 := (iter_len 10 _).trans hSL
      show run tab envB 0 _ ⟨[.any, .any, .any, .v (.one (.ptr 0 0)), .any, .v (.one (.ptr 1 0)), .v (.one (.ptr 2 0)), .v (.one (.ptr 3 0)), .v (.one (.ptr 4 0)), .any, .any, .any, .any, .any, .any, .any, .any, .any, .any, .any, .any, .any, .v (.one (.int .i64 i)), .any, .any, .any, .any, .any, .any, .any, .any, .any, .any, .any, .any, .any, .any, .any], [.own 0 [.ints .u8 k 32], .own 0 [.ints .u8 n 12], .own 0 [.ints .u8 (List.replicate 64 0) 64], .own 0 [.ints .u32 (squareI k (moreI ctr n)) 16], .own 0 [.ints .u32 (addI (squareI k (moreI ctr n)) (iter dbl 10 (squareI k (moreI ctr n))) i) 16]]⟩ _ _
      have hR : blockI k ctr n = lays (addI (squareI k (moreI ctr n)) (iter dbl 10 (squareI k (moreI ctr n))) 16) := rfl
      generalize iter dbl 10 (squareI k (moreI ctr n)) = T at hTW hTL hR ⊢
      generalize squareI k (moreI ctr n) = S at hSW hSL hR ⊢
      conv => whnf
      refine ⟨trivial, fun hlt => ?_, fun hge => ?_⟩
      · simp only [decide_eq_true_eq] at hlt
        have e4 : isum .i64 (i : Int) 1 = ((i + 1 : Nat) : Int) := by rw [isum, i64_in] <;> omega
        conv => whnf
        rw [e4]
        refine ⟨?_, ⟨i + 1, by omega⟩, by show 16 - (i + 1) < 16 - i; omega, [0, 1, 2, 3, 4], [], rfl, ?_, ?_⟩
        · repeat' apply And.intro
          all_goals first
            | exact True.intro
            | omega
            | decide +kernel
        · repeat' apply And.intro
          all_goals first
            | exact True.intro
            | rfl
        · refine ⟨⟨rfl, rfl, rfl, rfl, trivial⟩, ⟨rfl, rfl, rfl, rfl, trivial⟩, ⟨rfl, rfl, rfl, rfl, trivial⟩, ⟨rfl, rfl, rfl, rfl, trivial⟩, ⟨rfl, rfl, ?_, rfl, trivial⟩, trivial⟩
          simp only [Int.toNat_natCast]
          exact addI_step (by omega)
      · simp only [decide_eq_false_iff_not] at hge
        have : i = 16 := by omega
        subst this
        have hAW := addI_W hSW hTW (hSL.trans hTL.symm) (i := 16) (by omega)
        have hAL := addI_len (s := S) (t := T) (i := 16) (by omega)
        rw [hTL] at hAL
        conv => whnf
        refine ⟨?_, rfl, [], [], rfl, ⟨⟨rfl, ?_, rfl, trivial⟩, trivial⟩, trivial⟩
        · repeat' apply And.intro
          all_goals first
            | exact True.intro
            | assumption
            | rfl
            | decide +kernel
            | (simp [natB]; done)
        · rw [hR]
          have := putI_all (o := List.replicate 64 0) (l := addI S T 16) (by rw [hAL]; rfl)
          rw [hAL] at this
          exact this
  · cases hr
end Go.Proofs.Ytjbagkimpmpfgaa

/- Chacha: the program's derived key. -/
namespace Go.Proofs.Ytjbagkimpmpfgaa
open Go Go.Mx
set_option maxRecDepth 100000
set_option maxHeartbeats 4000000

def fourW (m : List Int) : List Int := [word4 m 0, word4 m 4, word4 m 8, word4 m 12]
theorem fourW_W {m : List Int} (h : allB m) (hl : m.length = 16) : allW (fourW m) := by
  apply allW_of
  intro x hx
  simp only [fourW, List.mem_cons, List.not_mem_nil, or_false] at hx
  rcases hx with rfl | rfl | rfl | rfl <;> exact word4_is h (by omega)
def deriveI (k m : List Int) : List Int := putI (putI (List.replicate 32 0) 0 (iter dbl 10 (squareI k (fourW m))) 0 4) 16 (iter dbl 10 (squareI k (fourW m))) 12 4
def c34 : Ctr := fun args objs => match args, objs with
  | [.agg [.ints .u8 k 32], .agg [.ints .u8 m 16]], [] => some ⟨[allB k, k.length = 32, allB m, m.length = 16], .v (.agg [.ints .u8 (deriveI k m) 32]), [], []⟩
  | _, _ => none
theorem m34 : Meets Try.prog 34 c34 := by
  refine meets_of_run2 tab_ok envB_ok mixed [.cell 4 30] Try.func34 rfl Try.ntmps34 Try.call34 (fun t w => by simp [results, Try.results34, resS, rv1]) ?_
  intro args objs r hr hcs
  unfold c34 at hr
  split at hr
  · rename_i k m
    simp only [Option.some.injEq] at hr; subst hr
    obtain ⟨h1, h2, h3, h4, _⟩ := hcs
    have hSW := squareI_W h1 h2 (fourW_W h3 h4)
    have hSL : (squareI k (fourW m)).length = 16 := squareI_len rfl
    have hTW := iter_W 10 hSW
    have hTL : (iter dbl 10 (squareI k (fourW m))).length = 16 := (iter_len 10 _).trans hSL
    refine ⟨rfl, ?_⟩
    have hD : deriveI k m = putI (putI (List.replicate 32 0) 0 (iter dbl 10 (squareI k (fourW m))) 0 4) 16 (iter dbl 10 (squareI k (fourW m))) 12 4 := rfl
    conv => whnf
    simp only [ti22, Nat.mul_one, List.replicate, List.set]
    change _ ∧ _
    rw [show ([word4 m (Int.toNat 0), word4 m (Int.toNat 4), word4 m (Int.toNat 8), word4 m (Int.toNat 12)] : List Int) = fourW m from rfl]
    generalize iter dbl 10 (squareI k (fourW m)) = T at hTW hTL hD ⊢
    generalize squareI k (fourW m) = S at hSW hSL ⊢
    refine ⟨?_, rfl, [], [], rfl, ⟨⟨rfl, ?_, rfl, trivial⟩, trivial⟩, trivial⟩
    · repeat' apply And.intro
      all_goals first
        | exact True.intro
        | decide +kernel
        | exact h1
        | exact h2
        | exact h3
        | exact h4
        | exact hTW
        | exact hTL
        | exact hSW
        | exact hSL
        | exact putI_len (by simp) (by rw [hTL]; decide)
        | rfl
    · rw [hD]
      rfl
  · cases hr
end Go.Proofs.Ytjbagkimpmpfgaa

/- Chacha: the document's bytes, words, square and rounds. -/
namespace Go.Proofs.Ytjbagkimpmpfgaa
open Go Go.Mx
set_option maxRecDepth 100000
set_option maxHeartbeats 4000000

/-! ### Four bytes of a word -/
theorem iq {x d : Int} (h : isW x) (hd : 0 < d) : iquo .i64 x d = x / d := by
  obtain ⟨h1, h2⟩ := h
  have h3 := Int.ediv_le_self d h1
  have h4 := Int.ediv_nonneg h1 (Int.le_of_lt hd)
  rw [iquo, Int.tdiv_eq_ediv_of_nonneg h1, i64_in]
  omega
theorem four_of {x : Int} (h : isW x) : [conv .u8 x, conv .u8 (iquo .i64 x 256), conv .u8 (iquo .i64 x 65536), conv .u8 (iquo .i64 x 16777216)] = four x := by
  rw [iq h (by decide), iq h (by decide), iq h (by decide), byte0, byte0, byte0, byte0]; rfl
theorem four_len (x : Int) : (four x).length = 4 := rfl
theorem four_B (x : Int) : allB (four x) := by
  intro i hi
  rw [four_len] at hi
  match i, hi with
  | 0, _ => exact ⟨Int.emod_nonneg _ (by decide), Int.emod_lt_of_pos _ (by decide)⟩
  | 1, _ => exact ⟨Int.emod_nonneg _ (by decide), Int.emod_lt_of_pos _ (by decide)⟩
  | 2, _ => exact ⟨Int.emod_nonneg _ (by decide), Int.emod_lt_of_pos _ (by decide)⟩
  | 3, _ => exact ⟨Int.emod_nonneg _ (by decide), Int.emod_lt_of_pos _ (by decide)⟩
theorem word4_four {x : Int} (h : isW x) (r : List Int) : word4 (four x ++ r) 0 = x := by
  obtain ⟨h1, h2⟩ := h
  show x % 256 + 256 * (x / 256 % 256) + 65536 * (x / 65536 % 256) + 16777216 * (x / 16777216 % 256) = x
  omega
theorem getD_left {a b : List Int} {k : Nat} (h : k < a.length) : (a ++ b).getD k 0 = a.getD k 0 := by simp [List.getD, List.getElem?_append_left h]
theorem getD_right {a b : List Int} {n k : Nat} (h : a.length = n) : (a ++ b).getD (n + k) 0 = b.getD k 0 := by simp [List.getD, List.getElem?_append_right (show a.length ≤ n + k by omega), h]
theorem word4_left {a b : List Int} {k : Nat} (h : k + 4 ≤ a.length) : word4 (a ++ b) k = word4 a k := by
  unfold word4
  rw [getD_left (by omega), getD_left (by omega), getD_left (by omega), getD_left (by omega)]
theorem word4_right {a b : List Int} {n k : Nat} (h : a.length = n) : word4 (a ++ b) (n + k) = word4 b k := by
  unfold word4
  rw [Nat.add_assoc n k 1, Nat.add_assoc n k 2, Nat.add_assoc n k 3, getD_right h, getD_right h, getD_right h, getD_right h]
theorem allB_app {a b : List Int} (ha : allB a) (hb : allB b) : allB (a ++ b) := by
  intro i hi
  by_cases h : i < a.length
  · rw [getD_left h]; exact ha i h
  · obtain ⟨k, rfl⟩ : ∃ k, i = a.length + k := ⟨i - a.length, by omega⟩
    rw [getD_right rfl]; exact hb k (by rw [List.length_append] at hi; omega)

theorem sum4 {a b c d : Int} (ha : isB a) (hb : isB b) (hc : isB c) (hd : isB d) :
    isum .i64 (isum .i64 (isum .i64 (conv .i64 a) (imul .i64 256 (conv .i64 b))) (imul .i64 65536 (conv .i64 c))) (imul .i64 16777216 (conv .i64 d)) = a + 256 * b + 65536 * c + 16777216 * d := by
  obtain ⟨a1, a2⟩ := ha; obtain ⟨b1, b2⟩ := hb; obtain ⟨c1, c2⟩ := hc; obtain ⟨d1, d2⟩ := hd
  have ca : conv .i64 a = a := by rw [conv, i64_in]; omega
  have cb : conv .i64 b = b := by rw [conv, i64_in]; omega
  have cc : conv .i64 c = c := by rw [conv, i64_in]; omega
  have cd : conv .i64 d = d := by rw [conv, i64_in]; omega
  have mb : imul .i64 256 b = 256 * b := by rw [imul, i64_in]; omega
  have mc : imul .i64 65536 c = 65536 * c := by rw [imul, i64_in]; omega
  have md : imul .i64 16777216 d = 16777216 * d := by rw [imul, i64_in]; omega
  have s1 : isum .i64 a (256 * b) = a + 256 * b := by rw [isum, i64_in]; omega
  have s2 : isum .i64 (a + 256 * b) (65536 * c) = a + 256 * b + 65536 * c := by rw [isum, i64_in]; omega
  have s3 : isum .i64 (a + 256 * b + 65536 * c) (16777216 * d) = a + 256 * b + 65536 * c + 16777216 * d := by rw [isum, i64_in]; omega
  rw [ca, cb, cc, cd, mb, mc, md, s1, s2, s3]

/-! ### The square out of its bytes -/
def consB : List Int := [101, 120, 112, 97, 110, 100, 32, 51, 50, 45, 98, 121, 116, 101, 32, 107]
def wordsI (l : List Int) (n : Nat) : List Int := (List.range n).map (fun j => word4 l (4 * j))
theorem wordsI_snoc (l : List Int) (n : Nat) : wordsI l (n + 1) = wordsI l n ++ [word4 l (4 * n)] := by simp [wordsI, List.range_succ]
theorem wordsI_len (l : List Int) (n : Nat) : (wordsI l n).length = n := by simp [wordsI]
theorem consB_B : allB consB := by
  intro i hi
  have : ∀ i, i < 16 → (0 ≤ consB.getD i 0 ∧ consB.getD i 0 < 256) := by decide
  exact ⟨(this i hi).1, (this i hi).2⟩
theorem square_words {k m : List Int} (hk : k.length = 32) : wordsI (consB ++ k ++ m) 16 = squareI k (fourW m) := by
  have hL : (consB ++ k).length = 48 := by rw [List.length_append, hk]; rfl
  have A : ∀ j, j + 4 ≤ 16 → word4 (consB ++ k ++ m) j = word4 consB j := fun j hj => by
    rw [word4_left (by omega), word4_left (by exact hj)]
  have B : ∀ j, j + 4 ≤ 32 → word4 (consB ++ k ++ m) (16 + j) = word4 k j := fun j hj => by
    rw [word4_left (by omega), word4_right (show consB.length = 16 from rfl)]
  have C : ∀ j, word4 (consB ++ k ++ m) (48 + j) = word4 m j := fun j => word4_right hL
  generalize hl : consB ++ k ++ m = L at A B C
  show [word4 L 0, word4 L 4, word4 L 8, word4 L 12, word4 L (16 + 0), word4 L (16 + 4), word4 L (16 + 8), word4 L (16 + 12), word4 L (16 + 16), word4 L (16 + 20), word4 L (16 + 24), word4 L (16 + 28), word4 L (48 + 0), word4 L (48 + 4), word4 L (48 + 8), word4 L (48 + 12)] = _
  rw [A 0 (by omega), A 4 (by omega), A 8 (by omega), A 12 (by omega), B 0 (by omega), B 4 (by omega), B 8 (by omega), B 12 (by omega), B 16 (by omega), B 20 (by omega), B 24 (by omega), B 28 (by omega), C, C, C, C]
  rfl

/-! ### The rounds, half by half -/
def half1 (l : List Int) : Nat → List Int
  | 0 => l
  | n + 1 => quarterAt (half1 l n) n (4 + n) (8 + n) (12 + n)
def half2 (l : List Int) : Nat → List Int
  | 0 => l
  | n + 1 => quarterAt (half2 l n) n (4 + (n + 1) % 4) (8 + (n + 2) % 4) (12 + (n + 3) % 4)
theorem half1_len (l : List Int) : ∀ n, (half1 l n).length = l.length
  | 0 => rfl
  | n + 1 => by rw [half1, quarterAt_len, half1_len l n]
theorem half2_len (l : List Int) : ∀ n, (half2 l n).length = l.length
  | 0 => rfl
  | n + 1 => by rw [half2, quarterAt_len, half2_len l n]
theorem half1_W {l : List Int} (h : allW l) : ∀ n, allW (half1 l n)
  | 0 => h
  | n + 1 => quarterAt_W (half1_W h n) _ _ _ _
theorem half2_W {l : List Int} (h : allW l) : ∀ n, allW (half2 l n)
  | 0 => h
  | n + 1 => quarterAt_W (half2_W h n) _ _ _ _
/-- The two halves of a double round, as functions that nothing unfolds. -/
theorem halves {m : List Int} (hW : allW m) (hL : m.length = 16) : ∃ h g : Nat → List Int, h 0 = m ∧ (∀ k, h (k + 1) = quarterAt (h k) k (4 + k) (8 + k) (12 + k)) ∧ g 0 = h 4 ∧
    (∀ k, g (k + 1) = quarterAt (g k) k (4 + (k + 1) % 4) (8 + (k + 2) % 4) (12 + (k + 3) % 4)) ∧ g 4 = dbl m ∧ (∀ k, allW (h k)) ∧ (∀ k, (h k).length = 16) ∧ (∀ k, allW (g k)) ∧ (∀ k, (g k).length = 16) :=
  ⟨half1 m, half2 (half1 m 4), rfl, fun _ => rfl, rfl, fun _ => rfl, rfl, half1_W hW, fun k => (half1_len m k).trans hL, half2_W (half1_W hW 4), fun k => (half2_len _ k).trans ((half1_len m 4).trans hL)⟩
theorem dbl_halves (l : List Int) : half2 (half1 l 4) 4 = dbl l := rfl
end Go.Proofs.Ytjbagkimpmpfgaa

/- Chacha: the document's functions, walked. -/
namespace Go.Proofs.Ytjbagkimpmpfgaa
open Go Go.Mx
set_option maxRecDepth 100000
set_option maxHeartbeats 4000000

def c100 : Ctr := fun args objs => match args, objs with
  | [.one (.int .i64 x)], [] => some ⟨[isW x], .v (.one (.sl 0 0 4 1)), [], [.own 1 [.ints .u8 (four x) 4]]⟩
  | _, _ => none
theorem m100 : Meets Try.prog 100 c100 := by
  refine meets_of_run2 tab_ok env0 mixed [.tmp 2] Try.func100 rfl Try.ntmps100 Try.call100 (fun t w => by simp [results, Try.results100, resS, rv1]) ?_
  intro args objs r hr hcs
  unfold c100 at hr
  split at hr
  · rename_i x
    simp only [Option.some.injEq] at hr; subst hr
    obtain ⟨h1, _⟩ := hcs
    refine ⟨rfl, ?_⟩
    conv => whnf
    simp only [ti5, Nat.mul_one, List.replicate, List.set]
    rw [four_of h1]
    refine ⟨?_, rfl, [0], [], rfl, ⟨rfl, trivial⟩, ⟨rfl, rfl, rfl, rfl, trivial⟩, trivial⟩
    repeat' apply And.intro
    all_goals first
      | exact True.intro
      | omega
      | decide +kernel
      | rfl
      | exact Nat.le_of_ble_eq_true rfl
      | (dsimp only; omega)
      | trace_state
  · cases hr
def c141 : Ctr := fun args objs => match args, objs with
  | [.one (.sl 0 0 n 1), .one (.int .i64 at')], [.own 1 [.ints .u8 l n']] => some ⟨[n = n', l.length = n, allB l, 0 ≤ at' ∧ at' + 4 ≤ n, n < 1000000], .v (.one (.int .i64 (word4 l at'.toNat))), [], []⟩
  | _, _ => none
theorem m141 : Meets Try.prog 141 c141 := by
  refine meets_of_run2 tab_ok env0 mixed [.tmp 4] Try.func141 rfl Try.ntmps141 Try.call141 (fun t w => by simp [results, Try.results141, resS, rv1]) ?_
  intro args objs r hr hcs
  unfold c141 at hr
  split at hr
  · rename_i n a l n'
    simp only [Option.some.injEq] at hr; subst hr
    obtain ⟨h1, h2, h3, h4, h5, _⟩ := hcs
    refine ⟨rfl, ?_⟩
    conv => whnf
    subst h1
    obtain ⟨at', rfl⟩ : ∃ i : Nat, a = (i : Int) := ⟨_, (Int.toNat_of_nonneg h4.1).symm⟩
    have e1 : isum .i64 (at' : Int) 1 = ((at' + 1 : Nat) : Int) := by rw [isum, i64_in] <;> omega
    have e2 : isum .i64 (at' : Int) 2 = ((at' + 2 : Nat) : Int) := by rw [isum, i64_in] <;> omega
    have e3 : isum .i64 (at' : Int) 3 = ((at' + 3 : Nat) : Int) := by rw [isum, i64_in] <;> omega
    rw [e1, e2, e3]
    refine ⟨?_, rfl, [0], [], rfl, ⟨⟨rfl, ?_⟩, trivial⟩, ⟨rfl, rfl, rfl, rfl, trivial⟩, trivial⟩
    · repeat' apply And.intro
      all_goals first
        | exact True.intro
        | omega
        | decide +kernel
        | rfl
        | exact Nat.le_of_ble_eq_true rfl
        | (dsimp only; omega)
        | trace_state
    · simp only [Int.toNat_natCast, Nat.zero_add]
      exact sum4 (h3 _ (by omega)) (h3 _ (by omega)) (h3 _ (by omega)) (h3 _ (by omega))
  · cases hr
def c101 : Ctr := fun args objs => match args, objs with
  | [.agg [.ints .u8 k 32], .agg [.ints .u8 m 16]], [] => some ⟨[allB k, k.length = 32, allB m, m.length = 16], .v (.one (.sl 0 0 16 1)), [], [.own 1 [.ints .i64 (squareI k (fourW m)) 16]]⟩
  | _, _ => none
def envS : Env := fun f => match f with
  | 141 => some c141
  | _ => none
theorem envS_ok : EnvOk Try.prog envS := by
  intro f c h
  unfold envS at h
  split at h
  · simp only [Option.some.injEq] at h; subst h; exact m141
  · cases h
theorem m101 : Meets Try.prog 101 c101 := by
  refine meets_of_run2 tab_ok envS_ok mixed [.tmp 4] Try.func101 rfl Try.ntmps101 Try.call101 (fun t w => by simp [results, Try.results101, resS, rv1]) ?_
  intro args objs r hr hcs
  unfold c101 at hr
  split at hr
  · rename_i k m
    simp only [Option.some.injEq] at hr; subst hr
    obtain ⟨h1, h2, h3, h4, _⟩ := hcs
    refine ⟨rfl, ?_⟩
    conv => whnf
    simp only [ti5, Nat.mul_one, List.replicate, List.set]
    have hLL : (consB ++ k ++ m).length = 64 := by rw [List.length_append, List.length_append, h2, h4]; rfl
    have hLB : allB (consB ++ k ++ m) := allB_app (allB_app consB_B h1) h3
    have hE : wordsI (consB ++ k ++ m) 16 = squareI k (fourW m) := square_words h2
    have tk : List.take 32 (List.drop 0 k) = k := by rw [List.drop_zero, List.take_of_length_le (by omega)]
    have tm : List.take 16 (List.drop 0 m) = m := by rw [List.drop_zero, List.take_of_length_le (by omega)]
    refine ⟨?_, { i : Nat // i ≤ 16 }, fun i => ⟨(.any :: .any :: .any :: .any :: .any :: .v (.one (.sl 0 0 64 1)) :: .v (.one (.sl 1 0 i.1 1)) :: .v (.one (.int .i64 i.1)) :: .any :: .any :: .any :: .any :: .any :: .any :: .any :: .any :: .any :: .any :: .any :: .any :: .any :: .any :: .any :: .any :: .any :: .any :: .any :: []), [.own 1 [.ints .u8 (consB ++ k ++ m) 64], .own 1 [.ints .i64 (wordsI (consB ++ k ++ m) i.1) i.1]]⟩, fun i => 16 - i.1, ⟨0, by omega⟩, ?_, fun _ => rfl, ?_⟩
    · repeat' apply And.intro
      all_goals first
        | exact True.intro
        | omega
        | decide +kernel
        | rfl
        | exact Nat.le_of_ble_eq_true rfl
        | (dsimp only; omega)
        | trace_state
    · refine ⟨[4, 5], [(1, [.ints .i64 [] 0])], rfl, ?_, ?_⟩
      · repeat' apply And.intro
        all_goals first
          | exact True.intro
          | rfl
          | exact Nat.le_refl _
          | decide +kernel
          | omega
          | trace_state
      · refine ⟨⟨rfl, rfl, ?_, rfl, trivial⟩, ⟨rfl, rfl, rfl, rfl, trivial⟩, trivial⟩
        show [101, 120, 112, 97, 110, 100, 32, 51, 50, 45, 98, 121, 116, 101, 32, 107] ++ List.take 32 (List.drop 0 k) ++ List.take 16 (List.drop 0 m) = _
        rw [tk, tm]
        rfl
    · rintro ⟨i, hi⟩
      rw [← hE]
      generalize consB ++ k ++ m = L at hLL hLB ⊢
      show run tab envS 0 _ ⟨(.any :: .any :: .any :: .any :: .any :: .v (.one (.sl 0 0 64 1)) :: .v (.one (.sl 1 0 i 1)) :: .v (.one (.int .i64 i)) :: .any :: .any :: .any :: .any :: .any :: .any :: .any :: .any :: .any :: .any :: .any :: .any :: .any :: .any :: .any :: .any :: .any :: .any :: .any :: []), [.own 1 [.ints .u8 L 64], .own 1 [.ints .i64 (wordsI L i) i]]⟩ _ _
      refine run_K (P := fun K => run tab envS 0 _ ⟨_, _⟩ True K) ?_
      intro K hK
      conv => whnf
      refine ⟨trivial, fun hlt => ?_, fun hge => ?_⟩
      · simp only [decide_eq_true_eq] at hlt
        have e2 : imul .i64 4 (i : Int) = ((4 * i : Nat) : Int) := by rw [imul, i64_in] <;> omega
        have e3 : isum .i64 (i : Int) 1 = ((i + 1 : Nat) : Int) := by rw [isum, i64_in] <;> omega
        conv => whnf
        rw [e2, e3]
        subst hK
        change _ ∧ _
        refine ⟨?_, ⟨i + 1, by omega⟩, by show 16 - (i + 1) < 16 - i; omega, [0, 3], [], rfl, ?_, ?_⟩
        · repeat' apply And.intro
          all_goals first
            | exact True.intro
            | exact hLB
            | exact hLL
            | (show i + 1 ≤ 9223372036854775807; omega)
            | (show (i + 1) * 8 ≤ 140737488355328; omega)
            | (show i * 1 = i + 0; omega)
            | omega
            | decide +kernel
            | rfl
            | exact Nat.le_of_ble_eq_true rfl
            | (dsimp only; omega)
            | trace_state
        · repeat' apply And.intro
          all_goals first
            | exact True.intro
            | rfl
            | exact Nat.le_refl _
            | decide +kernel
            | omega
            | trace_state
        · refine ⟨⟨rfl, rfl, rfl, rfl, trivial⟩, ⟨rfl, rfl, ?_, rfl, trivial⟩, trivial⟩
          show wordsI L i ++ [word4 L (4 * i)] = wordsI L (i + 1)
          rw [wordsI_snoc]
      · simp only [decide_eq_false_iff_not] at hge
        have : i = 16 := by omega
        subst this
        conv => whnf
        subst hK
        conv => whnf
        refine ⟨?_, rfl, [1], [], rfl, ⟨rfl, trivial⟩, ⟨rfl, rfl, rfl, rfl, trivial⟩, trivial⟩
        repeat' apply And.intro
        all_goals first
          | exact True.intro
          | omega
          | decide +kernel
          | rfl
          | exact Nat.le_of_ble_eq_true rfl
          | (dsimp only; omega)
          | trace_state
  · cases hr
def c102 : Ctr := fun args objs => match args, objs with
  | [.one (.sl 0 0 n 1)], [.own 1 [.ints .i64 l 16]] => some ⟨[n = 16, allW l, l.length = 16], .v (.one (.sl 1 0 16 1)), [], [.own 1 [.ints .i64 (iter dbl 10 l) 16]]⟩
  | _, _ => none
def envT : Env := fun f => match f with
  | 29 => some c29
  | _ => none
theorem envT_ok : EnvOk Try.prog envT := by
  intro f c h
  unfold envT at h
  split at h
  · simp only [Option.some.injEq] at h; subst h; exact m29
  · cases h
theorem m102 : Meets Try.prog 102 c102 := by
  refine meets_of_run2 tab_ok envT_ok mixed [.tmp 2] Try.func102 rfl Try.ntmps102 Try.call102 (fun t w => by simp [results, Try.results102, resS, rv1]) ?_
  intro args objs r hr hcs
  unfold c102 at hr
  split at hr
  · rename_i n l
    simp only [Option.some.injEq] at hr; subst hr
    obtain ⟨h1, h2, h3, _⟩ := hcs
    refine ⟨rfl, ?_⟩
    conv => whnf
    subst h1
    have tl : List.take 16 (List.drop 0 l) = l := by rw [List.drop_zero, List.take_of_length_le (by omega)]
    refine ⟨?_, { i : Nat // i ≤ 10 }, fun i => ⟨(.v (.one (.sl 1 0 16 1)) :: .any :: .any :: .v (.one (.int .i64 i.1)) :: .any :: .any :: .any :: .any :: .any :: .any :: .any :: .any :: .any :: .any :: .any :: .any :: .any :: .any :: .any :: .any :: .any :: .any :: .any :: .any :: .any :: .any :: .any :: .any :: .any :: .any :: .any :: .any :: .any :: .any :: .any :: .any :: .any :: .any :: .any :: .any :: .any :: .any :: .any :: .any :: .any :: .any :: []), [.own 1 [.ints .i64 l 16], .own 1 [.ints .i64 (iter dbl i.1 l) 16]]⟩, fun i => 10 - i.1, ⟨0, by omega⟩, ?_, fun _ => rfl, ?_⟩
    · repeat' apply And.intro
      all_goals first
        | exact True.intro
        | omega
        | decide +kernel
        | rfl
        | exact Nat.le_of_ble_eq_true rfl
        | (dsimp only; omega)
        | trace_state
    · refine ⟨[0, 2], [], rfl, ?_, ?_⟩
      · repeat' apply And.intro
        all_goals first
          | exact True.intro
          | rfl
          | exact Nat.le_refl _
          | decide +kernel
          | omega
          | trace_state
      · refine ⟨⟨rfl, rfl, rfl, rfl, trivial⟩, ⟨rfl, rfl, ?_, rfl, trivial⟩, trivial⟩
        exact tl
    · rintro ⟨i, hi⟩
      have hW := iter_W i h2
      have hL := (iter_len i l).trans h3
      have hS : iter dbl (i + 1) l = dbl (iter dbl i l) := rfl
      have hT : i = 10 → iter dbl 10 l = iter dbl i l := fun h => by rw [h]
      show run tab envT 1 _ ⟨(.v (.one (.sl 1 0 16 1)) :: .any :: .any :: .v (.one (.int .i64 i)) :: .any :: .any :: .any :: .any :: .any :: .any :: .any :: .any :: .any :: .any :: .any :: .any :: .any :: .any :: .any :: .any :: .any :: .any :: .any :: .any :: .any :: .any :: .any :: .any :: .any :: .any :: .any :: .any :: .any :: .any :: .any :: .any :: .any :: .any :: .any :: .any :: .any :: .any :: .any :: .any :: .any :: .any :: []), [.own 1 [.ints .i64 l 16], .own 1 [.ints .i64 (iter dbl i l) 16]]⟩ _ _
      refine run_K (P := fun K => run tab envT 1 _ ⟨_, _⟩ True K) ?_
      intro K hK
      generalize iter dbl i l = m at hW hL hS hT ⊢
      conv => whnf
      refine ⟨trivial, fun hlt => ?_, fun hge => ?_⟩
      · simp only [decide_eq_true_eq] at hlt
        conv => whnf
        obtain ⟨h, g, h0, hs, g0, gs, g4, hW1, hL1, hW2, hL2⟩ := halves hW hL
        refine ⟨?_, { k : Nat // k ≤ 4 }, fun k => ⟨(.v (.one (.sl 1 0 16 1)) :: .any :: .any :: .v (.one (.int .i64 i)) :: .v (.one (.int .i64 k.1)) :: .any :: .any :: .any :: .any :: .any :: .any :: .any :: .any :: .any :: .any :: .any :: .any :: .any :: .any :: .any :: .any :: .any :: .any :: .any :: .any :: .any :: .any :: .any :: .any :: .any :: .any :: .any :: .any :: .any :: .any :: .any :: .any :: .any :: .any :: .any :: .any :: .any :: .any :: .any :: .any :: .any :: []), [.own 1 [.ints .i64 l 16], .own 1 [.ints .i64 (h k.1) 16]]⟩, fun k => 4 - k.1, ⟨0, by omega⟩, ?_, fun _ => rfl, ?_⟩
        · trivial
        · refine ⟨[0, 1], [], rfl, ?_, ?_⟩
          · repeat' apply And.intro
            all_goals first
              | exact True.intro
              | rfl
              | exact Nat.le_refl _
              | decide +kernel
              | omega
              | trace_state
          · exact ⟨⟨rfl, rfl, rfl, rfl, trivial⟩, ⟨rfl, rfl, h0.symm, rfl, trivial⟩, trivial⟩
        rintro ⟨k, hk⟩
        show run tab envT 1 _ ⟨(.v (.one (.sl 1 0 16 1)) :: .any :: .any :: .v (.one (.int .i64 i)) :: .v (.one (.int .i64 k)) :: .any :: .any :: .any :: .any :: .any :: .any :: .any :: .any :: .any :: .any :: .any :: .any :: .any :: .any :: .any :: .any :: .any :: .any :: .any :: .any :: .any :: .any :: .any :: .any :: .any :: .any :: .any :: .any :: .any :: .any :: .any :: .any :: .any :: .any :: .any :: .any :: .any :: .any :: .any :: .any :: .any :: []), [.own 1 [.ints .i64 l 16], .own 1 [.ints .i64 (h k) 16]]⟩ _ _
        refine run_K (P := fun K => run tab envT 1 _ ⟨_, _⟩ True K) ?_
        intro K hK
        conv => whnf
        refine ⟨trivial, fun hlt1 => ?_, fun hge1 => ?_⟩
        · simp only [decide_eq_true_eq] at hlt1
          have e1 : isum .i64 4 (k : Int) = ((4 + k : Nat) : Int) := by rw [isum, i64_in] <;> omega
          have e2 : isum .i64 8 (k : Int) = ((8 + k : Nat) : Int) := by rw [isum, i64_in] <;> omega
          have e3 : isum .i64 12 (k : Int) = ((12 + k : Nat) : Int) := by rw [isum, i64_in] <;> omega
          have e4 : isum .i64 (k : Int) 1 = ((k + 1 : Nat) : Int) := by rw [isum, i64_in] <;> omega
          conv => whnf
          rw [e1, e2, e3, e4]
          subst hK
          change _ ∧ _
          refine ⟨?_, ⟨k + 1, by omega⟩, by show 4 - (k + 1) < 4 - k; omega, [0, 1], [], rfl, ?_, ?_⟩
          · repeat' apply And.intro
            all_goals first
              | exact True.intro
              | exact hW1 k
              | exact hL1 k
              | omega
              | decide +kernel
              | rfl
              | exact Nat.le_of_ble_eq_true rfl
              | (dsimp only; omega)
              | trace_state
          · repeat' apply And.intro
            all_goals first
              | exact True.intro
              | rfl
              | exact Nat.le_refl _
              | decide +kernel
              | omega
              | trace_state
          · exact ⟨⟨rfl, rfl, rfl, rfl, trivial⟩, ⟨rfl, rfl, (hs k).symm, rfl, trivial⟩, trivial⟩
        · simp only [decide_eq_false_iff_not] at hge1
          have : k = 4 := by omega
          subst this
          conv => whnf
          subst hK
          conv => whnf
          refine ⟨?_, { k : Nat // k ≤ 4 }, fun k => ⟨(.v (.one (.sl 1 0 16 1)) :: .any :: .any :: .v (.one (.int .i64 i)) :: .any :: .v (.one (.int .i64 k.1)) :: .any :: .any :: .any :: .any :: .any :: .any :: .any :: .any :: .any :: .any :: .any :: .any :: .any :: .any :: .any :: .any :: .any :: .any :: .any :: .any :: .any :: .any :: .any :: .any :: .any :: .any :: .any :: .any :: .any :: .any :: .any :: .any :: .any :: .any :: .any :: .any :: .any :: .any :: .any :: .any :: []), [.own 1 [.ints .i64 l 16], .own 1 [.ints .i64 (g k.1) 16]]⟩, fun k => 4 - k.1, ⟨0, by omega⟩, ?_, fun _ => rfl, ?_⟩
          · trivial
          · refine ⟨[0, 1], [], rfl, ?_, ?_⟩
            · repeat' apply And.intro
              all_goals first
                | exact True.intro
                | rfl
                | exact Nat.le_refl _
                | decide +kernel
                | omega
                | trace_state
            · exact ⟨⟨rfl, rfl, rfl, rfl, trivial⟩, ⟨rfl, rfl, g0.symm, rfl, trivial⟩, trivial⟩
          rintro ⟨k, hk⟩
          show run tab envT 1 _ ⟨(.v (.one (.sl 1 0 16 1)) :: .any :: .any :: .v (.one (.int .i64 i)) :: .any :: .v (.one (.int .i64 k)) :: .any :: .any :: .any :: .any :: .any :: .any :: .any :: .any :: .any :: .any :: .any :: .any :: .any :: .any :: .any :: .any :: .any :: .any :: .any :: .any :: .any :: .any :: .any :: .any :: .any :: .any :: .any :: .any :: .any :: .any :: .any :: .any :: .any :: .any :: .any :: .any :: .any :: .any :: .any :: .any :: []), [.own 1 [.ints .i64 l 16], .own 1 [.ints .i64 (g k) 16]]⟩ _ _
          refine run_K (P := fun K => run tab envT 1 _ ⟨_, _⟩ True K) ?_
          intro K hK
          conv => whnf
          refine ⟨trivial, fun hlt1 => ?_, fun hge1 => ?_⟩
          · simp only [decide_eq_true_eq] at hlt1
            have e1 : isum .i64 (k : Int) 1 = ((k + 1 : Nat) : Int) := by rw [isum, i64_in] <;> omega
            have e2 : isum .i64 (k : Int) 2 = ((k + 2 : Nat) : Int) := by rw [isum, i64_in] <;> omega
            have e3 : isum .i64 (k : Int) 3 = ((k + 3 : Nat) : Int) := by rw [isum, i64_in] <;> omega
            have r1 : ((k + 1 : Nat) : Int).tmod 4 = (((k + 1) % 4 : Nat) : Int) := by rw [Int.tmod_eq_emod_of_nonneg (by omega)]; omega
            have r2 : ((k + 2 : Nat) : Int).tmod 4 = (((k + 2) % 4 : Nat) : Int) := by rw [Int.tmod_eq_emod_of_nonneg (by omega)]; omega
            have r3 : ((k + 3 : Nat) : Int).tmod 4 = (((k + 3) % 4 : Nat) : Int) := by rw [Int.tmod_eq_emod_of_nonneg (by omega)]; omega
            have f1 : isum .i64 4 (((k + 1) % 4 : Nat) : Int) = ((4 + (k + 1) % 4 : Nat) : Int) := by rw [isum, i64_in] <;> omega
            have f2 : isum .i64 8 (((k + 2) % 4 : Nat) : Int) = ((8 + (k + 2) % 4 : Nat) : Int) := by rw [isum, i64_in] <;> omega
            have f3 : isum .i64 12 (((k + 3) % 4 : Nat) : Int) = ((12 + (k + 3) % 4 : Nat) : Int) := by rw [isum, i64_in] <;> omega
            conv => whnf
            rw [e1, e2, e3, r1, r2, r3, f1, f2, f3]
            subst hK
            change _ ∧ _
            refine ⟨?_, ⟨k + 1, by omega⟩, by show 4 - (k + 1) < 4 - k; omega, [0, 1], [], rfl, ?_, ?_⟩
            · repeat' apply And.intro
              all_goals first
                | exact True.intro
                | exact hW2 k
                | exact hL2 k
                | omega
                | decide +kernel
                | rfl
                | exact Nat.le_of_ble_eq_true rfl
                | (dsimp only; omega)
                | trace_state
            · repeat' apply And.intro
              all_goals first
                | exact True.intro
                | rfl
                | exact Nat.le_refl _
                | decide +kernel
                | omega
                | trace_state
            · exact ⟨⟨rfl, rfl, rfl, rfl, trivial⟩, ⟨rfl, rfl, (gs k).symm, rfl, trivial⟩, trivial⟩
          · simp only [decide_eq_false_iff_not] at hge1
            have : k = 4 := by omega
            subst this
            have e4 : isum .i64 (i : Int) 1 = ((i + 1 : Nat) : Int) := by rw [isum, i64_in] <;> omega
            conv => whnf
            subst hK
            conv => whnf
            rw [e4]
            subst hK
            change _ ∧ _
            refine ⟨?_, ⟨i + 1, by omega⟩, by show 10 - (i + 1) < 10 - i; omega, [0, 1], [], rfl, ?_, ?_⟩
            · repeat' apply And.intro
              all_goals first
                | exact True.intro
                | omega
                | decide +kernel
                | rfl
                | exact Nat.le_of_ble_eq_true rfl
                | (dsimp only; omega)
                | trace_state
            · repeat' apply And.intro
              all_goals first
                | exact True.intro
                | rfl
                | exact Nat.le_refl _
                | decide +kernel
                | omega
                | trace_state
            · exact ⟨⟨rfl, rfl, rfl, rfl, trivial⟩, ⟨rfl, rfl, g4.trans hS.symm, rfl, trivial⟩, trivial⟩
      · simp only [decide_eq_false_iff_not] at hge
        have : i = 10 := by omega
        rw [hT this] at hK
        conv => whnf
        subst hK
        conv => whnf
        refine ⟨?_, rfl, [0, 1], [], rfl, ⟨rfl, trivial⟩, ⟨rfl, rfl, rfl, rfl, trivial⟩, ⟨rfl, rfl, rfl, rfl, trivial⟩, trivial⟩
        repeat' apply And.intro
        all_goals first
          | exact True.intro
          | omega
          | decide +kernel
          | rfl
          | exact Nat.le_of_ble_eq_true rfl
          | (dsimp only; omega)
          | trace_state
  · cases hr
end Go.Proofs.Ytjbagkimpmpfgaa

/- Chacha: the document's block and derived key. -/
namespace Go.Proofs.Ytjbagkimpmpfgaa
open Go Go.Mx
set_option maxRecDepth 100000
set_option maxHeartbeats 4000000

def envD : Env := fun f => match f with
  | 100 => some c100
  | 101 => some c101
  | 102 => some c102
  | _ => none
theorem envD_ok : EnvOk Try.prog envD := by
  intro f c h
  unfold envD at h
  split at h
  · simp only [Option.some.injEq] at h; subst h; exact m100
  · simp only [Option.some.injEq] at h; subst h; exact m101
  · simp only [Option.some.injEq] at h; subst h; exact m102
  · cases h
theorem splI_get {l m : List Int} {off : Nat} (h : off + m.length ≤ l.length) (j : Nat) : (splI l off m)[j]? = if j < off then l[j]? else if j < off + m.length then m[j - off]? else l[j]? := by
  have ht : (l.take off).length = off := by rw [List.length_take]; omega
  unfold splI
  by_cases h1 : j < off
  · rw [if_pos h1, List.append_assoc, List.getElem?_append_left (by omega), List.getElem?_take_of_lt h1]
  · rw [if_neg h1]
    by_cases h2 : j < off + m.length
    · rw [if_pos h2, List.getElem?_append_left (by rw [List.length_append]; omega), List.getElem?_append_right (by omega), ht]
    · rw [if_neg h2, List.getElem?_append_right (by rw [List.length_append]; omega), List.length_append, ht, List.getElem?_drop]
      congr 1; omega
theorem splI_comm {o m q : List Int} {a b : Nat} (h1 : a + m.length ≤ b) (h2 : b + q.length ≤ o.length) : splI (splI o b q) a m = splI (splI o a m) b q := by
  apply List.ext_getElem?
  intro j
  rw [splI_get (by rw [splI_length h2]; omega), splI_get h2, splI_get (by rw [splI_length (by omega)]; omega), splI_get (by omega)]
  by_cases c1 : j < a
  · rw [if_pos c1, if_pos (by omega), if_pos (by omega), if_pos c1]
  · rw [if_neg c1]
    by_cases c2 : j < a + m.length
    · rw [if_pos c2, if_pos (by omega), if_neg c1, if_pos c2]
    · rw [if_neg c2]
      by_cases c3 : j < b
      · rw [if_pos c3, if_pos c3, if_neg c1, if_neg c2]
      · rw [if_neg c3, if_neg c3]
        by_cases c4 : j < b + q.length
        · rw [if_pos c4, if_pos c4]
        · rw [if_neg c4, if_neg c4, if_neg c1, if_neg c2]
theorem splI_app {o m q : List Int} {a : Nat} (h : a + m.length + q.length ≤ o.length) : splI (splI o a m) (a + m.length) q = splI o a (m ++ q) := by
  apply List.ext_getElem?
  intro j
  rw [splI_get (by rw [splI_length (by omega)]; omega), splI_get (by omega), splI_get (by rw [List.length_append]; omega), List.length_append]
  by_cases c1 : j < a
  · rw [if_pos (by omega), if_pos c1, if_pos c1]
  · rw [if_neg c1, if_neg c1]
    by_cases c2 : j < a + m.length
    · rw [if_pos c2, if_pos c2, if_pos (by omega), List.getElem?_append_left (by omega)]
    · rw [if_neg c2, if_neg c2]
      by_cases c3 : j < a + m.length + q.length
      · rw [if_pos c3, if_pos (by omega), List.getElem?_append_right (by omega)]
        congr 1; omega
      · rw [if_neg c3, if_neg (by omega)]
theorem putI_copy {o l : List Int} {lo lo2 i : Nat} (h : lo + 4 * i + 4 ≤ o.length) (h2 : lo2 + i < l.length) : splI (putI o lo l lo2 i) (lo + 4 * i) (four (l.getD (lo2 + i) 0)) = putI o lo l lo2 (i + 1) := by
  have hlen : ((l.drop lo2).take i).length = i := by rw [List.length_take, List.length_drop]; omega
  have hl : (lays ((l.drop lo2).take i)).length = 4 * i := by rw [lays_len, hlen]
  unfold putI
  rw [mid_succ h2, lays_snoc, ← splI_app (by rw [hl, four_len]; exact h), hl]
theorem addI_get {s t : List Int} {i n : Nat} (h : i < n) : (addI s t n).getD i 0 = isum .u32 (t.getD i 0) (s.getD i 0) := by
  unfold addI
  rw [getD_left (by simpa using h)]
  simp [List.getD, h]
theorem sum_mod {x y : Int} (hx : isW x) (hy : isW y) : (isum .i64 x y).tmod 4294967296 = isum .u32 y x := by
  obtain ⟨a, rfl⟩ := of_isW hx
  obtain ⟨b, rfl⟩ := of_isW hy
  rw [sum_rem, u32_sum, BitVec.add_comm]
theorem take4_four (x : Int) : List.take 4 (List.take 4 (List.drop 0 (four x))) = four x := rfl
theorem more_of {ctr : Int} {n : List Int} (h : isW ctr) : fourW (four ctr ++ n) = moreI ctr n := by
  unfold fourW moreI
  rw [word4_four h, show (4 : Nat) = 4 + 0 from rfl, word4_right (four_len ctr), show (8 : Nat) = 4 + 4 from rfl, word4_right (four_len ctr), show (12 : Nat) = 4 + 8 from rfl, word4_right (four_len ctr)]
theorem laid {q n : List Int} {z1 m1 z2 f1 m2 m3 z3 : Nat} (hq : q.length = 4) (hn : n.length = 12) (h1 : z1 = 0) (h2 : m1 = 4) (h3 : z2 = 0) (h4 : f1 = 4) (h5 : m2 = 12) (h6 : m3 = 12) (h7 : z3 = 0) :
    splI (splI (List.replicate 16 0) z1 (List.take m1 (List.take 4 (List.drop z2 q)))) f1 (List.take m2 (List.take m3 (List.drop z3 n))) = q ++ n := by
  subst h1; subst h2; subst h3; subst h4; subst h5; subst h6; subst h7
  have hq' : List.take 4 (List.take 4 (List.drop 0 q)) = q := by rw [List.drop_zero, List.take_take, List.take_of_length_le (by omega)]
  have hn' : List.take 12 (List.take 12 (List.drop 0 n)) = n := by rw [List.drop_zero, List.take_take, List.take_of_length_le (by omega)]
  rw [hq', hn']
  have := splI_app (o := List.replicate 16 0) (m := q) (q := n) (a := 0) (by simp; omega)
  rw [hq] at this
  rw [this]
  unfold splI
  rw [List.drop_of_length_le (by simp; omega), List.take_zero, List.nil_append, List.append_nil]
def c33 : Ctr := fun args objs => match args, objs with
  | [.agg [.ints .u8 k 32], .one (.int .u32 ctr), .agg [.ints .u8 n 12]], [] => some ⟨[allB k, k.length = 32, isW ctr, allB n, n.length = 12], .v (.agg [.ints .u8 (blockI k ctr n) 64]), [], []⟩
  | _, _ => none
theorem m33 : Meets Try.prog 33 c33 := by
  refine meets_of_run2 tab_ok envD_ok mixed [.cell 6 34] Try.func33 rfl Try.ntmps33 Try.call33 (fun t w => by simp [results, Try.results33, resS, rv1]) ?_
  intro args objs r hr hcs
  unfold c33 at hr
  split at hr
  · rename_i k ctr n
    simp only [Option.some.injEq] at hr; subst hr
    obtain ⟨h1, h2, h3, h4, h5, _⟩ := hcs
    refine ⟨rfl, ?_⟩
    conv => whnf
    have hc : conv .i64 ctr = ctr := by obtain ⟨a, rfl⟩ := of_isW h3; exact i64_conv a
    have hSW := squareI_W h1 h2 (moreI_W h3 h4 h5)
    have hSL : (squareI k (moreI ctr n)).length = 16 := squareI_len rfl
    have hTW := iter_W 10 hSW
    have hTL : (iter dbl 10 (squareI k (moreI ctr n))).length = 16 := (iter_len 10 _).trans hSL
    have hR : blockI k ctr n = lays (addI (squareI k (moreI ctr n)) (iter dbl 10 (squareI k (moreI ctr n))) 16) := rfl
    have hX := allB_app (four_B ctr) h4
    have hXL : (four ctr ++ n).length = 16 := by rw [List.length_append, h5]; rfl
    dsimp only
    rw [laid (four_len _) h5 ?z1 ?z2 ?z3 ?z4 ?z5 ?z6 ?z7, hc, more_of h3]
    case z1 => rfl
    case z2 => rfl
    case z3 => rfl
    case z4 => rfl
    case z5 => rfl
    case z6 => rfl
    case z7 => rfl
    generalize iter dbl 10 (squareI k (moreI ctr n)) = T at hTW hTL hR ⊢
    generalize squareI k (moreI ctr n) = S at hSW hSL hR ⊢
    have hAL := addI_len (s := S) (t := T) (i := 16) (by omega)
    rw [hTL] at hAL
    refine ⟨?_, { i : Nat // i ≤ 16 }, fun i => ⟨(.any :: .any :: .any :: .any :: .any :: .any :: .v (.one (.ptr 0 0)) :: .any :: .v (.one (.sl 1 0 16 1)) :: .v (.one (.sl 2 0 16 1)) :: .v (.one (.ptr 3 0)) :: .v (.one (.int .i64 i.1)) :: .any :: .any :: .any :: .any :: .any :: .any :: .any :: .any :: .any :: .any :: .any :: .any :: .any :: .any :: .any :: .any :: .any :: .any :: .any :: .any :: .any :: .any :: .any :: .any :: .any :: .any :: .any :: .any :: .any :: .any :: .any :: .any :: .any :: []), [.own 0 [.ints .u8 (List.replicate 64 0) 64], .own 1 [.ints .i64 S 16], .own 1 [.ints .i64 T 16], .own 0 [.ints .u8 (putI (List.replicate 64 0) 0 (addI S T 16) 0 i.1) 64]]⟩, fun i => 16 - i.1, ⟨0, by omega⟩, ?_, fun _ => rfl, ?_⟩
    · repeat' apply And.intro
      all_goals first
        | exact True.intro
        | exact h1
        | exact h2
        | exact h3
        | exact h5
        | exact hX
        | exact hXL
        | exact hSW
        | exact hSL
        | omega
        | decide +kernel
        | rfl
        | exact Nat.le_of_ble_eq_true rfl
        | (dsimp only; omega)
        | trace_state
    · refine ⟨[2, 5, 6, 7], [], rfl, ?_, ?_⟩
      · repeat' apply And.intro
        all_goals first
          | exact True.intro
          | rfl
          | exact Nat.le_refl _
          | decide +kernel
          | omega
          | trace_state
      · refine ⟨⟨rfl, rfl, rfl, rfl, trivial⟩, ⟨rfl, rfl, rfl, rfl, trivial⟩, ⟨rfl, rfl, rfl, rfl, trivial⟩, ⟨rfl, rfl, ?_, rfl, trivial⟩, trivial⟩
        simp [putI, splI, lays]
    · rintro ⟨i, hi⟩
      have hPL := putI_len (o := List.replicate 64 0) (lo := 0) (l := addI S T 16) (lo2 := 0) (i := i) (by simp; omega) (by omega)
      rw [List.length_replicate] at hPL
      have hP : putI (List.replicate 64 0) 0 (addI S T 16) 0 16 = lays (addI S T 16) := by
        have := putI_all (o := List.replicate 64 0) (l := addI S T 16) (by rw [hAL]; rfl)
        rwa [hAL] at this
      show run tab envD 0 _ ⟨(.any :: .any :: .any :: .any :: .any :: .any :: .v (.one (.ptr 0 0)) :: .any :: .v (.one (.sl 1 0 16 1)) :: .v (.one (.sl 2 0 16 1)) :: .v (.one (.ptr 3 0)) :: .v (.one (.int .i64 i)) :: .any :: .any :: .any :: .any :: .any :: .any :: .any :: .any :: .any :: .any :: .any :: .any :: .any :: .any :: .any :: .any :: .any :: .any :: .any :: .any :: .any :: .any :: .any :: .any :: .any :: .any :: .any :: .any :: .any :: .any :: .any :: .any :: .any :: []), [.own 0 [.ints .u8 (List.replicate 64 0) 64], .own 1 [.ints .i64 S 16], .own 1 [.ints .i64 T 16], .own 0 [.ints .u8 (putI (List.replicate 64 0) 0 (addI S T 16) 0 i) 64]]⟩ _ _
      refine run_K (P := fun K => run tab envD 0 _ ⟨_, _⟩ True K) ?_
      intro K hK
      conv => whnf
      refine ⟨trivial, fun hlt => ?_, fun hge => ?_⟩
      · simp only [decide_eq_true_eq] at hlt
        have e2 : imul .i64 4 (i : Int) = ((4 * i : Nat) : Int) := by rw [imul, i64_in] <;> omega
        have e3 : isum .i64 (i : Int) 1 = ((i + 1 : Nat) : Int) := by rw [isum, i64_in] <;> omega
        conv => whnf
        rw [e2, e3]
        subst hK
        change _ ∧ _
        have hx := sum_mod (hSW i (by omega)) (hTW i (by omega))
        have hA : (addI S T 16).getD i 0 = isum .u32 (T.getD i 0) (S.getD i 0) := addI_get (by omega)
        have hxW : isW ((isum .i64 (S.getD i 0) (T.getD i 0)).tmod 4294967296) := by rw [hx]; exact sum_is (hTW i (by omega)) (hSW i (by omega))
        refine ⟨?_, ⟨i + 1, by omega⟩, by show 16 - (i + 1) < 16 - i; omega, [0, 1, 2, 3], [], rfl, ?_, ?_⟩
        · repeat' apply And.intro
          all_goals first
            | exact True.intro
            | omega
            | decide +kernel
            | (simp only [Int.toNat_natCast, Nat.zero_add]; exact hxW)
            | trace_state
        · repeat' apply And.intro
          all_goals first
            | exact True.intro
            | rfl
            | exact Nat.le_refl _
            | decide +kernel
            | omega
            | trace_state
        · refine ⟨⟨rfl, rfl, rfl, rfl, trivial⟩, ⟨rfl, rfl, rfl, rfl, trivial⟩, ⟨rfl, rfl, rfl, rfl, trivial⟩, ⟨rfl, rfl, ?_, rfl, trivial⟩, trivial⟩
          have hm : min 4 (64 - 4 * i) = 4 := by omega
          have hp := putI_copy (o := List.replicate 64 0) (lo := 0) (l := addI S T 16) (lo2 := 0) (i := i) (by simp; omega) (by omega)
          simp only [Nat.zero_add] at hp
          simp only [Int.toNat_natCast, Nat.zero_add, hx, hm, take4_four]
          rw [← hA]
          exact hp
      · simp only [decide_eq_false_iff_not] at hge
        have : i = 16 := by omega
        subst this
        rw [← hR] at hP
        conv => whnf
        subst hK
        conv => whnf
        refine ⟨?_, rfl, [], [], rfl, ⟨⟨rfl, hP, rfl, trivial⟩, trivial⟩, trivial⟩
        repeat' apply And.intro
        all_goals first
          | exact True.intro
          | omega
          | decide +kernel
          | rfl
          | exact Nat.le_of_ble_eq_true rfl
          | (dsimp only; omega)
          | trace_state
  · cases hr
def c35 : Ctr := fun args objs => match args, objs with
  | [.agg [.ints .u8 k 32], .agg [.ints .u8 m 16]], [] => some ⟨[allB k, k.length = 32, allB m, m.length = 16], .v (.agg [.ints .u8 (deriveI k m) 32]), [], []⟩
  | _, _ => none
theorem m35 : Meets Try.prog 35 c35 := by
  refine meets_of_run2 tab_ok envD_ok mixed [.cell 4 30] Try.func35 rfl Try.ntmps35 Try.call35 (fun t w => by simp [results, Try.results35, resS, rv1]) ?_
  intro args objs r hr hcs
  unfold c35 at hr
  split at hr
  · rename_i k m
    simp only [Option.some.injEq] at hr; subst hr
    obtain ⟨h1, h2, h3, h4, _⟩ := hcs
    refine ⟨rfl, ?_⟩
    conv => whnf
    have hSW := squareI_W h1 h2 (fourW_W h3 h4)
    have hSL : (squareI k (fourW m)).length = 16 := squareI_len rfl
    have hTW := iter_W 10 hSW
    have hTL : (iter dbl 10 (squareI k (fourW m))).length = 16 := (iter_len 10 _).trans hSL
    have hR : deriveI k m = putI (putI (List.replicate 32 0) 0 (iter dbl 10 (squareI k (fourW m))) 0 4) 16 (iter dbl 10 (squareI k (fourW m))) 12 4 := rfl
    generalize iter dbl 10 (squareI k (fourW m)) = T at hTW hTL hR ⊢
    generalize squareI k (fourW m) = S at hSW hSL ⊢
    refine ⟨?_, { i : Nat // i ≤ 4 }, fun i => ⟨(.any :: .any :: .any :: .any :: .v (.one (.ptr 0 0)) :: .v (.one (.sl 1 0 16 1)) :: .v (.one (.ptr 2 0)) :: .v (.one (.int .i64 i.1)) :: .any :: .any :: .any :: .any :: .any :: .any :: .any :: .any :: .any :: .any :: .any :: .any :: .any :: .any :: .any :: .any :: .any :: .any :: .any :: .any :: .any :: .any :: .any :: .any :: .any :: .any :: .any :: .any :: .any :: []), [.own 0 [.ints .u8 (List.replicate 32 0) 32], .own 1 [.ints .i64 T 16], .own 0 [.ints .u8 (putI (putI (List.replicate 32 0) 0 T 0 i.1) 16 T 12 i.1) 32]]⟩, fun i => 4 - i.1, ⟨0, by omega⟩, ?_, fun _ => rfl, ?_⟩
    · repeat' apply And.intro
      all_goals first
        | exact True.intro
        | exact h1
        | exact h2
        | exact h3
        | exact h4
        | exact hSW
        | exact hSL
        | omega
        | decide +kernel
        | rfl
        | exact Nat.le_of_ble_eq_true rfl
        | (dsimp only; omega)
        | trace_state
    · refine ⟨[2, 4, 5], [], rfl, ?_, ?_⟩
      · repeat' apply And.intro
        all_goals first
          | exact True.intro
          | rfl
          | exact Nat.le_refl _
          | decide +kernel
          | omega
          | trace_state
      · refine ⟨⟨rfl, rfl, rfl, rfl, trivial⟩, ⟨rfl, rfl, rfl, rfl, trivial⟩, ⟨rfl, rfl, ?_, rfl, trivial⟩, trivial⟩
        simp [putI, splI, lays]
    · rintro ⟨i, hi⟩
      have hPL := putI_len (o := List.replicate 32 0) (lo := 0) (l := T) (lo2 := 0) (i := i) (by simp; omega) (by omega)
      rw [List.length_replicate] at hPL
      have hQL := putI_len (o := putI (List.replicate 32 0) 0 T 0 i) (lo := 16) (l := T) (lo2 := 12) (i := i) (by omega) (by omega)
      rw [hPL] at hQL
      show run tab envD 0 _ ⟨(.any :: .any :: .any :: .any :: .v (.one (.ptr 0 0)) :: .v (.one (.sl 1 0 16 1)) :: .v (.one (.ptr 2 0)) :: .v (.one (.int .i64 i)) :: .any :: .any :: .any :: .any :: .any :: .any :: .any :: .any :: .any :: .any :: .any :: .any :: .any :: .any :: .any :: .any :: .any :: .any :: .any :: .any :: .any :: .any :: .any :: .any :: .any :: .any :: .any :: .any :: .any :: []), [.own 0 [.ints .u8 (List.replicate 32 0) 32], .own 1 [.ints .i64 T 16], .own 0 [.ints .u8 (putI (putI (List.replicate 32 0) 0 T 0 i) 16 T 12 i) 32]]⟩ _ _
      refine run_K (P := fun K => run tab envD 0 _ ⟨_, _⟩ True K) ?_
      intro K hK
      conv => whnf
      refine ⟨trivial, fun hlt => ?_, fun hge => ?_⟩
      · simp only [decide_eq_true_eq] at hlt
        have e2 : imul .i64 4 (i : Int) = ((4 * i : Nat) : Int) := by rw [imul, i64_in] <;> omega
        have e3 : isum .i64 (i : Int) 1 = ((i + 1 : Nat) : Int) := by rw [isum, i64_in] <;> omega
        have e4 : isum .i64 12 (i : Int) = ((12 + i : Nat) : Int) := by rw [isum, i64_in] <;> omega
        have e5 : isum .i64 16 ((4 * i : Nat) : Int) = ((16 + 4 * i : Nat) : Int) := by rw [isum, i64_in] <;> omega
        conv => whnf
        rw [e2, e3, e4, e5]
        subst hK
        change _ ∧ _
        have hx1 := hTW i (by omega)
        have hx2 := hTW (12 + i) (by omega)
        refine ⟨?_, ⟨i + 1, by omega⟩, by show 4 - (i + 1) < 4 - i; omega, [0, 1, 2], [], rfl, ?_, ?_⟩
        · repeat' apply And.intro
          all_goals first
            | exact True.intro
            | omega
            | decide +kernel
            | (simp only [Int.toNat_natCast, Nat.zero_add]; exact hx1)
            | (simp only [Int.toNat_natCast, Nat.zero_add]; exact hx2)
            | (dsimp only; omega)
            | trace_state
        · repeat' apply And.intro
          all_goals first
            | exact True.intro
            | rfl
            | exact Nat.le_refl _
            | decide +kernel
            | omega
            | trace_state
        · refine ⟨⟨rfl, rfl, rfl, rfl, trivial⟩, ⟨rfl, rfl, rfl, rfl, trivial⟩, ⟨rfl, rfl, ?_, rfl, trivial⟩, trivial⟩
          have hm1 : min 4 (32 - 4 * i) = 4 := by omega
          have hm2 : min 4 (32 - (16 + 4 * i)) = 4 := by omega
          have p1 := putI_copy (o := List.replicate 32 0) (lo := 0) (l := T) (lo2 := 0) (i := i) (by simp; omega) (by omega)
          simp only [Nat.zero_add] at p1
          have p2 := putI_copy (o := putI (List.replicate 32 0) 0 T 0 (i + 1)) (lo := 16) (l := T) (lo2 := 12) (i := i) (by rw [putI_len (by simp; omega) (by omega)]; simp; omega) (by omega)
          have hlen : ((T.drop 12).take i).length = i := by rw [List.length_take, List.length_drop]; omega
          have c : splI (putI (putI (List.replicate 32 0) 0 T 0 i) 16 T 12 i) (4 * i) (four (T.getD i 0)) = putI (splI (putI (List.replicate 32 0) 0 T 0 i) (4 * i) (four (T.getD i 0))) 16 T 12 i := by
            rw [show putI (putI (List.replicate 32 0) 0 T 0 i) 16 T 12 i = splI (putI (List.replicate 32 0) 0 T 0 i) 16 (lays ((T.drop 12).take i)) from rfl, splI_comm (by rw [four_len]; omega) (by rw [lays_len, hlen, hPL]; omega)]
            rfl
          simp only [Int.toNat_natCast, Nat.zero_add, hm1, hm2, take4_four]
          rw [c, p1]
          exact p2
      · simp only [decide_eq_false_iff_not] at hge
        have : i = 4 := by omega
        subst this
        conv => whnf
        subst hK
        conv => whnf
        refine ⟨?_, rfl, [], [], rfl, ⟨⟨rfl, hR.symm, rfl, trivial⟩, trivial⟩, trivial⟩
        repeat' apply And.intro
        all_goals first
          | exact True.intro
          | omega
          | decide +kernel
          | rfl
          | exact Nat.le_of_ble_eq_true rfl
          | (dsimp only; omega)
          | trace_state
  · cases hr
end Go.Proofs.Ytjbagkimpmpfgaa

/- Chacha: the law of the blocks, walked. -/
namespace Go.Proofs.Ytjbagkimpmpfgaa
open Go Go.Mx
set_option maxRecDepth 100000
set_option maxHeartbeats 4000000

theorem allB_of {l : List Int} (h : ∀ x ∈ l, isB x) : allB l := fun i hi => by
  rw [show l.getD i 0 = l[i] by simp [List.getD, hi]]
  exact h _ (List.getElem_mem hi)
theorem of_allB {l : List Int} (h : allB l) : ∀ x ∈ l, isB x := fun x hx => by
  obtain ⟨i, hi, rfl⟩ := List.mem_iff_getElem.1 hx
  have := h i hi
  rwa [show l.getD i 0 = l[i] by simp [List.getD, hi]] at this
theorem allB_zeros (n : Nat) : allB (List.replicate n 0) := allB_of fun x hx => by rw [List.eq_of_mem_replicate hx]; exact ⟨by decide, by decide⟩
theorem allB_take {l : List Int} (h : allB l) (n : Nat) : allB (l.take n) := allB_of fun x hx => of_allB h x (List.mem_of_mem_take hx)
theorem allB_drop {l : List Int} (h : allB l) (n : Nat) : allB (l.drop n) := allB_of fun x hx => of_allB h x (List.mem_of_mem_drop hx)
theorem allB_splI {l m : List Int} (h : allB l) (hm : allB m) (n : Nat) : allB (splI l n m) := allB_app (allB_app (allB_take h n) hm) (allB_drop h _)
theorem allB_set {l : List Int} (h : allB l) {x : Int} (hx : isB x) (n : Nat) : allB (l.set n x) := allB_of fun y hy => by
  rcases List.mem_or_eq_of_mem_set hy with hy | rfl
  · exact of_allB h y hy
  · exact hx
theorem u8_B (x : Int) : isB (conv .u8 x) := by rw [byte0]; exact ⟨Int.emod_nonneg _ (by decide), Int.emod_lt_of_pos _ (by decide)⟩
theorem no_selfL {p : Prop} (l : List Int) (h : (l == l) = false) : p := by simp at h
theorem wfB {l : List Int} (h : ∀ x ∈ l, (Lit.int .u8 x).wf = true) : allB l := allB_of fun x hx => ⟨(bounds_u8 (h x hx)).1, by have := (bounds_u8 (h x hx)).2; omega⟩
theorem wfW {x : Int} (h : (Lit.int .u32 x).wf = true) : isW x := ⟨(bounds_u32 h).1, by have := (bounds_u32 h).2; omega⟩
def envM : Env := fun f => match f with
  | 31 => some c31
  | 32 => some c32
  | 33 => some c33
  | 34 => some c34
  | 35 => some c35
  | _ => none
theorem envM_ok : EnvOk Try.prog envM := by
  intro f c h
  unfold envM at h
  split at h
  · simp only [Option.some.injEq] at h; subst h; exact m31
  · simp only [Option.some.injEq] at h; subst h; exact m32
  · simp only [Option.some.injEq] at h; subst h; exact m33
  · simp only [Option.some.injEq] at h; subst h; exact m34
  · simp only [Option.some.injEq] at h; subst h; exact m35
  · cases h
def c5 : Ctr := fun args objs => match args, objs with
  | [.agg [.ints .u8 k 32], .one (.int .u32 ctr), .agg [.ints .u8 n 12]], [] => some ⟨[allB k, k.length = 32, isW ctr, allB n, n.length = 12], .v (.one (.bool true true)), [], []⟩
  | _, _ => none
theorem m5 : Meets Try.prog 5 c5 := by
  refine meets_of_run2 tab_ok envM_ok mixed [.tmp 6] Try.func5 rfl Try.ntmps5 Try.call5 (fun t w => by simp [results, Try.results5, resS, rv1]) ?_
  intro args objs r hr hcs
  unfold c5 at hr
  split at hr
  · rename_i k ctr n
    simp only [Option.some.injEq] at hr; subst hr
    obtain ⟨h1, h2, h3, h4, h5, _⟩ := hcs
    refine ⟨rfl, ?_⟩
    conv => whnf
    have hX : allB ((splI (List.replicate 16 0) 0 (List.take 12 (List.take 12 (List.drop 0 n)))).set 15 (conv .u8 ctr)) := allB_set (allB_splI (allB_zeros 16) (allB_take (allB_take (allB_drop h4 0) _) _) 0) (u8_B _) 15
    have hXL : ((splI (List.replicate 16 0) 0 (List.take 12 (List.take 12 (List.drop 0 n)))).set 15 (conv .u8 ctr)).length = 16 := by
      rw [List.length_set, splI_length (by simp; omega)]; rfl
    refine ⟨?_, fun _ => ?_, fun h => no_selfL _ h⟩
    · repeat' apply And.intro
      all_goals first
        | exact True.intro
        | exact h1
        | exact h2
        | exact h3
        | exact h4
        | exact h5
        | omega
        | decide +kernel
        | rfl
        | exact Nat.le_of_ble_eq_true rfl
        | (dsimp only; omega)
        | trace_state
    conv => whnf
    dsimp only
    generalize hx : (splI _ _ _).set _ (conv .u8 ctr) = X
    have hX' : allB X := by rw [← hx]; exact hX
    have hXL' : X.length = 16 := by rw [← hx]; exact hXL
    refine ⟨?_, fun _ => ?_, fun h => no_selfL _ h⟩
    · repeat' apply And.intro
      all_goals first
        | exact True.intro
        | exact h1
        | exact h2
        | exact hX'
        | exact hXL'
        | omega
        | decide +kernel
        | rfl
        | exact Nat.le_of_ble_eq_true rfl
        | (dsimp only; omega)
        | trace_state
    conv => whnf
    refine ⟨?_, rfl, [], [], rfl, ⟨rfl, trivial⟩, trivial⟩
    repeat' apply And.intro
    all_goals first
      | exact True.intro
      | omega
      | decide +kernel
      | rfl
      | exact Nat.le_of_ble_eq_true rfl
      | (dsimp only; omega)
      | trace_state
  · cases hr
end Go.Proofs.Ytjbagkimpmpfgaa

/- Chacha: the streams. -/
namespace Go.Proofs.Ytjbagkimpmpfgaa
open Go Go.Mx
set_option maxRecDepth 100000
set_option maxHeartbeats 4000000

theorem u8x_eq (x y : Int) : bxorI .u8 x y = ((BitVec.ofInt 8 x ^^^ BitVec.ofInt 8 y).toNat : Int) := by
  simp only [bxorI]
  show IntKind.u8.wrap (((BitVec.ofInt 8 x ^^^ BitVec.ofInt 8 y).toNat : Nat) : Int) = _
  have := (BitVec.ofInt 8 x ^^^ BitVec.ofInt 8 y).isLt
  rw [IntKind.wrap_u8]
  omega
theorem u8x_B (x y : Int) : isB (bxorI .u8 x y) := by
  rw [u8x_eq]
  have := (BitVec.ofInt 8 x ^^^ BitVec.ofInt 8 y).isLt
  constructor <;> omega
theorem u8x_twice {x : Int} (h : isB x) (y : Int) : bxorI .u8 (bxorI .u8 x y) y = x := by
  obtain ⟨h1, h2⟩ := h
  rw [u8x_eq, u8x_eq]
  have e : BitVec.ofInt 8 (((BitVec.ofInt 8 x ^^^ BitVec.ofInt 8 y).toNat : Nat) : Int) = BitVec.ofInt 8 x ^^^ BitVec.ofInt 8 y := by
    rw [BitVec.ofInt_natCast, BitVec.ofNat_toNat, BitVec.setWidth_eq]
  rw [e, BitVec.xor_assoc, BitVec.xor_self, BitVec.xor_zero, BitVec.toNat_ofInt]
  omega
def ctrI (c : Int) (j : Nat) : Int := wI (wB c + BitVec.ofNat 32 j)
theorem ctrI_W (c : Int) (j : Nat) : isW (ctrI c j) := wI_is _
theorem ctrI_zero {c : Int} (h : isW c) : ctrI c 0 = c := by
  unfold ctrI
  rw [show BitVec.ofNat 32 0 = 0#32 from rfl, BitVec.add_zero, wI_wB h]
theorem ctrI_succ (c : Int) (j : Nat) : isum .u32 (ctrI c j) 1 = ctrI c (j + 1) := by
  unfold ctrI
  rw [show (1 : Int) = wI 1#32 from rfl, u32_sum, BitVec.add_assoc]
  congr 2
  apply BitVec.eq_of_toNat_eq
  simp
theorem ctrI_ctrI (c : Int) (i j : Nat) : ctrI (ctrI c i) j = ctrI c (i + j) := by
  unfold ctrI
  rw [wB_wI, BitVec.add_assoc]
  congr 2
  apply BitVec.eq_of_toNat_eq
  simp
/-- A byte of the key stream. -/
def ksI (k : List Int) (c : Int) (n : List Int) (i : Nat) : Int := (blockI k (ctrI c (i / 64)) n).getD (i % 64) 0
def streamI (k : List Int) (c : Int) (n t : List Int) : List Int := (List.range t.length).map (fun i => bxorI .u8 (t.getD i 0) (ksI k c n i))
theorem streamI_len (k : List Int) (c : Int) (n t : List Int) : (streamI k c n t).length = t.length := by simp [streamI]
theorem streamI_get (k : List Int) (c : Int) (n t : List Int) {i : Nat} (h : i < t.length) : (streamI k c n t).getD i 0 = bxorI .u8 (t.getD i 0) (ksI k c n i) := by simp [streamI, List.getD, h]
theorem streamI_B (k : List Int) (c : Int) (n t : List Int) : allB (streamI k c n t) := fun i hi => by
  rw [streamI_len] at hi
  rw [streamI_get _ _ _ _ hi]
  exact u8x_B _ _
theorem ext_getD {l m : List Int} (hl : l.length = m.length) (h : ∀ i, i < l.length → l.getD i 0 = m.getD i 0) : l = m := by
  apply List.ext_getElem hl
  intro i h1 h2
  have := h i h1
  simpa [List.getD, h1, h2] using this
theorem streamI_twice (k : List Int) (c : Int) (n : List Int) {t : List Int} (h : allB t) : streamI k c n (streamI k c n t) = t := by
  apply ext_getD
  · rw [streamI_len, streamI_len]
  · intro i hi
    rw [streamI_len, streamI_len] at hi
    rw [streamI_get _ _ _ _ (by rw [streamI_len]; exact hi), streamI_get _ _ _ _ hi, u8x_twice (h i hi)]
/-- The first i are done. -/
def uptoI (k : List Int) (c : Int) (n t : List Int) (i : Nat) : List Int := (streamI k c n t).take i ++ t.drop i
theorem uptoI_len {k : List Int} {c : Int} {n t : List Int} {i : Nat} (h : i ≤ t.length) : (uptoI k c n t i).length = t.length := by
  rw [uptoI, List.length_append, List.length_take, List.length_drop, streamI_len]; omega
theorem uptoI_zero (k : List Int) (c : Int) (n t : List Int) : uptoI k c n t 0 = t := by simp [uptoI]
theorem uptoI_all (k : List Int) (c : Int) (n t : List Int) : uptoI k c n t t.length = streamI k c n t := by
  rw [uptoI, List.drop_length, List.append_nil, List.take_of_length_le (by rw [streamI_len]; omega)]
theorem uptoI_get {k : List Int} {c : Int} {n t : List Int} {i : Nat} (h : i < t.length) : (uptoI k c n t i).getD i 0 = t.getD i 0 := by
  have hl : ((streamI k c n t).take i).length = i := by rw [List.length_take, streamI_len]; omega
  have := getD_right (a := (streamI k c n t).take i) (b := t.drop i) (n := i) (k := 0) hl
  rw [Nat.add_zero] at this
  rw [uptoI, this]
  simp [List.getD]
theorem uptoI_step {k : List Int} {c : Int} {n t : List Int} {i : Nat} (h : i < t.length) : (uptoI k c n t i).set i (bxorI .u8 (t.getD i 0) (ksI k c n i)) = uptoI k c n t (i + 1) := by
  have hl : ((streamI k c n t).take i).length = i := by rw [List.length_take, streamI_len]; omega
  have hs : i < (streamI k c n t).length := by rw [streamI_len]; exact h
  have he : (streamI k c n t)[i] = bxorI .u8 (t.getD i 0) (ksI k c n i) := by
    have := streamI_get k c n t h
    simpa [List.getD, hs] using this
  unfold uptoI
  rw [List.set_append_right _ _ (by omega), hl, Nat.sub_self, List.drop_eq_getElem_cons h, List.set_cons_zero, List.take_succ_eq_append_getElem hs, he, List.append_assoc]
  rfl
theorem bl_ofL {l : List Int} (h : allB l) : bl (ofL l) = l := by
  unfold bl ofL
  simp only [List.map_map]
  conv => rhs; rw [← List.map_id l]
  apply List.map_congr_left
  intro x hx
  obtain ⟨h1, h2⟩ := of_allB h x hx
  simp only [Function.comp]
  rw [UInt8.toNat_ofNat']
  show ((x.toNat % 2 ^ 8 : Nat) : Int) = x
  omega
theorem bl_B (s : ByteArray) : allB (bl s) := allB_of fun x hx => by
  simp only [bl, List.mem_map] at hx
  obtain ⟨b, _, rfl⟩ := hx
  have := b.toNat_lt
  constructor <;> omega
theorem ofL_bl (s : ByteArray) : ofL (bl s) = s := by
  unfold bl ofL
  simp only [List.map_map]
  have : (fun n : Int => UInt8.ofNat n.toNat) ∘ (fun b : UInt8 => (b.toNat : Int)) = id := by
    funext b; simp
  rw [this]
  simp
theorem ofL_size (l : List Int) : (ofL l).size = l.length := by simp [ofL, ByteArray.size]
end Go.Proofs.Ytjbagkimpmpfgaa

/- Chacha: the streams, walked. -/
namespace Go.Proofs.Ytjbagkimpmpfgaa
open Go Go.Mx
set_option maxRecDepth 100000
set_option maxHeartbeats 4000000

def envP : Env := fun f => match f with
  | 32 => some c32
  | 33 => some c33
  | _ => none
theorem envP_ok : EnvOk Try.prog envP := by
  intro f c h
  unfold envP at h
  split at h
  · simp only [Option.some.injEq] at h; subst h; exact m32
  · simp only [Option.some.injEq] at h; subst h; exact m33
  · cases h
/-- The block at hand when i bytes are done. -/
def handI (k : List Int) (c : Int) (n : List Int) (i : Nat) : List Int := if i = 0 then List.replicate 64 0 else blockI k (ctrI c ((i - 1) / 64)) n
def doneI (i : Nat) : Nat := (i + 63) / 64
theorem blockI_len (k : List Int) (c : Int) (n : List Int) : (blockI k c n).length = 64 := by
  have h : (squareI k (moreI c n)).length = 16 := squareI_len rfl
  have h2 := (iter_len 10 (squareI k (moreI c n))).trans h
  unfold blockI
  rw [lays_len, addI_len (by omega), h2]
def c36 : Ctr := fun args objs => match args, objs with
  | [.agg [.ints .u8 k 32], .one (.int .u32 c), .agg [.ints .u8 n 12], .one (.str s)], [] => some ⟨[allB k, k.length = 32, isW c, allB n, n.length = 12, s.size ≤ 9223372036854775807], .v (.one (.str (ofL (streamI k c n (bl s))))), [], []⟩
  | _, _ => none
theorem hand_next {k : List Int} {c : Int} {n : List Int} {i : Nat} (h : i % 64 ≠ 0) : handI k c n (i + 1) = handI k c n i := by
  unfold handI
  rw [if_neg (by omega), if_neg (by omega)]
  congr 2; omega
theorem hand_new {k : List Int} {c : Int} {n : List Int} {i : Nat} (h : i % 64 = 0) : handI k c n (i + 1) = blockI k (ctrI c (doneI i)) n := by
  unfold handI doneI
  rw [if_neg (by omega)]
  congr 2; omega
theorem hand_get {k : List Int} {c : Int} {n : List Int} {i : Nat} : (handI k c n (i + 1)).getD (i % 64) 0 = ksI k c n i := by
  unfold handI ksI
  rw [if_neg (by omega)]
  congr 3
theorem hand_len {k : List Int} {c : Int} {n : List Int} {i : Nat} : (handI k c n i).length = 64 := by
  unfold handI
  split
  · simp
  · exact blockI_len _ _ _
theorem m36 : Meets Try.prog 36 c36 := by
  refine meets_of_run2 tab_ok envP_ok mixed [.tmp 8] Try.func36 rfl Try.ntmps36 Try.call36 (fun t w => by simp [results, Try.results36, resS, rv1]) ?_
  intro args objs r hr hcs
  unfold c36 at hr
  split at hr
  · rename_i k c n s
    simp only [Option.some.injEq] at hr; subst hr
    obtain ⟨h1, h2, h3, h4, h5, h6, _⟩ := hcs
    refine ⟨rfl, ?_⟩
    conv => whnf
    obtain ⟨S, hS⟩ : ∃ S, S = s.size := ⟨_, rfl⟩
    obtain ⟨t, ht⟩ : ∃ t, t = bl s := ⟨_, rfl⟩
    have hl : t.length = S := by rw [ht, hS, bl_length]
    have hlB : allB t := by rw [ht]; exact bl_B s
    obtain ⟨U, hU⟩ : ∃ U, U = uptoI k c n t := ⟨_, rfl⟩
    obtain ⟨B, hB⟩ : ∃ B, B = handI k c n := ⟨_, rfl⟩
    obtain ⟨D, hD⟩ : ∃ D : Nat → Int, D = fun i => ctrI c (doneI i) := ⟨_, rfl⟩
    have hDW : ∀ i, isW (D i) := fun i => by rw [hD]; exact ctrI_W _ _
    have hD0 : D 0 = c := by rw [hD]; exact ctrI_zero h3
    have hD1 : ∀ i, i % 64 = 0 → isum .u32 (D i) 1 = D (i + 1) := fun i h => by
      rw [hD]; simp only [ctrI_succ]; congr 1; unfold doneI; omega
    have hD2 : ∀ i, i % 64 ≠ 0 → D (i + 1) = D i := fun i h => by
      rw [hD]; simp only; congr 1; unfold doneI; omega
    have hB0 : B 0 = List.replicate 64 0 := by rw [hB]; rfl
    have hB1 : ∀ i, i % 64 = 0 → blockI k (D i) n = B (i + 1) := fun i h => by rw [hB, hD]; exact (hand_new h).symm
    have hB2 : ∀ i, i % 64 ≠ 0 → B (i + 1) = B i := fun i h => by rw [hB]; exact hand_next h
    have hB3 : ∀ i, (B (i + 1)).getD (i % 64) 0 = ksI k c n i := fun i => by rw [hB]; exact hand_get
    have hU0 : U 0 = t := by rw [hU]; exact uptoI_zero _ _ _ _
    have hU1 : ∀ i, i < S → (U i).set i (bxorI .u8 ((U i).getD i 0) ((B (i + 1)).getD (i % 64) 0)) = U (i + 1) := fun i h => by
      rw [hB3, hU, uptoI_get (by omega)]; exact uptoI_step (by omega)
    have hU2 : U S = streamI k c n t := by rw [hU, ← hl]; exact uptoI_all _ _ _ _
    have hUL : ∀ i, i ≤ S → (U i).length = S := fun i h => by rw [hU, uptoI_len (by omega)]; exact hl
    rw [← hS] at h6
    rw [← hS, ← ht]
    clear hU hB hD hS ht
    refine ⟨?_, { i : Nat // i ≤ S }, fun i => ⟨(.any :: .v (.one (.int .u32 (D i.1))) :: .any :: .any :: .v (.one (.ptr 0 0)) :: .any :: .v (.one (.ptr 1 0)) :: .any :: .any :: .v (.one (.sl 2 0 S 1)) :: .v (.one (.ptr 3 0)) :: .any :: .any :: .any :: .any :: .v (.one (.int .i64 S)) :: .v (.one (.int .i64 i.1)) :: .any :: .any :: .any :: .any :: .any :: .any :: .any :: .any :: .any :: .any :: .any :: .any :: .any :: .any :: .any :: .any :: .any :: .any :: .any :: .any :: .any :: .any :: .any :: .any :: []), [.own 0 [.ints .u8 k 32], .own 0 [.ints .u8 n 12], .own 1 [.ints .u8 (U i.1) S], .own 0 [.ints .u8 (B i.1) 64]]⟩, fun i => S - i.1, ⟨0, by omega⟩, ?_, fun _ => rfl, ?_⟩
    · repeat' apply And.intro
      all_goals first
        | exact True.intro
        | omega
        | decide +kernel
        | rfl
        | exact Nat.le_of_ble_eq_true rfl
        | (dsimp only; omega)
        | trace_state
    · refine ⟨[0, 1, 2, 3], [], rfl, ?_, ?_⟩
      · repeat' apply And.intro
        all_goals first
          | exact True.intro
          | rfl
          | exact hD0.symm
          | trace_state
      · exact ⟨⟨rfl, rfl, rfl, rfl, trivial⟩, ⟨rfl, rfl, rfl, rfl, trivial⟩, ⟨rfl, rfl, hU0.symm, rfl, trivial⟩, ⟨rfl, rfl, hB0.symm, rfl, trivial⟩, trivial⟩
    rintro ⟨i, hi⟩
    show run tab envP 0 _ ⟨(.any :: .v (.one (.int .u32 (D i))) :: .any :: .any :: .v (.one (.ptr 0 0)) :: .any :: .v (.one (.ptr 1 0)) :: .any :: .any :: .v (.one (.sl 2 0 S 1)) :: .v (.one (.ptr 3 0)) :: .any :: .any :: .any :: .any :: .v (.one (.int .i64 S)) :: .v (.one (.int .i64 i)) :: .any :: .any :: .any :: .any :: .any :: .any :: .any :: .any :: .any :: .any :: .any :: .any :: .any :: .any :: .any :: .any :: .any :: .any :: .any :: .any :: .any :: .any :: .any :: .any :: []), [.own 0 [.ints .u8 k 32], .own 0 [.ints .u8 n 12], .own 1 [.ints .u8 (U i) S], .own 0 [.ints .u8 (B i) 64]]⟩ _ _
    refine run_K (P := fun K => run tab envP 0 _ ⟨_, _⟩ True K) ?_
    intro K hK
    conv => whnf
    refine ⟨trivial, fun hlt => ?_, fun hge => ?_⟩
    · simp only [decide_eq_true_eq] at hlt
      have e1 : isum .i64 (i : Int) 1 = ((i + 1 : Nat) : Int) := by rw [isum, i64_in] <;> omega
      have e2 : (i : Int).tmod 64 = ((i % 64 : Nat) : Int) := by rw [Int.tmod_eq_emod_of_nonneg (by omega)]; omega
      conv => whnf
      rw [e2]
      refine ⟨?_, fun h0 => ?_, fun h0 => ?_⟩
      · repeat' apply And.intro
        all_goals first
          | exact True.intro
          | omega
          | decide +kernel
          | rfl
          | exact Nat.le_of_ble_eq_true rfl
          | (dsimp only; omega)
          | trace_state
      · have h0' : i % 64 = 0 := by simp at h0; omega
        conv => whnf
        rw [hD1 i h0', hB1 i h0', e1, e2]
        subst hK
        change _ ∧ _
        refine ⟨?_, ⟨i + 1, by omega⟩, by show S - (i + 1) < S - i; omega, [0, 1, 2, 3], [], rfl, ?_, ?_⟩
        · repeat' apply And.intro
          all_goals first
            | exact True.intro
            | exact h1
            | exact h2
            | exact hDW i
            | exact h4
            | exact h5
            | (rw [Int.toNat_natCast]; omega)
            | omega
            | decide +kernel
            | rfl
            | exact Nat.le_of_ble_eq_true rfl
            | (dsimp only; omega)
            | trace_state
        · repeat' apply And.intro
          all_goals first
            | exact True.intro
            | rfl
            | exact Nat.le_refl _
            | decide +kernel
            | omega
            | trace_state
        · refine ⟨⟨rfl, rfl, rfl, rfl, trivial⟩, ⟨rfl, rfl, rfl, rfl, trivial⟩, ⟨rfl, rfl, ?_, rfl, trivial⟩, ⟨rfl, rfl, rfl, rfl, trivial⟩, trivial⟩
          simp only [Int.toNat_natCast, Nat.zero_add]
          exact hU1 i (by omega)
      · have h0' : i % 64 ≠ 0 := by
          intro h; rw [h] at h0; simp at h0
        conv => whnf
        rw [e1, e2]
        subst hK
        change _ ∧ _
        refine ⟨?_, ⟨i + 1, by omega⟩, by show S - (i + 1) < S - i; omega, [0, 1, 2, 3], [], rfl, ?_, ?_⟩
        · repeat' apply And.intro
          all_goals first
            | exact True.intro
            | (rw [Int.toNat_natCast]; omega)
            | omega
            | decide +kernel
            | rfl
            | exact Nat.le_of_ble_eq_true rfl
            | (dsimp only; omega)
            | trace_state
        · repeat' apply And.intro
          all_goals first
            | exact True.intro
            | rfl
            | exact (hD2 i h0').symm
            | trace_state
        · refine ⟨⟨rfl, rfl, rfl, rfl, trivial⟩, ⟨rfl, rfl, rfl, rfl, trivial⟩, ⟨rfl, rfl, ?_, rfl, trivial⟩, ⟨rfl, rfl, (hB2 i h0').symm, rfl, trivial⟩, trivial⟩
          simp only [Int.toNat_natCast, Nat.zero_add]
          have := hU1 i (by omega)
          rw [hB2 i h0'] at this
          exact this
    · simp only [decide_eq_false_iff_not] at hge
      have : i = S := by omega
      subst this
      conv => whnf
      subst hK
      conv => whnf
      have ht : List.take i (List.drop 0 (U i)) = streamI k c n t := by rw [List.drop_zero, List.take_of_length_le (by rw [hUL i (by omega)]; omega), hU2]
      refine ⟨?_, rfl, [], [], rfl, ⟨?_, trivial⟩, trivial⟩
      · repeat' apply And.intro
        all_goals first
          | exact True.intro
          | omega
          | decide +kernel
          | rfl
          | exact Nat.le_of_ble_eq_true rfl
          | (dsimp only; omega)
          | trace_state
      · show ofL _ = ofL _
        rw [ht]
  · cases hr
end Go.Proofs.Ytjbagkimpmpfgaa

/- Chacha: the document's stream, walked. -/
namespace Go.Proofs.Ytjbagkimpmpfgaa
open Go Go.Mx
set_option maxRecDepth 100000
set_option maxHeartbeats 4000000

def c37 : Ctr := fun args objs => match args, objs with
  | [.agg [.ints .u8 k 32], .one (.int .u32 c), .agg [.ints .u8 n 12], .one (.str s)], [] => some ⟨[allB k, k.length = 32, isW c, allB n, n.length = 12, s.size ≤ 9223372036854775807], .v (.one (.str (ofL (streamI k c n (bl s))))), [], []⟩
  | _, _ => none
theorem m37 : Meets Try.prog 37 c37 := by
  refine meets_of_run2 tab_ok envP_ok mixed [.tmp 8] Try.func37 rfl Try.ntmps37 Try.call37 (fun t w => by simp [results, Try.results37, resS, rv1]) ?_
  intro args objs r hr hcs
  unfold c37 at hr
  split at hr
  · rename_i k c n s
    simp only [Option.some.injEq] at hr; subst hr
    obtain ⟨h1, h2, h3, h4, h5, h6, _⟩ := hcs
    refine ⟨rfl, ?_⟩
    conv => whnf
    obtain ⟨S, hS⟩ : ∃ S, S = s.size := ⟨_, rfl⟩
    obtain ⟨t, ht⟩ : ∃ t, t = bl s := ⟨_, rfl⟩
    have hl : t.length = S := by rw [ht, hS, bl_length]
    obtain ⟨U, hU⟩ : ∃ U, U = uptoI k c n t := ⟨_, rfl⟩
    obtain ⟨D, hD⟩ : ∃ D : Nat → Int, D = ctrI c := ⟨_, rfl⟩
    have hDW : ∀ i, isW (D i) := fun i => by rw [hD]; exact ctrI_W _ _
    have hD0 : D 0 = c := by rw [hD]; exact ctrI_zero h3
    have hD1 : ∀ i, isum .u32 (D i) 1 = D (i + 1) := fun i => by rw [hD]; exact ctrI_succ _ _
    have hU0 : U 0 = t := by rw [hU]; exact uptoI_zero _ _ _ _
    have hU1 : ∀ j q, q < 64 → 64 * j + q < S → (U (64 * j + q)).set (64 * j + q) (bxorI .u8 ((U (64 * j + q)).getD (64 * j + q) 0) ((blockI k (D j) n).getD q 0)) = U (64 * j + (q + 1)) := fun j q hq h => by
      have e : (blockI k (D j) n).getD q 0 = ksI k c n (64 * j + q) := by
        unfold ksI; rw [hD]; congr 3 <;> omega
      rw [e, hU, uptoI_get (by omega)]; exact uptoI_step (by omega)
    have hU2 : U S = streamI k c n t := by rw [hU, ← hl]; exact uptoI_all _ _ _ _
    have hUL : ∀ i, i ≤ S → (U i).length = S := fun i h => by rw [hU, uptoI_len (by omega)]; exact hl
    rw [← hS] at h6
    rw [← hS, ← ht]
    clear hU hD hS ht
    refine ⟨?_, { j : Nat // 64 * j < S + 64 }, fun j => ⟨(.any :: .v (.one (.int .u32 (D j.1))) :: .any :: .any :: .v (.one (.ptr 0 0)) :: .any :: .v (.one (.ptr 1 0)) :: .any :: .any :: .v (.one (.sl 2 0 S 1)) :: .v (.one (.int .i64 ((min (64 * j.1) S : Nat) : Int))) :: .any :: .any :: .any :: .any :: .any :: .any :: .any :: .any :: .any :: .any :: .any :: .any :: .any :: .any :: .any :: .any :: .any :: .any :: .any :: .any :: .any :: .any :: .any :: .any :: .any :: .any :: .any :: .any :: .any :: .any :: .any :: .any :: .any :: .any :: .any :: .any :: .any :: .any :: .any :: []), [.own 0 [.ints .u8 k 32], .own 0 [.ints .u8 n 12], .own 1 [.ints .u8 (U (min (64 * j.1) S)) S]]⟩, fun j => S + 64 - 64 * j.1, ⟨0, by omega⟩, ?_, fun _ => rfl, ?_⟩
    · repeat' apply And.intro
      all_goals first
        | exact True.intro
        | omega
        | decide +kernel
        | rfl
        | exact Nat.le_of_ble_eq_true rfl
        | (dsimp only; omega)
        | trace_state
    · refine ⟨[0, 1, 2], [], rfl, ?_, ?_⟩
      · repeat' apply And.intro
        all_goals first
          | exact True.intro
          | rfl
          | exact hD0.symm
          | (simp; done)
          | trace_state
      · refine ⟨⟨rfl, rfl, rfl, rfl, trivial⟩, ⟨rfl, rfl, rfl, rfl, trivial⟩, ⟨rfl, rfl, ?_, rfl, trivial⟩, trivial⟩
        rw [Nat.mul_zero, Nat.zero_min]; exact hU0.symm
    rintro ⟨j, hj⟩
    obtain ⟨i, hi⟩ : ∃ i, i = min (64 * j) S := ⟨_, rfl⟩
    show run tab envP 0 _ ⟨(.any :: .v (.one (.int .u32 (D j))) :: .any :: .any :: .v (.one (.ptr 0 0)) :: .any :: .v (.one (.ptr 1 0)) :: .any :: .any :: .v (.one (.sl 2 0 S 1)) :: .v (.one (.int .i64 ((min (64 * j) S : Nat) : Int))) :: .any :: .any :: .any :: .any :: .any :: .any :: .any :: .any :: .any :: .any :: .any :: .any :: .any :: .any :: .any :: .any :: .any :: .any :: .any :: .any :: .any :: .any :: .any :: .any :: .any :: .any :: .any :: .any :: .any :: .any :: .any :: .any :: .any :: .any :: .any :: .any :: .any :: .any :: .any :: []), [.own 0 [.ints .u8 k 32], .own 0 [.ints .u8 n 12], .own 1 [.ints .u8 (U (min (64 * j) S)) S]]⟩ _ _
    refine run_K (P := fun K => run tab envP 0 _ ⟨_, _⟩ True K) ?_
    intro K hK
    rw [← hi]
    conv => whnf
    refine ⟨trivial, fun hlt => ?_, fun hge => ?_⟩
    · simp only [decide_eq_true_eq] at hlt
      have hij : i = 64 * j := by omega
      subst hij
      conv => whnf
      refine ⟨?_, { q : Nat // q ≤ 64 ∧ 64 * j + q ≤ S }, fun q => ⟨(.any :: .v (.one (.int .u32 (D j))) :: .any :: .any :: .v (.one (.ptr 0 0)) :: .any :: .v (.one (.ptr 1 0)) :: .any :: .any :: .v (.one (.sl 2 0 S 1)) :: .v (.one (.int .i64 ((64 * j + q.1 : Nat) : Int))) :: .v (.one (.ptr 3 0)) :: .v (.one (.int .i64 q.1)) :: .any :: .any :: .any :: .any :: .any :: .any :: .any :: .any :: .any :: .any :: .any :: .any :: .any :: .any :: .any :: .any :: .any :: .any :: .any :: .any :: .any :: .any :: .any :: .any :: .any :: .any :: .any :: .any :: .any :: .any :: .any :: .any :: .any :: .any :: .any :: .any :: .any :: []), [.own 0 [.ints .u8 k 32], .own 0 [.ints .u8 n 12], .own 1 [.ints .u8 (U (64 * j + q.1)) S], .own 0 [.ints .u8 (blockI k (D j) n) 64]]⟩, fun q => 64 - q.1, ⟨0, by omega⟩, ?_, fun _ => rfl, ?_⟩
      · repeat' apply And.intro
        all_goals first
          | exact True.intro
          | exact h1
          | exact h2
          | exact hDW j
          | exact h4
          | exact h5
          | omega
          | decide +kernel
          | rfl
          | exact Nat.le_of_ble_eq_true rfl
          | (dsimp only; omega)
          | trace_state
      · refine ⟨[0, 1, 2, 3], [], rfl, ?_, ?_⟩
        · repeat' apply And.intro
          all_goals first
            | exact True.intro
            | rfl
            | exact Nat.le_refl _
            | decide +kernel
            | omega
            | trace_state
        · repeat' apply And.intro
          all_goals first
            | exact True.intro
            | rfl
            | exact Nat.le_refl _
            | decide +kernel
            | omega
            | trace_state
      rintro ⟨q, hq, hq2⟩
      show run tab envP 0 _ ⟨(.any :: .v (.one (.int .u32 (D j))) :: .any :: .any :: .v (.one (.ptr 0 0)) :: .any :: .v (.one (.ptr 1 0)) :: .any :: .any :: .v (.one (.sl 2 0 S 1)) :: .v (.one (.int .i64 ((64 * j + q : Nat) : Int))) :: .v (.one (.ptr 3 0)) :: .v (.one (.int .i64 q)) :: .any :: .any :: .any :: .any :: .any :: .any :: .any :: .any :: .any :: .any :: .any :: .any :: .any :: .any :: .any :: .any :: .any :: .any :: .any :: .any :: .any :: .any :: .any :: .any :: .any :: .any :: .any :: .any :: .any :: .any :: .any :: .any :: .any :: .any :: .any :: .any :: .any :: []), [.own 0 [.ints .u8 k 32], .own 0 [.ints .u8 n 12], .own 1 [.ints .u8 (U (64 * j + q)) S], .own 0 [.ints .u8 (blockI k (D j) n) 64]]⟩ _ _
      refine run_K (P := fun K => run tab envP 0 _ ⟨_, _⟩ True K) ?_
      intro K hK
      conv => whnf
      refine ⟨trivial, fun hq3 => ?_, fun hq3 => ?_⟩
      · simp only [decide_eq_true_eq] at hq3
        conv => whnf
        refine ⟨trivial, fun hlt2 => ?_, fun hge2 => ?_⟩
        · simp only [decide_eq_true_eq] at hlt2
          have e1 : isum .i64 ((64 * j + q : Nat) : Int) 1 = ((64 * j + (q + 1) : Nat) : Int) := by rw [isum, i64_in] <;> omega
          have e2 : isum .i64 (q : Int) 1 = ((q + 1 : Nat) : Int) := by rw [isum, i64_in] <;> omega
          conv => whnf
          rw [e1, e2]
          subst hK
          change _ ∧ _
          refine ⟨?_, ⟨q + 1, by omega, by omega⟩, by show 64 - (q + 1) < 64 - q; omega, [0, 1, 2, 3], [], rfl, ?_, ?_⟩
          · repeat' apply And.intro
            all_goals first
              | exact True.intro
              | (rw [Int.toNat_natCast]; omega)
              | omega
              | decide +kernel
              | rfl
              | exact Nat.le_of_ble_eq_true rfl
              | (dsimp only; omega)
              | trace_state
          · repeat' apply And.intro
            all_goals first
              | exact True.intro
              | rfl
              | exact Nat.le_refl _
              | decide +kernel
              | omega
              | trace_state
          · refine ⟨⟨rfl, rfl, rfl, rfl, trivial⟩, ⟨rfl, rfl, rfl, rfl, trivial⟩, ⟨rfl, rfl, ?_, rfl, trivial⟩, ⟨rfl, rfl, rfl, rfl, trivial⟩, trivial⟩
            simp only [Int.toNat_natCast, Nat.zero_add]
            exact hU1 j q (by omega) (by omega)
        · simp only [decide_eq_false_iff_not] at hge2
          have hend : 64 * j + q = min (64 * (j + 1)) S := by omega
          conv => whnf
          subst hK
          conv => whnf
          rw [hD1]
          subst hK
          change _ ∧ _
          refine ⟨?_, ⟨j + 1, by omega⟩, by show S + 64 - 64 * (j + 1) < S + 64 - 64 * j; omega, [0, 1, 2], [], rfl, ?_, ?_⟩
          · repeat' apply And.intro
            all_goals first
              | exact True.intro
              | omega
              | decide +kernel
              | rfl
              | exact Nat.le_of_ble_eq_true rfl
              | (dsimp only; omega)
              | trace_state
          · repeat' apply And.intro
            all_goals first
              | exact True.intro
              | rfl
              | exact congrArg (fun x : Nat => (x : Int)) hend
              | trace_state
          · exact ⟨⟨rfl, rfl, rfl, rfl, trivial⟩, ⟨rfl, rfl, rfl, rfl, trivial⟩, ⟨rfl, rfl, congrArg U hend, rfl, trivial⟩, trivial⟩
      · simp only [decide_eq_false_iff_not] at hq3
        have hend : 64 * j + q = min (64 * (j + 1)) S := by omega
        conv => whnf
        subst hK
        conv => whnf
        rw [hD1]
        subst hK
        change _ ∧ _
        refine ⟨?_, ⟨j + 1, by omega⟩, by show S + 64 - 64 * (j + 1) < S + 64 - 64 * j; omega, [0, 1, 2], [], rfl, ?_, ?_⟩
        · repeat' apply And.intro
          all_goals first
            | exact True.intro
            | omega
            | decide +kernel
            | rfl
            | exact Nat.le_of_ble_eq_true rfl
            | (dsimp only; omega)
            | trace_state
        · repeat' apply And.intro
          all_goals first
            | exact True.intro
            | rfl
            | exact congrArg (fun x : Nat => (x : Int)) hend
            | trace_state
        · exact ⟨⟨rfl, rfl, rfl, rfl, trivial⟩, ⟨rfl, rfl, rfl, rfl, trivial⟩, ⟨rfl, rfl, congrArg U hend, rfl, trivial⟩, trivial⟩
    · simp only [decide_eq_false_iff_not] at hge
      have : i = S := by omega
      conv => whnf
      subst hK
      conv => whnf
      have ht : List.take S (List.drop 0 (U i)) = streamI k c n t := by rw [List.drop_zero, this, List.take_of_length_le (by rw [hUL S (by omega)]; omega), hU2]
      refine ⟨?_, rfl, [], [], rfl, ⟨?_, trivial⟩, trivial⟩
      · repeat' apply And.intro
        all_goals first
          | exact True.intro
          | omega
          | decide +kernel
          | rfl
          | exact Nat.le_of_ble_eq_true rfl
          | (dsimp only; omega)
          | trace_state
      · show ofL _ = ofL _
        rw [ht]
  · cases hr
end Go.Proofs.Ytjbagkimpmpfgaa

/- Picks: which of n things a raw number speaks of. -/
namespace Go.Proofs.Ytjbagkimpmpfgaa
open Go Go.Mx
set_option maxRecDepth 100000
set_option maxHeartbeats 4000000

theorem wfI {x : Int} (h : (Lit.int .i64 x).wf = true) : isI x := ⟨(bounds_i64 h).1, (bounds_i64 h).2⟩
/-- Which of n things a raw number speaks of. -/
def pickI (c n : Int) : Int := (if c < 0 then -(c + 1) else c) % n
theorem pickI_lo {c n : Int} (h : 0 < n) : 0 ≤ pickI c n := Int.emod_nonneg _ (by omega)
theorem pickI_hi {c n : Int} (h : 0 < n) : pickI c n < n := Int.emod_lt_of_pos _ h
def cPick : Ctr := fun args objs => match args, objs with
  | [.one (.int .i64 c), .one (.int .i64 n)], [] => some ⟨[isI c, 0 < n], .v (.one (.int .i64 (pickI c n))), [], []⟩
  | _, _ => none
def c38 : Ctr := cPick
theorem m38 : Meets Try.prog 38 c38 := by
  refine meets_of_run2 tab_ok env0 mixed [.tmp 4] Try.func38 rfl Try.ntmps38 Try.call38 (fun t w => by simp [results, Try.results38, resS, rv1]) ?_
  intro args objs r hr hcs
  unfold c38 cPick at hr
  split at hr
  · rename_i c n
    simp only [Option.some.injEq] at hr; subst hr
    obtain ⟨⟨h1, h2⟩, h3, _⟩ := hcs
    refine ⟨rfl, ?_⟩
    conv => whnf
    refine ⟨trivial, fun h => ?_, fun h => ?_⟩
    · simp only [decide_eq_true_eq] at h
      conv => whnf
      have e1 : isum .i64 c 1 = c + 1 := by rw [isum, i64_in]; omega
      have e2 : idif .i64 0 (c + 1) = -(c + 1) := by rw [idif, i64_in] <;> omega
      refine ⟨⟨by omega, trivial⟩, rfl, [], [], rfl, ⟨⟨rfl, ?_⟩, trivial⟩, trivial⟩
      rw [e1, e2, Int.tmod_eq_emod_of_nonneg (by omega)]
      unfold pickI
      rw [if_pos h]
    · simp only [decide_eq_false_iff_not] at h
      conv => whnf
      refine ⟨⟨by omega, trivial⟩, rfl, [], [], rfl, ⟨⟨rfl, ?_⟩, trivial⟩, trivial⟩
      rw [Int.tmod_eq_emod_of_nonneg (by omega)]
      unfold pickI
      rw [if_neg h]
  · cases hr
def c50 : Ctr := cPick
theorem m50 : Meets Try.prog 50 c50 := by
  refine meets_of_run2 tab_ok env0 mixed [.tmp 4] Try.func50 rfl Try.ntmps50 Try.call50 (fun t w => by simp [results, Try.results50, resS, rv1]) ?_
  intro args objs r hr hcs
  unfold c50 cPick at hr
  split at hr
  · rename_i c n
    simp only [Option.some.injEq] at hr; subst hr
    obtain ⟨⟨h1, h2⟩, h3, _⟩ := hcs
    refine ⟨rfl, ?_⟩
    conv => whnf
    refine ⟨trivial, fun h => ?_, fun h => ?_⟩
    · simp only [decide_eq_true_eq] at h
      conv => whnf
      have e1 : isum .i64 c 1 = c + 1 := by rw [isum, i64_in]; omega
      have e2 : idif .i64 0 (c + 1) = -(c + 1) := by rw [idif, i64_in] <;> omega
      refine ⟨⟨by omega, trivial⟩, rfl, [], [], rfl, ⟨⟨rfl, ?_⟩, trivial⟩, trivial⟩
      rw [e1, e2, Int.tmod_eq_emod_of_nonneg (by omega)]
      unfold pickI
      rw [if_pos h]
    · simp only [decide_eq_false_iff_not] at h
      conv => whnf
      refine ⟨⟨by omega, trivial⟩, rfl, [], [], rfl, ⟨⟨rfl, ?_⟩, trivial⟩, trivial⟩
      rw [Int.tmod_eq_emod_of_nonneg (by omega)]
      unfold pickI
      rw [if_neg h]
  · cases hr
def c71 : Ctr := cPick
theorem m71 : Meets Try.prog 71 c71 := by
  refine meets_of_run2 tab_ok env0 mixed [.tmp 4] Try.func71 rfl Try.ntmps71 Try.call71 (fun t w => by simp [results, Try.results71, resS, rv1]) ?_
  intro args objs r hr hcs
  unfold c71 cPick at hr
  split at hr
  · rename_i c n
    simp only [Option.some.injEq] at hr; subst hr
    obtain ⟨⟨h1, h2⟩, h3, _⟩ := hcs
    refine ⟨rfl, ?_⟩
    conv => whnf
    refine ⟨trivial, fun h => ?_, fun h => ?_⟩
    · simp only [decide_eq_true_eq] at h
      conv => whnf
      have e1 : isum .i64 c 1 = c + 1 := by rw [isum, i64_in]; omega
      have e2 : idif .i64 0 (c + 1) = -(c + 1) := by rw [idif, i64_in] <;> omega
      refine ⟨⟨by omega, trivial⟩, rfl, [], [], rfl, ⟨⟨rfl, ?_⟩, trivial⟩, trivial⟩
      rw [e1, e2, Int.tmod_eq_emod_of_nonneg (by omega)]
      unfold pickI
      rw [if_pos h]
    · simp only [decide_eq_false_iff_not] at h
      conv => whnf
      refine ⟨⟨by omega, trivial⟩, rfl, [], [], rfl, ⟨⟨rfl, ?_⟩, trivial⟩, trivial⟩
      rw [Int.tmod_eq_emod_of_nonneg (by omega)]
      unfold pickI
      rw [if_neg h]
  · cases hr
def c85 : Ctr := cPick
theorem m85 : Meets Try.prog 85 c85 := by
  refine meets_of_run2 tab_ok env0 mixed [.tmp 4] Try.func85 rfl Try.ntmps85 Try.call85 (fun t w => by simp [results, Try.results85, resS, rv1]) ?_
  intro args objs r hr hcs
  unfold c85 cPick at hr
  split at hr
  · rename_i c n
    simp only [Option.some.injEq] at hr; subst hr
    obtain ⟨⟨h1, h2⟩, h3, _⟩ := hcs
    refine ⟨rfl, ?_⟩
    conv => whnf
    refine ⟨trivial, fun h => ?_, fun h => ?_⟩
    · simp only [decide_eq_true_eq] at h
      conv => whnf
      have e1 : isum .i64 c 1 = c + 1 := by rw [isum, i64_in]; omega
      have e2 : idif .i64 0 (c + 1) = -(c + 1) := by rw [idif, i64_in] <;> omega
      refine ⟨⟨by omega, trivial⟩, rfl, [], [], rfl, ⟨⟨rfl, ?_⟩, trivial⟩, trivial⟩
      rw [e1, e2, Int.tmod_eq_emod_of_nonneg (by omega)]
      unfold pickI
      rw [if_pos h]
    · simp only [decide_eq_false_iff_not] at h
      conv => whnf
      refine ⟨⟨by omega, trivial⟩, rfl, [], [], rfl, ⟨⟨rfl, ?_⟩, trivial⟩, trivial⟩
      rw [Int.tmod_eq_emod_of_nonneg (by omega)]
      unfold pickI
      rw [if_neg h]
  · cases hr
end Go.Proofs.Ytjbagkimpmpfgaa
