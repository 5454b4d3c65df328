/- Chacha: the quarter rounds. -/
import Derived.Test.YtjbagkimpmpfgaaTab
import Derived.Test.YtjbagkimpmpfgaaWord
namespace Go.Proofs.Ytjbagkimpmpfgaa
open Go Go.Mx
set_option maxRecDepth 100000

abbrev vW (a : W) : V1 := .one (.int .u32 (wI a))
def isTurn (k : Int) : Prop := k = 16 ∨ k = 12 ∨ k = 8 ∨ k = 7

def c95 : Ctr := fun args objs => match args, objs with
  | [.one (.int .u32 x), .one (.int .i64 k)], [] => some ⟨[isW x, isTurn k], .v (vW (rotl (wB x) k.toNat)), [], []⟩
  | _, _ => none
def c94 : Ctr := fun args objs => match args, objs with
  | [.one (.int .i64 x), .one (.int .i64 k)], [] => some ⟨[isW x, isTurn k], .v (.one (.int .i64 (wI (rotl (wB x) k.toNat)))), [], []⟩
  | _, _ => none
theorem env0 : EnvOk Try.prog (fun _ => none) := fun _ _ h => nomatch h

theorem sh64 {k : Int} (h : isTurn k) : bandI .u64 (conv .u64 k) 31 = k ∧ idif .u64 32 k = 32 - k ∧ 0 ≤ k ∧ 0 ≤ 32 - k := by
  rcases h with rfl | rfl | rfl | rfl <;> decide
theorem turn_nat {k : Int} (h : isTurn k) : ∃ n : Nat, k = n ∧ n ≤ 32 ∧ (32 : Int) - k = ((32 - n : Nat) : Int) ∧ n ≤ 16 ∧ 0 < n := by
  rcases h with rfl | rfl | rfl | rfl
  · exact ⟨16, rfl, by omega, rfl, by omega, by omega⟩
  · exact ⟨12, rfl, by omega, rfl, by omega, by omega⟩
  · exact ⟨8, rfl, by omega, rfl, by omega, by omega⟩
  · exact ⟨7, rfl, by omega, rfl, by omega, by omega⟩

theorem m95 : Meets Try.prog 95 c95 := by
  refine meets_of_run tab_ok env0 mixed [4] Try.func95 rfl Try.ntmps95 Try.call95 (fun t w => by simp [results, Try.results95, resV]) ?_
  intro args objs r hr hcs
  unfold c95 at hr
  split at hr
  · simp only [Option.some.injEq] at hr; subst hr
    obtain ⟨h1, h2, _⟩ := hcs
    obtain ⟨a, rfl⟩ := of_isW h1
    obtain ⟨e1, e2, e3, e4⟩ := sh64 h2
    refine ⟨rfl, ?_⟩
    conv => whnf
    rw [e1, e2]
    refine ⟨⟨e4, e3, trivial⟩, rfl, [], [], rfl, ⟨⟨rfl, ?_⟩, trivial⟩, trivial⟩
    obtain ⟨n, rfl, hn, e5, _⟩ := turn_nat h2
    rw [e5, wB_wI, u32_shl a hn, shr_any .u32 a (by simp [IntKind.bits]), u32_or]
    rfl
  · cases hr

theorem turn64 (a : W) {n : Nat} (hn : n ≤ 16) (h0 : 0 < n) : borI .i64 ((shlI .i64 (wI a) (n : Int)).tmod 4294967296) (shrI .i64 (wI a) ((32 - n : Nat) : Int)) = wI (rotl a n) := by
  have hl := a.isLt
  have e1 : shlI .i64 (wI a) (n : Int) = ((a.toNat * 2 ^ n : Nat) : Int) := by
    have e : min ((n : Int).toNat) IntKind.i64.bits = n := by simp [IntKind.bits]; omega
    simp only [shlI, e, wI]
    have h2 : a.toNat * 2 ^ n ≤ 4294967295 * 2 ^ 16 := Nat.mul_le_mul (by omega) (Nat.pow_le_pow_right (by omega) hn)
    rw [i64_in]
    · push_cast; rfl
    · have : ((a.toNat : Int) * 2 ^ n) = ((a.toNat * 2 ^ n : Nat) : Int) := by push_cast; rfl
      rw [this]
      omega
  have e2 : (((a.toNat * 2 ^ n : Nat) : Int)).tmod 4294967296 = wI (a <<< n) := by
    rw [Int.tmod_eq_emod_of_nonneg (by omega)]
    simp [wI, BitVec.toNat_shiftLeft, Nat.shiftLeft_eq]
  rw [e1, e2, shr_any .i64 a (by simp [IntKind.bits]; omega), i64_or]
  rfl

theorem m94 : Meets Try.prog 94 c94 := by
  refine meets_of_run tab_ok env0 mixed [4] Try.func94 rfl Try.ntmps94 Try.call94 (fun t w => by simp [results, Try.results94, resV]) ?_
  intro args objs r hr hcs
  unfold c94 at hr
  split at hr
  · simp only [Option.some.injEq] at hr; subst hr
    obtain ⟨h1, h2, _⟩ := hcs
    obtain ⟨a, rfl⟩ := of_isW h1
    refine ⟨rfl, ?_⟩
    conv => whnf
    obtain ⟨n, rfl, hn, e5, h16, h0⟩ := turn_nat h2
    have e6 : idif .i64 32 (n : Int) = ((32 - n : Nat) : Int) := by rw [← e5, idif, i64_in]; omega
    rw [e6]
    refine ⟨⟨by decide +kernel, by omega, by decide, by omega, trivial⟩, rfl, [], [], rfl, ⟨⟨rfl, ?_⟩, trivial⟩, trivial⟩
    rw [turn64 a h16 h0, wB_wI]
    rfl
  · cases hr

def quarter (a b c d : W) : W × W × W × W :=
  let a := a + b
  let d := rotl (d ^^^ a) 16
  let c := c + d
  let b := rotl (b ^^^ c) 12
  let a := a + b
  let d := rotl (d ^^^ a) 8
  let c := c + d
  let b := rotl (b ^^^ c) 7
  (a, b, c, d)
def c30 : Ctr := fun args objs => match args, objs with
  | [.one (.int .u32 a), .one (.int .u32 b), .one (.int .u32 c), .one (.int .u32 d)], [] =>
    some ⟨[isW a, isW b, isW c, isW d], .tup [vW (quarter (wB a) (wB b) (wB c) (wB d)).1, vW (quarter (wB a) (wB b) (wB c) (wB d)).2.1, vW (quarter (wB a) (wB b) (wB c) (wB d)).2.2.1, vW (quarter (wB a) (wB b) (wB c) (wB d)).2.2.2], [], []⟩
  | _, _ => none
def envQ : Env := fun f => match f with
  | 94 => some c94
  | 95 => some c95
  | _ => none
theorem envQ_ok : EnvOk Try.prog envQ := by
  intro f c h
  unfold envQ at h
  split at h
  · simp at h; subst h; exact m94
  · simp at h; subst h; exact m95
  · cases h
theorem m30 : Meets Try.prog 30 c30 := by
  refine meets_of_run tab_ok envQ_ok mixed [8, 9, 10, 11] Try.func30 rfl Try.ntmps30 Try.call30 (fun t w => by simp [results, Try.results30, resV]) ?_
  intro args objs r hr hcs
  unfold c30 at hr
  split at hr
  · simp only [Option.some.injEq] at hr; subst hr
    obtain ⟨h1, h2, h3, h4, _⟩ := hcs
    obtain ⟨a, rfl⟩ := of_isW h1
    obtain ⟨b, rfl⟩ := of_isW h2
    obtain ⟨c, rfl⟩ := of_isW h3
    obtain ⟨d, rfl⟩ := of_isW h4
    refine ⟨rfl, ?_⟩
    conv => whnf
    simp only [u32_sum, u32_xor, wB_wI]
    refine ⟨⟨by simp [isTurn], wI_is _, by simp [isTurn], wI_is _, by simp [isTurn], wI_is _, by simp [isTurn], wI_is _, trivial⟩, rfl, [], [], rfl, ⟨⟨⟨rfl, rfl⟩, ⟨rfl, rfl⟩, ⟨rfl, rfl⟩, ⟨rfl, rfl⟩, trivial⟩, trivial⟩, trivial⟩
  · cases hr

/-- The quarter round at four places of a list. -/
def quarterAt (l : List Int) (a b c d : Nat) : List Int :=
  let q := quarter (wB (l.getD a 0)) (wB (l.getD b 0)) (wB (l.getD c 0)) (wB (l.getD d 0))
  (((l.set a (wI q.1)).set b (wI q.2.1)).set c (wI q.2.2.1)).set d (wI q.2.2.2)
def allW (l : List Int) : Prop := ∀ i, i < l.length → isW (l.getD i 0)
def c29 : Ctr := fun args objs => match args, objs with
  | [.one (.sl 0 0 n 1), .one (.int .i64 a), .one (.int .i64 b), .one (.int .i64 c), .one (.int .i64 d)], [.own 1 [.ints .i64 l n']] =>
    some ⟨[n = n', allW l, l.length = n, 0 ≤ a ∧ a < n, 0 ≤ b ∧ b < n, 0 ≤ c ∧ c < n, 0 ≤ d ∧ d < n, a ≠ b ∧ a ≠ c ∧ a ≠ d ∧ b ≠ c ∧ b ≠ d ∧ c ≠ d], .tup [], [(0, .own 1 [.ints .i64 (quarterAt l a.toNat b.toNat c.toNat d.toNat) n])], []⟩
  | _, _ => none
theorem gset_same {l : List Int} {i : Nat} {v : Int} (h : i < l.length) : (l.set i v).getD i 0 = v := by simp [List.getD, h]
theorem gset_ne {l : List Int} {i j : Nat} {v : Int} (h : i ≠ j) : (l.set i v).getD j 0 = l.getD j 0 := by simp [List.getD, List.getElem?_set_ne h]
theorem set8 {l : List Int} {a b c d : Nat} {a1 b1 c1 d1 a2 b2 c2 d2 : Int} (hab : a ≠ b) (hac : a ≠ c) (had : a ≠ d) (hbc : b ≠ c) (hbd : b ≠ d) (hcd : c ≠ d) :
    (((((((l.set a a1).set d d1).set c c1).set b b1).set a a2).set d d2).set c c2).set b b2 = (((l.set a a2).set b b2).set c c2).set d d2 := by
  apply List.ext_getElem?
  intro i
  simp only [List.getElem?_set, List.length_set]
  by_cases h1 : a = i
  · subst h1
    simp [Ne.symm hab, Ne.symm hac, Ne.symm had]
  · by_cases h2 : b = i
    · subst h2; simp [Ne.symm hbc, Ne.symm hbd]
    · by_cases h3 : c = i
      · subst h3; simp [h2, Ne.symm hcd]
      · by_cases h4 : d = i
        · subst h4; simp [h2, h3]
        · simp [h1, h2, h3, h4]
theorem sum_rem (a b : W) : (isum .i64 (wI a) (wI b)).tmod 4294967296 = wI (a + b) := by
  rw [i64_sum]
  have := wI_lt a
  have := wI_lt b
  rw [Int.tmod_eq_emod_of_nonneg (by omega)]
  simp only [wI, BitVec.toNat_add]
  omega
theorem m29 : Meets Try.prog 29 c29 := by
  refine meets_of_run tab_ok envQ_ok mixed [] Try.func29 rfl Try.ntmps29 Try.call29 (fun t w => by simp [results, Try.results29, resV]) ?_
  intro args objs r hr hcs
  unfold c29 at hr
  split at hr
  · rename_i n a0 b0 c0 d0 l n'
    simp only [Option.some.injEq] at hr; subst hr
    obtain ⟨h1, h2, h3, h4, h5, h6, h7, h8, _⟩ := hcs
    refine ⟨rfl, ?_⟩
    conv => whnf
    subst h1
    obtain ⟨a, rfl⟩ : ∃ i : Nat, a0 = (i : Int) := ⟨_, (Int.toNat_of_nonneg h4.1).symm⟩
    obtain ⟨b, rfl⟩ : ∃ i : Nat, b0 = (i : Int) := ⟨_, (Int.toNat_of_nonneg h5.1).symm⟩
    obtain ⟨c, rfl⟩ : ∃ i : Nat, c0 = (i : Int) := ⟨_, (Int.toNat_of_nonneg h6.1).symm⟩
    obtain ⟨d, rfl⟩ : ∃ i : Nat, d0 = (i : Int) := ⟨_, (Int.toNat_of_nonneg h7.1).symm⟩
    subst h3
    have la : a < l.length := by omega
    have lb : b < l.length := by omega
    have lc : c < l.length := by omega
    have ld : d < l.length := by omega
    obtain ⟨x, hx⟩ := of_isW (h2 a la)
    obtain ⟨y, hy⟩ := of_isW (h2 b lb)
    obtain ⟨z, hz⟩ := of_isW (h2 c lc)
    obtain ⟨u, hu⟩ := of_isW (h2 d ld)
    have hab : a ≠ b := by omega
    have hac : a ≠ c := by omega
    have had : a ≠ d := by omega
    have hbc : b ≠ c := by omega
    have hbd : b ≠ d := by omega
    have hcd : c ≠ d := by omega
    simp only [Int.toNat_natCast, Nat.zero_add, gset_same, gset_ne, List.length_set, la, lb, lc, ld, ne_eq, hab, hac, had, hbc, hbd, hcd, Ne.symm hab, Ne.symm hac, Ne.symm had, Ne.symm hbc, Ne.symm hbd, Ne.symm hcd, not_false_eq_true, hx, hy, hz, hu, sum_rem, i64_xor, wB_wI]
    refine ⟨?_, rfl, [0], [], rfl, ⟨trivial, trivial⟩, ⟨rfl, rfl, ?_, rfl, trivial⟩, trivial⟩
    · repeat' apply And.intro
      all_goals first
        | exact True.intro
        | assumption
        | omega
        | decide +kernel
        | exact wI_is _
        | simp [isTurn]
    · rw [set8 hab hac had hbc hbd hcd]
      simp only [quarterAt, hx, hy, hz, hu, wB_wI]
      rfl
  · cases hr

def c31 : Ctr := fun args objs => match args, objs with
  | [], [] => some ⟨[], .v (.one (.bool true true)), [], []⟩
  | _, _ => none
def envA : Env := fun f => match f with
  | 29 => some c29
  | 30 => some c30
  | 94 => some c94
  | 95 => some c95
  | _ => none
theorem envA_ok : EnvOk Try.prog envA := by
  intro f c h
  unfold envA at h
  split at h
  · simp at h; subst h; exact m29
  · simp at h; subst h; exact m30
  · simp at h; subst h; exact m94
  · simp at h; subst h; exact m95
  · cases h
theorem m31 : Meets Try.prog 31 c31 := by
  refine meets_of_run tab_ok envA_ok mixed [0] Try.func31 rfl Try.ntmps31 Try.call31 (fun t w => by simp [results, Try.results31, resV]) ?_
  intro args objs r hr hcs
  unfold c31 at hr
  split at hr
  · simp only [Option.some.injEq] at hr; subst hr
    refine ⟨rfl, ?_⟩
    conv => whnf
    have q : quarter (wB 286331153) (wB 16909060) (wB 2609737539) (wB 19088743) = (3928658676#32, 3407673550#32, 1166100270#32, 1484899515#32) := by decide +kernel
    rw [q]
    refine ⟨⟨⟨by decide, by decide⟩, ⟨by decide, by decide⟩, ⟨by decide, by decide⟩, ⟨by decide, by decide⟩, trivial⟩, fun _ => ?_, fun h => absurd h (by decide)⟩
    conv => whnf
    refine ⟨trivial, fun _ => ?_, fun h => absurd h (by decide)⟩
    conv => whnf
    refine ⟨trivial, fun _ => ?_, fun h => absurd h (by decide)⟩
    conv => whnf
    refine ⟨trivial, rfl, [], [], rfl, ⟨(by show (wI (1484899515#32) == 1484899515) = true; decide +kernel), trivial⟩, trivial⟩
  · cases hr

def envL : Env := fun f => match f with
  | 31 => some c31
  | f => envA f
theorem envL_ok : EnvOk Try.prog envL := by
  intro f c h
  unfold envL at h
  split at h
  · simp at h; subst h; exact m31
  · exact envA_ok _ _ h
def c3 : Ctr := fun args objs => match args, objs with
  | [.one (.int .u32 a), .one (.int .u32 b), .one (.int .u32 c), .one (.int .u32 d)], [] => some ⟨[isW a, isW b, isW c, isW d], .v (.one (.bool true true)), [], []⟩
  | _, _ => none
theorem no_self {x y : Int} (e : y = x) (h : (x == y) = false) : False := by subst e; simp at h
theorem quarter4 (a b c d : W) : quarterAt [wI a, wI b, wI c, wI d] 0 (Int.toNat 1) (Int.toNat 2) (Int.toNat 3) = [wI (quarter a b c d).1, wI (quarter a b c d).2.1, wI (quarter a b c d).2.2.1, wI (quarter a b c d).2.2.2] := by
  show quarterAt [wI a, wI b, wI c, wI d] 0 1 2 3 = _
  simp [quarterAt, wB_wI]
theorem allW4 (a b c d : W) : allW [wI a, wI b, wI c, wI d] := by
  intro i hi
  match i, hi with
  | 0, _ => exact wI_is _
  | 1, _ => exact wI_is _
  | 2, _ => exact wI_is _
  | 3, _ => exact wI_is _
theorem m3 : Meets Try.prog 3 c3 := by
  refine meets_of_run tab_ok envL_ok mixed [8] Try.func3 rfl Try.ntmps3 Try.call3 (fun t w => by simp [results, Try.results3, resV]) ?_
  intro args objs r hr hcs
  unfold c3 at hr
  split at hr
  · simp only [Option.some.injEq] at hr; subst hr
    obtain ⟨h1, h2, h3, h4, _⟩ := hcs
    obtain ⟨a, rfl⟩ := of_isW h1
    obtain ⟨b, rfl⟩ := of_isW h2
    obtain ⟨c, rfl⟩ := of_isW h3
    obtain ⟨d, rfl⟩ := of_isW h4
    refine ⟨rfl, ?_⟩
    conv => whnf
    simp only [i64_conv, wB_wI, ti3, Nat.mul_one, List.replicate, List.set, Nat.zero_add, Int.toNat_zero, quarter4 a b c d]
    refine ⟨?_, fun _ => ?_, fun h => (no_self rfl h).elim⟩
    · repeat' apply And.intro
      all_goals first
        | exact True.intro
        | assumption
        | exact allW4 a b c d
        | rfl
        | decide +kernel
    conv => whnf
    refine ⟨?_, fun _ => ?_, fun h => (by simp only [i64_conv] at h; exact (no_self rfl h).elim)⟩
    · repeat' apply And.intro
      all_goals first
        | exact True.intro
        | decide +kernel
    conv => whnf
    refine ⟨?_, fun _ => ?_, fun h => (by simp only [i64_conv] at h; exact (no_self rfl h).elim)⟩
    · repeat' apply And.intro
      all_goals first
        | exact True.intro
        | decide +kernel
    conv => whnf
    refine ⟨?_, fun _ => ?_, fun h => (by simp only [i64_conv] at h; exact (no_self rfl h).elim)⟩
    · repeat' apply And.intro
      all_goals first
        | exact True.intro
        | decide +kernel
    conv => whnf
    refine ⟨?_, rfl, [], [], rfl, ⟨rfl, trivial⟩, trivial⟩
    · repeat' apply And.intro
      all_goals first
        | exact True.intro
        | decide +kernel
  · cases hr
end Go.Proofs.Ytjbagkimpmpfgaa
