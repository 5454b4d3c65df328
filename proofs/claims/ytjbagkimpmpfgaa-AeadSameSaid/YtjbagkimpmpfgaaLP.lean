/- Texts joined for the claims: P1, P2, P3, P4, P5, D1, D2, P6, P7. Conditions: those that each lists. -/
import Derived.Test.YtjbagkimpmpfgaaLC
import Derived.Test.YtjbagkimpmpfgaaLB
set_option linter.unusedSimpArgs false
set_option linter.unusedVariables false

/- Poly: limbs, carried and split, walked. -/
namespace Go.Proofs.Ytjbagkimpmpfgaa
open Go Go.Mx
set_option maxRecDepth 100000
set_option maxHeartbeats 4000000

def maskI : Int := 67108863
def carryS (l : List Int) (i : Nat) : List Int := (l.set (i + 1) (isum .u64 (l.getD (i + 1) 0) (shrI .u64 (l.getD i 0) 26))).set i (bandI .u64 ((l.set (i + 1) (isum .u64 (l.getD (i + 1) 0) (shrI .u64 (l.getD i 0) 26))).getD i 0) 67108863)
def carryN (l : List Int) : Nat → List Int
  | 0 => l
  | i + 1 => carryS (carryN l i) i
theorem carryN_len (l : List Int) : ∀ i, (carryN l i).length = l.length
  | 0 => rfl
  | i + 1 => by rw [carryN, carryS, List.length_set, List.length_set, carryN_len]
def carryE (l : List Int) : List Int :=
  let l1 := l.set 0 (isum .u64 (l.getD 0 0) (imul .u64 (shrI .u64 (l.getD 4 0) 26) 5))
  let l2 := l1.set 4 (bandI .u64 (l1.getD 4 0) 67108863)
  let l3 := l2.set 1 (isum .u64 (l2.getD 1 0) (shrI .u64 (l2.getD 0 0) 26))
  l3.set 0 (bandI .u64 (l3.getD 0 0) 67108863)
def carryL (l : List Int) : List Int := carryE (carryN l 4)
def c116 : Ctr := fun args objs => match args, objs with
  | [.agg [.ints .u64 l 5]], [] => some ⟨[l.length = 5], .v (.agg [.ints .u64 (carryL l) 5]), [], []⟩
  | _, _ => none
theorem m116 : Meets Try.prog 116 c116 := by
  refine meets_of_run2 tab_ok env0 mixed [.cell 2 83] Try.func116 rfl Try.ntmps116 Try.call116 (fun t w => by simp [results, Try.results116, resS, rv1]) ?_
  intro args objs r hr hcs
  unfold c116 at hr
  split at hr
  · rename_i l
    simp only [Option.some.injEq] at hr; subst hr
    obtain ⟨h1, _⟩ := hcs
    refine ⟨rfl, ?_⟩
    conv => whnf
    obtain ⟨c, c0, cs, cl, cE⟩ : ∃ c : Nat → List Int, c 0 = l ∧ (∀ i, c (i + 1) = carryS (c i) i) ∧ (∀ i, (c i).length = 5) ∧ carryL l = carryE (c 4) := ⟨carryN l, rfl, fun _ => rfl, fun i => (carryN_len l i).trans h1, rfl⟩
    rw [cE]
    refine ⟨?_, { i : Nat // i ≤ 4 }, fun i => ⟨(.any :: .v (.one (.ptr 0 0)) :: .v (.one (.ptr 1 0)) :: .any :: .v (.one (.int .i64 i.1)) :: .any :: .any :: .any :: .any :: .any :: .any :: .any :: .any :: .any :: .any :: .any :: .any :: .any :: .any :: .any :: .any :: .any :: .any :: .any :: .any :: .any :: .any :: .any :: .any :: .any :: .any :: .any :: .any :: .any :: .any :: .any :: .any :: .any :: .any :: .any :: .any :: .any :: .any :: .any :: .any :: .any :: .any :: []), [.own 0 [.ints .u64 (c i.1) 5], .own 0 [.ints .u64 (List.replicate 5 0) 5]]⟩, fun i => 4 - i.1, ⟨0, by omega⟩, ?_, fun _ => rfl, ?_⟩
    · repeat' apply And.intro
      all_goals first
        | exact True.intro
        | omega
        | decide +kernel
        | rfl
        | exact Nat.le_of_ble_eq_true rfl
        | (dsimp only; omega)
        | trace_state
    · refine ⟨[0, 1], [], rfl, ?_, ?_⟩
      · repeat' apply And.intro
        all_goals first
          | exact True.intro
          | rfl
          | exact Nat.le_refl _
          | decide +kernel
          | omega
          | trace_state
      · exact ⟨⟨rfl, rfl, c0.symm, rfl, trivial⟩, ⟨rfl, rfl, rfl, rfl, trivial⟩, trivial⟩
    rintro ⟨i, hi⟩
    have hcl := cl i
    show run tab (fun _ => none) 0 _ ⟨(.any :: .v (.one (.ptr 0 0)) :: .v (.one (.ptr 1 0)) :: .any :: .v (.one (.int .i64 i)) :: .any :: .any :: .any :: .any :: .any :: .any :: .any :: .any :: .any :: .any :: .any :: .any :: .any :: .any :: .any :: .any :: .any :: .any :: .any :: .any :: .any :: .any :: .any :: .any :: .any :: .any :: .any :: .any :: .any :: .any :: .any :: .any :: .any :: .any :: .any :: .any :: .any :: .any :: .any :: .any :: .any :: .any :: []), [.own 0 [.ints .u64 (c i) 5], .own 0 [.ints .u64 (List.replicate 5 0) 5]]⟩ _ _
    refine run_K (P := fun K => run tab (fun _ => none) 0 _ ⟨_, _⟩ True K) ?_
    intro K hK
    conv => whnf
    refine ⟨trivial, fun hlt => ?_, fun hlt => ?_⟩
    · have hlt' : i < 4 := by simp at hlt; omega
      have e1 : isum .i64 (i : Int) 1 = ((i + 1 : Nat) : Int) := by rw [isum, i64_in] <;> omega
      conv => whnf
      rw [e1]
      subst hK
      change _ ∧ _
      refine ⟨?_, ⟨i + 1, by omega⟩, by show 4 - (i + 1) < 4 - i; omega, [0, 1], [], rfl, ?_, ?_⟩
      · repeat' apply And.intro
        all_goals first
          | exact True.intro
          | (rw [Int.toNat_natCast]; omega)
          | omega
          | decide +kernel
          | rfl
          | exact Nat.le_of_ble_eq_true rfl
          | (dsimp only; omega)
          | trace_state
      · repeat' apply And.intro
        all_goals first
          | exact True.intro
          | rfl
          | exact Nat.le_refl _
          | decide +kernel
          | omega
          | trace_state
      · refine ⟨⟨rfl, rfl, ?_, rfl, trivial⟩, ⟨rfl, rfl, rfl, rfl, trivial⟩, trivial⟩
        simp only [Int.toNat_natCast, Nat.zero_add]
        rw [cs]; rfl
    · have hlt' : i = 4 := by simp at hlt; omega
      subst hlt'
      conv => whnf
      subst hK
      conv => whnf
      refine ⟨?_, rfl, [], [], rfl, ⟨⟨rfl, rfl, rfl, trivial⟩, trivial⟩, trivial⟩
      repeat' apply And.intro
      all_goals first
        | exact True.intro
        | omega
        | decide +kernel
        | rfl
        | exact Nat.le_of_ble_eq_true rfl
        | (dsimp only; omega)
        | trace_state
  · cases hr
/-! ### A word of four bytes; the limbs of 16 -/
def w4 (l : List Int) (k : Nat) : Int := borI .u64 (borI .u64 (borI .u64 (conv .u64 (l.getD k 0)) (shlI .u64 (conv .u64 (l.getD (k + 1) 0)) 8)) (shlI .u64 (conv .u64 (l.getD (k + 2) 0)) 16)) (shlI .u64 (conv .u64 (l.getD (k + 3) 0)) 24)
def isBy (x : Int) : Prop := 0 ≤ x ∧ x < 256
abbrev macO (r h s e : List Int) (n : Int) : MObj := .own 0 [.ints .u64 r 5, .ints .u64 h 5, .ints .u8 s 16, .ints .u8 e 16, .c (.int .i64 n)]
def c142a : Ctr := fun args objs => match args, objs with
  | [.one (.int .i64 i), .one (.ptr 0 0)], [.own 0 [.c (.sx 1 0 1 lo len cap adr)], .own e [.ints .u8 l n]] => some ⟨[0 ≤ i ∧ i + 4 ≤ len, lo + len ≤ n, n ≤ 1000], .v (.one (.int .u64 (w4 l (lo + i.toNat)))), [], []⟩
  | _, _ => none
theorem m142a : Meets Try.prog 142 c142a := by
  refine meets_of_run2 tab_ok env0 mixed [.tmp 3] Try.func142 rfl Try.ntmps142 Try.call142 (fun t w => by simp [results, Try.results142, resS, rv1]) ?_
  intro args objs r hr hcs
  unfold c142a at hr
  split at hr
  · rename_i i lo len cap adr e l n
    simp only [Option.some.injEq] at hr; subst hr
    obtain ⟨h1, h2, h3, _⟩ := hcs
    refine ⟨rfl, ?_⟩
    conv => whnf
    obtain ⟨j, rfl⟩ : ∃ j : Nat, i = (j : Int) := ⟨_, (Int.toNat_of_nonneg h1.1).symm⟩
    have e1 : isum .i64 (j : Int) 1 = ((j + 1 : Nat) : Int) := by rw [isum, i64_in] <;> omega
    have e2 : isum .i64 (j : Int) 2 = ((j + 2 : Nat) : Int) := by rw [isum, i64_in] <;> omega
    have e3 : isum .i64 (j : Int) 3 = ((j + 3 : Nat) : Int) := by rw [isum, i64_in] <;> omega
    rw [e1, e2, e3]
    refine ⟨?_, rfl, [0, 1], [], rfl, ⟨⟨rfl, ?_⟩, trivial⟩, ⟨rfl, rfl, trivial⟩, ⟨rfl, rfl, rfl, rfl, trivial⟩, trivial⟩
    · simp only [Int.toNat_natCast]
      repeat' apply And.intro
      all_goals first
        | exact True.intro
        | omega
        | decide +kernel
        | rfl
        | exact Nat.le_of_ble_eq_true rfl
        | (dsimp only; omega)
        | trace_state
    · simp only [Int.toNat_natCast]
      rfl
  · cases hr
def c142b : Ctr := fun args objs => match args, objs with
  | [.one (.int .i64 i), .one (.ptr 0 0)], [.own 0 [.c (.sx 1 26 1 lo len cap adr)], .own 0 [.ints .u64 r 5, .ints .u64 h 5, .ints .u8 s 16, .ints .u8 l 16, .c (.int .i64 n)]] => some ⟨[0 ≤ i ∧ i + 4 ≤ len, lo + len ≤ 16], .v (.one (.int .u64 (w4 l (lo + i.toNat)))), [], []⟩
  | _, _ => none
theorem m142b : Meets Try.prog 142 c142b := by
  refine meets_of_run2 tab_ok env0 mixed [.tmp 3] Try.func142 rfl Try.ntmps142 Try.call142 (fun t w => by simp [results, Try.results142, resS, rv1]) ?_
  intro args objs r hr hcs
  unfold c142b at hr
  split at hr
  · rename_i i lo len cap adr r h s l n
    simp only [Option.some.injEq] at hr; subst hr
    obtain ⟨h1, h2, _⟩ := hcs
    refine ⟨rfl, ?_⟩
    conv => whnf
    obtain ⟨j, rfl⟩ : ∃ j : Nat, i = (j : Int) := ⟨_, (Int.toNat_of_nonneg h1.1).symm⟩
    have e1 : isum .i64 (j : Int) 1 = ((j + 1 : Nat) : Int) := by rw [isum, i64_in] <;> omega
    have e2 : isum .i64 (j : Int) 2 = ((j + 2 : Nat) : Int) := by rw [isum, i64_in] <;> omega
    have e3 : isum .i64 (j : Int) 3 = ((j + 3 : Nat) : Int) := by rw [isum, i64_in] <;> omega
    rw [e1, e2, e3]
    refine ⟨?_, rfl, [0, 1], [], rfl, ⟨⟨rfl, ?_⟩, trivial⟩, ⟨rfl, rfl, trivial⟩, ⟨rfl, rfl, rfl, rfl, rfl, rfl, rfl, rfl, rfl, rfl, rfl, rfl, rfl, ⟨rfl, rfl⟩, trivial⟩, trivial⟩
    · simp only [Int.toNat_natCast]
      repeat' apply And.intro
      all_goals first
        | exact True.intro
        | omega
        | decide +kernel
        | rfl
        | exact Nat.le_of_ble_eq_true rfl
        | (dsimp only; omega)
        | trace_state
    · simp only [Int.toNat_natCast]
      rfl
  · cases hr
/-! ### split -/
/-- The limbs of 16 bytes from a place on, and what lies above. -/
def splitL (l : List Int) (k : Nat) (top : Int) : List Int :=
  [bandI .u64 (w4 l k) 67108863, bandI .u64 (shrI .u64 (w4 l (k + 3)) 2) 67108863, bandI .u64 (shrI .u64 (w4 l (k + 6)) 4) 67108863, bandI .u64 (shrI .u64 (w4 l (k + 9)) 6) 67108863, borI .u64 (shrI .u64 (w4 l (k + 12)) 8) (shlI .u64 top 24)]
def env114 : Env := fun f => match f with
  | 142 => some (orC c142b c142a)
  | _ => none
theorem env114_ok : EnvOk Try.prog env114 := by
  intro f c h
  unfold env114 at h
  split at h
  · simp only [Option.some.injEq] at h; subst h; exact meets_or m142b m142a
  · cases h
def c114a : Ctr := fun args objs => match args, objs with
  | [.one (.sx 0 0 1 lo len cap adr), .one (.int .u64 top)], [.own e [.ints .u8 l n]] => some ⟨[len = 16, lo + len ≤ n, n ≤ 1000], .v (.agg [.ints .u64 (splitL l lo top) 5]), [], []⟩
  | _, _ => none
theorem m114a : Meets Try.prog 114 c114a := by
  refine meets_of_run2 tab_ok env114_ok mixed [.cell 4 83] Try.func114 rfl Try.ntmps114 Try.call114 (fun t w => by simp [results, Try.results114, resS, rv1]) ?_
  intro args objs r hr hcs
  unfold c114a at hr
  split at hr
  · rename_i lo len cap adr top e l n
    simp only [Option.some.injEq] at hr; subst hr
    obtain ⟨h1, h2, h3, _⟩ := hcs
    refine ⟨rfl, ?_⟩
    conv => whnf
    refine ⟨?_, rfl, [0], [], rfl, ⟨⟨rfl, ?_, rfl, trivial⟩, trivial⟩, ⟨rfl, rfl, rfl, rfl, trivial⟩, trivial⟩
    · repeat' apply And.intro
      all_goals first
        | exact True.intro
        | omega
        | decide +kernel
        | rfl
        | exact Nat.le_of_ble_eq_true rfl
        | (dsimp only; omega)
        | trace_state
    · rfl
  · cases hr
def c114b : Ctr := fun args objs => match args, objs with
  | [.one (.sx 0 26 1 lo len cap adr), .one (.int .u64 top)], [.own 0 [.ints .u64 r 5, .ints .u64 h 5, .ints .u8 s 16, .ints .u8 l 16, .c (.int .i64 n)]] => some ⟨[len = 16, lo + len ≤ 16], .v (.agg [.ints .u64 (splitL l lo top) 5]), [], []⟩
  | _, _ => none
theorem m114b : Meets Try.prog 114 c114b := by
  refine meets_of_run2 tab_ok env114_ok mixed [.cell 4 83] Try.func114 rfl Try.ntmps114 Try.call114 (fun t w => by simp [results, Try.results114, resS, rv1]) ?_
  intro args objs r hr hcs
  unfold c114b at hr
  split at hr
  · rename_i lo len cap adr top r h s l n
    simp only [Option.some.injEq] at hr; subst hr
    obtain ⟨h1, h2, _⟩ := hcs
    refine ⟨rfl, ?_⟩
    conv => whnf
    refine ⟨?_, rfl, [0], [], rfl, ⟨⟨rfl, ?_, rfl, trivial⟩, trivial⟩, ⟨rfl, rfl, rfl, rfl, rfl, rfl, rfl, rfl, rfl, rfl, rfl, rfl, rfl, ⟨rfl, rfl⟩, trivial⟩, trivial⟩
    · repeat' apply And.intro
      all_goals first
        | exact True.intro
        | omega
        | decide +kernel
        | rfl
        | exact Nat.le_of_ble_eq_true rfl
        | (dsimp only; omega)
        | trace_state
    · rfl
  · cases hr
end Go.Proofs.Ytjbagkimpmpfgaa

/- Poly: a block, walked. -/
namespace Go.Proofs.Ytjbagkimpmpfgaa
open Go Go.Mx
set_option maxRecDepth 100000
set_option maxHeartbeats 4000000

def addS (b h : List Int) : Nat → List Int
  | 0 => b
  | i + 1 => (addS b h i).set i (isum .u64 ((addS b h i).getD i 0) (h.getD i 0))
theorem addS_len (b h : List Int) : ∀ i, (addS b h i).length = b.length
  | 0 => rfl
  | i + 1 => by rw [addS, List.length_set, addS_len]
def mulS (b r d : List Int) (i k : Nat) : List Int :=
  d.set ((i + k) % 5) (isum .u64 (d.getD ((i + k) % 5) 0) (if i + k > 4 then imul .u64 (imul .u64 (b.getD i 0) (r.getD k 0)) 5 else imul .u64 (b.getD i 0) (r.getD k 0)))
def mulK (b r d : List Int) (i : Nat) : Nat → List Int
  | 0 => d
  | k + 1 => mulS b r (mulK b r d i k) i k
def mulN (b r : List Int) : Nat → List Int
  | 0 => List.replicate 5 0
  | i + 1 => mulK b r (mulN b r i) i 5
theorem mulK_len (b r d : List Int) (i : Nat) : ∀ k, (mulK b r d i k).length = d.length
  | 0 => rfl
  | k + 1 => by rw [mulK, mulS, List.length_set, mulK_len]
theorem mulN_len (b r : List Int) : ∀ i, (mulN b r i).length = 5
  | 0 => by simp [mulN]
  | i + 1 => by rw [mulN, mulK_len, mulN_len]
def blockL (r h b : List Int) : List Int := carryL (mulN (addS b h 5) r 5)
def env115 : Env := fun f => match f with
  | 116 => some c116
  | _ => none
theorem env115_ok : EnvOk Try.prog env115 := by
  intro f c h
  unfold env115 at h
  split at h
  · simp only [Option.some.injEq] at h; subst h; exact m116
  · cases h
def c115 : Ctr := fun args objs => match args, objs with
  | [.one (.ptr 0 0), .agg [.ints .u64 b 5]], [.own 0 [.ints .u64 r 5, .ints .u64 h 5, .ints .u8 s 16, .ints .u8 e 16, .c (.int .i64 n)]] =>
    some ⟨[b.length = 5, r.length = 5, h.length = 5], .tup [], [(0, .own 0 [.ints .u64 r 5, .ints .u64 (blockL r h b) 5, .ints .u8 s 16, .ints .u8 e 16, .c (.int .i64 n)])], []⟩
  | _, _ => none
theorem m115 : Meets Try.prog 115 c115 := by
  refine meets_of_run tab_ok env115_ok mixed [] Try.func115 rfl Try.ntmps115 Try.call115 (fun t w => by simp [results, Try.results115, resV]) ?_
  intro args objs r hr hcs
  unfold c115 at hr
  split at hr
  · rename_i b r h s e n
    simp only [Option.some.injEq] at hr; subst hr
    obtain ⟨h1, h2, h3, _⟩ := hcs
    refine ⟨rfl, ?_⟩
    conv => whnf
    obtain ⟨a, a0, asn, al, aE⟩ : ∃ a : Nat → List Int, a 0 = b ∧ (∀ i, a (i + 1) = (a i).set i (isum .u64 ((a i).getD i 0) (h.getD i 0))) ∧ (∀ i, (a i).length = 5) ∧ blockL r h b = carryL (mulN (a 5) r 5) := ⟨addS b h, rfl, fun _ => rfl, fun i => (addS_len b h i).trans h1, rfl⟩
    rw [aE]
    refine ⟨?_, { i : Nat // i ≤ 5 }, fun i => ⟨(.v (.one (.ptr 0 0)) :: .any :: .any :: .v (.one (.ptr 1 0)) :: .any :: .any :: .any :: .any :: .any :: .v (.one (.int .i64 i.1)) :: .any :: .any :: .any :: .any :: .any :: .any :: .any :: .any :: .any :: .any :: .any :: .any :: .any :: .any :: .any :: .any :: .any :: .any :: .any :: .any :: .any :: .any :: .any :: .any :: .any :: .any :: .any :: .any :: .any :: .any :: .any :: .any :: .any :: .any :: .any :: .any :: .any :: .any :: .any :: .any :: .any :: .any :: .any :: .any :: .any :: .any :: .any :: .any :: .any :: .any :: .any :: .any :: []), [.own 0 [.ints .u64 r 5, .ints .u64 h 5, .ints .u8 s 16, .ints .u8 e 16, .c (.int .i64 n)], .own 0 [.ints .u64 (a i.1) 5]]⟩, fun i => 5 - i.1, ⟨0, by omega⟩, ?_, fun _ => rfl, ?_⟩
    · repeat' apply And.intro
      all_goals first
        | exact True.intro
        | omega
        | decide +kernel
        | rfl
        | exact Nat.le_of_ble_eq_true rfl
        | (dsimp only; omega)
        | trace_state
    · refine ⟨[0, 1], [], rfl, ?_, ?_⟩
      · repeat' apply And.intro
        all_goals first
          | exact True.intro
          | rfl
          | exact Nat.le_refl _
          | decide +kernel
          | omega
          | trace_state
      · exact ⟨⟨rfl, rfl, rfl, rfl, rfl, rfl, rfl, rfl, rfl, rfl, rfl, rfl, rfl, ⟨rfl, rfl⟩, trivial⟩, ⟨rfl, rfl, a0.symm, rfl, trivial⟩, trivial⟩
    rintro ⟨i, hi⟩
    have hal := al i
    show run tab env115 1 _ ⟨(.v (.one (.ptr 0 0)) :: .any :: .any :: .v (.one (.ptr 1 0)) :: .any :: .any :: .any :: .any :: .any :: .v (.one (.int .i64 i)) :: .any :: .any :: .any :: .any :: .any :: .any :: .any :: .any :: .any :: .any :: .any :: .any :: .any :: .any :: .any :: .any :: .any :: .any :: .any :: .any :: .any :: .any :: .any :: .any :: .any :: .any :: .any :: .any :: .any :: .any :: .any :: .any :: .any :: .any :: .any :: .any :: .any :: .any :: .any :: .any :: .any :: .any :: .any :: .any :: .any :: .any :: .any :: .any :: .any :: .any :: .any :: .any :: []), [.own 0 [.ints .u64 r 5, .ints .u64 h 5, .ints .u8 s 16, .ints .u8 e 16, .c (.int .i64 n)], .own 0 [.ints .u64 (a i) 5]]⟩ _ _
    refine run_K (P := fun K => run tab env115 1 _ ⟨_, _⟩ True K) ?_
    intro K hK
    conv => whnf
    refine ⟨trivial, fun hlt => ?_, fun hlt => ?_⟩
    · have hlt' : i < 5 := by simp at hlt; omega
      have e1 : isum .i64 (i : Int) 1 = ((i + 1 : Nat) : Int) := by rw [isum, i64_in] <;> omega
      conv => whnf
      rw [e1]
      subst hK
      change _ ∧ _
      refine ⟨?_, ⟨i + 1, by omega⟩, by show 5 - (i + 1) < 5 - i; omega, [0, 1], [], rfl, ?_, ?_⟩
      · repeat' apply And.intro
        all_goals first
          | exact True.intro
          | (rw [Int.toNat_natCast]; omega)
          | omega
          | decide +kernel
          | rfl
          | exact Nat.le_of_ble_eq_true rfl
          | (dsimp only; omega)
          | trace_state
      · repeat' apply And.intro
        all_goals first
          | exact True.intro
          | rfl
          | exact Nat.le_refl _
          | decide +kernel
          | omega
          | trace_state
      · refine ⟨⟨rfl, rfl, rfl, rfl, rfl, rfl, rfl, rfl, rfl, rfl, rfl, rfl, rfl, ⟨rfl, rfl⟩, trivial⟩, ⟨rfl, rfl, ?_, rfl, trivial⟩, trivial⟩
        simp only [Int.toNat_natCast, Nat.zero_add]
        rw [asn]
    · have hlt' : i = 5 := by simp at hlt; omega
      subst hlt'
      obtain ⟨B, hB⟩ : ∃ B, B = a 5 := ⟨_, rfl⟩
      rw [← hB] at hal
      obtain ⟨d, d0, dk⟩ : ∃ d : Nat → List Int, d 0 = List.replicate 5 0 ∧ (∀ i, ∃ g : Nat → List Int, g 0 = d i ∧ (∀ k, g (k + 1) = mulS B r (g k) i k) ∧ (∀ k, (g k).length = 5) ∧ g 5 = d (i + 1)) ∧ d 5 = mulN B r 5 ∧ (d 5).length = 5 :=
        ⟨mulN B r, rfl, fun i => ⟨mulK B r (mulN B r i) i, rfl, fun _ => rfl, fun k => (mulK_len _ _ _ _ _).trans (mulN_len _ _ _), rfl⟩, rfl, mulN_len _ _ _⟩
      obtain ⟨dk, d5, dl⟩ := dk
      conv => whnf
      subst hK
      rw [← hB]
      conv => whnf
      refine ⟨?_, { i : Nat // i ≤ 5 }, fun i => ⟨(.v (.one (.ptr 0 0)) :: .any :: .any :: .v (.one (.ptr 1 0)) :: .any :: .v (.one (.ptr 2 0)) :: .any :: .any :: .any :: .any :: .any :: .any :: .any :: .any :: .any :: .any :: .any :: .any :: .any :: .any :: .any :: .any :: .any :: .any :: .v (.one (.int .i64 i.1)) :: .any :: .any :: .any :: .any :: .any :: .any :: .any :: .any :: .any :: .any :: .any :: .any :: .any :: .any :: .any :: .any :: .any :: .any :: .any :: .any :: .any :: .any :: .any :: .any :: .any :: .any :: .any :: .any :: .any :: .any :: .any :: .any :: .any :: .any :: .any :: .any :: .any :: []), [.own 0 [.ints .u64 r 5, .ints .u64 h 5, .ints .u8 s 16, .ints .u8 e 16, .c (.int .i64 n)], .own 0 [.ints .u64 B 5], .own 0 [.ints .u64 (d i.1) 5]]⟩, fun i => 5 - i.1, ⟨0, by omega⟩, ?_, fun _ => rfl, ?_⟩
      · trivial
      · refine ⟨[0, 1, 2], [], rfl, ?_, ?_⟩
        · repeat' apply And.intro
          all_goals first
            | exact True.intro
            | rfl
            | exact Nat.le_refl _
            | decide +kernel
            | omega
            | trace_state
        · exact ⟨⟨rfl, rfl, rfl, rfl, rfl, rfl, rfl, rfl, rfl, rfl, rfl, rfl, rfl, ⟨rfl, rfl⟩, trivial⟩, ⟨rfl, rfl, rfl, rfl, trivial⟩, ⟨rfl, rfl, d0.symm, rfl, trivial⟩, trivial⟩
      rintro ⟨i, hi⟩
      obtain ⟨g, g0, gs, gl, gE⟩ := dk i
      show run tab env115 1 _ ⟨(.v (.one (.ptr 0 0)) :: .any :: .any :: .v (.one (.ptr 1 0)) :: .any :: .v (.one (.ptr 2 0)) :: .any :: .any :: .any :: .any :: .any :: .any :: .any :: .any :: .any :: .any :: .any :: .any :: .any :: .any :: .any :: .any :: .any :: .any :: .v (.one (.int .i64 i)) :: .any :: .any :: .any :: .any :: .any :: .any :: .any :: .any :: .any :: .any :: .any :: .any :: .any :: .any :: .any :: .any :: .any :: .any :: .any :: .any :: .any :: .any :: .any :: .any :: .any :: .any :: .any :: .any :: .any :: .any :: .any :: .any :: .any :: .any :: .any :: .any :: .any :: []), [.own 0 [.ints .u64 r 5, .ints .u64 h 5, .ints .u8 s 16, .ints .u8 e 16, .c (.int .i64 n)], .own 0 [.ints .u64 B 5], .own 0 [.ints .u64 (d i) 5]]⟩ _ _
      refine run_K (P := fun K => run tab env115 1 _ ⟨_, _⟩ True K) ?_
      intro K hK
      conv => whnf
      refine ⟨trivial, fun hlt => ?_, fun hlt => ?_⟩
      · have hlt' : i < 5 := by simp at hlt; omega
        have e1 : isum .i64 (i : Int) 1 = ((i + 1 : Nat) : Int) := by rw [isum, i64_in] <;> omega
        conv => whnf
        refine ⟨?_, { k : Nat // k ≤ 5 }, fun k => ⟨(.v (.one (.ptr 0 0)) :: .any :: .any :: .v (.one (.ptr 1 0)) :: .any :: .v (.one (.ptr 2 0)) :: .v (.one (.int .i64 i)) :: .any :: .any :: .any :: .any :: .any :: .any :: .any :: .any :: .any :: .any :: .any :: .any :: .any :: .any :: .any :: .any :: .any :: .v (.one (.int .i64 i)) :: .any :: .any :: .v (.one (.int .i64 k.1)) :: .any :: .any :: .any :: .any :: .any :: .any :: .any :: .any :: .any :: .any :: .any :: .any :: .any :: .any :: .any :: .any :: .any :: .any :: .any :: .any :: .any :: .any :: .any :: .any :: .any :: .any :: .any :: .any :: .any :: .any :: .any :: .any :: .any :: .any :: []), [.own 0 [.ints .u64 r 5, .ints .u64 h 5, .ints .u8 s 16, .ints .u8 e 16, .c (.int .i64 n)], .own 0 [.ints .u64 B 5], .own 0 [.ints .u64 (g k.1) 5]]⟩, fun k => 5 - k.1, ⟨0, by omega⟩, ?_, fun _ => rfl, ?_⟩
        · trivial
        · refine ⟨[0, 1, 2], [], rfl, ?_, ?_⟩
          · repeat' apply And.intro
            all_goals first
              | exact True.intro
              | rfl
              | exact Nat.le_refl _
              | decide +kernel
              | omega
              | trace_state
          · exact ⟨⟨rfl, rfl, rfl, rfl, rfl, rfl, rfl, rfl, rfl, rfl, rfl, rfl, rfl, ⟨rfl, rfl⟩, trivial⟩, ⟨rfl, rfl, rfl, rfl, trivial⟩, ⟨rfl, rfl, g0.symm, rfl, trivial⟩, trivial⟩
        rintro ⟨k, hk⟩
        have hgl := gl k
        have hgs := gs k
        show run tab env115 1 _ ⟨(.v (.one (.ptr 0 0)) :: .any :: .any :: .v (.one (.ptr 1 0)) :: .any :: .v (.one (.ptr 2 0)) :: .v (.one (.int .i64 i)) :: .any :: .any :: .any :: .any :: .any :: .any :: .any :: .any :: .any :: .any :: .any :: .any :: .any :: .any :: .any :: .any :: .any :: .v (.one (.int .i64 i)) :: .any :: .any :: .v (.one (.int .i64 k)) :: .any :: .any :: .any :: .any :: .any :: .any :: .any :: .any :: .any :: .any :: .any :: .any :: .any :: .any :: .any :: .any :: .any :: .any :: .any :: .any :: .any :: .any :: .any :: .any :: .any :: .any :: .any :: .any :: .any :: .any :: .any :: .any :: .any :: .any :: []), [.own 0 [.ints .u64 r 5, .ints .u64 h 5, .ints .u8 s 16, .ints .u8 e 16, .c (.int .i64 n)], .own 0 [.ints .u64 B 5], .own 0 [.ints .u64 (g k) 5]]⟩ _ _
        refine run_K (P := fun K => run tab env115 1 _ ⟨_, _⟩ True K) ?_
        intro K hK
        conv => whnf
        refine ⟨trivial, fun hlk => ?_, fun hlk => ?_⟩
        · have hlk' : k < 5 := by simp at hlk; omega
          have e2 : isum .i64 (i : Int) (k : Int) = ((i + k : Nat) : Int) := by rw [isum, i64_in] <;> omega
          have e3 : isum .i64 (k : Int) 1 = ((k + 1 : Nat) : Int) := by rw [isum, i64_in] <;> omega
          have e4 : ((i + k : Nat) : Int).tmod 5 = (((i + k) % 5 : Nat) : Int) := by rw [Int.tmod_eq_emod_of_nonneg (by omega)]; omega
          conv => whnf
          rw [e2]
          refine ⟨?_, fun hg => ?_, fun hg => ?_⟩
          · repeat' apply And.intro
            all_goals first
              | exact True.intro
              | (rw [Int.toNat_natCast]; omega)
              | omega
              | decide +kernel
              | rfl
              | exact Nat.le_of_ble_eq_true rfl
              | (dsimp only; omega)
              | trace_state
          · have hg' : i + k > 4 := by simp at hg; omega
            conv => whnf
            rw [e2, e3, e4]
            subst hK
            change _ ∧ _
            refine ⟨?_, ⟨k + 1, by omega⟩, by show 5 - (k + 1) < 5 - k; omega, [0, 1, 2], [], rfl, ?_, ?_⟩
            · repeat' apply And.intro
              all_goals first
                | exact True.intro
                | (rw [Int.toNat_natCast]; omega)
                | omega
                | decide +kernel
                | rfl
                | exact Nat.le_of_ble_eq_true rfl
                | (dsimp only; omega)
                | trace_state
            · repeat' apply And.intro
              all_goals first
                | exact True.intro
                | rfl
                | exact Nat.le_refl _
                | decide +kernel
                | omega
                | trace_state
            · refine ⟨⟨rfl, rfl, rfl, rfl, rfl, rfl, rfl, rfl, rfl, rfl, rfl, rfl, rfl, ⟨rfl, rfl⟩, trivial⟩, ⟨rfl, rfl, rfl, rfl, trivial⟩, ⟨rfl, rfl, ?_, rfl, trivial⟩, trivial⟩
              simp only [Int.toNat_natCast, Nat.zero_add]
              rw [hgs, mulS, if_pos hg']
          · have hg' : ¬ i + k > 4 := by simp at hg; omega
            conv => whnf
            rw [e2, e3, e4]
            subst hK
            change _ ∧ _
            refine ⟨?_, ⟨k + 1, by omega⟩, by show 5 - (k + 1) < 5 - k; omega, [0, 1, 2], [], rfl, ?_, ?_⟩
            · repeat' apply And.intro
              all_goals first
                | exact True.intro
                | (rw [Int.toNat_natCast]; omega)
                | omega
                | decide +kernel
                | rfl
                | exact Nat.le_of_ble_eq_true rfl
                | (dsimp only; omega)
                | trace_state
            · repeat' apply And.intro
              all_goals first
                | exact True.intro
                | rfl
                | exact Nat.le_refl _
                | decide +kernel
                | omega
                | trace_state
            · refine ⟨⟨rfl, rfl, rfl, rfl, rfl, rfl, rfl, rfl, rfl, rfl, rfl, rfl, rfl, ⟨rfl, rfl⟩, trivial⟩, ⟨rfl, rfl, rfl, rfl, trivial⟩, ⟨rfl, rfl, ?_, rfl, trivial⟩, trivial⟩
              simp only [Int.toNat_natCast, Nat.zero_add]
              rw [hgs, mulS, if_neg hg']
        · have hlk' : k = 5 := by simp at hlk; omega
          subst hlk'
          conv => whnf
          subst hK
          conv => whnf
          rw [e1]
          subst hK
          change _ ∧ _
          refine ⟨trivial, ⟨i + 1, by omega⟩, by show 5 - (i + 1) < 5 - i; omega, [0, 1, 2], [], rfl, ?_, ?_⟩
          · repeat' apply And.intro
            all_goals first
              | exact True.intro
              | rfl
              | exact Nat.le_refl _
              | decide +kernel
              | omega
              | trace_state
          · exact ⟨⟨rfl, rfl, rfl, rfl, rfl, rfl, rfl, rfl, rfl, rfl, rfl, rfl, rfl, ⟨rfl, rfl⟩, trivial⟩, ⟨rfl, rfl, rfl, rfl, trivial⟩, ⟨rfl, rfl, gE, rfl, trivial⟩, trivial⟩
      · have hlt' : i = 5 := by simp at hlt; omega
        subst hlt'
        rw [← d5] at hK
        conv => whnf
        subst hK
        conv => whnf
        refine ⟨?_, rfl, [0], [], rfl, ⟨trivial, trivial⟩, ⟨rfl, rfl, rfl, rfl, rfl, rfl, rfl, rfl, rfl, rfl, rfl, rfl, rfl, ⟨rfl, rfl⟩, trivial⟩, trivial⟩
        repeat' apply And.intro
        all_goals first
          | exact True.intro
          | omega
          | decide +kernel
          | rfl
          | exact Nat.le_of_ble_eq_true rfl
          | (dsimp only; omega)
          | trace_state
  · cases hr
end Go.Proofs.Ytjbagkimpmpfgaa

/- Poly: New, walked. -/
namespace Go.Proofs.Ytjbagkimpmpfgaa
open Go Go.Mx
set_option maxRecDepth 100000
set_option maxHeartbeats 4000000

def mask1 (l : List Int) : Nat → List Int
  | 0 => l
  | k + 1 => (mask1 l k).set (3 + 4 * k) (bandI .u8 ((mask1 l k).getD (3 + 4 * k) 0) 15)
def mask2 (l : List Int) : Nat → List Int
  | 0 => l
  | k + 1 => (mask2 l k).set (4 + 4 * k) (bandI .u8 ((mask2 l k).getD (4 + 4 * k) 0) 252)
theorem mask1_len (l : List Int) : ∀ k, (mask1 l k).length = l.length
  | 0 => rfl
  | k + 1 => by rw [mask1, List.length_set, mask1_len]
theorem mask2_len (l : List Int) : ∀ k, (mask2 l k).length = l.length
  | 0 => rfl
  | k + 1 => by rw [mask2, List.length_set, mask2_len]
def clampL (key : List Int) : List Int := mask2 (mask1 key 4) 3
theorem m114 : Meets Try.prog 114 (orC c114b c114a) := meets_or m114b m114a
def env63 : Env := fun f => match f with
  | 114 => some (orC c114b c114a)
  | _ => none
theorem env63_ok : EnvOk Try.prog env63 := by
  intro f c h
  unfold env63 at h
  split at h
  · simp only [Option.some.injEq] at h; subst h; exact m114
  · cases h
def c63 : Ctr := fun args objs => match args, objs with
  | [.agg [.ints .u8 key 32]], [] => some ⟨[key.length = 32], .v (.one (.ptr 0 0)), [], [macO (splitL (clampL key) 0 0) (List.replicate 5 0) (key.drop 16) (List.replicate 16 0) 0]⟩
  | _, _ => none
theorem m63 : Meets Try.prog 63 c63 := by
  refine meets_of_run2 tab_ok env63_ok mixed [.tmp 2] Try.func63 rfl Try.ntmps63 Try.call63 (fun t w => by simp [results, Try.results63, resS, rv1]) ?_
  intro args objs r hr hcs
  unfold c63 at hr
  split at hr
  · rename_i key
    simp only [Option.some.injEq] at hr; subst hr
    obtain ⟨h1, _⟩ := hcs
    refine ⟨rfl, ?_⟩
    conv => whnf
    obtain ⟨a, a0, asn, al, aE⟩ : ∃ a : Nat → List Int, a 0 = key ∧ (∀ k, a (k + 1) = (a k).set (3 + 4 * k) (bandI .u8 ((a k).getD (3 + 4 * k) 0) 15)) ∧ (∀ k, (a k).length = 32) ∧ clampL key = mask2 (a 4) 3 := ⟨mask1 key, rfl, fun _ => rfl, fun i => (mask1_len key i).trans h1, rfl⟩
    rw [aE]
    have es : splI (List.replicate 16 0) 0 (List.take 16 (List.take 16 (List.drop 16 key))) = List.drop 16 key := by
      have hl : (List.drop 16 key).length = 16 := by rw [List.length_drop]; omega
      rw [List.take_of_length_le (l := List.drop 16 key) (by omega), List.take_of_length_le (by omega)]
      unfold splI
      rw [hl, List.take_zero, List.nil_append, List.drop_of_length_le (l := List.replicate 16 0) (by simp), List.append_nil]
    obtain ⟨S, hS⟩ : ∃ S, S = List.drop 16 key := ⟨_, rfl⟩
    have es := es.trans hS.symm
    rw [← hS]
    refine ⟨?_, { k : Nat // k ≤ 4 }, fun k => ⟨(.any :: .v (.one (.ptr 0 0)) :: .any :: .v (.one (.ptr 1 0)) :: .v (.one (.int .i64 ((3 + 4 * k.1 : Nat) : Int))) :: .any :: .any :: .any :: .any :: .any :: .any :: .any :: .any :: .any :: .any :: .any :: .any :: .any :: .any :: .any :: .any :: .any :: .any :: .any :: .any :: .any :: .any :: .any :: .any :: .any :: .any :: .any :: .any :: .any :: .any :: .any :: .any :: .any :: []), [.own 0 [.ints .u8 (a k.1) 32], macO (List.replicate 5 0) (List.replicate 5 0) S (List.replicate 16 0) 0]⟩, fun k => 4 - k.1, ⟨0, by omega⟩, ?_, fun _ => rfl, ?_⟩
    · repeat' apply And.intro
      all_goals first
        | exact True.intro
        | omega
        | decide +kernel
        | rfl
        | exact Nat.le_of_ble_eq_true rfl
        | (dsimp only; omega)
        | trace_state
    · refine ⟨[0, 1], [], rfl, ?_, ?_⟩
      · repeat' apply And.intro
        all_goals first
          | exact True.intro
          | rfl
          | exact Nat.le_refl _
          | decide +kernel
          | omega
          | trace_state
      · exact ⟨⟨rfl, rfl, a0.symm, rfl, trivial⟩, ⟨rfl, rfl, rfl, rfl, rfl, rfl, rfl, rfl, es, rfl, rfl, rfl, rfl, ⟨rfl, rfl⟩, trivial⟩, trivial⟩
    rintro ⟨k, hk⟩
    have hal := al k
    show run tab env63 0 _ ⟨(.any :: .v (.one (.ptr 0 0)) :: .any :: .v (.one (.ptr 1 0)) :: .v (.one (.int .i64 ((3 + 4 * k : Nat) : Int))) :: .any :: .any :: .any :: .any :: .any :: .any :: .any :: .any :: .any :: .any :: .any :: .any :: .any :: .any :: .any :: .any :: .any :: .any :: .any :: .any :: .any :: .any :: .any :: .any :: .any :: .any :: .any :: .any :: .any :: .any :: .any :: .any :: .any :: []), [.own 0 [.ints .u8 (a k) 32], macO (List.replicate 5 0) (List.replicate 5 0) S (List.replicate 16 0) 0]⟩ _ _
    refine run_K (P := fun K => run tab env63 0 _ ⟨_, _⟩ True K) ?_
    intro K hK
    conv => whnf
    refine ⟨trivial, fun hlt => ?_, fun hlt => ?_⟩
    · have hlt' : k < 4 := by simp at hlt; omega
      have e1 : isum .i64 ((3 + 4 * k : Nat) : Int) 4 = ((3 + 4 * (k + 1) : Nat) : Int) := by rw [isum, i64_in] <;> omega
      conv => whnf
      rw [e1]
      subst hK
      change _ ∧ _
      refine ⟨?_, ⟨k + 1, by omega⟩, by show 4 - (k + 1) < 4 - k; omega, [0, 1], [], rfl, ?_, ?_⟩
      · repeat' apply And.intro
        all_goals first
          | exact True.intro
          | (rw [Int.toNat_natCast]; omega)
          | omega
          | decide +kernel
          | rfl
          | exact Nat.le_of_ble_eq_true rfl
          | (dsimp only; omega)
          | trace_state
      · repeat' apply And.intro
        all_goals first
          | exact True.intro
          | rfl
          | exact Nat.le_refl _
          | decide +kernel
          | omega
          | trace_state
      · refine ⟨⟨rfl, rfl, ?_, rfl, trivial⟩, ⟨rfl, rfl, rfl, rfl, rfl, rfl, rfl, rfl, rfl, rfl, rfl, rfl, rfl, ⟨rfl, rfl⟩, trivial⟩, trivial⟩
        simp only [Int.toNat_natCast, Nat.zero_add]
        rw [asn]
    · have hlt' : k = 4 := by simp at hlt; omega
      subst hlt'
      obtain ⟨d, d0, dsn, dl, dE⟩ : ∃ d : Nat → List Int, d 0 = a 4 ∧ (∀ k, d (k + 1) = (d k).set (4 + 4 * k) (bandI .u8 ((d k).getD (4 + 4 * k) 0) 252)) ∧ (∀ k, (d k).length = 32) ∧ mask2 (a 4) 3 = d 3 := ⟨mask2 (a 4), rfl, fun _ => rfl, fun i => (mask2_len (a 4) i).trans hal, rfl⟩
      rw [dE] at hK
      conv => whnf
      subst hK
      conv => whnf
      refine ⟨?_, { k : Nat // k ≤ 3 }, fun k => ⟨(.any :: .v (.one (.ptr 0 0)) :: .any :: .v (.one (.ptr 1 0)) :: .any :: .v (.one (.int .i64 ((4 + 4 * k.1 : Nat) : Int))) :: .any :: .any :: .any :: .any :: .any :: .any :: .any :: .any :: .any :: .any :: .any :: .any :: .any :: .any :: .any :: .any :: .any :: .any :: .any :: .any :: .any :: .any :: .any :: .any :: .any :: .any :: .any :: .any :: .any :: .any :: .any :: .any :: []), [.own 0 [.ints .u8 (d k.1) 32], macO (List.replicate 5 0) (List.replicate 5 0) S (List.replicate 16 0) 0]⟩, fun k => 3 - k.1, ⟨0, by omega⟩, ?_, fun _ => rfl, ?_⟩
      · trivial
      · refine ⟨[0, 1], [], rfl, ?_, ?_⟩
        · repeat' apply And.intro
          all_goals first
            | exact True.intro
            | rfl
            | exact Nat.le_refl _
            | decide +kernel
            | omega
            | trace_state
        · exact ⟨⟨rfl, rfl, d0.symm, rfl, trivial⟩, ⟨rfl, rfl, rfl, rfl, rfl, rfl, rfl, rfl, rfl, rfl, rfl, rfl, rfl, ⟨rfl, rfl⟩, trivial⟩, trivial⟩
      rintro ⟨k, hk⟩
      have hdl := dl k
      show run tab env63 0 _ ⟨(.any :: .v (.one (.ptr 0 0)) :: .any :: .v (.one (.ptr 1 0)) :: .any :: .v (.one (.int .i64 ((4 + 4 * k : Nat) : Int))) :: .any :: .any :: .any :: .any :: .any :: .any :: .any :: .any :: .any :: .any :: .any :: .any :: .any :: .any :: .any :: .any :: .any :: .any :: .any :: .any :: .any :: .any :: .any :: .any :: .any :: .any :: .any :: .any :: .any :: .any :: .any :: .any :: []), [.own 0 [.ints .u8 (d k) 32], macO (List.replicate 5 0) (List.replicate 5 0) S (List.replicate 16 0) 0]⟩ _ _
      refine run_K (P := fun K => run tab env63 0 _ ⟨_, _⟩ True K) ?_
      intro K hK
      conv => whnf
      refine ⟨trivial, fun hlt => ?_, fun hlt => ?_⟩
      · have hlt' : k < 3 := by simp at hlt; omega
        have e1 : isum .i64 ((4 + 4 * k : Nat) : Int) 4 = ((4 + 4 * (k + 1) : Nat) : Int) := by rw [isum, i64_in] <;> omega
        conv => whnf
        rw [e1]
        subst hK
        change _ ∧ _
        refine ⟨?_, ⟨k + 1, by omega⟩, by show 3 - (k + 1) < 3 - k; omega, [0, 1], [], rfl, ?_, ?_⟩
        · repeat' apply And.intro
          all_goals first
            | exact True.intro
            | (rw [Int.toNat_natCast]; omega)
            | omega
            | decide +kernel
            | rfl
            | exact Nat.le_of_ble_eq_true rfl
            | (dsimp only; omega)
            | trace_state
        · repeat' apply And.intro
          all_goals first
            | exact True.intro
            | rfl
            | exact Nat.le_refl _
            | decide +kernel
            | omega
            | trace_state
        · refine ⟨⟨rfl, rfl, ?_, rfl, trivial⟩, ⟨rfl, rfl, rfl, rfl, rfl, rfl, rfl, rfl, rfl, rfl, rfl, rfl, rfl, ⟨rfl, rfl⟩, trivial⟩, trivial⟩
          simp only [Int.toNat_natCast, Nat.zero_add]
          rw [dsn]
      · have hlt' : k = 3 := by simp at hlt; omega
        subst hlt'
        conv => whnf
        subst hK
        conv => whnf
        refine ⟨?_, rfl, [1], [], rfl, ⟨rfl, trivial⟩, ⟨rfl, rfl, rfl, rfl, rfl, rfl, rfl, rfl, rfl, rfl, rfl, rfl, rfl, ⟨rfl, rfl⟩, trivial⟩, trivial⟩
        repeat' apply And.intro
        all_goals first
          | exact True.intro
          | omega
          | decide +kernel
          | rfl
          | exact Nat.le_of_ble_eq_true rfl
          | (dsimp only; omega)
          | trace_state
  · cases hr
end Go.Proofs.Ytjbagkimpmpfgaa

/- Poly: Write, walked. -/
namespace Go.Proofs.Ytjbagkimpmpfgaa
open Go Go.Mx
set_option maxRecDepth 100000
set_option maxHeartbeats 4000000

/-- The moving part of a mark: limbs, bytes laid, how many. -/
structure PS where
  h : List Int
  e : List Int
  n : Nat
def push (r : List Int) (s : PS) (b : Int) : PS :=
  if s.n + 1 = 16 then ⟨blockL r s.h (splitL (s.e.set s.n b) 0 1), s.e.set s.n b, 0⟩ else ⟨s.h, s.e.set s.n b, s.n + 1⟩
def pushes (r : List Int) (s : PS) (l : List Int) : PS := l.foldl (push r) s
def PSok (s : PS) : Prop := s.h.length = 5 ∧ s.e.length = 16 ∧ s.n < 16
theorem carryE_len {l : List Int} (h : l.length = 5) : (carryE l).length = 5 := by
  unfold carryE
  simp only [List.length_set, h]
theorem carryL_len {l : List Int} (h : l.length = 5) : (carryL l).length = 5 := carryE_len ((carryN_len l 4).trans h)
theorem blockL_len (r h b : List Int) : (blockL r h b).length = 5 := carryL_len (mulN_len _ _ 5)
theorem push_ok {r : List Int} {s : PS} (b : Int) (h : PSok s) : PSok (push r s b) := by
  obtain ⟨h1, h2, h3⟩ := h
  unfold push PSok
  split
  · dsimp only
    rw [blockL_len, List.length_set, h2]
    refine ⟨rfl, rfl, by omega⟩
  · dsimp only
    rw [List.length_set, h1, h2]
    refine ⟨rfl, rfl, by omega⟩
theorem pushes_ok {r : List Int} : ∀ (l : List Int) {s : PS}, PSok s → PSok (pushes r s l)
  | [], _, h => h
  | b :: l, s, h => pushes_ok l (push_ok b h)
theorem pushes_app (r : List Int) (s : PS) (l m : List Int) : pushes r s (l ++ m) = pushes r (pushes r s l) m := List.foldl_append ..
theorem splI_cons {e : List Int} {n : Nat} (b : Int) (l : List Int) (h : n < e.length) : splI e n (b :: l) = splI (e.set n b) (n + 1) l := by
  unfold splI
  rw [List.length_cons, show n + (l.length + 1) = n + 1 + l.length by omega, List.drop_set, if_pos (by omega), List.take_set]
  have : List.set (List.take (n + 1) e) n b = List.take n e ++ [b] := by
    rw [List.take_succ_eq_append_getElem h, List.set_append_right _ _ (by rw [List.length_take]; omega), List.length_take, Nat.min_eq_left (by omega), Nat.sub_self]
    rfl
  rw [this, List.append_assoc, List.append_assoc, List.append_assoc]; rfl
theorem pushes_few {r : List Int} : ∀ (l : List Int) {s : PS}, PSok s → s.n + l.length < 16 → pushes r s l = ⟨s.h, splI s.e s.n l, s.n + l.length⟩
  | [], s, h, _ => by
    show s = _
    rw [List.length_nil, Nat.add_zero]
    unfold splI
    rw [List.length_nil, Nat.add_zero, List.append_nil, List.take_append_drop]
  | b :: l, s, h, hn => by
    rw [List.length_cons] at hn
    have hp : push r s b = ⟨s.h, s.e.set s.n b, s.n + 1⟩ := if_neg (by omega)
    have ho := push_ok (r := r) b h
    show pushes r (push r s b) l = _
    rw [hp] at ho ⊢
    rw [pushes_few l ho (by show s.n + 1 + l.length < 16; omega), splI_cons b l (by rw [h.2.1]; omega), List.length_cons]
    show PS.mk s.h _ (s.n + 1 + l.length) = _
    rw [Nat.add_right_comm]; rfl
theorem pushes_full {r : List Int} : ∀ (l : List Int) {s : PS}, PSok s → s.n + l.length = 16 → pushes r s l = ⟨blockL r s.h (splitL (splI s.e s.n l) 0 1), splI s.e s.n l, 0⟩
  | [], s, h, hn => by have := h.2.2; rw [List.length_nil] at hn; omega
  | [b], s, h, hn => by
    show push r s b = _
    unfold push
    rw [if_pos (by simpa using hn)]
    have : splI s.e s.n [b] = s.e.set s.n b := by
      rw [splI_cons b [] (by rw [h.2.1]; exact h.2.2)]
      unfold splI
      rw [List.length_nil, Nat.add_zero, List.append_nil, List.take_append_drop]
    rw [this]
  | b :: c :: l, s, h, hn => by
    rw [List.length_cons, List.length_cons] at hn
    have hp : push r s b = ⟨s.h, s.e.set s.n b, s.n + 1⟩ := if_neg (by omega)
    have ho := push_ok (r := r) b h
    show pushes r (push r s b) (c :: l) = _
    rw [hp] at ho ⊢
    rw [pushes_full (c :: l) ho (by rw [List.length_cons]; show s.n + 1 + (l.length + 1) = 16; omega), splI_cons b (c :: l) (by rw [h.2.1]; omega)]
theorem blP_length (s : ByteArray) : (bl s).length = s.size := by simp [bl]
theorem blP_ext (s : ByteArray) (a b : Nat) : bl (s.extract a b) = ((bl s).take b).drop a := by
  unfold bl
  rw [ByteArray.data_extract, Array.toList_extract, List.extract_eq_drop_take', List.map_drop, List.map_take]
theorem str_tail (s : ByteArray) (j k : Nat) (h : j + k ≤ s.size) : (s.extract j s.size).extract k (s.extract j s.size).size = s.extract (j + k) s.size := by
  rw [ByteArray.extract_extract, ByteArray.size_extract, Nat.min_self, Nat.min_eq_right (by omega)]
theorem bl_tail (s : ByteArray) (j : Nat) : bl (s.extract j s.size) = (bl s).drop j := by
  rw [blP_ext, List.take_of_length_le (by rw [blP_length]; omega)]
/-- Pieces, one behind the other. -/
def flat (l : List ByteArray) : List Int := l.flatMap bl
def pushP (r : List Int) (s : PS) (l : List ByteArray) (lo : Nat) : Nat → PS
  | 0 => s
  | i + 1 => pushes r (pushP r s l lo i) (bl (l.getD (lo + i) ByteArray.empty))
theorem pushP_ok {r : List Int} {s : PS} (h : PSok s) (l : List ByteArray) (lo : Nat) : ∀ i, PSok (pushP r s l lo i)
  | 0 => h
  | i + 1 => pushes_ok _ (pushP_ok h l lo i)
theorem pushP_flat {r : List Int} {s : PS} (l : List ByteArray) (lo : Nat) : ∀ i, lo + i ≤ l.length → pushP r s l lo i = pushes r s (flat ((l.drop lo).take i))
  | 0, _ => by rw [List.take_zero]; rfl
  | i + 1, h => by
    rw [pushP, pushP_flat l lo i (by omega), List.take_succ_eq_append_getElem (by rw [List.length_drop]; omega), flat, flat, List.flatMap_append, pushes_app, List.getElem_drop, List.getD_eq_getElem?_getD, List.getElem?_eq_getElem (by omega)]
    simp only [List.flatMap_cons, List.flatMap_nil, List.append_nil, Option.getD_some]
/-- What a call of Write makes of a mark. -/
def wrote (r : List Int) (s : PS) (l : List ByteArray) (lo m : Nat) : PS := pushes r s (flat ((l.drop lo).take m))
abbrev macP (r s : List Int) (p : PS) : MObj := macO r p.h s p.e p.n
def env64 : Env := fun f => match f with
  | 114 => some (orC c114b c114a)
  | 115 => some c115
  | _ => none
theorem env64_ok : EnvOk Try.prog env64 := by
  intro f c h
  unfold env64 at h
  split at h
  · simp only [Option.some.injEq] at h; subst h; exact m114
  · simp only [Option.some.injEq] at h; subst h; exact m115
  · cases h
def c64p : Ctr := fun args objs => match args, objs with
  | [.one .nilp, _], _ => some ⟨[], .tup [], [], []⟩
  | _, _ => none
def c64n : Ctr := fun args objs => match args, objs with
  | [.one (.ptr 0 0), .one .nils], [.own 0 [.ints .u64 r 5, .ints .u64 h 5, .ints .u8 s 16, .ints .u8 e 16, .c (.int .i64 n)]] => some ⟨[], .tup [], [(0, macO r h s e n)], []⟩
  | _, _ => none
def c64o : Ctr := fun args objs => match args, objs with
  | [.one (.ptr 0 0), .one (.sl 1 lo m 1)], [.own 0 [.ints .u64 r 5, .ints .u64 h 5, .ints .u8 s 16, .ints .u8 e 16, .c (.int .i64 n)], .own 1 [.strs l q]] => some ⟨[r.length = 5, h.length = 5, e.length = 16, 0 ≤ n, n < 16, l.length = q, lo + m ≤ q, q ≤ 4611686018427387904], .tup [], [(0, macP r s (wrote r ⟨h, e, n.toNat⟩ l lo m))], []⟩
  | _, _ => none
theorem m64o : Meets Try.prog 64 c64o := by
  refine meets_of_run tab_ok env64_ok mixed [] Try.func64 rfl Try.ntmps64 Try.call64 (fun t w => by simp [results, Try.results64, resV]) ?_
  intro args objs r hr hcs
  unfold c64o at hr
  split at hr
  · rename_i lo m r h s e n l q
    simp only [Option.some.injEq] at hr; subst hr
    obtain ⟨h1, h2, h3, h4, h5, h6, h7, h8, _⟩ := hcs
    refine ⟨rfl, ?_⟩
    conv => whnf
    obtain ⟨n, rfl⟩ : ∃ j : Nat, n = (j : Int) := ⟨_, (Int.toNat_of_nonneg h4).symm⟩
    have ho : PSok ⟨h, e, n⟩ := ⟨h2, h3, by show n < 16; omega⟩
    obtain ⟨a, a0, asn, ak, aE⟩ : ∃ a : Nat → PS, a 0 = ⟨h, e, n⟩ ∧ (∀ i, a (i + 1) = pushes r (a i) (bl (l.getD (lo + i) ByteArray.empty))) ∧ (∀ i, PSok (a i)) ∧ wrote r ⟨h, e, (n : Int).toNat⟩ l lo m = a m :=
      ⟨pushP r ⟨h, e, n⟩ l lo, rfl, fun _ => rfl, pushP_ok ho l lo, by rw [Int.toNat_natCast, pushP_flat l lo m (by omega)]; rfl⟩
    rw [aE]
    refine ⟨?_, { i : Nat // i ≤ m }, fun i => ⟨(.v (.one (.ptr 0 0)) :: .any :: .any :: .any :: .any :: .any :: .any :: .any :: .any :: .v (.one (.sl 1 lo m 1)) :: .v (.one (.int .i64 m)) :: .v (.one (.int .i64 i.1)) :: .any :: .any :: .any :: .any :: .any :: .any :: .any :: .any :: .any :: .any :: .any :: .any :: .any :: .any :: .any :: .any :: .any :: .any :: .any :: .any :: .any :: .any :: .any :: .any :: .any :: .any :: .any :: .any :: .any :: .any :: .any :: .any :: .any :: .any :: .any :: .any :: .any :: .any :: .any :: .any :: .any :: .any :: []), [macP r s (a i.1), .own 1 [.strs l q]]⟩, fun i => m - i.1, ⟨0, by omega⟩, ?_, fun _ => rfl, ?_⟩
    · repeat' apply And.intro
      all_goals first
        | exact True.intro
        | omega
        | decide +kernel
        | rfl
        | exact Nat.le_of_ble_eq_true rfl
        | (dsimp only; omega)
        | trace_state
    · refine ⟨[0, 1], [], rfl, ?_, ?_⟩
      · repeat' apply And.intro
        all_goals first
          | exact True.intro
          | rfl
          | exact Nat.le_refl _
          | decide +kernel
          | omega
          | trace_state
      · exact ⟨⟨rfl, rfl, rfl, rfl, rfl, by rw [a0], rfl, rfl, rfl, rfl, rfl, by rw [a0], rfl, ⟨rfl, by rw [a0]⟩, trivial⟩, ⟨rfl, rfl, rfl, trivial⟩, trivial⟩
    rintro ⟨i, hi⟩
    have hai := ak i
    show run tab env64 2 _ ⟨(.v (.one (.ptr 0 0)) :: .any :: .any :: .any :: .any :: .any :: .any :: .any :: .any :: .v (.one (.sl 1 lo m 1)) :: .v (.one (.int .i64 m)) :: .v (.one (.int .i64 i)) :: .any :: .any :: .any :: .any :: .any :: .any :: .any :: .any :: .any :: .any :: .any :: .any :: .any :: .any :: .any :: .any :: .any :: .any :: .any :: .any :: .any :: .any :: .any :: .any :: .any :: .any :: .any :: .any :: .any :: .any :: .any :: .any :: .any :: .any :: .any :: .any :: .any :: .any :: .any :: .any :: .any :: .any :: []), [macP r s (a i), .own 1 [.strs l q]]⟩ _ _
    refine run_K (P := fun K => run tab env64 2 _ ⟨_, _⟩ True K) ?_
    intro K hK
    conv => whnf
    refine ⟨trivial, fun hlt => ?_, fun hlt => ?_⟩
    · have hlt' : i < m := by simp at hlt; omega
      have e1 : isum .i64 (i : Int) 1 = ((i + 1 : Nat) : Int) := by rw [isum, i64_in] <;> omega
      have has := asn i
      obtain ⟨t, ht⟩ : ∃ t, t = l.getD (lo + i) ByteArray.empty := ⟨_, rfl⟩
      rw [← ht] at has
      obtain ⟨g, g0, gE, gk, gs⟩ : ∃ g : Nat → PS, g 0 = a i ∧ g t.size = a (i + 1) ∧ (∀ j, PSok (g j)) ∧ (∀ j k, j ≤ t.size → g (j + k) = pushes r (g j) (List.take k (List.drop j (bl t)))) :=
        ⟨fun j => pushes r (a i) ((bl t).take j), rfl, by rw [has]; dsimp only; rw [List.take_of_length_le (by rw [blP_length]; omega)], fun j => pushes_ok _ hai, fun j k _ => by rw [← pushes_app, ← List.take_add]⟩
      conv => whnf
      simp only [Int.toNat_natCast]
      rw [← ht]
      refine ⟨?_, { j : Nat // j ≤ t.size }, fun j => ⟨(.v (.one (.ptr 0 0)) :: .any :: .any :: .any :: .any :: .v (.one (.str (t.extract j.1 t.size))) :: .any :: .any :: .any :: .v (.one (.sl 1 lo m 1)) :: .v (.one (.int .i64 m)) :: .v (.one (.int .i64 i)) :: .any :: .any :: .any :: .any :: .any :: .any :: .any :: .any :: .any :: .any :: .any :: .any :: .any :: .any :: .any :: .any :: .any :: .any :: .any :: .any :: .any :: .any :: .any :: .any :: .any :: .any :: .any :: .any :: .any :: .any :: .any :: .any :: .any :: .any :: .any :: .any :: .any :: .any :: .any :: .any :: .any :: .any :: []), [macP r s (g j.1), .own 1 [.strs l q]]⟩, fun j => t.size - j.1, ⟨0, by omega⟩, ?_, fun _ => rfl, ?_⟩
      · repeat' apply And.intro
        all_goals first
          | exact True.intro
          | omega
          | decide +kernel
          | rfl
          | exact Nat.le_of_ble_eq_true rfl
          | (dsimp only; omega)
          | trace_state
      · refine ⟨[0, 1], [], rfl, ?_, ?_⟩
        · repeat' apply And.intro
          all_goals first
            | exact True.intro
            | rfl
            | (simp only [ByteArray.extract_zero_size]; rfl)
        · exact ⟨⟨rfl, rfl, rfl, rfl, rfl, by rw [g0], rfl, rfl, rfl, rfl, rfl, by rw [g0], rfl, ⟨rfl, by rw [g0]⟩, trivial⟩, ⟨rfl, rfl, rfl, trivial⟩, trivial⟩
      rintro ⟨j, hj⟩
      obtain ⟨gh, gl, gn⟩ := gk j
      have gs' := gs j
      show run tab env64 2 _ ⟨(.v (.one (.ptr 0 0)) :: .any :: .any :: .any :: .any :: .v (.one (.str (t.extract j t.size))) :: .any :: .any :: .any :: .v (.one (.sl 1 lo m 1)) :: .v (.one (.int .i64 m)) :: .v (.one (.int .i64 i)) :: .any :: .any :: .any :: .any :: .any :: .any :: .any :: .any :: .any :: .any :: .any :: .any :: .any :: .any :: .any :: .any :: .any :: .any :: .any :: .any :: .any :: .any :: .any :: .any :: .any :: .any :: .any :: .any :: .any :: .any :: .any :: .any :: .any :: .any :: .any :: .any :: .any :: .any :: .any :: .any :: .any :: .any :: []), [macP r s (g j), .own 1 [.strs l q]]⟩ _ _
      refine run_K (P := fun K => run tab env64 2 _ ⟨_, _⟩ True K) ?_
      intro K hK
      conv => whnf
      refine ⟨trivial, fun hl2 => ?_, fun hl2 => ?_⟩
      · rw [str_end] at hl2
        have hj' : j < t.size := by simpa using hl2
        have ez : (t.extract j t.size).size = t.size - j := by rw [ByteArray.size_extract, Nat.min_self]
        have eb := bl_tail t j
        conv => whnf
        simp only [Int.toNat_natCast, ez, eb]
        obtain ⟨k, hk⟩ : ∃ k, k = min (t.size - j) (16 - (g j).n) := ⟨_, rfl⟩
        rw [← hk]
        have e2 : isum .i64 ((g j).n : Int) (k : Int) = (((g j).n + k : Nat) : Int) := by rw [isum, i64_in] <;> omega
        have et := str_tail t j k (by omega)
        rw [ez] at et
        rw [e2, et]
        have hg1 := gs' k (by omega)
        have hln : (List.take k (List.drop j (bl t))).length = k := by rw [List.length_take, List.length_drop, blP_length]; omega
        refine ⟨?_, fun hg => ?_, fun hg => ?_⟩
        · repeat' apply And.intro
          all_goals first
            | exact True.intro
            | omega
            | decide +kernel
            | rfl
            | exact Nat.le_of_ble_eq_true rfl
            | (dsimp only; omega)
            | trace_state
        · have hg' : (g j).n + k = 16 := by simp at hg; omega
          have hgf := hg1.trans (pushes_full (List.take k (List.drop j (bl t))) ⟨gh, gl, gn⟩ (by rw [hln]; exact hg'))
          have hsl : (splI (g j).e (g j).n (List.take k (List.drop j (bl t)))).length = 16 := by rw [splI_length (by rw [hln, gl]; omega), gl]
          conv => whnf
          subst hK
          change _ ∧ _
          refine ⟨?_, ⟨j + k, by omega⟩, by show t.size - (j + k) < t.size - j; omega, [0, 1], [], rfl, ?_, ?_⟩
          · repeat' apply And.intro
            all_goals first
              | exact True.intro
              | omega
              | decide +kernel
              | rfl
              | exact Nat.le_of_ble_eq_true rfl
              | (dsimp only; omega)
              | trace_state
          · repeat' apply And.intro
            all_goals first
              | exact True.intro
              | rfl
              | exact Nat.le_refl _
              | decide +kernel
              | omega
              | trace_state
          · refine ⟨⟨rfl, rfl, rfl, rfl, rfl, ?_, rfl, rfl, rfl, rfl, rfl, ?_, rfl, ⟨rfl, ?_⟩, trivial⟩, ⟨rfl, rfl, rfl, trivial⟩, trivial⟩
            · rw [show Int.toNat 0 = 0 from rfl]
              have hh := congrArg PS.h hgf
              dsimp only at hh ⊢
              exact hh.symm
            · have hh := congrArg PS.e hgf
              dsimp only at hh ⊢
              exact hh.symm
            · have hh := congrArg PS.n hgf
              dsimp only at hh ⊢
              rw [hh]; rfl
        · have hg' : (g j).n + k < 16 := by simp at hg; omega
          have hgf := hg1.trans (pushes_few (List.take k (List.drop j (bl t))) ⟨gh, gl, gn⟩ (by rw [hln]; exact hg'))
          rw [hln] at hgf
          conv => whnf
          subst hK
          change _ ∧ _
          refine ⟨?_, ⟨j + k, by omega⟩, by show t.size - (j + k) < t.size - j; omega, [0, 1], [], rfl, ?_, ?_⟩
          · repeat' apply And.intro
            all_goals first
              | exact True.intro
              | omega
              | decide +kernel
              | rfl
              | exact Nat.le_of_ble_eq_true rfl
              | (dsimp only; omega)
              | trace_state
          · repeat' apply And.intro
            all_goals first
              | exact True.intro
              | rfl
              | exact Nat.le_refl _
              | decide +kernel
              | omega
              | trace_state
          · exact ⟨⟨rfl, rfl, rfl, rfl, rfl, by rw [hgf], rfl, rfl, rfl, rfl, rfl, by rw [hgf], rfl, ⟨rfl, by rw [hgf]⟩, trivial⟩, ⟨rfl, rfl, rfl, trivial⟩, trivial⟩
      · rw [str_end] at hl2
        have hj' : j = t.size := by simp at hl2; omega
        subst hj'
        conv => whnf
        subst hK
        conv => whnf
        rw [e1, gE]
        subst hK
        change _ ∧ _
        refine ⟨trivial, ⟨i + 1, by omega⟩, by show m - (i + 1) < m - i; omega, [0, 1], [], rfl, ?_, ?_⟩
        · repeat' apply And.intro
          all_goals first
            | exact True.intro
            | rfl
            | exact Nat.le_refl _
            | decide +kernel
            | omega
            | trace_state
        · exact ⟨⟨rfl, rfl, rfl, rfl, rfl, rfl, rfl, rfl, rfl, rfl, rfl, rfl, rfl, ⟨rfl, rfl⟩, trivial⟩, ⟨rfl, rfl, rfl, trivial⟩, trivial⟩
    · have hlt' : i = m := by simp at hlt; omega
      subst hlt'
      conv => whnf
      subst hK
      conv => whnf
      refine ⟨?_, rfl, [0, 1], [], rfl, ⟨trivial, trivial⟩, ⟨rfl, rfl, rfl, rfl, rfl, rfl, rfl, rfl, rfl, rfl, rfl, rfl, rfl, ⟨rfl, rfl⟩, trivial⟩, ⟨rfl, rfl, rfl, trivial⟩, trivial⟩
      repeat' apply And.intro
      all_goals first
        | exact True.intro
        | omega
        | decide +kernel
        | rfl
        | exact Nat.le_of_ble_eq_true rfl
        | (dsimp only; omega)
        | trace_state
  · cases hr
def c64v : Ctr := fun args objs => match args, objs with
  | [.one (.ptr 0 0), .one (.sl 1 lo m 1)], [.own 0 [.ints .u64 r 5, .ints .u64 h 5, .ints .u8 s 16, .ints .u8 e 16, .c (.int .i64 n)], .view 1 [.strs l q]] => some ⟨[r.length = 5, h.length = 5, e.length = 16, 0 ≤ n, n < 16, l.length = q, lo + m ≤ q, q ≤ 4611686018427387904], .tup [], [(0, macP r s (wrote r ⟨h, e, n.toNat⟩ l lo m))], []⟩
  | _, _ => none
theorem m64v : Meets Try.prog 64 c64v := by
  refine meets_of_run tab_ok env64_ok mixed [] Try.func64 rfl Try.ntmps64 Try.call64 (fun t w => by simp [results, Try.results64, resV]) ?_
  intro args objs r hr hcs
  unfold c64v at hr
  split at hr
  · rename_i lo m r h s e n l q
    simp only [Option.some.injEq] at hr; subst hr
    obtain ⟨h1, h2, h3, h4, h5, h6, h7, h8, _⟩ := hcs
    refine ⟨rfl, ?_⟩
    conv => whnf
    obtain ⟨n, rfl⟩ : ∃ j : Nat, n = (j : Int) := ⟨_, (Int.toNat_of_nonneg h4).symm⟩
    have ho : PSok ⟨h, e, n⟩ := ⟨h2, h3, by show n < 16; omega⟩
    obtain ⟨a, a0, asn, ak, aE⟩ : ∃ a : Nat → PS, a 0 = ⟨h, e, n⟩ ∧ (∀ i, a (i + 1) = pushes r (a i) (bl (l.getD (lo + i) ByteArray.empty))) ∧ (∀ i, PSok (a i)) ∧ wrote r ⟨h, e, (n : Int).toNat⟩ l lo m = a m :=
      ⟨pushP r ⟨h, e, n⟩ l lo, rfl, fun _ => rfl, pushP_ok ho l lo, by rw [Int.toNat_natCast, pushP_flat l lo m (by omega)]; rfl⟩
    rw [aE]
    refine ⟨?_, { i : Nat // i ≤ m }, fun i => ⟨(.v (.one (.ptr 0 0)) :: .any :: .any :: .any :: .any :: .any :: .any :: .any :: .any :: .v (.one (.sl 1 lo m 1)) :: .v (.one (.int .i64 m)) :: .v (.one (.int .i64 i.1)) :: .any :: .any :: .any :: .any :: .any :: .any :: .any :: .any :: .any :: .any :: .any :: .any :: .any :: .any :: .any :: .any :: .any :: .any :: .any :: .any :: .any :: .any :: .any :: .any :: .any :: .any :: .any :: .any :: .any :: .any :: .any :: .any :: .any :: .any :: .any :: .any :: .any :: .any :: .any :: .any :: .any :: .any :: []), [macP r s (a i.1), .view 1 [.strs l q]]⟩, fun i => m - i.1, ⟨0, by omega⟩, ?_, fun _ => rfl, ?_⟩
    · repeat' apply And.intro
      all_goals first
        | exact True.intro
        | omega
        | decide +kernel
        | rfl
        | exact Nat.le_of_ble_eq_true rfl
        | (dsimp only; omega)
        | trace_state
    · refine ⟨[0, 1], [], rfl, ?_, ?_⟩
      · repeat' apply And.intro
        all_goals first
          | exact True.intro
          | rfl
          | exact Nat.le_refl _
          | decide +kernel
          | omega
          | trace_state
      · exact ⟨⟨rfl, rfl, rfl, rfl, rfl, by rw [a0], rfl, rfl, rfl, rfl, rfl, by rw [a0], rfl, ⟨rfl, by rw [a0]⟩, trivial⟩, ⟨rfl, rfl, rfl, trivial⟩, trivial⟩
    rintro ⟨i, hi⟩
    have hai := ak i
    show run tab env64 2 _ ⟨(.v (.one (.ptr 0 0)) :: .any :: .any :: .any :: .any :: .any :: .any :: .any :: .any :: .v (.one (.sl 1 lo m 1)) :: .v (.one (.int .i64 m)) :: .v (.one (.int .i64 i)) :: .any :: .any :: .any :: .any :: .any :: .any :: .any :: .any :: .any :: .any :: .any :: .any :: .any :: .any :: .any :: .any :: .any :: .any :: .any :: .any :: .any :: .any :: .any :: .any :: .any :: .any :: .any :: .any :: .any :: .any :: .any :: .any :: .any :: .any :: .any :: .any :: .any :: .any :: .any :: .any :: .any :: .any :: []), [macP r s (a i), .view 1 [.strs l q]]⟩ _ _
    refine run_K (P := fun K => run tab env64 2 _ ⟨_, _⟩ True K) ?_
    intro K hK
    conv => whnf
    refine ⟨trivial, fun hlt => ?_, fun hlt => ?_⟩
    · have hlt' : i < m := by simp at hlt; omega
      have e1 : isum .i64 (i : Int) 1 = ((i + 1 : Nat) : Int) := by rw [isum, i64_in] <;> omega
      have has := asn i
      obtain ⟨t, ht⟩ : ∃ t, t = l.getD (lo + i) ByteArray.empty := ⟨_, rfl⟩
      rw [← ht] at has
      obtain ⟨g, g0, gE, gk, gs⟩ : ∃ g : Nat → PS, g 0 = a i ∧ g t.size = a (i + 1) ∧ (∀ j, PSok (g j)) ∧ (∀ j k, j ≤ t.size → g (j + k) = pushes r (g j) (List.take k (List.drop j (bl t)))) :=
        ⟨fun j => pushes r (a i) ((bl t).take j), rfl, by rw [has]; dsimp only; rw [List.take_of_length_le (by rw [blP_length]; omega)], fun j => pushes_ok _ hai, fun j k _ => by rw [← pushes_app, ← List.take_add]⟩
      conv => whnf
      simp only [Int.toNat_natCast]
      rw [← ht]
      refine ⟨?_, { j : Nat // j ≤ t.size }, fun j => ⟨(.v (.one (.ptr 0 0)) :: .any :: .any :: .any :: .any :: .v (.one (.str (t.extract j.1 t.size))) :: .any :: .any :: .any :: .v (.one (.sl 1 lo m 1)) :: .v (.one (.int .i64 m)) :: .v (.one (.int .i64 i)) :: .any :: .any :: .any :: .any :: .any :: .any :: .any :: .any :: .any :: .any :: .any :: .any :: .any :: .any :: .any :: .any :: .any :: .any :: .any :: .any :: .any :: .any :: .any :: .any :: .any :: .any :: .any :: .any :: .any :: .any :: .any :: .any :: .any :: .any :: .any :: .any :: .any :: .any :: .any :: .any :: .any :: .any :: []), [macP r s (g j.1), .view 1 [.strs l q]]⟩, fun j => t.size - j.1, ⟨0, by omega⟩, ?_, fun _ => rfl, ?_⟩
      · repeat' apply And.intro
        all_goals first
          | exact True.intro
          | omega
          | decide +kernel
          | rfl
          | exact Nat.le_of_ble_eq_true rfl
          | (dsimp only; omega)
          | trace_state
      · refine ⟨[0, 1], [], rfl, ?_, ?_⟩
        · repeat' apply And.intro
          all_goals first
            | exact True.intro
            | rfl
            | (simp only [ByteArray.extract_zero_size]; rfl)
        · exact ⟨⟨rfl, rfl, rfl, rfl, rfl, by rw [g0], rfl, rfl, rfl, rfl, rfl, by rw [g0], rfl, ⟨rfl, by rw [g0]⟩, trivial⟩, ⟨rfl, rfl, rfl, trivial⟩, trivial⟩
      rintro ⟨j, hj⟩
      obtain ⟨gh, gl, gn⟩ := gk j
      have gs' := gs j
      show run tab env64 2 _ ⟨(.v (.one (.ptr 0 0)) :: .any :: .any :: .any :: .any :: .v (.one (.str (t.extract j t.size))) :: .any :: .any :: .any :: .v (.one (.sl 1 lo m 1)) :: .v (.one (.int .i64 m)) :: .v (.one (.int .i64 i)) :: .any :: .any :: .any :: .any :: .any :: .any :: .any :: .any :: .any :: .any :: .any :: .any :: .any :: .any :: .any :: .any :: .any :: .any :: .any :: .any :: .any :: .any :: .any :: .any :: .any :: .any :: .any :: .any :: .any :: .any :: .any :: .any :: .any :: .any :: .any :: .any :: .any :: .any :: .any :: .any :: .any :: .any :: []), [macP r s (g j), .view 1 [.strs l q]]⟩ _ _
      refine run_K (P := fun K => run tab env64 2 _ ⟨_, _⟩ True K) ?_
      intro K hK
      conv => whnf
      refine ⟨trivial, fun hl2 => ?_, fun hl2 => ?_⟩
      · rw [str_end] at hl2
        have hj' : j < t.size := by simpa using hl2
        have ez : (t.extract j t.size).size = t.size - j := by rw [ByteArray.size_extract, Nat.min_self]
        have eb := bl_tail t j
        conv => whnf
        simp only [Int.toNat_natCast, ez, eb]
        obtain ⟨k, hk⟩ : ∃ k, k = min (t.size - j) (16 - (g j).n) := ⟨_, rfl⟩
        rw [← hk]
        have e2 : isum .i64 ((g j).n : Int) (k : Int) = (((g j).n + k : Nat) : Int) := by rw [isum, i64_in] <;> omega
        have et := str_tail t j k (by omega)
        rw [ez] at et
        rw [e2, et]
        have hg1 := gs' k (by omega)
        have hln : (List.take k (List.drop j (bl t))).length = k := by rw [List.length_take, List.length_drop, blP_length]; omega
        refine ⟨?_, fun hg => ?_, fun hg => ?_⟩
        · repeat' apply And.intro
          all_goals first
            | exact True.intro
            | omega
            | decide +kernel
            | rfl
            | exact Nat.le_of_ble_eq_true rfl
            | (dsimp only; omega)
            | trace_state
        · have hg' : (g j).n + k = 16 := by simp at hg; omega
          have hgf := hg1.trans (pushes_full (List.take k (List.drop j (bl t))) ⟨gh, gl, gn⟩ (by rw [hln]; exact hg'))
          have hsl : (splI (g j).e (g j).n (List.take k (List.drop j (bl t)))).length = 16 := by rw [splI_length (by rw [hln, gl]; omega), gl]
          conv => whnf
          subst hK
          change _ ∧ _
          refine ⟨?_, ⟨j + k, by omega⟩, by show t.size - (j + k) < t.size - j; omega, [0, 1], [], rfl, ?_, ?_⟩
          · repeat' apply And.intro
            all_goals first
              | exact True.intro
              | omega
              | decide +kernel
              | rfl
              | exact Nat.le_of_ble_eq_true rfl
              | (dsimp only; omega)
              | trace_state
          · repeat' apply And.intro
            all_goals first
              | exact True.intro
              | rfl
              | exact Nat.le_refl _
              | decide +kernel
              | omega
              | trace_state
          · refine ⟨⟨rfl, rfl, rfl, rfl, rfl, ?_, rfl, rfl, rfl, rfl, rfl, ?_, rfl, ⟨rfl, ?_⟩, trivial⟩, ⟨rfl, rfl, rfl, trivial⟩, trivial⟩
            · rw [show Int.toNat 0 = 0 from rfl]
              have hh := congrArg PS.h hgf
              dsimp only at hh ⊢
              exact hh.symm
            · have hh := congrArg PS.e hgf
              dsimp only at hh ⊢
              exact hh.symm
            · have hh := congrArg PS.n hgf
              dsimp only at hh ⊢
              rw [hh]; rfl
        · have hg' : (g j).n + k < 16 := by simp at hg; omega
          have hgf := hg1.trans (pushes_few (List.take k (List.drop j (bl t))) ⟨gh, gl, gn⟩ (by rw [hln]; exact hg'))
          rw [hln] at hgf
          conv => whnf
          subst hK
          change _ ∧ _
          refine ⟨?_, ⟨j + k, by omega⟩, by show t.size - (j + k) < t.size - j; omega, [0, 1], [], rfl, ?_, ?_⟩
          · repeat' apply And.intro
            all_goals first
              | exact True.intro
              | omega
              | decide +kernel
              | rfl
              | exact Nat.le_of_ble_eq_true rfl
              | (dsimp only; omega)
              | trace_state
          · repeat' apply And.intro
            all_goals first
              | exact True.intro
              | rfl
              | exact Nat.le_refl _
              | decide +kernel
              | omega
              | trace_state
          · exact ⟨⟨rfl, rfl, rfl, rfl, rfl, by rw [hgf], rfl, rfl, rfl, rfl, rfl, by rw [hgf], rfl, ⟨rfl, by rw [hgf]⟩, trivial⟩, ⟨rfl, rfl, rfl, trivial⟩, trivial⟩
      · rw [str_end] at hl2
        have hj' : j = t.size := by simp at hl2; omega
        subst hj'
        conv => whnf
        subst hK
        conv => whnf
        rw [e1, gE]
        subst hK
        change _ ∧ _
        refine ⟨trivial, ⟨i + 1, by omega⟩, by show m - (i + 1) < m - i; omega, [0, 1], [], rfl, ?_, ?_⟩
        · repeat' apply And.intro
          all_goals first
            | exact True.intro
            | rfl
            | exact Nat.le_refl _
            | decide +kernel
            | omega
            | trace_state
        · exact ⟨⟨rfl, rfl, rfl, rfl, rfl, rfl, rfl, rfl, rfl, rfl, rfl, rfl, rfl, ⟨rfl, rfl⟩, trivial⟩, ⟨rfl, rfl, rfl, trivial⟩, trivial⟩
    · have hlt' : i = m := by simp at hlt; omega
      subst hlt'
      conv => whnf
      subst hK
      conv => whnf
      refine ⟨?_, rfl, [0, 1], [], rfl, ⟨trivial, trivial⟩, ⟨rfl, rfl, rfl, rfl, rfl, rfl, rfl, rfl, rfl, rfl, rfl, rfl, rfl, ⟨rfl, rfl⟩, trivial⟩, ⟨rfl, rfl, rfl, trivial⟩, trivial⟩
      repeat' apply And.intro
      all_goals first
        | exact True.intro
        | omega
        | decide +kernel
        | rfl
        | exact Nat.le_of_ble_eq_true rfl
        | (dsimp only; omega)
        | trace_state
  · cases hr
end Go.Proofs.Ytjbagkimpmpfgaa

/- Poly: Sum, walked. -/
namespace Go.Proofs.Ytjbagkimpmpfgaa
open Go Go.Mx
set_option maxRecDepth 100000
set_option maxHeartbeats 4000000

/-- What lies in the block of the rest. -/
def restB (e : List Int) (n : Nat) : List Int := splI (e.set n 1) (n + 1) (List.replicate (16 - (n + 1)) 0)
def lastH (r : List Int) (p : PS) : List Int := if p.n > 0 then blockL r p.h (splitL (restB p.e p.n) 0 0) else p.h
def overH (h : List Int) : List Int := carryN (h.set 0 (isum .u64 (h.getD 0 0) 5)) 4
def leastH (h : List Int) : List Int := if shrI .u64 ((overH h).getD 4 0) 26 > 0 then (overH h).set 4 (bandI .u64 ((overH h).getD 4 0) 67108863) else h
def fourH (h : List Int) : List Int :=
  [borI .u64 (h.getD 0 0) (shlI .u64 (h.getD 1 0) 26), borI .u64 (shrI .u64 (h.getD 1 0) 6) (shlI .u64 (h.getD 2 0) 20), borI .u64 (shrI .u64 (h.getD 2 0) 12) (shlI .u64 (h.getD 3 0) 14), borI .u64 (shrI .u64 (h.getD 3 0) 18) (shlI .u64 (h.getD 4 0) 8)]
def sumC (w s : List Int) (c : Int) (i : Nat) : Int := isum .u64 c (isum .u64 (bandI .u64 (shrI .u64 (w.getD (i / 4) 0) ((8 * (i % 4) : Nat) : Int)) 255) (conv .u64 (s.getD i 0)))
def sumN (w s : List Int) : Nat → Int × List Int
  | 0 => (0, List.replicate 16 0)
  | i + 1 => (shrI .u64 (sumC w s (sumN w s i).1 i) 8, (sumN w s i).2.set i (conv .u8 (sumC w s (sumN w s i).1 i)))
theorem sumN_len (w s : List Int) : ∀ i, (sumN w s i).2.length = 16
  | 0 => by simp [sumN]
  | i + 1 => by rw [sumN]; dsimp only; rw [List.length_set, sumN_len]
def tagL (r s : List Int) (p : PS) : List Int := (sumN (fourH (leastH (carryL (carryL (lastH r p))))) s 16).2
theorem lastH_len {r : List Int} {p : PS} (h : PSok p) : (lastH r p).length = 5 := by
  unfold lastH
  split
  · exact blockL_len _ _ _
  · exact h.1
theorem overH_len {h : List Int} (hl : h.length = 5) : (overH h).length = 5 := by
  unfold overH
  rw [carryN_len, List.length_set, hl]
theorem leastH_len {h : List Int} (hl : h.length = 5) : (leastH h).length = 5 := by
  unfold leastH
  split
  · rw [List.length_set, overH_len hl]
  · exact hl
def env65 : Env := fun f => match f with
  | 114 => some (orC c114b c114a)
  | 115 => some c115
  | 116 => some c116
  | _ => none
theorem env65_ok : EnvOk Try.prog env65 := by
  intro f c h
  unfold env65 at h
  split at h
  · simp only [Option.some.injEq] at h; subst h; exact m114
  · simp only [Option.some.injEq] at h; subst h; exact m115
  · simp only [Option.some.injEq] at h; subst h; exact m116
  · cases h
def c65 : Ctr := fun args objs => match args, objs with
  | [.one (.ptr 0 0)], [.own 0 [.ints .u64 r 5, .ints .u64 h 5, .ints .u8 s 16, .ints .u8 e 16, .c (.int .i64 n)]] => some ⟨[r.length = 5, h.length = 5, s.length = 16, e.length = 16, 0 ≤ n, n < 16], .v (.agg [.ints .u8 (tagL r s ⟨h, e, n.toNat⟩) 16]), [], []⟩
  | _, _ => none
theorem m65 : Meets Try.prog 65 c65 := by
  refine meets_of_run2 tab_ok env65_ok mixed [.cell 2 32] Try.func65 rfl Try.ntmps65 Try.call65 (fun t w => by simp [results, Try.results65, resS, rv1]) ?_
  intro args objs r hr hcs
  unfold c65 at hr
  split at hr
  · rename_i r h s e n
    simp only [Option.some.injEq] at hr; subst hr
    obtain ⟨h1, h2, h3, h4, h5, h6, _⟩ := hcs
    refine ⟨rfl, ?_⟩
    conv => whnf
    obtain ⟨n, rfl⟩ : ∃ j : Nat, n = (j : Int) := ⟨_, (Int.toNat_of_nonneg h5).symm⟩
    have ho : PSok ⟨h, e, n⟩ := ⟨h2, h4, by show n < 16; omega⟩
    obtain ⟨T, hT, hTl⟩ : ∃ T, T = lastH r ⟨h, e, n⟩ ∧ T.length = 5 := ⟨_, rfl, lastH_len ho⟩
    have hE : tagL r s ⟨h, e, (n : Int).toNat⟩ = (sumN (fourH (leastH (carryL (carryL T)))) s 16).2 := by rw [Int.toNat_natCast, hT]; rfl
    obtain ⟨Q, hQ, hQl⟩ : ∃ Q, Q = carryL (carryL T) ∧ Q.length = 5 := ⟨_, rfl, carryL_len (carryL_len hTl)⟩
    rw [← hQ] at hE
    obtain ⟨W, hW, hWl⟩ : ∃ W, W = fourH (leastH Q) ∧ W.length = 4 := ⟨_, rfl, rfl⟩
    rw [← hW] at hE
    rw [hE]
    obtain ⟨a, a0, asn, al, aE⟩ : ∃ c : Nat → List Int, c 0 = Q.set 0 (isum .u64 (Q.getD 0 0) 5) ∧ (∀ i, c (i + 1) = carryS (c i) i) ∧ (∀ i, (c i).length = 5) ∧ overH Q = c 4 := ⟨carryN (Q.set 0 (isum .u64 (Q.getD 0 0) 5)), rfl, fun _ => rfl, fun i => (carryN_len _ i).trans (by rw [List.length_set, hQl]), rfl⟩
    obtain ⟨w, w0, wsn, wl, wE⟩ : ∃ w : Nat → Int × List Int, w 0 = (0, List.replicate 16 0) ∧ (∀ i, w (i + 1) = (shrI .u64 (sumC W s (w i).1 i) 8, (w i).2.set i (conv .u8 (sumC W s (w i).1 i)))) ∧ (∀ i, (w i).2.length = 16) ∧ (sumN W s 16).2 = (w 16).2 := ⟨sumN W s, rfl, fun _ => rfl, sumN_len W s, rfl⟩
    rw [wE]
    have e1 : isum .i64 (n : Int) 1 = ((n + 1 : Nat) : Int) := by rw [isum, i64_in] <;> omega
    refine ⟨?_, fun hg => ?_, fun hg => ?_⟩
    · repeat' apply And.intro
      all_goals first
        | exact True.intro
        | omega
        | decide +kernel
        | rfl
        | exact Nat.le_of_ble_eq_true rfl
        | (dsimp only; omega)
        | trace_state
    · have hn : n > 0 := by simp at hg; omega
      have eT : blockL r h (splitL (splI (e.set n 1) (n + 1) (List.replicate (16 - (n + 1)) 0)) 0 0) = T := by rw [hT]; unfold lastH restB; rw [if_pos hn]
      have h114 : (splitL (splI (e.set n 1) (n + 1) (List.replicate (16 - (n + 1)) 0)) 0 0).length = 5 := rfl
      conv => whnf
      rw [e1]
      simp only [Int.toNat_natCast, Int.toNat_zero, eT]
      rw [← hQ]
      obtain ⟨H2, hH2⟩ : ∃ H2, H2 = T := ⟨_, rfl⟩
      obtain ⟨E2, hE2⟩ : ∃ E2, E2 = splI (e.set n 1) (n + 1) (List.replicate (16 - (n + 1)) 0) := ⟨_, rfl⟩
      refine ⟨?_, { i : Nat // i ≤ 4 }, fun i => ⟨(.v (.one (.ptr 0 0)) :: .any :: .v (.one (.ptr 1 0)) :: .v (.one (.ptr 2 0)) :: .v (.one (.ptr 3 0)) :: .v (.one (.ptr 4 0)) :: .any :: .any :: .any :: .any :: .any :: .any :: .any :: .any :: .any :: .any :: .any :: .any :: .any :: .any :: .any :: .any :: .any :: .any :: .any :: .any :: .any :: .any :: .any :: .any :: .any :: .any :: .any :: .any :: .any :: .any :: .any :: .any :: .any :: .any :: .any :: .any :: .v (.one (.int .i64 i.1)) :: .any :: .any :: .any :: .any :: .any :: .any :: .any :: .any :: .any :: .any :: .any :: .any :: .any :: .any :: .any :: .any :: .any :: .any :: .any :: .any :: .any :: .any :: .any :: .any :: .any :: .any :: .any :: .any :: .any :: .any :: .any :: .any :: .any :: .any :: .any :: .any :: .any :: .any :: .any :: .any :: .any :: .any :: .any :: .any :: .any :: .any :: .any :: .any :: .any :: .any :: .any :: .any :: .any :: .any :: .any :: .any :: .any :: .any :: .any :: .any :: .any :: .any :: .any :: .any :: .any :: .any :: .any :: .any :: .any :: .any :: .any :: .any :: .any :: .any :: .any :: .any :: .any :: .any :: .any :: .any :: .any :: .any :: .any :: []), [macO r h s e n, .own 0 [.ints .u8 (List.replicate 16 0) 16], macO r H2 s E2 n, .own 0 [.ints .u64 Q 5], .own 0 [.ints .u64 (a i.1) 5]]⟩, fun i => 4 - i.1, ⟨0, by omega⟩, ?_, fun _ => rfl, ?_⟩
      · repeat' apply And.intro
        all_goals first
          | exact True.intro
          | (rw [carryL_len]; omega)
          | exact carryL_len hTl
          | exact carryL_len h2
          | exact splI_len16
          | omega
          | decide +kernel
          | rfl
          | exact Nat.le_of_ble_eq_true rfl
          | (dsimp only; omega)
          | trace_state
      · refine ⟨[0, 1, 2, 3, 4], [], rfl, ?_, ?_⟩
        · repeat' apply And.intro
          all_goals first
            | exact True.intro
            | rfl
            | exact Nat.le_refl _
            | decide +kernel
            | omega
            | trace_state
        · exact ⟨⟨rfl, rfl, rfl, rfl, rfl, rfl, rfl, rfl, rfl, rfl, rfl, rfl, rfl, ⟨rfl, rfl⟩, trivial⟩, ⟨rfl, rfl, rfl, rfl, trivial⟩, ⟨rfl, rfl, rfl, rfl, rfl, hH2.symm, rfl, rfl, rfl, rfl, rfl, hE2.symm, rfl, ⟨rfl, rfl⟩, trivial⟩, ⟨rfl, rfl, rfl, rfl, trivial⟩, ⟨rfl, rfl, a0.symm, rfl, trivial⟩, trivial⟩
      rintro ⟨i, hi⟩
      have hal := al i
      show run tab env65 1 _ ⟨(.v (.one (.ptr 0 0)) :: .any :: .v (.one (.ptr 1 0)) :: .v (.one (.ptr 2 0)) :: .v (.one (.ptr 3 0)) :: .v (.one (.ptr 4 0)) :: .any :: .any :: .any :: .any :: .any :: .any :: .any :: .any :: .any :: .any :: .any :: .any :: .any :: .any :: .any :: .any :: .any :: .any :: .any :: .any :: .any :: .any :: .any :: .any :: .any :: .any :: .any :: .any :: .any :: .any :: .any :: .any :: .any :: .any :: .any :: .any :: .v (.one (.int .i64 i)) :: .any :: .any :: .any :: .any :: .any :: .any :: .any :: .any :: .any :: .any :: .any :: .any :: .any :: .any :: .any :: .any :: .any :: .any :: .any :: .any :: .any :: .any :: .any :: .any :: .any :: .any :: .any :: .any :: .any :: .any :: .any :: .any :: .any :: .any :: .any :: .any :: .any :: .any :: .any :: .any :: .any :: .any :: .any :: .any :: .any :: .any :: .any :: .any :: .any :: .any :: .any :: .any :: .any :: .any :: .any :: .any :: .any :: .any :: .any :: .any :: .any :: .any :: .any :: .any :: .any :: .any :: .any :: .any :: .any :: .any :: .any :: .any :: .any :: .any :: .any :: .any :: .any :: .any :: .any :: .any :: .any :: .any :: .any :: []), [macO r h s e n, .own 0 [.ints .u8 (List.replicate 16 0) 16], macO r H2 s E2 n, .own 0 [.ints .u64 Q 5], .own 0 [.ints .u64 (a i) 5]]⟩ _ _
      refine run_K (P := fun K => run tab env65 1 _ ⟨_, _⟩ True K) ?_
      intro K hK
      conv => whnf
      refine ⟨trivial, fun hlt => ?_, fun hlt => ?_⟩
      · have hlt' : i < 4 := by simp at hlt; omega
        have e1 : isum .i64 (i : Int) 1 = ((i + 1 : Nat) : Int) := by rw [isum, i64_in] <;> omega
        conv => whnf
        rw [e1]
        subst hK
        change _ ∧ _
        refine ⟨?_, ⟨i + 1, by omega⟩, by show 4 - (i + 1) < 4 - i; omega, [0, 1, 2, 3, 4], [], rfl, ?_, ?_⟩
        · repeat' apply And.intro
          all_goals first
            | exact True.intro
            | (rw [Int.toNat_natCast]; omega)
            | omega
            | decide +kernel
            | rfl
            | exact Nat.le_of_ble_eq_true rfl
            | (dsimp only; omega)
            | trace_state
        · repeat' apply And.intro
          all_goals first
            | exact True.intro
            | rfl
            | exact Nat.le_refl _
            | decide +kernel
            | omega
            | trace_state
        · refine ⟨⟨rfl, rfl, rfl, rfl, rfl, rfl, rfl, rfl, rfl, rfl, rfl, rfl, rfl, ⟨rfl, rfl⟩, trivial⟩, ⟨rfl, rfl, rfl, rfl, trivial⟩, ⟨rfl, rfl, rfl, rfl, rfl, rfl, rfl, rfl, rfl, rfl, rfl, rfl, rfl, ⟨rfl, rfl⟩, trivial⟩, ⟨rfl, rfl, rfl, rfl, trivial⟩, ⟨rfl, rfl, ?_, rfl, trivial⟩, trivial⟩
          simp only [Int.toNat_natCast, Nat.zero_add]
          rw [asn]; rfl
      · have hlt' : i = 4 := by simp at hlt; omega
        subst hlt'
        conv => whnf
        subst hK
        conv => whnf
        refine ⟨?_, fun hg => ?_, fun hg => ?_⟩
        · repeat' apply And.intro
          all_goals first
            | exact True.intro
            | omega
            | decide +kernel
            | rfl
            | exact Nat.le_of_ble_eq_true rfl
            | (dsimp only; omega)
            | trace_state
        · have hg' : shrI .u64 ((a 4).getD 4 0) 26 > 0 := by simpa using hg
          have hWa : W = fourH ((a 4).set 4 (bandI .u64 ((a 4).getD 4 0) 67108863)) := by rw [hW]; unfold leastH; rw [aE, if_pos hg']
          conv => whnf
          refine ⟨?_, { i : Nat // i ≤ 16 }, fun i => ⟨(.v (.one (.ptr 0 0)) :: .any :: .v (.one (.ptr 1 0)) :: .v (.one (.ptr 2 0)) :: .any :: .any :: .any :: .v (.one (.ptr 5 0)) :: .v (.one (.ptr 6 0)) :: .v (.one (.int .u64 (w i.1).1)) :: .any :: .any :: .any :: .any :: .any :: .any :: .any :: .any :: .any :: .any :: .any :: .any :: .any :: .any :: .any :: .any :: .any :: .any :: .any :: .any :: .any :: .any :: .any :: .any :: .any :: .any :: .any :: .any :: .any :: .any :: .any :: .any :: .any :: .any :: .any :: .any :: .any :: .any :: .any :: .any :: .any :: .any :: .any :: .any :: .any :: .any :: .any :: .any :: .any :: .any :: .any :: .any :: .any :: .any :: .any :: .any :: .any :: .any :: .any :: .any :: .any :: .any :: .any :: .any :: .any :: .any :: .any :: .any :: .any :: .any :: .any :: .any :: .any :: .any :: .any :: .any :: .any :: .any :: .any :: .any :: .any :: .any :: .any :: .any :: .any :: .any :: .any :: .any :: .v (.one (.int .i64 i.1)) :: .any :: .any :: .any :: .any :: .any :: .any :: .any :: .any :: .any :: .any :: .any :: .any :: .any :: .any :: .any :: .any :: .any :: .any :: .any :: .any :: .any :: .any :: .any :: .any :: .any :: .any :: .any :: []), [macO r h s e n, .own 0 [.ints .u8 (List.replicate 16 0) 16], macO r H2 s E2 n, .gone, .gone, .own 0 [.ints .u64 W 4], .own 0 [.ints .u8 (w i.1).2 16]]⟩, fun i => 16 - i.1, ⟨0, by omega⟩, ?_, fun _ => rfl, ?_⟩
          · repeat' apply And.intro
            all_goals first
              | exact True.intro
              | omega
              | decide +kernel
              | rfl
              | exact Nat.le_of_ble_eq_true rfl
              | (dsimp only; omega)
              | trace_state
          · refine ⟨[0, 1, 2, 3, 4, 5, 6], [], rfl, ?_, ?_⟩
            · repeat' apply And.intro
              all_goals first
                | exact True.intro
                | rfl
                | (simp only [w0])
            · refine ⟨⟨rfl, rfl, rfl, rfl, rfl, rfl, rfl, rfl, rfl, rfl, rfl, rfl, rfl, ⟨rfl, rfl⟩, trivial⟩, ⟨rfl, rfl, rfl, rfl, trivial⟩, ⟨rfl, rfl, rfl, rfl, rfl, rfl, rfl, rfl, rfl, rfl, rfl, rfl, rfl, ⟨rfl, rfl⟩, trivial⟩, trivial, trivial, ⟨rfl, rfl, ?_, rfl, trivial⟩, ⟨rfl, rfl, ?_, rfl, trivial⟩, trivial⟩
              · rw [hWa]; rfl
              · simp only [w0]
          rintro ⟨i, hi⟩
          have hwl := wl i
          show run tab env65 1 _ ⟨(.v (.one (.ptr 0 0)) :: .any :: .v (.one (.ptr 1 0)) :: .v (.one (.ptr 2 0)) :: .any :: .any :: .any :: .v (.one (.ptr 5 0)) :: .v (.one (.ptr 6 0)) :: .v (.one (.int .u64 (w i).1)) :: .any :: .any :: .any :: .any :: .any :: .any :: .any :: .any :: .any :: .any :: .any :: .any :: .any :: .any :: .any :: .any :: .any :: .any :: .any :: .any :: .any :: .any :: .any :: .any :: .any :: .any :: .any :: .any :: .any :: .any :: .any :: .any :: .any :: .any :: .any :: .any :: .any :: .any :: .any :: .any :: .any :: .any :: .any :: .any :: .any :: .any :: .any :: .any :: .any :: .any :: .any :: .any :: .any :: .any :: .any :: .any :: .any :: .any :: .any :: .any :: .any :: .any :: .any :: .any :: .any :: .any :: .any :: .any :: .any :: .any :: .any :: .any :: .any :: .any :: .any :: .any :: .any :: .any :: .any :: .any :: .any :: .any :: .any :: .any :: .any :: .any :: .any :: .any :: .v (.one (.int .i64 i)) :: .any :: .any :: .any :: .any :: .any :: .any :: .any :: .any :: .any :: .any :: .any :: .any :: .any :: .any :: .any :: .any :: .any :: .any :: .any :: .any :: .any :: .any :: .any :: .any :: .any :: .any :: .any :: []), [macO r h s e n, .own 0 [.ints .u8 (List.replicate 16 0) 16], macO r H2 s E2 n, .gone, .gone, .own 0 [.ints .u64 W 4], .own 0 [.ints .u8 (w i).2 16]]⟩ _ _
          refine run_K (P := fun K => run tab env65 1 _ ⟨_, _⟩ True K) ?_
          intro K hK
          conv => whnf
          refine ⟨trivial, fun hlt => ?_, fun hlt => ?_⟩
          · have hlt' : i < 16 := by simp at hlt; omega
            have e1 : isum .i64 (i : Int) 1 = ((i + 1 : Nat) : Int) := by rw [isum, i64_in] <;> omega
            have e2 : iquo .i64 (i : Int) 4 = ((i / 4 : Nat) : Int) := by rw [iquo, Int.tdiv_eq_ediv_of_nonneg (by omega), i64_in] <;> omega
            have e3 : Int.tmod (i : Int) 4 = ((i % 4 : Nat) : Int) := by rw [Int.tmod_eq_emod_of_nonneg (by omega)]; omega
            have e4 : imul .i64 ((i % 4 : Nat) : Int) 8 = ((8 * (i % 4) : Nat) : Int) := by rw [imul, i64_in] <;> omega
            conv => whnf
            rw [e1, e2, e3, e4]
            subst hK
            change _ ∧ _
            refine ⟨?_, ⟨i + 1, by omega⟩, by show 16 - (i + 1) < 16 - i; omega, [0, 1, 2, 3, 4, 5, 6], [], rfl, ?_, ?_⟩
            · repeat' apply And.intro
              all_goals first
                | exact True.intro
                | (rw [Int.toNat_natCast]; omega)
                | omega
                | decide +kernel
                | rfl
                | exact Nat.le_of_ble_eq_true rfl
                | (dsimp only; omega)
                | trace_state
            · repeat' apply And.intro
              all_goals first
                | exact True.intro
                | rfl
                | (simp only [wsn, sumC, Int.toNat_natCast])
            · refine ⟨⟨rfl, rfl, rfl, rfl, rfl, rfl, rfl, rfl, rfl, rfl, rfl, rfl, rfl, ⟨rfl, rfl⟩, trivial⟩, ⟨rfl, rfl, rfl, rfl, trivial⟩, ⟨rfl, rfl, rfl, rfl, rfl, rfl, rfl, rfl, rfl, rfl, rfl, rfl, rfl, ⟨rfl, rfl⟩, trivial⟩, trivial, trivial, ⟨rfl, rfl, rfl, rfl, trivial⟩, ⟨rfl, rfl, ?_, rfl, trivial⟩, trivial⟩
              simp only [wsn, sumC, Int.toNat_natCast]
          · have hlt' : i = 16 := by simp at hlt; omega
            subst hlt'
            conv => whnf
            subst hK
            conv => whnf
            refine ⟨?_, rfl, [0], [], rfl, ⟨⟨rfl, rfl, rfl, trivial⟩, trivial⟩, ⟨rfl, rfl, rfl, rfl, rfl, rfl, rfl, rfl, rfl, rfl, rfl, rfl, rfl, ⟨rfl, rfl⟩, trivial⟩, trivial⟩
            repeat' apply And.intro
            all_goals first
              | exact True.intro
              | omega
              | decide +kernel
              | rfl
              | exact Nat.le_of_ble_eq_true rfl
              | (dsimp only; omega)
              | trace_state
        · have hg' : ¬ shrI .u64 ((a 4).getD 4 0) 26 > 0 := by simpa using hg
          have hWa : W = fourH Q := by rw [hW]; unfold leastH; rw [aE, if_neg hg']
          conv => whnf
          refine ⟨?_, { i : Nat // i ≤ 16 }, fun i => ⟨(.v (.one (.ptr 0 0)) :: .any :: .v (.one (.ptr 1 0)) :: .v (.one (.ptr 2 0)) :: .any :: .any :: .any :: .v (.one (.ptr 5 0)) :: .v (.one (.ptr 6 0)) :: .v (.one (.int .u64 (w i.1).1)) :: .any :: .any :: .any :: .any :: .any :: .any :: .any :: .any :: .any :: .any :: .any :: .any :: .any :: .any :: .any :: .any :: .any :: .any :: .any :: .any :: .any :: .any :: .any :: .any :: .any :: .any :: .any :: .any :: .any :: .any :: .any :: .any :: .any :: .any :: .any :: .any :: .any :: .any :: .any :: .any :: .any :: .any :: .any :: .any :: .any :: .any :: .any :: .any :: .any :: .any :: .any :: .any :: .any :: .any :: .any :: .any :: .any :: .any :: .any :: .any :: .any :: .any :: .any :: .any :: .any :: .any :: .any :: .any :: .any :: .any :: .any :: .any :: .any :: .any :: .any :: .any :: .any :: .any :: .any :: .any :: .any :: .any :: .any :: .any :: .any :: .any :: .any :: .any :: .v (.one (.int .i64 i.1)) :: .any :: .any :: .any :: .any :: .any :: .any :: .any :: .any :: .any :: .any :: .any :: .any :: .any :: .any :: .any :: .any :: .any :: .any :: .any :: .any :: .any :: .any :: .any :: .any :: .any :: .any :: .any :: []), [macO r h s e n, .own 0 [.ints .u8 (List.replicate 16 0) 16], macO r H2 s E2 n, .gone, .gone, .own 0 [.ints .u64 W 4], .own 0 [.ints .u8 (w i.1).2 16]]⟩, fun i => 16 - i.1, ⟨0, by omega⟩, ?_, fun _ => rfl, ?_⟩
          · repeat' apply And.intro
            all_goals first
              | exact True.intro
              | omega
              | decide +kernel
              | rfl
              | exact Nat.le_of_ble_eq_true rfl
              | (dsimp only; omega)
              | trace_state
          · refine ⟨[0, 1, 2, 3, 4, 5, 6], [], rfl, ?_, ?_⟩
            · repeat' apply And.intro
              all_goals first
                | exact True.intro
                | rfl
                | (simp only [w0])
            · refine ⟨⟨rfl, rfl, rfl, rfl, rfl, rfl, rfl, rfl, rfl, rfl, rfl, rfl, rfl, ⟨rfl, rfl⟩, trivial⟩, ⟨rfl, rfl, rfl, rfl, trivial⟩, ⟨rfl, rfl, rfl, rfl, rfl, rfl, rfl, rfl, rfl, rfl, rfl, rfl, rfl, ⟨rfl, rfl⟩, trivial⟩, trivial, trivial, ⟨rfl, rfl, ?_, rfl, trivial⟩, ⟨rfl, rfl, ?_, rfl, trivial⟩, trivial⟩
              · rw [hWa]; rfl
              · simp only [w0]
          rintro ⟨i, hi⟩
          have hwl := wl i
          show run tab env65 1 _ ⟨(.v (.one (.ptr 0 0)) :: .any :: .v (.one (.ptr 1 0)) :: .v (.one (.ptr 2 0)) :: .any :: .any :: .any :: .v (.one (.ptr 5 0)) :: .v (.one (.ptr 6 0)) :: .v (.one (.int .u64 (w i).1)) :: .any :: .any :: .any :: .any :: .any :: .any :: .any :: .any :: .any :: .any :: .any :: .any :: .any :: .any :: .any :: .any :: .any :: .any :: .any :: .any :: .any :: .any :: .any :: .any :: .any :: .any :: .any :: .any :: .any :: .any :: .any :: .any :: .any :: .any :: .any :: .any :: .any :: .any :: .any :: .any :: .any :: .any :: .any :: .any :: .any :: .any :: .any :: .any :: .any :: .any :: .any :: .any :: .any :: .any :: .any :: .any :: .any :: .any :: .any :: .any :: .any :: .any :: .any :: .any :: .any :: .any :: .any :: .any :: .any :: .any :: .any :: .any :: .any :: .any :: .any :: .any :: .any :: .any :: .any :: .any :: .any :: .any :: .any :: .any :: .any :: .any :: .any :: .any :: .v (.one (.int .i64 i)) :: .any :: .any :: .any :: .any :: .any :: .any :: .any :: .any :: .any :: .any :: .any :: .any :: .any :: .any :: .any :: .any :: .any :: .any :: .any :: .any :: .any :: .any :: .any :: .any :: .any :: .any :: .any :: []), [macO r h s e n, .own 0 [.ints .u8 (List.replicate 16 0) 16], macO r H2 s E2 n, .gone, .gone, .own 0 [.ints .u64 W 4], .own 0 [.ints .u8 (w i).2 16]]⟩ _ _
          refine run_K (P := fun K => run tab env65 1 _ ⟨_, _⟩ True K) ?_
          intro K hK
          conv => whnf
          refine ⟨trivial, fun hlt => ?_, fun hlt => ?_⟩
          · have hlt' : i < 16 := by simp at hlt; omega
            have e1 : isum .i64 (i : Int) 1 = ((i + 1 : Nat) : Int) := by rw [isum, i64_in] <;> omega
            have e2 : iquo .i64 (i : Int) 4 = ((i / 4 : Nat) : Int) := by rw [iquo, Int.tdiv_eq_ediv_of_nonneg (by omega), i64_in] <;> omega
            have e3 : Int.tmod (i : Int) 4 = ((i % 4 : Nat) : Int) := by rw [Int.tmod_eq_emod_of_nonneg (by omega)]; omega
            have e4 : imul .i64 ((i % 4 : Nat) : Int) 8 = ((8 * (i % 4) : Nat) : Int) := by rw [imul, i64_in] <;> omega
            conv => whnf
            rw [e1, e2, e3, e4]
            subst hK
            change _ ∧ _
            refine ⟨?_, ⟨i + 1, by omega⟩, by show 16 - (i + 1) < 16 - i; omega, [0, 1, 2, 3, 4, 5, 6], [], rfl, ?_, ?_⟩
            · repeat' apply And.intro
              all_goals first
                | exact True.intro
                | (rw [Int.toNat_natCast]; omega)
                | omega
                | decide +kernel
                | rfl
                | exact Nat.le_of_ble_eq_true rfl
                | (dsimp only; omega)
                | trace_state
            · repeat' apply And.intro
              all_goals first
                | exact True.intro
                | rfl
                | (simp only [wsn, sumC, Int.toNat_natCast])
            · refine ⟨⟨rfl, rfl, rfl, rfl, rfl, rfl, rfl, rfl, rfl, rfl, rfl, rfl, rfl, ⟨rfl, rfl⟩, trivial⟩, ⟨rfl, rfl, rfl, rfl, trivial⟩, ⟨rfl, rfl, rfl, rfl, rfl, rfl, rfl, rfl, rfl, rfl, rfl, rfl, rfl, ⟨rfl, rfl⟩, trivial⟩, trivial, trivial, ⟨rfl, rfl, rfl, rfl, trivial⟩, ⟨rfl, rfl, ?_, rfl, trivial⟩, trivial⟩
              simp only [wsn, sumC, Int.toNat_natCast]
          · have hlt' : i = 16 := by simp at hlt; omega
            subst hlt'
            conv => whnf
            subst hK
            conv => whnf
            refine ⟨?_, rfl, [0], [], rfl, ⟨⟨rfl, rfl, rfl, trivial⟩, trivial⟩, ⟨rfl, rfl, rfl, rfl, rfl, rfl, rfl, rfl, rfl, rfl, rfl, rfl, rfl, ⟨rfl, rfl⟩, trivial⟩, trivial⟩
            repeat' apply And.intro
            all_goals first
              | exact True.intro
              | omega
              | decide +kernel
              | rfl
              | exact Nat.le_of_ble_eq_true rfl
              | (dsimp only; omega)
              | trace_state
    · have hn : n = 0 := by simp at hg; omega
      have eQ : carryL (carryL h) = Q := by rw [hQ, hT]; unfold lastH; rw [if_neg (by show ¬ n > 0; omega)]
      conv => whnf
      rw [eQ]
      obtain ⟨H2, hH2⟩ : ∃ H2, H2 = h := ⟨_, rfl⟩
      obtain ⟨E2, hE2⟩ : ∃ E2, E2 = e := ⟨_, rfl⟩
      refine ⟨?_, { i : Nat // i ≤ 4 }, fun i => ⟨(.v (.one (.ptr 0 0)) :: .any :: .v (.one (.ptr 1 0)) :: .v (.one (.ptr 2 0)) :: .v (.one (.ptr 3 0)) :: .v (.one (.ptr 4 0)) :: .any :: .any :: .any :: .any :: .any :: .any :: .any :: .any :: .any :: .any :: .any :: .any :: .any :: .any :: .any :: .any :: .any :: .any :: .any :: .any :: .any :: .any :: .any :: .any :: .any :: .any :: .any :: .any :: .any :: .any :: .any :: .any :: .any :: .any :: .any :: .any :: .v (.one (.int .i64 i.1)) :: .any :: .any :: .any :: .any :: .any :: .any :: .any :: .any :: .any :: .any :: .any :: .any :: .any :: .any :: .any :: .any :: .any :: .any :: .any :: .any :: .any :: .any :: .any :: .any :: .any :: .any :: .any :: .any :: .any :: .any :: .any :: .any :: .any :: .any :: .any :: .any :: .any :: .any :: .any :: .any :: .any :: .any :: .any :: .any :: .any :: .any :: .any :: .any :: .any :: .any :: .any :: .any :: .any :: .any :: .any :: .any :: .any :: .any :: .any :: .any :: .any :: .any :: .any :: .any :: .any :: .any :: .any :: .any :: .any :: .any :: .any :: .any :: .any :: .any :: .any :: .any :: .any :: .any :: .any :: .any :: .any :: .any :: .any :: []), [macO r h s e n, .own 0 [.ints .u8 (List.replicate 16 0) 16], macO r H2 s E2 n, .own 0 [.ints .u64 Q 5], .own 0 [.ints .u64 (a i.1) 5]]⟩, fun i => 4 - i.1, ⟨0, by omega⟩, ?_, fun _ => rfl, ?_⟩
      · repeat' apply And.intro
        all_goals first
          | exact True.intro
          | (rw [carryL_len]; omega)
          | exact carryL_len hTl
          | exact carryL_len h2
          | exact splI_len16
          | omega
          | decide +kernel
          | rfl
          | exact Nat.le_of_ble_eq_true rfl
          | (dsimp only; omega)
          | trace_state
      · refine ⟨[0, 1, 2, 3, 4], [], rfl, ?_, ?_⟩
        · repeat' apply And.intro
          all_goals first
            | exact True.intro
            | rfl
            | exact Nat.le_refl _
            | decide +kernel
            | omega
            | trace_state
        · exact ⟨⟨rfl, rfl, rfl, rfl, rfl, rfl, rfl, rfl, rfl, rfl, rfl, rfl, rfl, ⟨rfl, rfl⟩, trivial⟩, ⟨rfl, rfl, rfl, rfl, trivial⟩, ⟨rfl, rfl, rfl, rfl, rfl, hH2.symm, rfl, rfl, rfl, rfl, rfl, hE2.symm, rfl, ⟨rfl, rfl⟩, trivial⟩, ⟨rfl, rfl, rfl, rfl, trivial⟩, ⟨rfl, rfl, a0.symm, rfl, trivial⟩, trivial⟩
      rintro ⟨i, hi⟩
      have hal := al i
      show run tab env65 1 _ ⟨(.v (.one (.ptr 0 0)) :: .any :: .v (.one (.ptr 1 0)) :: .v (.one (.ptr 2 0)) :: .v (.one (.ptr 3 0)) :: .v (.one (.ptr 4 0)) :: .any :: .any :: .any :: .any :: .any :: .any :: .any :: .any :: .any :: .any :: .any :: .any :: .any :: .any :: .any :: .any :: .any :: .any :: .any :: .any :: .any :: .any :: .any :: .any :: .any :: .any :: .any :: .any :: .any :: .any :: .any :: .any :: .any :: .any :: .any :: .any :: .v (.one (.int .i64 i)) :: .any :: .any :: .any :: .any :: .any :: .any :: .any :: .any :: .any :: .any :: .any :: .any :: .any :: .any :: .any :: .any :: .any :: .any :: .any :: .any :: .any :: .any :: .any :: .any :: .any :: .any :: .any :: .any :: .any :: .any :: .any :: .any :: .any :: .any :: .any :: .any :: .any :: .any :: .any :: .any :: .any :: .any :: .any :: .any :: .any :: .any :: .any :: .any :: .any :: .any :: .any :: .any :: .any :: .any :: .any :: .any :: .any :: .any :: .any :: .any :: .any :: .any :: .any :: .any :: .any :: .any :: .any :: .any :: .any :: .any :: .any :: .any :: .any :: .any :: .any :: .any :: .any :: .any :: .any :: .any :: .any :: .any :: .any :: []), [macO r h s e n, .own 0 [.ints .u8 (List.replicate 16 0) 16], macO r H2 s E2 n, .own 0 [.ints .u64 Q 5], .own 0 [.ints .u64 (a i) 5]]⟩ _ _
      refine run_K (P := fun K => run tab env65 1 _ ⟨_, _⟩ True K) ?_
      intro K hK
      conv => whnf
      refine ⟨trivial, fun hlt => ?_, fun hlt => ?_⟩
      · have hlt' : i < 4 := by simp at hlt; omega
        have e1 : isum .i64 (i : Int) 1 = ((i + 1 : Nat) : Int) := by rw [isum, i64_in] <;> omega
        conv => whnf
        rw [e1]
        subst hK
        change _ ∧ _
        refine ⟨?_, ⟨i + 1, by omega⟩, by show 4 - (i + 1) < 4 - i; omega, [0, 1, 2, 3, 4], [], rfl, ?_, ?_⟩
        · repeat' apply And.intro
          all_goals first
            | exact True.intro
            | (rw [Int.toNat_natCast]; omega)
            | omega
            | decide +kernel
            | rfl
            | exact Nat.le_of_ble_eq_true rfl
            | (dsimp only; omega)
            | trace_state
        · repeat' apply And.intro
          all_goals first
            | exact True.intro
            | rfl
            | exact Nat.le_refl _
            | decide +kernel
            | omega
            | trace_state
        · refine ⟨⟨rfl, rfl, rfl, rfl, rfl, rfl, rfl, rfl, rfl, rfl, rfl, rfl, rfl, ⟨rfl, rfl⟩, trivial⟩, ⟨rfl, rfl, rfl, rfl, trivial⟩, ⟨rfl, rfl, rfl, rfl, rfl, rfl, rfl, rfl, rfl, rfl, rfl, rfl, rfl, ⟨rfl, rfl⟩, trivial⟩, ⟨rfl, rfl, rfl, rfl, trivial⟩, ⟨rfl, rfl, ?_, rfl, trivial⟩, trivial⟩
          simp only [Int.toNat_natCast, Nat.zero_add]
          rw [asn]; rfl
      · have hlt' : i = 4 := by simp at hlt; omega
        subst hlt'
        conv => whnf
        subst hK
        conv => whnf
        refine ⟨?_, fun hg => ?_, fun hg => ?_⟩
        · repeat' apply And.intro
          all_goals first
            | exact True.intro
            | omega
            | decide +kernel
            | rfl
            | exact Nat.le_of_ble_eq_true rfl
            | (dsimp only; omega)
            | trace_state
        · have hg' : shrI .u64 ((a 4).getD 4 0) 26 > 0 := by simpa using hg
          have hWa : W = fourH ((a 4).set 4 (bandI .u64 ((a 4).getD 4 0) 67108863)) := by rw [hW]; unfold leastH; rw [aE, if_pos hg']
          conv => whnf
          refine ⟨?_, { i : Nat // i ≤ 16 }, fun i => ⟨(.v (.one (.ptr 0 0)) :: .any :: .v (.one (.ptr 1 0)) :: .v (.one (.ptr 2 0)) :: .any :: .any :: .any :: .v (.one (.ptr 5 0)) :: .v (.one (.ptr 6 0)) :: .v (.one (.int .u64 (w i.1).1)) :: .any :: .any :: .any :: .any :: .any :: .any :: .any :: .any :: .any :: .any :: .any :: .any :: .any :: .any :: .any :: .any :: .any :: .any :: .any :: .any :: .any :: .any :: .any :: .any :: .any :: .any :: .any :: .any :: .any :: .any :: .any :: .any :: .any :: .any :: .any :: .any :: .any :: .any :: .any :: .any :: .any :: .any :: .any :: .any :: .any :: .any :: .any :: .any :: .any :: .any :: .any :: .any :: .any :: .any :: .any :: .any :: .any :: .any :: .any :: .any :: .any :: .any :: .any :: .any :: .any :: .any :: .any :: .any :: .any :: .any :: .any :: .any :: .any :: .any :: .any :: .any :: .any :: .any :: .any :: .any :: .any :: .any :: .any :: .any :: .any :: .any :: .any :: .any :: .v (.one (.int .i64 i.1)) :: .any :: .any :: .any :: .any :: .any :: .any :: .any :: .any :: .any :: .any :: .any :: .any :: .any :: .any :: .any :: .any :: .any :: .any :: .any :: .any :: .any :: .any :: .any :: .any :: .any :: .any :: .any :: []), [macO r h s e n, .own 0 [.ints .u8 (List.replicate 16 0) 16], macO r H2 s E2 n, .gone, .gone, .own 0 [.ints .u64 W 4], .own 0 [.ints .u8 (w i.1).2 16]]⟩, fun i => 16 - i.1, ⟨0, by omega⟩, ?_, fun _ => rfl, ?_⟩
          · repeat' apply And.intro
            all_goals first
              | exact True.intro
              | omega
              | decide +kernel
              | rfl
              | exact Nat.le_of_ble_eq_true rfl
              | (dsimp only; omega)
              | trace_state
          · refine ⟨[0, 1, 2, 3, 4, 5, 6], [], rfl, ?_, ?_⟩
            · repeat' apply And.intro
              all_goals first
                | exact True.intro
                | rfl
                | (simp only [w0])
            · refine ⟨⟨rfl, rfl, rfl, rfl, rfl, rfl, rfl, rfl, rfl, rfl, rfl, rfl, rfl, ⟨rfl, rfl⟩, trivial⟩, ⟨rfl, rfl, rfl, rfl, trivial⟩, ⟨rfl, rfl, rfl, rfl, rfl, rfl, rfl, rfl, rfl, rfl, rfl, rfl, rfl, ⟨rfl, rfl⟩, trivial⟩, trivial, trivial, ⟨rfl, rfl, ?_, rfl, trivial⟩, ⟨rfl, rfl, ?_, rfl, trivial⟩, trivial⟩
              · rw [hWa]; rfl
              · simp only [w0]
          rintro ⟨i, hi⟩
          have hwl := wl i
          show run tab env65 1 _ ⟨(.v (.one (.ptr 0 0)) :: .any :: .v (.one (.ptr 1 0)) :: .v (.one (.ptr 2 0)) :: .any :: .any :: .any :: .v (.one (.ptr 5 0)) :: .v (.one (.ptr 6 0)) :: .v (.one (.int .u64 (w i).1)) :: .any :: .any :: .any :: .any :: .any :: .any :: .any :: .any :: .any :: .any :: .any :: .any :: .any :: .any :: .any :: .any :: .any :: .any :: .any :: .any :: .any :: .any :: .any :: .any :: .any :: .any :: .any :: .any :: .any :: .any :: .any :: .any :: .any :: .any :: .any :: .any :: .any :: .any :: .any :: .any :: .any :: .any :: .any :: .any :: .any :: .any :: .any :: .any :: .any :: .any :: .any :: .any :: .any :: .any :: .any :: .any :: .any :: .any :: .any :: .any :: .any :: .any :: .any :: .any :: .any :: .any :: .any :: .any :: .any :: .any :: .any :: .any :: .any :: .any :: .any :: .any :: .any :: .any :: .any :: .any :: .any :: .any :: .any :: .any :: .any :: .any :: .any :: .any :: .v (.one (.int .i64 i)) :: .any :: .any :: .any :: .any :: .any :: .any :: .any :: .any :: .any :: .any :: .any :: .any :: .any :: .any :: .any :: .any :: .any :: .any :: .any :: .any :: .any :: .any :: .any :: .any :: .any :: .any :: .any :: []), [macO r h s e n, .own 0 [.ints .u8 (List.replicate 16 0) 16], macO r H2 s E2 n, .gone, .gone, .own 0 [.ints .u64 W 4], .own 0 [.ints .u8 (w i).2 16]]⟩ _ _
          refine run_K (P := fun K => run tab env65 1 _ ⟨_, _⟩ True K) ?_
          intro K hK
          conv => whnf
          refine ⟨trivial, fun hlt => ?_, fun hlt => ?_⟩
          · have hlt' : i < 16 := by simp at hlt; omega
            have e1 : isum .i64 (i : Int) 1 = ((i + 1 : Nat) : Int) := by rw [isum, i64_in] <;> omega
            have e2 : iquo .i64 (i : Int) 4 = ((i / 4 : Nat) : Int) := by rw [iquo, Int.tdiv_eq_ediv_of_nonneg (by omega), i64_in] <;> omega
            have e3 : Int.tmod (i : Int) 4 = ((i % 4 : Nat) : Int) := by rw [Int.tmod_eq_emod_of_nonneg (by omega)]; omega
            have e4 : imul .i64 ((i % 4 : Nat) : Int) 8 = ((8 * (i % 4) : Nat) : Int) := by rw [imul, i64_in] <;> omega
            conv => whnf
            rw [e1, e2, e3, e4]
            subst hK
            change _ ∧ _
            refine ⟨?_, ⟨i + 1, by omega⟩, by show 16 - (i + 1) < 16 - i; omega, [0, 1, 2, 3, 4, 5, 6], [], rfl, ?_, ?_⟩
            · repeat' apply And.intro
              all_goals first
                | exact True.intro
                | (rw [Int.toNat_natCast]; omega)
                | omega
                | decide +kernel
                | rfl
                | exact Nat.le_of_ble_eq_true rfl
                | (dsimp only; omega)
                | trace_state
            · repeat' apply And.intro
              all_goals first
                | exact True.intro
                | rfl
                | (simp only [wsn, sumC, Int.toNat_natCast])
            · refine ⟨⟨rfl, rfl, rfl, rfl, rfl, rfl, rfl, rfl, rfl, rfl, rfl, rfl, rfl, ⟨rfl, rfl⟩, trivial⟩, ⟨rfl, rfl, rfl, rfl, trivial⟩, ⟨rfl, rfl, rfl, rfl, rfl, rfl, rfl, rfl, rfl, rfl, rfl, rfl, rfl, ⟨rfl, rfl⟩, trivial⟩, trivial, trivial, ⟨rfl, rfl, rfl, rfl, trivial⟩, ⟨rfl, rfl, ?_, rfl, trivial⟩, trivial⟩
              simp only [wsn, sumC, Int.toNat_natCast]
          · have hlt' : i = 16 := by simp at hlt; omega
            subst hlt'
            conv => whnf
            subst hK
            conv => whnf
            refine ⟨?_, rfl, [0], [], rfl, ⟨⟨rfl, rfl, rfl, trivial⟩, trivial⟩, ⟨rfl, rfl, rfl, rfl, rfl, rfl, rfl, rfl, rfl, rfl, rfl, rfl, rfl, ⟨rfl, rfl⟩, trivial⟩, trivial⟩
            repeat' apply And.intro
            all_goals first
              | exact True.intro
              | omega
              | decide +kernel
              | rfl
              | exact Nat.le_of_ble_eq_true rfl
              | (dsimp only; omega)
              | trace_state
        · have hg' : ¬ shrI .u64 ((a 4).getD 4 0) 26 > 0 := by simpa using hg
          have hWa : W = fourH Q := by rw [hW]; unfold leastH; rw [aE, if_neg hg']
          conv => whnf
          refine ⟨?_, { i : Nat // i ≤ 16 }, fun i => ⟨(.v (.one (.ptr 0 0)) :: .any :: .v (.one (.ptr 1 0)) :: .v (.one (.ptr 2 0)) :: .any :: .any :: .any :: .v (.one (.ptr 5 0)) :: .v (.one (.ptr 6 0)) :: .v (.one (.int .u64 (w i.1).1)) :: .any :: .any :: .any :: .any :: .any :: .any :: .any :: .any :: .any :: .any :: .any :: .any :: .any :: .any :: .any :: .any :: .any :: .any :: .any :: .any :: .any :: .any :: .any :: .any :: .any :: .any :: .any :: .any :: .any :: .any :: .any :: .any :: .any :: .any :: .any :: .any :: .any :: .any :: .any :: .any :: .any :: .any :: .any :: .any :: .any :: .any :: .any :: .any :: .any :: .any :: .any :: .any :: .any :: .any :: .any :: .any :: .any :: .any :: .any :: .any :: .any :: .any :: .any :: .any :: .any :: .any :: .any :: .any :: .any :: .any :: .any :: .any :: .any :: .any :: .any :: .any :: .any :: .any :: .any :: .any :: .any :: .any :: .any :: .any :: .any :: .any :: .any :: .any :: .v (.one (.int .i64 i.1)) :: .any :: .any :: .any :: .any :: .any :: .any :: .any :: .any :: .any :: .any :: .any :: .any :: .any :: .any :: .any :: .any :: .any :: .any :: .any :: .any :: .any :: .any :: .any :: .any :: .any :: .any :: .any :: []), [macO r h s e n, .own 0 [.ints .u8 (List.replicate 16 0) 16], macO r H2 s E2 n, .gone, .gone, .own 0 [.ints .u64 W 4], .own 0 [.ints .u8 (w i.1).2 16]]⟩, fun i => 16 - i.1, ⟨0, by omega⟩, ?_, fun _ => rfl, ?_⟩
          · repeat' apply And.intro
            all_goals first
              | exact True.intro
              | omega
              | decide +kernel
              | rfl
              | exact Nat.le_of_ble_eq_true rfl
              | (dsimp only; omega)
              | trace_state
          · refine ⟨[0, 1, 2, 3, 4, 5, 6], [], rfl, ?_, ?_⟩
            · repeat' apply And.intro
              all_goals first
                | exact True.intro
                | rfl
                | (simp only [w0])
            · refine ⟨⟨rfl, rfl, rfl, rfl, rfl, rfl, rfl, rfl, rfl, rfl, rfl, rfl, rfl, ⟨rfl, rfl⟩, trivial⟩, ⟨rfl, rfl, rfl, rfl, trivial⟩, ⟨rfl, rfl, rfl, rfl, rfl, rfl, rfl, rfl, rfl, rfl, rfl, rfl, rfl, ⟨rfl, rfl⟩, trivial⟩, trivial, trivial, ⟨rfl, rfl, ?_, rfl, trivial⟩, ⟨rfl, rfl, ?_, rfl, trivial⟩, trivial⟩
              · rw [hWa]; rfl
              · simp only [w0]
          rintro ⟨i, hi⟩
          have hwl := wl i
          show run tab env65 1 _ ⟨(.v (.one (.ptr 0 0)) :: .any :: .v (.one (.ptr 1 0)) :: .v (.one (.ptr 2 0)) :: .any :: .any :: .any :: .v (.one (.ptr 5 0)) :: .v (.one (.ptr 6 0)) :: .v (.one (.int .u64 (w i).1)) :: .any :: .any :: .any :: .any :: .any :: .any :: .any :: .any :: .any :: .any :: .any :: .any :: .any :: .any :: .any :: .any :: .any :: .any :: .any :: .any :: .any :: .any :: .any :: .any :: .any :: .any :: .any :: .any :: .any :: .any :: .any :: .any :: .any :: .any :: .any :: .any :: .any :: .any :: .any :: .any :: .any :: .any :: .any :: .any :: .any :: .any :: .any :: .any :: .any :: .any :: .any :: .any :: .any :: .any :: .any :: .any :: .any :: .any :: .any :: .any :: .any :: .any :: .any :: .any :: .any :: .any :: .any :: .any :: .any :: .any :: .any :: .any :: .any :: .any :: .any :: .any :: .any :: .any :: .any :: .any :: .any :: .any :: .any :: .any :: .any :: .any :: .any :: .any :: .v (.one (.int .i64 i)) :: .any :: .any :: .any :: .any :: .any :: .any :: .any :: .any :: .any :: .any :: .any :: .any :: .any :: .any :: .any :: .any :: .any :: .any :: .any :: .any :: .any :: .any :: .any :: .any :: .any :: .any :: .any :: []), [macO r h s e n, .own 0 [.ints .u8 (List.replicate 16 0) 16], macO r H2 s E2 n, .gone, .gone, .own 0 [.ints .u64 W 4], .own 0 [.ints .u8 (w i).2 16]]⟩ _ _
          refine run_K (P := fun K => run tab env65 1 _ ⟨_, _⟩ True K) ?_
          intro K hK
          conv => whnf
          refine ⟨trivial, fun hlt => ?_, fun hlt => ?_⟩
          · have hlt' : i < 16 := by simp at hlt; omega
            have e1 : isum .i64 (i : Int) 1 = ((i + 1 : Nat) : Int) := by rw [isum, i64_in] <;> omega
            have e2 : iquo .i64 (i : Int) 4 = ((i / 4 : Nat) : Int) := by rw [iquo, Int.tdiv_eq_ediv_of_nonneg (by omega), i64_in] <;> omega
            have e3 : Int.tmod (i : Int) 4 = ((i % 4 : Nat) : Int) := by rw [Int.tmod_eq_emod_of_nonneg (by omega)]; omega
            have e4 : imul .i64 ((i % 4 : Nat) : Int) 8 = ((8 * (i % 4) : Nat) : Int) := by rw [imul, i64_in] <;> omega
            conv => whnf
            rw [e1, e2, e3, e4]
            subst hK
            change _ ∧ _
            refine ⟨?_, ⟨i + 1, by omega⟩, by show 16 - (i + 1) < 16 - i; omega, [0, 1, 2, 3, 4, 5, 6], [], rfl, ?_, ?_⟩
            · repeat' apply And.intro
              all_goals first
                | exact True.intro
                | (rw [Int.toNat_natCast]; omega)
                | omega
                | decide +kernel
                | rfl
                | exact Nat.le_of_ble_eq_true rfl
                | (dsimp only; omega)
                | trace_state
            · repeat' apply And.intro
              all_goals first
                | exact True.intro
                | rfl
                | (simp only [wsn, sumC, Int.toNat_natCast])
            · refine ⟨⟨rfl, rfl, rfl, rfl, rfl, rfl, rfl, rfl, rfl, rfl, rfl, rfl, rfl, ⟨rfl, rfl⟩, trivial⟩, ⟨rfl, rfl, rfl, rfl, trivial⟩, ⟨rfl, rfl, rfl, rfl, rfl, rfl, rfl, rfl, rfl, rfl, rfl, rfl, rfl, ⟨rfl, rfl⟩, trivial⟩, trivial, trivial, ⟨rfl, rfl, rfl, rfl, trivial⟩, ⟨rfl, rfl, ?_, rfl, trivial⟩, trivial⟩
              simp only [wsn, sumC, Int.toNat_natCast]
          · have hlt' : i = 16 := by simp at hlt; omega
            subst hlt'
            conv => whnf
            subst hK
            conv => whnf
            refine ⟨?_, rfl, [0], [], rfl, ⟨⟨rfl, rfl, rfl, trivial⟩, trivial⟩, ⟨rfl, rfl, rfl, rfl, rfl, rfl, rfl, rfl, rfl, rfl, rfl, rfl, rfl, ⟨rfl, rfl⟩, trivial⟩, trivial⟩
            repeat' apply And.intro
            all_goals first
              | exact True.intro
              | omega
              | decide +kernel
              | rfl
              | exact Nat.le_of_ble_eq_true rfl
              | (dsimp only; omega)
              | trace_state
  · cases hr
end Go.Proofs.Ytjbagkimpmpfgaa

/- Digits: lists of numbers by what they are worth to a base. Conditions: each lemma's own. -/
namespace Go.Proofs.Ytjbagkimpmpfgaa
open Go Go.Mx

/-- What a list is worth to a base, the lowest first. -/
def vb (B : Int) : List Int → Int
  | [] => 0
  | x :: l => x + B * vb B l
theorem vb_append (B : Int) : ∀ l m : List Int, vb B (l ++ m) = vb B l + B ^ l.length * vb B m
  | [], m => by simp [vb]
  | x :: l, m => by
    simp only [List.cons_append, vb, List.length_cons, vb_append B l m, Int.pow_succ]
    grind
theorem vb_snoc (B : Int) (l : List Int) (x : Int) : vb B (l ++ [x]) = vb B l + B ^ l.length * x := by
  rw [vb_append]; simp [vb]
theorem vb_zeros (B : Int) : ∀ n, vb B (List.replicate n 0) = 0
  | 0 => rfl
  | n + 1 => by simp [List.replicate_succ, vb, vb_zeros B n]
theorem vb_set (B : Int) : ∀ (l : List Int) (j : Nat) (x : Int), j < l.length → vb B (l.set j x) = vb B l + B ^ j * (x - l.getD j 0)
  | [], j, x, h => by simp at h
  | y :: l, 0, x, _ => by simp [vb]; omega
  | y :: l, j + 1, x, h => by
    simp only [List.set_cons_succ, vb, List.getD_cons_succ]
    rw [vb_set B l j x (by simpa using h), Int.pow_succ]
    grind
theorem vb_drop (B : Int) : ∀ (l : List Int) (i : Nat), vb B (l.drop i) = l.getD i 0 + B * vb B (l.drop (i + 1))
  | [], i => by simp [vb]
  | x :: l, 0 => by simp [vb]
  | x :: l, i + 1 => by simpa using vb_drop B l i

/-- Every element lies between 0 and a bound. -/
structure inR (l : List Int) (b : Int) : Prop where
  h : ∀ i, 0 ≤ l.getD i 0 ∧ l.getD i 0 ≤ b
theorem inR.nonneg {l : List Int} {b : Int} (h : inR l b) : 0 ≤ b := by have := h.h 0; omega
theorem inR_tail {x : Int} {l : List Int} {b : Int} (h : inR (x :: l) b) : inR l b := ⟨fun i => by simpa using h.h (i + 1)⟩
theorem vb_nonneg {B : Int} (hB : 0 ≤ B) : ∀ {l : List Int} {b : Int}, inR l b → 0 ≤ vb B l
  | [], _, _ => Int.le_refl _
  | x :: l, b, h => by
    have h0 := h.h 0
    simp only [List.getD_cons_zero] at h0
    have := Int.mul_nonneg hB (vb_nonneg hB (inR_tail h))
    simp only [vb]; omega
theorem inR_mono {l : List Int} {a b : Int} (h : inR l a) (hab : a ≤ b) : inR l b := ⟨fun i => by have := h.h i; omega⟩
theorem inR_mem {l : List Int} {b : Int} (hb : 0 ≤ b) (h : ∀ x ∈ l, 0 ≤ x ∧ x ≤ b) : inR l b := ⟨fun i => by
  rw [List.getD_eq_getElem?_getD]
  cases hi : l[i]? with
  | none => simp; omega
  | some x => simp; exact h x (List.mem_of_getElem? hi)⟩
theorem inR_set {l : List Int} {b : Int} (h : inR l b) {j : Nat} {x : Int} (hx : 0 ≤ x ∧ x ≤ b) : inR (l.set j x) b := ⟨fun i => by
  rw [List.getD_eq_getElem?_getD, List.getElem?_set]
  split
  · split
    · simpa using hx
    · simp; exact h.nonneg
  · rw [← List.getD_eq_getElem?_getD]; exact h.h i⟩
theorem inR_zeros (n : Nat) {b : Int} (hb : 0 ≤ b) : inR (List.replicate n 0) b := inR_mem hb (fun x hx => by have := List.eq_of_mem_replicate hx; omega)
theorem inR_app {l m : List Int} {b : Int} (hl : inR l b) (hm : inR m b) : inR (l ++ m) b := ⟨fun i => by
  rw [List.getD_eq_getElem?_getD, List.getElem?_append]
  split
  · rw [← List.getD_eq_getElem?_getD]; exact hl.h i
  · rw [← List.getD_eq_getElem?_getD]; exact hm.h _⟩
theorem inR_take {l : List Int} {b : Int} (h : inR l b) (n : Nat) : inR (l.take n) b := ⟨fun i => by
  rw [List.getD_eq_getElem?_getD, List.getElem?_take]
  split
  · rw [← List.getD_eq_getElem?_getD]; exact h.h i
  · simp; exact h.nonneg⟩
theorem inR_drop {l : List Int} {b : Int} (h : inR l b) (n : Nat) : inR (l.drop n) b := ⟨fun i => by
  rw [List.getD_eq_getElem?_getD, List.getElem?_drop, ← List.getD_eq_getElem?_getD]; exact h.h _⟩
theorem vb_lt {B : Int} (hB : 0 < B) : ∀ {l : List Int}, inR l (B - 1) → vb B l < B ^ l.length
  | [], _ => by simp [vb]
  | x :: l, h => by
    have h0 := h.h 0
    simp only [List.getD_cons_zero] at h0
    have := vb_lt hB (inR_tail h)
    have h2 : B * (vb B l + 1) ≤ B * B ^ l.length := Int.mul_le_mul_of_nonneg_left (by omega) (by omega)
    simp only [vb, List.length_cons, Int.pow_succ]
    grind

/-! ### Powers of 256 -/
theorem div_div {a : Int} (ha : 0 ≤ a) (v b : Int) : v / a / b = v / (a * b) := by
  rw [Int.ediv_ediv, if_neg (by omega), Int.sub_zero]
theorem p256_pos (i : Nat) : (0 : Int) < 256 ^ i := Int.pow_pos (by decide)
theorem div_succ (v : Int) (i : Nat) : v / 256 ^ (i + 1) = v / 256 ^ i / 256 := by
  rw [Int.pow_succ, ← div_div (Int.le_of_lt (p256_pos i))]
theorem mod_succ (v : Int) (i : Nat) : v % 256 ^ (i + 1) = v % 256 ^ i + 256 ^ i * (v / 256 ^ i % 256) := by
  have h1 := Int.mul_ediv_add_emod v (256 ^ i)
  have h2 := Int.mul_ediv_add_emod v (256 ^ (i + 1))
  have h3 := Int.mul_ediv_add_emod (v / 256 ^ i) 256
  rw [div_succ, Int.pow_succ] at h2
  rw [Int.pow_succ]
  grind
/-- So many digits of a number. -/
def digs (v : Int) : Nat → List Int
  | 0 => []
  | i + 1 => digs v i ++ [v / 256 ^ i % 256]
theorem digs_len (v : Int) : ∀ i, (digs v i).length = i
  | 0 => rfl
  | i + 1 => by simp [digs, digs_len v i]
theorem digs_val (v : Int) : ∀ i, vb 256 (digs v i) = v % 256 ^ i
  | 0 => by simp [digs, vb]
  | i + 1 => by rw [digs, vb_snoc, digs_len, digs_val v i, mod_succ]
theorem digs_in (v : Int) : ∀ i, inR (digs v i) 255
  | 0 => ⟨fun i => by simp [digs]⟩
  | i + 1 => by
    refine inR_app (digs_in v i) ⟨fun j => ?_⟩
    cases j with
    | zero => simp; omega
    | succ j => simp
theorem digs_at (v : Int) : ∀ m i, i < m → (digs v m).getD i 0 = v / 256 ^ i % 256
  | 0, i, h => by omega
  | m + 1, i, h => by
    rw [digs, List.getD_eq_getElem?_getD, List.getElem?_append]
    split
    · rename_i hl
      rw [digs_len] at hl
      rw [← List.getD_eq_getElem?_getD, digs_at v m i hl]
    · rename_i hl
      rw [digs_len] at hl ⊢
      obtain rfl : i = m := by omega
      simp
theorem digs_take (v : Int) : ∀ m k, k ≤ m → (digs v m).take k = digs v k
  | 0, k, h => by obtain rfl : k = 0 := by omega
                  rfl
  | m + 1, k, h => by
    by_cases hk : k = m + 1
    · subst hk; rw [List.take_of_length_le]; rw [digs_len]; exact Nat.le_refl _
    · rw [digs, List.take_append_of_le_length (by rw [digs_len]; omega), digs_take v m k (by omega)]
theorem digs_eq {v : Int} {l : List Int} (hl : inR l 255) (hv : v % 256 ^ l.length = vb 256 l) : digs v l.length = l := by
  have key : ∀ i, i ≤ l.length → digs v i = l.take i ∧ v % 256 ^ i = vb 256 (l.take i) := by
    have hq : ∀ i, i ≤ l.length → v % 256 ^ i = vb 256 (l.take i) := by
      intro i hi
      have e : vb 256 l = vb 256 (l.take i) + 256 ^ i * vb 256 (l.drop i) := by
        have := vb_append 256 (l.take i) (l.drop i)
        rw [List.take_append_drop, List.length_take, Nat.min_eq_left hi] at this
        exact this
      have h1 : v % 256 ^ i = v % 256 ^ l.length % 256 ^ i := by
        rw [Int.emod_emod_of_dvd]
        exact ⟨256 ^ (l.length - i), by rw [← Int.pow_add]; congr 1; omega⟩
      rw [h1, hv, e, Int.add_mul_emod_self_left]
      have n1 := vb_nonneg (B := 256) (by decide) (inR_take hl i)
      have n2 := vb_lt (B := 256) (by decide) (inR_take hl i)
      rw [List.length_take, Nat.min_eq_left hi] at n2
      exact Int.emod_eq_of_lt n1 n2
    intro i
    induction i with
    | zero => intro hi; exact ⟨rfl, hq 0 hi⟩
    | succ i ih =>
      intro hi
      obtain ⟨g1, g2⟩ := ih (by omega)
      refine ⟨?_, hq _ hi⟩
      have h3 := hq _ hi
      have hlt : i < l.length := by omega
      rw [List.take_succ_eq_append_getElem hlt, vb_snoc, mod_succ, g2, List.length_take, Nat.min_eq_left (by omega)] at h3
      rw [digs, g1, List.take_succ_eq_append_getElem hlt]
      congr 2
      have hp := p256_pos i
      have := Int.eq_of_mul_eq_mul_left (Int.ne_of_gt hp) (Int.add_left_cancel h3)
      exact this
  have := (key l.length (Nat.le_refl _)).1
  rwa [List.take_length] at this
theorem digs_mod (v : Int) (m : Nat) : digs (v % 256 ^ m) m = digs v m := by
  have h := digs_eq (v := v % 256 ^ m) (digs_in v m) (by rw [digs_len, digs_val, Int.emod_emod_of_dvd _ (Int.dvd_refl _)])
  rwa [digs_len] at h

/-- How many digits a number has. -/
def nd (v : Int) : Nat := if h : v ≤ 0 then 0 else nd (v / 256) + 1
termination_by v.toNat
decreasing_by omega
theorem lt_nd {v : Int} (hv : 0 ≤ v) : ∀ i, i < nd v ↔ 0 < v / 256 ^ i := by
  intro i
  induction i generalizing v with
  | zero =>
    rw [nd]
    split
    · simp; omega
    · simp; omega
  | succ i ih =>
    have e : v / 256 ^ (i + 1) = v / 256 / 256 ^ i := by
      rw [Int.pow_succ, Int.mul_comm, ← div_div (by decide)]
    rw [nd, e]
    split
    · have : v = 0 := by omega
      subst this; simp
    · rw [← ih (by omega)]; omega

/-! ### Carrying -/
def cst (l : List Int) : Nat → Int × List Int
  | 0 => (0, [])
  | i + 1 => (((cst l i).1 + l.getD i 0) / 256, (cst l i).2 ++ [((cst l i).1 + l.getD i 0) % 256])
theorem cst_len (l : List Int) : ∀ i, (cst l i).2.length = i
  | 0 => rfl
  | i + 1 => by simp [cst, cst_len l i]
theorem cst_in {l : List Int} {b : Int} (h : inR l b) : ∀ i, 0 ≤ (cst l i).1 ∧ (cst l i).1 ≤ b
  | 0 => by have := h.nonneg; simp [cst]; omega
  | i + 1 => by
    have := cst_in h i
    have := h.h i
    simp only [cst]
    omega
theorem cst_val (l : List Int) : ∀ i, (cst l i).1 + vb 256 (l.drop i) = vb 256 l / 256 ^ i
  | 0 => by simp [cst]
  | i + 1 => by
    have h := cst_val l i
    rw [vb_drop] at h
    rw [div_succ, ← h, cst]
    dsimp only
    omega
theorem cst_digs (l : List Int) : ∀ i, (cst l i).2 = digs (vb 256 l) i
  | 0 => rfl
  | i + 1 => by
    have h := cst_val l i
    rw [vb_drop] at h
    rw [cst, digs, cst_digs l i, ← h]
    dsimp only
    congr 2
    omega
/-- How many digits carrying gives. -/
def clen (v : Int) (n k : Nat) : Nat := max (max n k) (nd v)
theorem cst_more {l : List Int} {n k : Nat} {b : Int} (hl : l.length = n) (hin : inR l b) (i : Nat) : i < clen (vb 256 l) n k ↔ (i < n ∨ (cst l i).1 > 0 ∨ i < k) := by
  have hv := vb_nonneg (B := 256) (by decide) hin
  unfold clen
  by_cases h : i < n
  · simp only [h, true_or, iff_true]; omega
  · have e := cst_val l i
    rw [List.drop_of_length_le (by omega)] at e
    simp only [vb, Int.add_zero] at e
    have := lt_nd hv i
    rw [e]
    omega
theorem clen_le {l : List Int} {n k : Nat} (hl : l.length = n) (hin : inR l 1099511627776) : clen (vb 256 l) n k ≤ max (n + 6) k := by
  have hv := vb_nonneg (B := 256) (by decide) hin
  have e := cst_val l n
  rw [List.drop_of_length_le (by omega)] at e
  simp only [vb, Int.add_zero] at e
  have hb := cst_in hin n
  have h6 : vb 256 l / 256 ^ (n + 6) = 0 := by
    simp only [div_succ]
    rw [← e]
    omega
  have := lt_nd hv (n + 6)
  unfold clen
  omega
end Go.Proofs.Ytjbagkimpmpfgaa

/- Digits: what is left of a number by 2^130 - 5. Conditions: each lemma's own. -/
namespace Go.Proofs.Ytjbagkimpmpfgaa
open Go Go.Mx

/-- 2^130. -/
def p130 : Int := 1361129467683753853853498429727072845824
/-- 2^130 - 5. -/
def pp : Int := 1361129467683753853853498429727072845819
theorem p130_eq : p130 = 256 ^ 16 * 4 := by decide +kernel
theorem p130_lt : p130 < 256 ^ 17 := by decide +kernel
def nextV (v : Int) : Int := v % p130 + 5 * (v / p130)
theorem nextV_mod (v : Int) : nextV v % pp = v % pp := by unfold nextV pp p130; omega
theorem nextV_lt {v : Int} (h : 0 < v / p130) : nextV v < v ∧ 0 ≤ nextV v := by unfold nextV p130 at *; omega
theorem nextV_nonneg {v : Int} (h : 0 ≤ v) : 0 ≤ nextV v := by unfold nextV p130 at *; omega
def restF (v : Int) (m : Nat) : Int × Nat := if h : 0 < v / p130 then restF (nextV v) (clen (nextV v) (max 17 (m - 16)) 18) else (v, m)
termination_by v.toNat
decreasing_by have := nextV_lt h; omega
theorem restF_more {v : Int} {m : Nat} (h : 0 < v / p130) : restF v m = restF (nextV v) (clen (nextV v) (max 17 (m - 16)) 18) := by
  rw [restF, dif_pos h]
theorem restF_end {v : Int} {m : Nat} (h : ¬ 0 < v / p130) : restF v m = (v, m) := by
  rw [restF, dif_neg h]
theorem le_clen (v : Int) (n k : Nat) : k ≤ clen v n k := by unfold clen; omega
theorem lt_clen {v : Int} (hv : 0 ≤ v) (n k : Nat) : v < 256 ^ clen v n k := by
  have h : ¬ clen v n k < nd v := by unfold clen; omega
  rw [lt_nd hv] at h
  have hp := p256_pos (clen v n k)
  have := Int.lt_ediv_add_one_mul_self v hp
  have h2 : v / 256 ^ clen v n k = 0 := by
    have := Int.ediv_nonneg hv (Int.le_of_lt hp)
    omega
  rw [h2] at this
  omega
theorem restF_spec (v : Int) (m : Nat) (hv : 0 ≤ v) (hm : 18 ≤ m) (hlt : v < 256 ^ m) : 0 ≤ (restF v m).1 ∧ (restF v m).1 < p130 ∧ (restF v m).1 % pp = v % pp ∧ 18 ≤ (restF v m).2 ∧ (restF v m).1 < 256 ^ (restF v m).2 := by
  generalize hn : v.toNat = n
  induction n using Nat.strongRecOn generalizing v m with
  | ind n ih =>
    by_cases h : 0 < v / p130
    · rw [restF_more h]
      have h2 := nextV_lt h
      have := ih (nextV v).toNat (by omega) (nextV v) (clen (nextV v) (max 17 (m - 16)) 18) h2.2 (le_clen _ _ _) (lt_clen h2.2 _ _) rfl
      rw [nextV_mod] at this
      exact this
    · rw [restF_end h]
      refine ⟨hv, ?_, rfl, hm, hlt⟩
      dsimp only
      unfold p130 at *
      omega
/-- What is left, and in how many digits. -/
def restR (v : Int) (m : Nat) : Int × Nat := if (restF v m).1 ≥ pp then ((restF v m).1 - pp, 18) else restF v m
theorem restR_spec (v : Int) (m : Nat) (hv : 0 ≤ v) (hm : 18 ≤ m) (hlt : v < 256 ^ m) : (restR v m).1 = v % pp ∧ 18 ≤ (restR v m).2 ∧ (restR v m).1 < 256 ^ (restR v m).2 := by
  obtain ⟨h1, h2, h3, h4, h5⟩ := restF_spec v m hv hm hlt
  unfold restR
  split
  · rename_i h
    refine ⟨?_, by dsimp only; omega, ?_⟩
    · dsimp only; rw [← h3]; unfold pp p130 at *; omega
    · dsimp only
      have : (5 : Int) < 256 ^ 18 := by decide
      unfold pp p130 at *
      omega
  · rename_i h
    refine ⟨?_, h4, h5⟩
    rw [← h3, Int.emod_eq_of_lt h1 (by omega)]

/-! ### The high part's digits -/
theorem hi_at {v : Int} (hv : 0 ≤ v) (j : Nat) : v / p130 / 256 ^ j = v / 256 ^ (16 + j) / 4 := by
  rw [p130_eq, div_div (by decide), div_div (Int.le_of_lt (p256_pos _)), Int.pow_add]
  congr 1
  grind
theorem hi_dig {v : Int} (hv : 0 ≤ v) {m j : Nat} (hm : v < 256 ^ m) (hj : 16 + j < m) :
    v / p130 / 256 ^ j % 256 = (digs v m).getD (16 + j) 0 / 4 + (if 16 + j + 1 < m then (digs v m).getD (16 + j + 1) 0 % 4 * 64 else 0) := by
  rw [hi_at hv, digs_at v m _ hj]
  split
  · rename_i h
    rw [digs_at v m _ h, div_succ]
    have := Int.ediv_nonneg hv (Int.le_of_lt (p256_pos (16 + j)))
    omega
  · rename_i h
    obtain rfl : m = 16 + j + 1 := by omega
    have h0 : v / 256 ^ (16 + j + 1) = 0 := Int.ediv_eq_zero_of_lt hv hm
    rw [div_succ] at h0
    have := Int.ediv_nonneg hv (Int.le_of_lt (p256_pos (16 + j)))
    omega
theorem hi_lt {v : Int} (hv : 0 ≤ v) {m : Nat} (h16 : 16 ≤ m) (hm : v < 256 ^ m) : v / p130 % 256 ^ (m - 16) = v / p130 := by
  refine Int.emod_eq_of_lt (by unfold p130; omega) ?_
  have e : (256 : Int) ^ m = 256 ^ 16 * 256 ^ (m - 16) := by rw [← Int.pow_add]; congr 1; omega
  rw [e] at hm
  refine Int.ediv_lt_of_lt_mul (by decide) ?_
  have hp := p256_pos (m - 16)
  rw [p130_eq]
  have : (0 : Int) < 256 ^ 16 * 256 ^ (m - 16) := Int.mul_pos (by decide) hp
  grind
/-- Are there some in so many? -/
theorem some_succ {q : Int} (hq : 0 ≤ q) (j : Nat) : 0 < q % 256 ^ (j + 1) ↔ (0 < q % 256 ^ j ∨ 0 < q / 256 ^ j % 256) := by
  rw [mod_succ]
  have h1 : 0 ≤ q % 256 ^ j := Int.emod_nonneg _ (Int.ne_of_gt (p256_pos j))
  have h2 : 0 ≤ q / 256 ^ j % 256 := by omega
  have hp := p256_pos j
  constructor
  · intro h
    by_cases h3 : 0 < q / 256 ^ j % 256
    · exact .inr h3
    · have : q / 256 ^ j % 256 = 0 := by omega
      rw [this] at h; left; simpa using h
  · rintro (h | h)
    · have := Int.mul_nonneg (Int.le_of_lt hp) h2; omega
    · have := Int.mul_pos hp h; omega

/-! ### The sum -/
def yst (h : Nat → Int) (y0 : List Int) : Nat → List Int
  | 0 => y0
  | j + 1 => (if (yst h y0 j).length ≤ j then yst h y0 j ++ [0] else yst h y0 j).set j ((if (yst h y0 j).length ≤ j then yst h y0 j ++ [0] else yst h y0 j).getD j 0 + 5 * h j)
theorem yst_len {h : Nat → Int} {y0 : List Int} (h0 : y0.length = 17) : ∀ j, (yst h y0 j).length = max 17 j
  | 0 => h0
  | j + 1 => by
    rw [yst, List.length_set]
    have := yst_len (h := h) h0 j
    split
    · rw [List.length_append, this]; simp; omega
    · omega
theorem yst_in {h : Nat → Int} {y0 : List Int} (hh : ∀ j, 0 ≤ h j ∧ h j ≤ 255) (h0 : inR y0 255) : ∀ j, inR (yst h y0 j) 1530 ∧ ∀ i, j ≤ i → (yst h y0 j).getD i 0 ≤ 255
  | 0 => ⟨inR_mono h0 (by decide), fun i _ => (h0.h i).2⟩
  | j + 1 => by
    obtain ⟨g1, g2⟩ := yst_in (h := h) hh h0 j
    obtain ⟨y, hy⟩ : ∃ y, y = (if (yst h y0 j).length ≤ j then yst h y0 j ++ [0] else yst h y0 j) := ⟨_, rfl⟩
    have k1 : inR y 1530 := by
      rw [hy]; split
      · exact inR_app g1 (inR_zeros 1 (by decide))
      · exact g1
    have k2 : ∀ i, j ≤ i → y.getD i 0 ≤ 255 := by
      intro i hi
      rw [hy]; split
      · rw [List.getD_eq_getElem?_getD, List.getElem?_append]
        split
        · rw [← List.getD_eq_getElem?_getD]; exact g2 i hi
        · have := (inR_zeros 1 (b := 255) (by decide)).h (i - (yst h y0 j).length)
          rw [← List.getD_eq_getElem?_getD]; exact this.2
      · exact g2 i hi
    rw [yst, ← hy]
    have a1 := k1.h j
    have a2 := k2 j (Nat.le_refl _)
    have a3 := hh j
    refine ⟨inR_set k1 (by omega), fun i hi => ?_⟩
    rw [List.getD_eq_getElem?_getD, List.getElem?_set_ne (by omega), ← List.getD_eq_getElem?_getD]
    exact k2 i (by omega)
theorem yst_val {q : Int} {y0 : List Int} (h0 : y0.length = 17) : ∀ j, vb 256 (yst (fun j => q / 256 ^ j % 256) y0 j) = vb 256 y0 + 5 * (q % 256 ^ j)
  | 0 => by simp [yst]
  | j + 1 => by
    have hl := yst_len (h := fun j => q / 256 ^ j % 256) h0 j
    have e : vb 256 (if (yst (fun j => q / 256 ^ j % 256) y0 j).length ≤ j then yst (fun j => q / 256 ^ j % 256) y0 j ++ [0] else yst (fun j => q / 256 ^ j % 256) y0 j) = vb 256 y0 + 5 * (q % 256 ^ j) := by
      split
      · rw [vb_snoc, yst_val h0 j]; simp
      · exact yst_val h0 j
    rw [yst, vb_set, e, mod_succ]
    · grind
    · split
      · simp; omega
      · omega
/-- The lower 17 digits, by 2^130. -/
def y0L (v : Int) (m : Nat) : List Int := ((digs v m).take 17).set 16 ((digs v m).getD 16 0 % 4)
theorem y0_len {v : Int} {m : Nat} (hm : 18 ≤ m) : (y0L v m).length = 17 := by unfold y0L; rw [List.length_set, List.length_take, digs_len]; omega
theorem y0_in {v : Int} {m : Nat} : inR (y0L v m) 255 := by
  have := (digs_in v m).h 16
  exact inR_set (inR_take (digs_in v m) 17) (by omega)
theorem y0_val {v : Int} {m : Nat} (hm : 18 ≤ m) : vb 256 (y0L v m) = v % p130 := by
  unfold y0L
  rw [digs_take v m 17 (by omega), vb_set _ _ _ _ (by rw [digs_len]; omega), digs_val, digs_at v m 16 (by omega), digs_at v 17 16 (by omega), mod_succ v 16, p130_eq]
  have h1 := Int.mul_ediv_add_emod v (256 ^ 16 * 4)
  have h2 := Int.mul_ediv_add_emod v (256 ^ 16)
  rw [← div_div (by decide)] at h1
  generalize v % (256 ^ 16 * 4) = a at *
  generalize v / 256 ^ 16 = b at *
  generalize v % 256 ^ 16 = c at *
  have h3 : b % 256 % 4 = b % 4 := by omega
  rw [h3]
  have h4 := Int.mul_ediv_add_emod b 4
  generalize b / 4 = d at *
  generalize b % 4 = e at *
  generalize b % 256 = f at *
  subst h4
  generalize (256 : Int) ^ 16 = g at *
  grind
theorem y_val {v : Int} {m : Nat} (hv : 0 ≤ v) (hm : 18 ≤ m) (hlt : v < 256 ^ m) : vb 256 (yst (fun j => v / p130 / 256 ^ j % 256) (y0L v m) (m - 16)) = nextV v := by
  rw [yst_val (y0_len hm), y0_val hm, hi_lt hv (by omega) hlt]
  rfl

/-! ### Is it 2^130 - 5 at least? -/
def leastQ (v : Int) (j : Nat) : Prop := v / 256 ^ 16 = 3 ∧ v % 256 ≥ 251 ∧ v / 256 % 256 ^ j = 256 ^ j - 1
instance (v : Int) (j : Nat) : Decidable (leastQ v j) := by unfold leastQ; infer_instance
theorem least_zero (v : Int) : leastQ v 0 ↔ (v / 256 ^ 16 = 3 ∧ v % 256 ≥ 251) := by
  unfold leastQ; simp
theorem least_succ (v : Int) (j : Nat) : leastQ v (j + 1) ↔ (leastQ v j ∧ v / 256 ^ (j + 1) % 256 = 255) := by
  have e : v / 256 ^ (j + 1) = v / 256 / 256 ^ j := by rw [Int.pow_succ, Int.mul_comm, ← div_div (by decide)]
  have key : v / 256 % 256 ^ (j + 1) = 256 ^ (j + 1) - 1 ↔ (v / 256 % 256 ^ j = 256 ^ j - 1 ∧ v / 256 / 256 ^ j % 256 = 255) := by
    rw [mod_succ, Int.pow_succ]
    have h1 : 0 ≤ v / 256 % 256 ^ j := Int.emod_nonneg _ (Int.ne_of_gt (p256_pos j))
    have h2 : v / 256 % 256 ^ j < 256 ^ j := Int.emod_lt_of_pos _ (p256_pos j)
    have h3 : 0 ≤ v / 256 / 256 ^ j % 256 ∧ v / 256 / 256 ^ j % 256 ≤ 255 := by omega
    have hp := p256_pos j
    generalize v / 256 % 256 ^ j = a at *
    generalize v / 256 / 256 ^ j % 256 = b at *
    generalize (256 : Int) ^ j = g at *
    constructor
    · intro h
      have hb : b = 255 := by
        have h5 : g * b ≤ g * 254 ∨ b = 255 := by
          by_cases hb : b = 255
          · exact .inr hb
          · exact .inl (Int.mul_le_mul_of_nonneg_left (by omega) (by omega))
        rcases h5 with h5 | h5
        · omega
        · exact h5
      subst hb
      exact ⟨by omega, rfl⟩
    · rintro ⟨h, rfl⟩
      omega
  unfold leastQ
  rw [e, key]
  constructor
  · rintro ⟨a, b, c, d⟩; exact ⟨⟨a, b, c⟩, d⟩
  · rintro ⟨⟨a, b, c⟩, d⟩; exact ⟨a, b, c, d⟩
theorem least_end {v : Int} (h0 : 0 ≤ v) (h1 : v < p130) : leastQ v 15 ↔ v ≥ pp := by
  unfold leastQ pp
  unfold p130 at h1
  rw [show (256 : Int) ^ 16 = 340282366920938463463374607431768211456 by decide, show (256 : Int) ^ 15 = 1329227995784915872903807060280344576 by decide]
  omega
theorem x16_eq {v : Int} (h0 : 0 ≤ v) (h1 : v < p130) : v / 256 ^ 16 % 256 = v / 256 ^ 16 := by
  unfold p130 at h1
  rw [show (256 : Int) ^ 16 = 340282366920938463463374607431768211456 by decide]
  omega
theorem digs_small {x : Int} (h0 : 0 ≤ x) (h1 : x < 256) : (List.replicate 18 (0 : Int)).set 0 x = digs x 18 := by
  have hl : ((List.replicate 18 (0 : Int)).set 0 x).length = 18 := by simp
  have hr : inR ((List.replicate 18 (0 : Int)).set 0 x) 255 := inR_set (inR_zeros 18 (by decide)) ⟨h0, by omega⟩
  have h := digs_eq (v := x) hr (by
    rw [hl, vb_set _ _ _ _ (by simp), vb_zeros]
    have h256 : (256 : Int) < 256 ^ 18 := by decide
    have : x % 256 ^ 18 = x := Int.emod_eq_of_lt h0 (by omega)
    rw [this]; simp)
  rw [hl] at h
  exact h.symm
end Go.Proofs.Ytjbagkimpmpfgaa

/- Poly: the document's carrying, walked. -/
namespace Go.Proofs.Ytjbagkimpmpfgaa
open Go Go.Mx
set_option maxRecDepth 100000
set_option maxHeartbeats 4000000

def c113 : Ctr := fun args objs => match args, objs with
  | [.one (.sl 0 0 n 1), .one (.int .i64 k)], [.own 1 [.ints .i64 l n']] => some ⟨[n = n', l.length = n', inR l 1099511627776, 0 ≤ k ∧ k ≤ 1000, n' ≤ 1000000], .v (.one (.sl 1 0 (clen (vb 256 l) n k.toNat) 1)), [], [.own 1 [.ints .i64 (digs (vb 256 l) (clen (vb 256 l) n k.toNat)) (clen (vb 256 l) n k.toNat)]]⟩
  | _, _ => none
theorem m113 : Meets Try.prog 113 c113 := by
  refine meets_of_run2 tab_ok env0 mixed [.tmp 4] Try.func113 rfl Try.ntmps113 Try.call113 (fun t w => by simp [results, Try.results113, resS, rv1]) ?_
  intro args objs r hr hcs
  unfold c113 at hr
  split at hr
  · rename_i n k l n'
    simp only [Option.some.injEq] at hr; subst hr
    obtain ⟨h1, h2, h3, h4, h5, _⟩ := hcs
    refine ⟨rfl, ?_⟩
    conv => whnf
    subst h1
    obtain ⟨k, rfl⟩ : ∃ j : Nat, k = (j : Int) := ⟨_, (Int.toNat_of_nonneg h4.1).symm⟩
    rw [Int.toNat_natCast]
    have hle := clen_le (k := k) h2 h3
    have hmore := cst_more (k := k) h2 h3
    obtain ⟨M, hM⟩ : ∃ M, M = clen (vb 256 l) n k := ⟨_, rfl⟩
    rw [← hM] at hle hmore ⊢
    obtain ⟨a, a0, asn, al, ab, aE⟩ : ∃ a : Nat → Int × List Int, a 0 = (0, []) ∧ (∀ i, a (i + 1) = (((a i).1 + l.getD i 0) / 256, (a i).2 ++ [((a i).1 + l.getD i 0) % 256])) ∧ (∀ i, (a i).2.length = i) ∧ (∀ i, (0 ≤ (a i).1 ∧ (a i).1 ≤ 1099511627776) ∧ (i < M ↔ (i < n ∨ (a i).1 > 0 ∨ i < k))) ∧ digs (vb 256 l) M = (a M).2 :=
      ⟨cst l, rfl, fun _ => rfl, cst_len l, fun i => ⟨cst_in h3 i, hmore i⟩, (cst_digs l M).symm⟩
    rw [aE]
    refine ⟨?_, { i : Nat // i ≤ M }, fun i => ⟨(.v (.one (.sl 0 0 n 1)) :: .v (.one (.int .i64 k)) :: .any :: .any :: .any :: .v (.one (.sl 1 0 i.1 1)) :: .v (.one (.int .i64 (a i.1).1)) :: .v (.one (.int .i64 i.1)) :: .any :: .any :: .any :: .any :: .any :: .any :: .any :: .any :: .any :: .any :: .any :: .any :: .any :: .any :: .any :: .any :: .any :: .any :: .any :: .any :: .any :: .any :: .any :: .any :: .any :: .any :: .any :: .any :: .any :: .any :: .any :: .any :: .any :: []), [.own 1 [.ints .i64 l n], .own 1 [.ints .i64 (a i.1).2 i.1]]⟩, fun i => M - i.1, ⟨0, by omega⟩, ?_, fun _ => rfl, ?_⟩
    · repeat' apply And.intro
      all_goals first
        | exact True.intro
        | omega
        | decide +kernel
        | rfl
        | exact Nat.le_of_ble_eq_true rfl
        | (dsimp only; omega)
        | trace_state
    · refine ⟨[0, 1], [(1, [.ints .i64 [] 0])], rfl, ?_, ?_⟩
      · repeat' apply And.intro
        all_goals first
          | exact True.intro
          | rfl
          | exact Nat.le_refl _
          | (simp only [a0])
      · refine ⟨⟨rfl, rfl, rfl, rfl, trivial⟩, ⟨rfl, rfl, ?_, rfl, trivial⟩, trivial⟩
        simp only [a0]
    rintro ⟨i, hi⟩
    have hal := al i
    obtain ⟨⟨hc1, hc2⟩, hm⟩ := ab i
    have has := asn i
    have hx := h3.h i
    obtain ⟨c, out, hco⟩ : ∃ c out, a i = (c, out) := ⟨_, _, rfl⟩
    rw [hco] at hal hc1 hc2 hm has
    dsimp only at hal hc1 hc2 hm has
    show run tab (fun _ => none) 1 _ ⟨(.v (.one (.sl 0 0 n 1)) :: .v (.one (.int .i64 k)) :: .any :: .any :: .any :: .v (.one (.sl 1 0 i 1)) :: .v (.one (.int .i64 (a i).1)) :: .v (.one (.int .i64 i)) :: .any :: .any :: .any :: .any :: .any :: .any :: .any :: .any :: .any :: .any :: .any :: .any :: .any :: .any :: .any :: .any :: .any :: .any :: .any :: .any :: .any :: .any :: .any :: .any :: .any :: .any :: .any :: .any :: .any :: .any :: .any :: .any :: .any :: []), [.own 1 [.ints .i64 l n], .own 1 [.ints .i64 (a i).2 i]]⟩ _ _
    refine run_K (P := fun K => run tab (fun _ => none) 1 _ ⟨_, _⟩ True K) ?_
    intro K hK
    rw [hco]
    dsimp only
    conv => whnf
    have hxn : n ≤ i → l.getD i 0 = 0 := fun h => by rw [List.getD_eq_getElem?_getD, List.getElem?_eq_none (by omega)]; rfl
    obtain ⟨x, hxe⟩ : ∃ x, x = l.getD i 0 := ⟨_, rfl⟩
    rw [← hxe] at has hx hxn
    have ex : l.getD (0 + (i : Int).toNat) 0 = x := by rw [Int.toNat_natCast, Nat.zero_add, hxe]
    have e0 : isum .i64 c x = c + x := by rw [isum, i64_in] ; omega
    have e1 : isum .i64 (i : Int) 1 = ((i + 1 : Nat) : Int) := by rw [isum, i64_in] <;> omega
    have e2 : ∀ y : Int, 0 ≤ y → Int.tmod y 256 = y % 256 := fun y hy => Int.tmod_eq_emod_of_nonneg hy
    have e3 : ∀ y : Int, 0 ≤ y ∧ y ≤ 2199023255552 → iquo .i64 y 256 = y / 256 := fun y hy => by rw [iquo, Int.tdiv_eq_ediv_of_nonneg hy.1, i64_in]; omega
    refine ⟨trivial, fun hg => ?_, fun hg => ?_⟩
    · have hin : i < n := by simp at hg; omega
      conv => whnf
      refine ⟨trivial, fun hb => ?_, fun hb => ?_⟩
      · have hbn : i < n := by simp at hb; omega
        conv => whnf
        rw [ex, e0, e1, e3 _ (by omega), e2 _ (by omega)]
        subst hK
        change _ ∧ _
        refine ⟨?_, ⟨i + 1, by omega⟩, by show M - (i + 1) < M - i; omega, [0, 3], [], rfl, ?_, ?_⟩
        · repeat' apply And.intro
          all_goals first
            | exact True.intro
            | (rw [Int.toNat_natCast]; omega)
            | (show i + 1 ≤ 9223372036854775807; omega)
            | (show (i + 1) * 8 ≤ 140737488355328; omega)
            | (show i * 1 = i + 0; omega)
            | omega
            | decide +kernel
            | rfl
            | exact Nat.le_of_ble_eq_true rfl
            | (dsimp only; omega)
            | trace_state
        · repeat' apply And.intro
          all_goals first
            | exact True.intro
            | rfl
            | exact Nat.le_refl _
            | decide +kernel
            | (simp only [has])
        · refine ⟨⟨rfl, rfl, rfl, rfl, trivial⟩, ⟨rfl, rfl, ?_, rfl, trivial⟩, trivial⟩
          simp only [has]; rfl
      · have hbn : ¬ i < n := by simp at hb; omega
        have hx0 : x = 0 := hxn (by omega)
        conv => whnf
        rw [e1, e3 c (by omega), e2 c (by omega)]
        rw [hx0, Int.add_zero] at has
        subst hK
        change _ ∧ _
        refine ⟨?_, ⟨i + 1, by omega⟩, by show M - (i + 1) < M - i; omega, [0, 3], [], rfl, ?_, ?_⟩
        · repeat' apply And.intro
          all_goals first
            | exact True.intro
            | (rw [Int.toNat_natCast]; omega)
            | (show i + 1 ≤ 9223372036854775807; omega)
            | (show (i + 1) * 8 ≤ 140737488355328; omega)
            | (show i * 1 = i + 0; omega)
            | omega
            | decide +kernel
            | rfl
            | exact Nat.le_of_ble_eq_true rfl
            | (dsimp only; omega)
            | trace_state
        · repeat' apply And.intro
          all_goals first
            | exact True.intro
            | rfl
            | exact Nat.le_refl _
            | decide +kernel
            | (simp only [has])
        · refine ⟨⟨rfl, rfl, rfl, rfl, trivial⟩, ⟨rfl, rfl, ?_, rfl, trivial⟩, trivial⟩
          simp only [has]; rfl
    · have hin : ¬ i < n := by simp at hg; omega
      conv => whnf
      refine ⟨trivial, fun hg => ?_, fun hg => ?_⟩
      · have hin2 : 0 < c := by simpa using hg
        conv => whnf
        refine ⟨trivial, fun hb => ?_, fun hb => ?_⟩
        · have hbn : i < n := by simp at hb; omega
          conv => whnf
          rw [ex, e0, e1, e3 _ (by omega), e2 _ (by omega)]
          subst hK
          change _ ∧ _
          refine ⟨?_, ⟨i + 1, by omega⟩, by show M - (i + 1) < M - i; omega, [0, 3], [], rfl, ?_, ?_⟩
          · repeat' apply And.intro
            all_goals first
              | exact True.intro
              | (rw [Int.toNat_natCast]; omega)
              | (show i + 1 ≤ 9223372036854775807; omega)
              | (show (i + 1) * 8 ≤ 140737488355328; omega)
              | (show i * 1 = i + 0; omega)
              | omega
              | decide +kernel
              | rfl
              | exact Nat.le_of_ble_eq_true rfl
              | (dsimp only; omega)
              | trace_state
          · repeat' apply And.intro
            all_goals first
              | exact True.intro
              | rfl
              | exact Nat.le_refl _
              | decide +kernel
              | (simp only [has])
          · refine ⟨⟨rfl, rfl, rfl, rfl, trivial⟩, ⟨rfl, rfl, ?_, rfl, trivial⟩, trivial⟩
            simp only [has]; rfl
        · have hbn : ¬ i < n := by simp at hb; omega
          have hx0 : x = 0 := hxn (by omega)
          conv => whnf
          rw [e1, e3 c (by omega), e2 c (by omega)]
          rw [hx0, Int.add_zero] at has
          subst hK
          change _ ∧ _
          refine ⟨?_, ⟨i + 1, by omega⟩, by show M - (i + 1) < M - i; omega, [0, 3], [], rfl, ?_, ?_⟩
          · repeat' apply And.intro
            all_goals first
              | exact True.intro
              | (rw [Int.toNat_natCast]; omega)
              | (show i + 1 ≤ 9223372036854775807; omega)
              | (show (i + 1) * 8 ≤ 140737488355328; omega)
              | (show i * 1 = i + 0; omega)
              | omega
              | decide +kernel
              | rfl
              | exact Nat.le_of_ble_eq_true rfl
              | (dsimp only; omega)
              | trace_state
          · repeat' apply And.intro
            all_goals first
              | exact True.intro
              | rfl
              | exact Nat.le_refl _
              | decide +kernel
              | (simp only [has])
          · refine ⟨⟨rfl, rfl, rfl, rfl, trivial⟩, ⟨rfl, rfl, ?_, rfl, trivial⟩, trivial⟩
            simp only [has]; rfl
      · have hin2 : ¬ 0 < c := by simpa using hg
        conv => whnf
        refine ⟨trivial, fun hg => ?_, fun hg => ?_⟩
        · have hin3 : i < k := by simp at hg; omega
          conv => whnf
          refine ⟨trivial, fun hb => ?_, fun hb => ?_⟩
          · have hbn : i < n := by simp at hb; omega
            conv => whnf
            rw [ex, e0, e1, e3 _ (by omega), e2 _ (by omega)]
            subst hK
            change _ ∧ _
            refine ⟨?_, ⟨i + 1, by omega⟩, by show M - (i + 1) < M - i; omega, [0, 3], [], rfl, ?_, ?_⟩
            · repeat' apply And.intro
              all_goals first
                | exact True.intro
                | (rw [Int.toNat_natCast]; omega)
                | (show i + 1 ≤ 9223372036854775807; omega)
                | (show (i + 1) * 8 ≤ 140737488355328; omega)
                | (show i * 1 = i + 0; omega)
                | omega
                | decide +kernel
                | rfl
                | exact Nat.le_of_ble_eq_true rfl
                | (dsimp only; omega)
                | trace_state
            · repeat' apply And.intro
              all_goals first
                | exact True.intro
                | rfl
                | exact Nat.le_refl _
                | decide +kernel
                | (simp only [has])
            · refine ⟨⟨rfl, rfl, rfl, rfl, trivial⟩, ⟨rfl, rfl, ?_, rfl, trivial⟩, trivial⟩
              simp only [has]; rfl
          · have hbn : ¬ i < n := by simp at hb; omega
            have hx0 : x = 0 := hxn (by omega)
            conv => whnf
            rw [e1, e3 c (by omega), e2 c (by omega)]
            rw [hx0, Int.add_zero] at has
            subst hK
            change _ ∧ _
            refine ⟨?_, ⟨i + 1, by omega⟩, by show M - (i + 1) < M - i; omega, [0, 3], [], rfl, ?_, ?_⟩
            · repeat' apply And.intro
              all_goals first
                | exact True.intro
                | (rw [Int.toNat_natCast]; omega)
                | (show i + 1 ≤ 9223372036854775807; omega)
                | (show (i + 1) * 8 ≤ 140737488355328; omega)
                | (show i * 1 = i + 0; omega)
                | omega
                | decide +kernel
                | rfl
                | exact Nat.le_of_ble_eq_true rfl
                | (dsimp only; omega)
                | trace_state
            · repeat' apply And.intro
              all_goals first
                | exact True.intro
                | rfl
                | exact Nat.le_refl _
                | decide +kernel
                | (simp only [has])
            · refine ⟨⟨rfl, rfl, rfl, rfl, trivial⟩, ⟨rfl, rfl, ?_, rfl, trivial⟩, trivial⟩
              simp only [has]; rfl
        · have hin3 : ¬ i < k := by simp at hg; omega
          conv => whnf
          have : i = M := by omega
          subst this
          subst hK
          conv => whnf
          refine ⟨?_, rfl, [0, 1], [], rfl, ⟨rfl, trivial⟩, ⟨rfl, rfl, rfl, rfl, trivial⟩, ⟨rfl, rfl, ?_, rfl, trivial⟩, trivial⟩
          repeat' apply And.intro
          all_goals first
            | exact True.intro
            | omega
            | decide +kernel
            | rfl
            | exact Nat.le_of_ble_eq_true rfl
            | (dsimp only; omega)
            | trace_state
          · rw [hco]
  · cases hr
end Go.Proofs.Ytjbagkimpmpfgaa

/- Poly: the document's rest by 2^130 - 5, walked. -/
namespace Go.Proofs.Ytjbagkimpmpfgaa
open Go Go.Mx
set_option maxRecDepth 100000
set_option maxHeartbeats 4000000

def c112 : Ctr := fun args objs => match args, objs with
  | [.one (.sl 0 0 n 1)], [.own 1 [.ints .i64 l n']] => some ⟨[n = n', l.length = n', inR l 1099511627776, n' ≤ 1000], .v (.one (.sl 1 0 (restR (vb 256 l) (clen (vb 256 l) n 18)).2 1)), [], [.own 1 [.ints .i64 (digs (restR (vb 256 l) (clen (vb 256 l) n 18)).1 (restR (vb 256 l) (clen (vb 256 l) n 18)).2) (restR (vb 256 l) (clen (vb 256 l) n 18)).2]]⟩
  | _, _ => none
def env112 : Env := fun f => match f with
  | 113 => some c113
  | _ => none
theorem env112_ok : EnvOk Try.prog env112 := by
  intro f c h
  unfold env112 at h
  split at h
  · simp only [Option.some.injEq] at h; subst h; exact m113
  · cases h
theorem m112 : Meets Try.prog 112 c112 := by
  refine meets_of_run2 tab_ok env112_ok mixed [.tmp 2] Try.func112 rfl Try.ntmps112 Try.call112 (fun t w => by simp [results, Try.results112, resS, rv1]) ?_
  intro args objs r hr hcs
  unfold c112 at hr
  split at hr
  · rename_i n l n'
    simp only [Option.some.injEq] at hr; subst hr
    obtain ⟨h1, h2, h3, h4, _⟩ := hcs
    refine ⟨rfl, ?_⟩
    conv => whnf
    subst h1
    have hv0 := vb_nonneg (B := 256) (by decide) h3
    have hle := clen_le (k := 18) h2 h3
    have hge := le_clen (vb 256 l) n 18
    have hlt := lt_clen hv0 n 18
    obtain ⟨v0, hv0e⟩ : ∃ v0, v0 = vb 256 l := ⟨_, rfl⟩
    rw [← hv0e] at hv0 hle hge hlt ⊢
    obtain ⟨M, hM⟩ : ∃ M, M = clen v0 n 18 := ⟨_, rfl⟩
    simp only [show Int.toNat 18 = 18 from rfl]
    rw [← hM] at hle hge hlt ⊢
    obtain ⟨R, hR⟩ : ∃ R, R = restR v0 M := ⟨_, rfl⟩
    have hRF : R = (if (restF v0 M).1 ≥ pp then ((restF v0 M).1 - pp, 18) else restF v0 M) := hR
    rw [← hR]
    refine ⟨?_, { p : Int × Nat // (0 ≤ p.1 ∧ p.1 < 256 ^ p.2) ∧ (18 ≤ p.2 ∧ p.2 ≤ 2000) ∧ restF p.1 p.2 = restF v0 M }, fun i => ⟨(.v (.one (.sl 1 0 i.1.2 1)) :: .any :: .any :: .any :: .any :: .any :: .any :: .any :: .any :: .any :: .any :: .any :: .any :: .any :: .any :: .any :: .any :: .any :: .any :: .any :: .any :: .any :: .any :: .any :: .any :: .any :: .any :: .any :: .any :: .any :: .any :: .any :: .any :: .any :: .any :: .any :: .any :: .any :: .any :: .any :: .any :: .any :: .any :: .any :: .any :: .any :: .any :: .any :: .any :: .any :: .any :: .any :: .any :: .any :: .any :: .any :: .any :: .any :: .any :: .any :: .any :: .any :: .any :: .any :: .any :: .any :: .any :: .any :: .any :: .any :: .any :: .any :: .any :: .any :: .any :: .any :: .any :: .any :: .any :: .any :: .any :: .any :: .any :: .any :: .any :: .any :: .any :: .any :: .any :: .any :: .any :: .any :: .any :: .any :: .any :: .any :: .any :: .any :: .any :: .any :: .any :: .any :: .any :: .any :: .any :: .any :: .any :: .any :: .any :: .any :: .any :: .any :: .any :: .any :: .any :: .any :: .any :: .any :: .any :: .any :: []), [.own 1 [.ints .i64 l n], .own 1 [.ints .i64 (digs i.1.1 i.1.2) i.1.2]]⟩, fun i => i.1.1.toNat, ⟨(v0, M), ⟨hv0, hlt⟩, ⟨hge, by omega⟩, rfl⟩, ?_, fun _ => rfl, ?_⟩
    · repeat' apply And.intro
      all_goals first
        | exact True.intro
        | omega
        | decide +kernel
        | rfl
        | exact Nat.le_of_ble_eq_true rfl
        | (dsimp only; omega)
        | trace_state
    · refine ⟨[0, 1], [], rfl, ?_, ?_⟩
      · repeat' apply And.intro
        all_goals first
          | exact True.intro
          | rfl
          | exact Nat.le_refl _
          | decide +kernel
          | omega
          | trace_state
      · exact ⟨⟨rfl, rfl, rfl, rfl, trivial⟩, ⟨rfl, rfl, rfl, rfl, trivial⟩, trivial⟩
    rintro ⟨⟨v, m⟩, ⟨hv, hvm⟩, ⟨hm, hm2⟩, hvF⟩
    dsimp only at hv hvm hm hm2 hvF
    have hdl := digs_len v m
    obtain ⟨X, hX⟩ : ∃ X, X = digs v m := ⟨_, rfl⟩
    rw [← hX] at hdl
    show run tab env112 1 _ ⟨(.v (.one (.sl 1 0 m 1)) :: .any :: .any :: .any :: .any :: .any :: .any :: .any :: .any :: .any :: .any :: .any :: .any :: .any :: .any :: .any :: .any :: .any :: .any :: .any :: .any :: .any :: .any :: .any :: .any :: .any :: .any :: .any :: .any :: .any :: .any :: .any :: .any :: .any :: .any :: .any :: .any :: .any :: .any :: .any :: .any :: .any :: .any :: .any :: .any :: .any :: .any :: .any :: .any :: .any :: .any :: .any :: .any :: .any :: .any :: .any :: .any :: .any :: .any :: .any :: .any :: .any :: .any :: .any :: .any :: .any :: .any :: .any :: .any :: .any :: .any :: .any :: .any :: .any :: .any :: .any :: .any :: .any :: .any :: .any :: .any :: .any :: .any :: .any :: .any :: .any :: .any :: .any :: .any :: .any :: .any :: .any :: .any :: .any :: .any :: .any :: .any :: .any :: .any :: .any :: .any :: .any :: .any :: .any :: .any :: .any :: .any :: .any :: .any :: .any :: .any :: .any :: .any :: .any :: .any :: .any :: .any :: .any :: .any :: .any :: []), [.own 1 [.ints .i64 l n], .own 1 [.ints .i64 (digs v m) m]]⟩ _ _
    refine run_K (P := fun K => run tab env112 1 _ ⟨_, _⟩ True K) ?_
    intro K hK
    rw [← hX]
    obtain ⟨q, hq⟩ : ∃ q, q = v / p130 := ⟨_, rfl⟩
    have hq0 : 0 ≤ q := by rw [hq]; unfold p130; omega
    have hqe : q % 256 ^ (m - 16) = q := by rw [hq]; exact hi_lt hv (by omega) hvm
    have hqd : ∀ j, 16 + j < m → q / 256 ^ j % 256 = X.getD (16 + j) 0 / 4 + (if 16 + j + 1 < m then X.getD (16 + j + 1) 0 % 4 * 64 else 0) := fun j hj => by rw [hq, hX]; exact hi_dig hv hvm hj
    have hXin := fun i => (digs_in v m).h i
    rw [← hX] at hXin
    obtain ⟨D, D0, Ds, Dl, Db, DE⟩ : ∃ D : Nat → List Int × Bool, D 0 = ([], false) ∧ (∀ j, D (j + 1) = ((D j).1 ++ [q / 256 ^ j % 256], (D j).2 || decide (0 < q / 256 ^ j % 256))) ∧ (∀ j, (D j).1.length = j) ∧ (D (m - 16)).2 = decide (0 < q) ∧ (D (m - 16)).1 = digs q (m - 16) :=
      ⟨fun j => (digs q j, decide (0 < q % 256 ^ j)), by simp [digs], fun j => by simp only [digs]; congr 1; rw [Bool.eq_iff_iff]; simp only [Bool.or_eq_true, decide_eq_true_eq]; exact some_succ hq0 j, digs_len q, by dsimp only; rw [hqe], rfl⟩
    conv => whnf
    refine ⟨?_, { j : Nat // 16 + j ≤ m }, fun j => ⟨(.v (.one (.sl 1 0 m 1)) :: .any :: .any :: .v (.one (.sl 2 0 j.1 1)) :: .v (.one (.bool false (D j.1).2)) :: .v (.one (.int .i64 ((16 + j.1 : Nat) : Int))) :: .any :: .any :: .any :: .any :: .any :: .any :: .any :: .any :: .any :: .any :: .any :: .any :: .any :: .any :: .any :: .any :: .any :: .any :: .any :: .any :: .any :: .any :: .any :: .any :: .any :: .any :: .any :: .any :: .any :: .any :: .any :: .any :: .any :: .any :: .any :: .any :: .any :: .any :: .any :: .any :: .any :: .any :: .any :: .any :: .any :: .any :: .any :: .any :: .any :: .any :: .any :: .any :: .any :: .any :: .any :: .any :: .any :: .any :: .any :: .any :: .any :: .any :: .any :: .any :: .any :: .any :: .any :: .any :: .any :: .any :: .any :: .any :: .any :: .any :: .any :: .any :: .any :: .any :: .any :: .any :: .any :: .any :: .any :: .any :: .any :: .any :: .any :: .any :: .any :: .any :: .any :: .any :: .any :: .any :: .any :: .any :: .any :: .any :: .any :: .any :: .any :: .any :: .any :: .any :: .any :: .any :: .any :: .any :: .any :: .any :: .any :: .any :: .any :: .any :: []), [.own 1 [.ints .i64 l n], .own 1 [.ints .i64 X m], .own 1 [.ints .i64 (D j.1).1 j.1]]⟩, fun j => m - j.1, ⟨0, by omega⟩, ?_, fun _ => rfl, ?_⟩
    · trivial
    · refine ⟨[0, 1, 2], [(1, [.ints .i64 [] 0])], rfl, ?_, ?_⟩
      · repeat' apply And.intro
        all_goals first
          | exact True.intro
          | rfl
          | exact Nat.le_refl _
          | decide +kernel
          | (simp only [D0]; exact rfl)
      · refine ⟨⟨rfl, rfl, rfl, rfl, trivial⟩, ⟨rfl, rfl, rfl, rfl, trivial⟩, ⟨rfl, rfl, ?_, rfl, trivial⟩, trivial⟩
        simp only [D0]
    rintro ⟨j, hj⟩
    have hjl := Dl j
    have hjs := Ds j
    have hjd := hqd j
    obtain ⟨out, sm, hos⟩ : ∃ c out, D j = (c, out) := ⟨_, _, rfl⟩
    rw [hos] at hjl hjs
    dsimp only at hjl hjs
    show run tab env112 1 _ ⟨(.v (.one (.sl 1 0 m 1)) :: .any :: .any :: .v (.one (.sl 2 0 j 1)) :: .v (.one (.bool false (D j).2)) :: .v (.one (.int .i64 ((16 + j : Nat) : Int))) :: .any :: .any :: .any :: .any :: .any :: .any :: .any :: .any :: .any :: .any :: .any :: .any :: .any :: .any :: .any :: .any :: .any :: .any :: .any :: .any :: .any :: .any :: .any :: .any :: .any :: .any :: .any :: .any :: .any :: .any :: .any :: .any :: .any :: .any :: .any :: .any :: .any :: .any :: .any :: .any :: .any :: .any :: .any :: .any :: .any :: .any :: .any :: .any :: .any :: .any :: .any :: .any :: .any :: .any :: .any :: .any :: .any :: .any :: .any :: .any :: .any :: .any :: .any :: .any :: .any :: .any :: .any :: .any :: .any :: .any :: .any :: .any :: .any :: .any :: .any :: .any :: .any :: .any :: .any :: .any :: .any :: .any :: .any :: .any :: .any :: .any :: .any :: .any :: .any :: .any :: .any :: .any :: .any :: .any :: .any :: .any :: .any :: .any :: .any :: .any :: .any :: .any :: .any :: .any :: .any :: .any :: .any :: .any :: .any :: .any :: .any :: .any :: .any :: .any :: []), [.own 1 [.ints .i64 l n], .own 1 [.ints .i64 X m], .own 1 [.ints .i64 (D j).1 j]]⟩ _ _
    refine run_K (P := fun K => run tab env112 1 _ ⟨_, _⟩ True K) ?_
    intro K hK
    rw [hos]
    dsimp only
    have e1 : isum .i64 ((16 + j : Nat) : Int) 1 = ((16 + (j + 1) : Nat) : Int) := by rw [isum, i64_in] <;> omega
    obtain ⟨g, hg0⟩ : ∃ g, g = q / 256 ^ j % 256 := ⟨_, rfl⟩
    obtain ⟨x, hx0⟩ : ∃ x, x = X.getD (16 + j) 0 := ⟨_, rfl⟩
    obtain ⟨y, hy0⟩ : ∃ y, y = X.getD (16 + j + 1) 0 := ⟨_, rfl⟩
    have hxr := hXin (16 + j)
    have hyr := hXin (16 + j + 1)
    have ex : X.getD (0 + ((16 + j : Nat) : Int).toNat) 0 = x := by rw [Int.toNat_natCast, Nat.zero_add, hx0]
    have ey : X.getD (0 + ((16 + (j + 1) : Nat) : Int).toNat) 0 = y := by rw [Int.toNat_natCast, Nat.zero_add, hy0]; rfl
    rw [← hg0, ← hx0, ← hy0] at hjd
    rw [← hg0] at hjs
    rw [← hx0] at hxr
    rw [← hy0] at hyr
    have e2 : iquo .i64 x 4 = x / 4 := by rw [iquo, Int.tdiv_eq_ediv_of_nonneg hxr.1, i64_in]; omega
    have e3 : y.tmod 4 = y % 4 := Int.tmod_eq_emod_of_nonneg hyr.1
    have e4 : imul .i64 (y % 4) 64 = y % 4 * 64 := by rw [imul, i64_in]; omega
    have e5 : isum .i64 (x / 4) (y % 4 * 64) = x / 4 + y % 4 * 64 := by rw [isum, i64_in]; omega
    conv => whnf
    refine ⟨trivial, fun hlt => ?_, fun hlt => ?_⟩
    · have hlt' : 16 + j < m := by simp at hlt; omega
      have hjd := hjd hlt'
      conv => whnf
      refine ⟨?_, fun hk => ?_, fun hk => ?_⟩
      · repeat' apply And.intro
        all_goals first
          | exact True.intro
          | (rw [Int.toNat_natCast]; omega)
          | (show (4 : Int) ≠ 0; decide)
          | omega
          | decide +kernel
          | rfl
          | exact Nat.le_of_ble_eq_true rfl
          | (dsimp only; omega)
          | trace_state
      · rw [e1] at hk
        have hk' : 16 + j + 1 < m := by simp at hk; omega
        rw [if_pos hk', ← e5, ← e4, ← e3, ← e2] at hjd
        conv => whnf
        rw [e1, ex, ey, ← hjd]
        refine ⟨?_, fun hs => ?_, fun hs => ?_⟩
        · repeat' apply And.intro
          all_goals first
            | exact True.intro
            | (rw [Int.toNat_natCast]; omega)
            | (show j + 1 ≤ 9223372036854775807; omega)
            | (show (j + 1) * 8 ≤ 140737488355328; omega)
            | (show j * 1 = j + 0; omega)
            | (show (4 : Int) ≠ 0; decide)
            | omega
            | decide +kernel
            | rfl
            | exact Nat.le_of_ble_eq_true rfl
            | (dsimp only; omega)
            | trace_state
        · conv => whnf
          rw [e1]
          rw [hs, Bool.true_or] at hjs
          subst hK
          change _ ∧ _
          refine ⟨?_, ⟨j + 1, by omega⟩, by show m - (j + 1) < m - j; omega, [0, 1, 4], [], rfl, ?_, ?_⟩
          · repeat' apply And.intro
            all_goals first
              | exact True.intro
              | omega
              | decide +kernel
              | rfl
              | exact Nat.le_of_ble_eq_true rfl
              | (dsimp only; omega)
              | trace_state
          · repeat' apply And.intro
            all_goals first
              | exact True.intro
              | rfl
              | exact Nat.le_refl _
              | decide +kernel
              | (simp only [hjs]; exact rfl)
              | trace_state
          · refine ⟨⟨rfl, rfl, rfl, rfl, trivial⟩, ⟨rfl, rfl, rfl, rfl, trivial⟩, ⟨rfl, rfl, ?_, rfl, trivial⟩, trivial⟩
            simp only [hjs]; rfl
        · conv => whnf
          rw [e1]
          rw [hs, Bool.false_or] at hjs
          subst hK
          change _ ∧ _
          refine ⟨?_, ⟨j + 1, by omega⟩, by show m - (j + 1) < m - j; omega, [0, 1, 4], [], rfl, ?_, ?_⟩
          · repeat' apply And.intro
            all_goals first
              | exact True.intro
              | omega
              | decide +kernel
              | rfl
              | exact Nat.le_of_ble_eq_true rfl
              | (dsimp only; omega)
              | trace_state
          · repeat' apply And.intro
            all_goals first
              | exact True.intro
              | rfl
              | exact Nat.le_refl _
              | decide +kernel
              | (simp only [hjs]; exact rfl)
              | trace_state
          · refine ⟨⟨rfl, rfl, rfl, rfl, trivial⟩, ⟨rfl, rfl, rfl, rfl, trivial⟩, ⟨rfl, rfl, ?_, rfl, trivial⟩, trivial⟩
            simp only [hjs]; rfl
      · rw [e1] at hk
        have hk' : ¬ 16 + j + 1 < m := by simp at hk; omega
        rw [if_neg hk', Int.add_zero, ← e2] at hjd
        conv => whnf
        rw [ex, ← hjd]
        refine ⟨?_, fun hs => ?_, fun hs => ?_⟩
        · repeat' apply And.intro
          all_goals first
            | exact True.intro
            | (rw [Int.toNat_natCast]; omega)
            | (show j + 1 ≤ 9223372036854775807; omega)
            | (show (j + 1) * 8 ≤ 140737488355328; omega)
            | (show j * 1 = j + 0; omega)
            | (show (4 : Int) ≠ 0; decide)
            | omega
            | decide +kernel
            | rfl
            | exact Nat.le_of_ble_eq_true rfl
            | (dsimp only; omega)
            | trace_state
        · conv => whnf
          rw [e1]
          rw [hs, Bool.true_or] at hjs
          subst hK
          change _ ∧ _
          refine ⟨?_, ⟨j + 1, by omega⟩, by show m - (j + 1) < m - j; omega, [0, 1, 4], [], rfl, ?_, ?_⟩
          · repeat' apply And.intro
            all_goals first
              | exact True.intro
              | omega
              | decide +kernel
              | rfl
              | exact Nat.le_of_ble_eq_true rfl
              | (dsimp only; omega)
              | trace_state
          · repeat' apply And.intro
            all_goals first
              | exact True.intro
              | rfl
              | exact Nat.le_refl _
              | decide +kernel
              | (simp only [hjs]; exact rfl)
              | trace_state
          · refine ⟨⟨rfl, rfl, rfl, rfl, trivial⟩, ⟨rfl, rfl, rfl, rfl, trivial⟩, ⟨rfl, rfl, ?_, rfl, trivial⟩, trivial⟩
            simp only [hjs]; rfl
        · conv => whnf
          rw [e1]
          rw [hs, Bool.false_or] at hjs
          subst hK
          change _ ∧ _
          refine ⟨?_, ⟨j + 1, by omega⟩, by show m - (j + 1) < m - j; omega, [0, 1, 4], [], rfl, ?_, ?_⟩
          · repeat' apply And.intro
            all_goals first
              | exact True.intro
              | omega
              | decide +kernel
              | rfl
              | exact Nat.le_of_ble_eq_true rfl
              | (dsimp only; omega)
              | trace_state
          · repeat' apply And.intro
            all_goals first
              | exact True.intro
              | rfl
              | exact Nat.le_refl _
              | decide +kernel
              | (simp only [hjs]; exact rfl)
              | trace_state
          · refine ⟨⟨rfl, rfl, rfl, rfl, trivial⟩, ⟨rfl, rfl, rfl, rfl, trivial⟩, ⟨rfl, rfl, ?_, rfl, trivial⟩, trivial⟩
            simp only [hjs]; rfl
    · have hlt' : 16 + j = m := by simp at hlt; omega
      obtain rfl : j = m - 16 := by omega
      conv => whnf
      subst hK
      conv => whnf
      have hsq : sm = decide (0 < q) := by rw [← Db, hos]
      refine ⟨trivial, fun hs => ?_, fun hs => ?_⟩
      · have hnq : ¬ 0 < v / p130 := by
          rw [← hq]
          rw [hsq] at hs
          simpa using hs
        have hvp : v < p130 := by unfold p130 at *; omega
        rw [restF_end hnq] at hvF
        rw [← hvF] at hRF
        dsimp only at hRF
        obtain ⟨L, L0, Ls, LE⟩ : ∃ L : Nat → Bool, L 0 = (decide (X.getD 16 0 = 3) && decide (X.getD 0 0 ≥ 251)) ∧ (∀ j, j < 15 → L (j + 1) = (L j && decide (X.getD (j + 1) 0 = 255))) ∧ L 15 = decide (v ≥ pp) := by
          refine ⟨fun j => decide (leastQ v j), ?_, fun j hj => ?_, decide_eq_decide.2 (least_end hv hvp)⟩
          · rw [Bool.eq_iff_iff]
            simp only [Bool.and_eq_true, decide_eq_true_eq]
            rw [least_zero, hX, digs_at v m 16 (by omega), digs_at v m 0 (by omega), x16_eq hv hvp, Int.pow_zero, Int.ediv_one]
          · rw [Bool.eq_iff_iff]
            simp only [Bool.and_eq_true, decide_eq_true_eq]
            rw [least_succ, hX, digs_at v m (j + 1) (by omega)]
        conv => whnf
        subst hK
        conv => whnf
        refine ⟨?_, fun hg => ?_, fun hg => ?_⟩
        · repeat' apply And.intro
          all_goals first
            | exact True.intro
            | omega
            | decide +kernel
            | rfl
            | exact Nat.le_of_ble_eq_true rfl
            | (dsimp only; omega)
            | trace_state
        · have hg' : decide (X.getD 16 0 = 3) = true := by simpa using hg
          rw [hg', Bool.true_and] at L0
          conv => whnf
          refine ⟨?_, { j : Nat // j ≤ 15 }, fun j => ⟨(.v (.one (.sl 1 0 m 1)) :: .any :: .any :: .any :: .any :: .any :: .any :: .any :: .any :: .v (.one (.bool false (L j.1))) :: .v (.one (.int .i64 ((1 + j.1 : Nat) : Int))) :: .any :: .any :: .any :: .any :: .any :: .any :: .any :: .any :: .any :: .any :: .any :: .any :: .any :: .any :: .any :: .any :: .any :: .any :: .any :: .any :: .any :: .any :: .any :: .any :: .any :: .any :: .any :: .any :: .any :: .any :: .any :: .any :: .any :: .any :: .any :: .any :: .any :: .any :: .any :: .any :: .any :: .any :: .any :: .any :: .any :: .any :: .any :: .any :: .any :: .any :: .any :: .any :: .any :: .any :: .any :: .any :: .any :: .any :: .any :: .any :: .any :: .any :: .any :: .any :: .any :: .any :: .any :: .any :: .any :: .any :: .any :: .any :: .any :: .any :: .any :: .any :: .any :: .any :: .any :: .any :: .any :: .any :: .any :: .any :: .any :: .any :: .any :: .any :: .any :: .any :: .any :: .any :: .any :: .any :: .any :: .any :: .any :: .any :: .any :: .any :: .any :: .any :: .any :: .any :: .any :: .any :: .any :: .any :: .any :: []), [.own 1 [.ints .i64 l n], .own 1 [.ints .i64 X m]]⟩, fun j => 15 - j.1, ⟨0, by omega⟩, ?_, fun _ => rfl, ?_⟩
          · repeat' apply And.intro
            all_goals first
              | exact True.intro
              | (show 0 + 0 < m; omega)
              | omega
              | decide +kernel
              | rfl
              | exact Nat.le_of_ble_eq_true rfl
              | (dsimp only; omega)
              | trace_state
          · refine ⟨[0, 1], [], rfl, ?_, ?_⟩
            · repeat' apply And.intro
              all_goals first
                | exact True.intro
                | rfl
                | exact Nat.le_refl _
                | decide +kernel
                | (simp only [L0]; exact rfl)
                | trace_state
            · exact ⟨⟨rfl, rfl, rfl, rfl, trivial⟩, ⟨rfl, rfl, rfl, rfl, trivial⟩, trivial⟩
          rintro ⟨j, hj⟩
          have hLs := Ls j
          have e6 : isum .i64 ((1 + j : Nat) : Int) 1 = ((1 + (j + 1) : Nat) : Int) := by rw [isum, i64_in] <;> omega
          show run tab env112 1 _ ⟨(.v (.one (.sl 1 0 m 1)) :: .any :: .any :: .any :: .any :: .any :: .any :: .any :: .any :: .v (.one (.bool false (L j))) :: .v (.one (.int .i64 ((1 + j : Nat) : Int))) :: .any :: .any :: .any :: .any :: .any :: .any :: .any :: .any :: .any :: .any :: .any :: .any :: .any :: .any :: .any :: .any :: .any :: .any :: .any :: .any :: .any :: .any :: .any :: .any :: .any :: .any :: .any :: .any :: .any :: .any :: .any :: .any :: .any :: .any :: .any :: .any :: .any :: .any :: .any :: .any :: .any :: .any :: .any :: .any :: .any :: .any :: .any :: .any :: .any :: .any :: .any :: .any :: .any :: .any :: .any :: .any :: .any :: .any :: .any :: .any :: .any :: .any :: .any :: .any :: .any :: .any :: .any :: .any :: .any :: .any :: .any :: .any :: .any :: .any :: .any :: .any :: .any :: .any :: .any :: .any :: .any :: .any :: .any :: .any :: .any :: .any :: .any :: .any :: .any :: .any :: .any :: .any :: .any :: .any :: .any :: .any :: .any :: .any :: .any :: .any :: .any :: .any :: .any :: .any :: .any :: .any :: .any :: .any :: .any :: []), [.own 1 [.ints .i64 l n], .own 1 [.ints .i64 X m]]⟩ _ _
          refine run_K (P := fun K => run tab env112 1 _ ⟨_, _⟩ True K) ?_
          intro K hK
          conv => whnf
          refine ⟨trivial, fun hlt => ?_, fun hlt => ?_⟩
          · have hlt' : j < 15 := by simp at hlt; omega
            have hLs := hLs hlt'
            have hxi : X.getD (0 + ((1 + j : Nat) : Int).toNat) 0 = X.getD (j + 1) 0 := by rw [Int.toNat_natCast]; congr 1; omega
            conv => whnf
            refine ⟨trivial, fun hg => ?_, fun hg => ?_⟩
            · rw [hg, Bool.true_and] at hLs
              conv => whnf
              rw [e6, hxi]
              subst hK
              change _ ∧ _
              refine ⟨?_, ⟨j + 1, by omega⟩, by show 15 - (j + 1) < 15 - j; omega, [0, 1], [], rfl, ?_, ?_⟩
              · repeat' apply And.intro
                all_goals first
                  | exact True.intro
                  | (rw [Int.toNat_natCast]; omega)
                  | omega
                  | decide +kernel
                  | rfl
                  | exact Nat.le_of_ble_eq_true rfl
                  | (dsimp only; omega)
                  | trace_state
              · repeat' apply And.intro
                all_goals first
                  | exact True.intro
                  | rfl
                  | exact Nat.le_refl _
                  | decide +kernel
                  | (simp only [hLs]; show (_ == _) = decide _; rw [Bool.eq_iff_iff]; simp; done)
                  | trace_state
              · exact ⟨⟨rfl, rfl, rfl, rfl, trivial⟩, ⟨rfl, rfl, rfl, rfl, trivial⟩, trivial⟩
            · rw [hg, Bool.false_and] at hLs
              conv => whnf
              rw [e6]
              subst hK
              change _ ∧ _
              refine ⟨?_, ⟨j + 1, by omega⟩, by show 15 - (j + 1) < 15 - j; omega, [0, 1], [], rfl, ?_, ?_⟩
              · repeat' apply And.intro
                all_goals first
                  | exact True.intro
                  | (rw [Int.toNat_natCast]; omega)
                  | omega
                  | decide +kernel
                  | rfl
                  | exact Nat.le_of_ble_eq_true rfl
                  | (dsimp only; omega)
                  | trace_state
              · repeat' apply And.intro
                all_goals first
                  | exact True.intro
                  | rfl
                  | exact Nat.le_refl _
                  | decide +kernel
                  | (simp only [hLs]; exact rfl)
                  | trace_state
              · exact ⟨⟨rfl, rfl, rfl, rfl, trivial⟩, ⟨rfl, rfl, rfl, rfl, trivial⟩, trivial⟩
          · have hlt' : j = 15 := by simp at hlt; omega
            subst hlt'
            conv => whnf
            subst hK
            conv => whnf
            refine ⟨trivial, fun hg => ?_, fun hg => ?_⟩
            · rw [LE] at hg
              have hvg : v ≥ pp := by simpa using hg
              rw [if_pos hvg] at hRF
              have hx00 : X.getD 0 0 = v % 256 := by rw [hX, digs_at v m 0 (by omega), Int.pow_zero, Int.ediv_one]
              have hxd : idif .i64 (X.getD 0 0) 251 = v - pp := by rw [idif, hx00, i64_in] <;> (unfold pp p130 at *; omega)
              have hds := digs_small (x := v - pp) (by omega) (by unfold pp p130 at *; omega)
              rw [hRF]
              conv => whnf
              refine ⟨?_, rfl, [0, 2], [], rfl, ⟨rfl, trivial⟩, ⟨rfl, rfl, rfl, rfl, trivial⟩, ⟨rfl, rfl, ?_, rfl, trivial⟩, trivial⟩
              · repeat' apply And.intro
                all_goals first
                  | exact True.intro
                  | (show 0 + 0 < m; omega)
                  | (show 0 + 0 < 18; omega)
                  | omega
                  | decide +kernel
                  | rfl
                  | exact Nat.le_of_ble_eq_true rfl
                  | (dsimp only; omega)
                  | trace_state
              · show (List.replicate 18 0).set 0 (idif .i64 (X.getD 0 0) 251) = digs (v - pp) 18
                rw [hxd, hds]
            · rw [LE] at hg
              have hvg : ¬ v ≥ pp := by simpa using hg
              rw [if_neg hvg] at hRF
              rw [hRF]
              conv => whnf
              refine ⟨?_, rfl, [0, 1], [], rfl, ⟨rfl, trivial⟩, ⟨rfl, rfl, rfl, rfl, trivial⟩, ⟨rfl, rfl, ?_, rfl, trivial⟩, trivial⟩
              · repeat' apply And.intro
                all_goals first
                  | exact True.intro
                  | omega
                  | decide +kernel
                  | rfl
                  | exact Nat.le_of_ble_eq_true rfl
                  | (dsimp only; omega)
                  | trace_state
              · exact hX
        · have hg' : decide (X.getD 16 0 = 3) = false := by simpa using hg
          rw [hg', Bool.false_and] at L0
          conv => whnf
          refine ⟨?_, { j : Nat // j ≤ 15 }, fun j => ⟨(.v (.one (.sl 1 0 m 1)) :: .any :: .any :: .any :: .any :: .any :: .any :: .any :: .any :: .v (.one (.bool false (L j.1))) :: .v (.one (.int .i64 ((1 + j.1 : Nat) : Int))) :: .any :: .any :: .any :: .any :: .any :: .any :: .any :: .any :: .any :: .any :: .any :: .any :: .any :: .any :: .any :: .any :: .any :: .any :: .any :: .any :: .any :: .any :: .any :: .any :: .any :: .any :: .any :: .any :: .any :: .any :: .any :: .any :: .any :: .any :: .any :: .any :: .any :: .any :: .any :: .any :: .any :: .any :: .any :: .any :: .any :: .any :: .any :: .any :: .any :: .any :: .any :: .any :: .any :: .any :: .any :: .any :: .any :: .any :: .any :: .any :: .any :: .any :: .any :: .any :: .any :: .any :: .any :: .any :: .any :: .any :: .any :: .any :: .any :: .any :: .any :: .any :: .any :: .any :: .any :: .any :: .any :: .any :: .any :: .any :: .any :: .any :: .any :: .any :: .any :: .any :: .any :: .any :: .any :: .any :: .any :: .any :: .any :: .any :: .any :: .any :: .any :: .any :: .any :: .any :: .any :: .any :: .any :: .any :: .any :: []), [.own 1 [.ints .i64 l n], .own 1 [.ints .i64 X m]]⟩, fun j => 15 - j.1, ⟨0, by omega⟩, ?_, fun _ => rfl, ?_⟩
          · repeat' apply And.intro
            all_goals first
              | exact True.intro
              | (show 0 + 0 < m; omega)
              | omega
              | decide +kernel
              | rfl
              | exact Nat.le_of_ble_eq_true rfl
              | (dsimp only; omega)
              | trace_state
          · refine ⟨[0, 1], [], rfl, ?_, ?_⟩
            · repeat' apply And.intro
              all_goals first
                | exact True.intro
                | rfl
                | exact Nat.le_refl _
                | decide +kernel
                | (simp only [L0]; exact rfl)
                | trace_state
            · exact ⟨⟨rfl, rfl, rfl, rfl, trivial⟩, ⟨rfl, rfl, rfl, rfl, trivial⟩, trivial⟩
          rintro ⟨j, hj⟩
          have hLs := Ls j
          have e6 : isum .i64 ((1 + j : Nat) : Int) 1 = ((1 + (j + 1) : Nat) : Int) := by rw [isum, i64_in] <;> omega
          show run tab env112 1 _ ⟨(.v (.one (.sl 1 0 m 1)) :: .any :: .any :: .any :: .any :: .any :: .any :: .any :: .any :: .v (.one (.bool false (L j))) :: .v (.one (.int .i64 ((1 + j : Nat) : Int))) :: .any :: .any :: .any :: .any :: .any :: .any :: .any :: .any :: .any :: .any :: .any :: .any :: .any :: .any :: .any :: .any :: .any :: .any :: .any :: .any :: .any :: .any :: .any :: .any :: .any :: .any :: .any :: .any :: .any :: .any :: .any :: .any :: .any :: .any :: .any :: .any :: .any :: .any :: .any :: .any :: .any :: .any :: .any :: .any :: .any :: .any :: .any :: .any :: .any :: .any :: .any :: .any :: .any :: .any :: .any :: .any :: .any :: .any :: .any :: .any :: .any :: .any :: .any :: .any :: .any :: .any :: .any :: .any :: .any :: .any :: .any :: .any :: .any :: .any :: .any :: .any :: .any :: .any :: .any :: .any :: .any :: .any :: .any :: .any :: .any :: .any :: .any :: .any :: .any :: .any :: .any :: .any :: .any :: .any :: .any :: .any :: .any :: .any :: .any :: .any :: .any :: .any :: .any :: .any :: .any :: .any :: .any :: .any :: .any :: []), [.own 1 [.ints .i64 l n], .own 1 [.ints .i64 X m]]⟩ _ _
          refine run_K (P := fun K => run tab env112 1 _ ⟨_, _⟩ True K) ?_
          intro K hK
          conv => whnf
          refine ⟨trivial, fun hlt => ?_, fun hlt => ?_⟩
          · have hlt' : j < 15 := by simp at hlt; omega
            have hLs := hLs hlt'
            have hxi : X.getD (0 + ((1 + j : Nat) : Int).toNat) 0 = X.getD (j + 1) 0 := by rw [Int.toNat_natCast]; congr 1; omega
            conv => whnf
            refine ⟨trivial, fun hg => ?_, fun hg => ?_⟩
            · rw [hg, Bool.true_and] at hLs
              conv => whnf
              rw [e6, hxi]
              subst hK
              change _ ∧ _
              refine ⟨?_, ⟨j + 1, by omega⟩, by show 15 - (j + 1) < 15 - j; omega, [0, 1], [], rfl, ?_, ?_⟩
              · repeat' apply And.intro
                all_goals first
                  | exact True.intro
                  | (rw [Int.toNat_natCast]; omega)
                  | omega
                  | decide +kernel
                  | rfl
                  | exact Nat.le_of_ble_eq_true rfl
                  | (dsimp only; omega)
                  | trace_state
              · repeat' apply And.intro
                all_goals first
                  | exact True.intro
                  | rfl
                  | exact Nat.le_refl _
                  | decide +kernel
                  | (simp only [hLs]; show (_ == _) = decide _; rw [Bool.eq_iff_iff]; simp; done)
                  | trace_state
              · exact ⟨⟨rfl, rfl, rfl, rfl, trivial⟩, ⟨rfl, rfl, rfl, rfl, trivial⟩, trivial⟩
            · rw [hg, Bool.false_and] at hLs
              conv => whnf
              rw [e6]
              subst hK
              change _ ∧ _
              refine ⟨?_, ⟨j + 1, by omega⟩, by show 15 - (j + 1) < 15 - j; omega, [0, 1], [], rfl, ?_, ?_⟩
              · repeat' apply And.intro
                all_goals first
                  | exact True.intro
                  | (rw [Int.toNat_natCast]; omega)
                  | omega
                  | decide +kernel
                  | rfl
                  | exact Nat.le_of_ble_eq_true rfl
                  | (dsimp only; omega)
                  | trace_state
              · repeat' apply And.intro
                all_goals first
                  | exact True.intro
                  | rfl
                  | exact Nat.le_refl _
                  | decide +kernel
                  | (simp only [hLs]; exact rfl)
                  | trace_state
              · exact ⟨⟨rfl, rfl, rfl, rfl, trivial⟩, ⟨rfl, rfl, rfl, rfl, trivial⟩, trivial⟩
          · have hlt' : j = 15 := by simp at hlt; omega
            subst hlt'
            conv => whnf
            subst hK
            conv => whnf
            refine ⟨trivial, fun hg => ?_, fun hg => ?_⟩
            · rw [LE] at hg
              have hvg : v ≥ pp := by simpa using hg
              rw [if_pos hvg] at hRF
              have hx00 : X.getD 0 0 = v % 256 := by rw [hX, digs_at v m 0 (by omega), Int.pow_zero, Int.ediv_one]
              have hxd : idif .i64 (X.getD 0 0) 251 = v - pp := by rw [idif, hx00, i64_in] <;> (unfold pp p130 at *; omega)
              have hds := digs_small (x := v - pp) (by omega) (by unfold pp p130 at *; omega)
              rw [hRF]
              conv => whnf
              refine ⟨?_, rfl, [0, 2], [], rfl, ⟨rfl, trivial⟩, ⟨rfl, rfl, rfl, rfl, trivial⟩, ⟨rfl, rfl, ?_, rfl, trivial⟩, trivial⟩
              · repeat' apply And.intro
                all_goals first
                  | exact True.intro
                  | (show 0 + 0 < m; omega)
                  | (show 0 + 0 < 18; omega)
                  | omega
                  | decide +kernel
                  | rfl
                  | exact Nat.le_of_ble_eq_true rfl
                  | (dsimp only; omega)
                  | trace_state
              · show (List.replicate 18 0).set 0 (idif .i64 (X.getD 0 0) 251) = digs (v - pp) 18
                rw [hxd, hds]
            · rw [LE] at hg
              have hvg : ¬ v ≥ pp := by simpa using hg
              rw [if_neg hvg] at hRF
              rw [hRF]
              conv => whnf
              refine ⟨?_, rfl, [0, 1], [], rfl, ⟨rfl, trivial⟩, ⟨rfl, rfl, rfl, rfl, trivial⟩, ⟨rfl, rfl, ?_, rfl, trivial⟩, trivial⟩
              · repeat' apply And.intro
                all_goals first
                  | exact True.intro
                  | omega
                  | decide +kernel
                  | rfl
                  | exact Nat.le_of_ble_eq_true rfl
                  | (dsimp only; omega)
                  | trace_state
              · exact hX
      · have hnq : 0 < v / p130 := by
          rw [← hq]
          rw [hsq] at hs
          simpa using hs
        rw [restF_more hnq] at hvF
        have hol : out.length = m - 16 := hjl
        have hoe : out = digs q (m - 16) := by rw [← DE, hos]
        have hoin := fun i => (digs_in q (m - 16)).h i
        rw [← hoe] at hoin
        obtain ⟨Y, Y0, Ys, Yl, Yi, Yj, YE⟩ : ∃ Y : Nat → List Int, Y 0 = (X.take 17).set 16 (X.getD 16 0 % 4) ∧ (∀ j, j < m - 16 → Y (j + 1) = (if (Y j).length ≤ j then Y j ++ [0] else Y j).set j ((if (Y j).length ≤ j then Y j ++ [0] else Y j).getD j 0 + 5 * out.getD j 0)) ∧ (∀ j, (Y j).length = max 17 j) ∧ (∀ j, inR (Y j) 1530) ∧ (∀ j, (Y j).getD j 0 ≤ 255) ∧ vb 256 (Y (m - 16)) = nextV v := by
          have hh : ∀ j, 0 ≤ q / 256 ^ j % 256 ∧ q / 256 ^ j % 256 ≤ 255 := fun j => by omega
          refine ⟨yst (fun j => q / 256 ^ j % 256) (y0L v m), ?_, fun j hj => ?_, yst_len (y0_len hm), fun j => (yst_in hh y0_in j).1, fun j => (yst_in hh y0_in j).2 j (Nat.le_refl _), ?_⟩
          · rw [hX]; rfl
          · rw [hoe, digs_at q _ j hj, yst]
          · rw [hq]; exact y_val hv hm hvm
        obtain ⟨ly, hly⟩ : ∃ ly : Nat → Nat, ∀ j, ly j = max 17 j := ⟨_, fun _ => rfl⟩
        have e7 : (X.getD (0 + Int.toNat 16) 0).tmod 4 = X.getD 16 0 % 4 := Int.tmod_eq_emod_of_nonneg (hXin 16).1
        have hnv := nextV_lt hnq
        conv => whnf
        refine ⟨?_, { j : Nat // j ≤ m - 16 }, fun j => ⟨(.v (.one (.sl 1 0 m 1)) :: .any :: .any :: .v (.one (.sl 2 0 (m - 16) 1)) :: .any :: .any :: .any :: .v (.one (.sl 3 0 (ly j.1) 1)) :: .v (.one (.int .i64 j.1)) :: .any :: .any :: .any :: .any :: .any :: .any :: .any :: .any :: .any :: .any :: .any :: .any :: .any :: .any :: .any :: .any :: .any :: .any :: .any :: .any :: .any :: .any :: .any :: .any :: .any :: .any :: .any :: .any :: .any :: .any :: .any :: .any :: .any :: .any :: .any :: .any :: .any :: .any :: .any :: .any :: .any :: .any :: .any :: .any :: .any :: .any :: .any :: .any :: .any :: .any :: .any :: .any :: .any :: .any :: .any :: .any :: .any :: .any :: .any :: .any :: .any :: .any :: .any :: .any :: .any :: .any :: .any :: .any :: .any :: .any :: .any :: .any :: .any :: .any :: .any :: .any :: .any :: .any :: .any :: .any :: .any :: .any :: .any :: .any :: .any :: .any :: .any :: .any :: .any :: .any :: .any :: .any :: .any :: .any :: .any :: .any :: .any :: .any :: .any :: .any :: .any :: .any :: .any :: .any :: .any :: .any :: .any :: .any :: .any :: .any :: .any :: []), [.own 1 [.ints .i64 l n], .own 1 [.ints .i64 X m], .own 1 [.ints .i64 out (m - 16)], .own 1 [.ints .i64 (Y j.1) (ly j.1)]]⟩, fun j => m - 16 - j.1, ⟨0, by omega⟩, ?_, fun _ => rfl, ?_⟩
        · repeat' apply And.intro
          all_goals first
            | exact True.intro
            | omega
            | (show (16 : Nat) < 17; decide)
            | (show (16 : Int) < ((17 : Nat) : Int); decide)
            | (show (4 : Int) ≠ 0; decide)
            | (show (17 : Nat) ≤ 9223372036854775807; decide)
            | (show (17 : Nat) * 8 ≤ 140737488355328; decide)
            | (show (0 : Nat) * 1 = 0; decide)
            | (show 17 ≤ m; omega)
            | (show (17 : Int) ≤ (m : Int); omega)
            | decide +kernel
            | trace_state
        · refine ⟨[0, 1, 2, 4], [], rfl, ?_, ?_⟩
          · repeat' apply And.intro
            all_goals first
              | exact True.intro
              | rfl
              | exact Nat.le_refl _
              | decide +kernel
              | (rw [hly]; exact rfl)
              | trace_state
          · refine ⟨⟨rfl, rfl, rfl, rfl, trivial⟩, ⟨rfl, rfl, rfl, rfl, trivial⟩, ⟨rfl, rfl, rfl, rfl, trivial⟩, ⟨rfl, rfl, ?_, ?_, trivial⟩, trivial⟩
            · show ([] ++ List.take 17 (List.drop 0 X)).set 16 ((([] ++ List.take 17 (List.drop 0 X)).getD 16 0).tmod 4) = _
              rw [Y0, List.nil_append, List.drop_zero, List.getD_eq_getElem?_getD, List.getElem?_take, if_pos (by decide), ← List.getD_eq_getElem?_getD]
              rw [← e7]; rfl
            · rw [hly]; exact rfl
        rintro ⟨j, hj⟩
        have hYs := Ys j
        have hYl := Yl j
        have hYi := Yi j
        have hYj := Yj j
        have hlj := hly j
        have hlj1 := hly (j + 1)
        show run tab env112 1 _ ⟨(.v (.one (.sl 1 0 m 1)) :: .any :: .any :: .v (.one (.sl 2 0 (m - 16) 1)) :: .any :: .any :: .any :: .v (.one (.sl 3 0 (ly j) 1)) :: .v (.one (.int .i64 j)) :: .any :: .any :: .any :: .any :: .any :: .any :: .any :: .any :: .any :: .any :: .any :: .any :: .any :: .any :: .any :: .any :: .any :: .any :: .any :: .any :: .any :: .any :: .any :: .any :: .any :: .any :: .any :: .any :: .any :: .any :: .any :: .any :: .any :: .any :: .any :: .any :: .any :: .any :: .any :: .any :: .any :: .any :: .any :: .any :: .any :: .any :: .any :: .any :: .any :: .any :: .any :: .any :: .any :: .any :: .any :: .any :: .any :: .any :: .any :: .any :: .any :: .any :: .any :: .any :: .any :: .any :: .any :: .any :: .any :: .any :: .any :: .any :: .any :: .any :: .any :: .any :: .any :: .any :: .any :: .any :: .any :: .any :: .any :: .any :: .any :: .any :: .any :: .any :: .any :: .any :: .any :: .any :: .any :: .any :: .any :: .any :: .any :: .any :: .any :: .any :: .any :: .any :: .any :: .any :: .any :: .any :: .any :: .any :: .any :: .any :: .any :: []), [.own 1 [.ints .i64 l n], .own 1 [.ints .i64 X m], .own 1 [.ints .i64 out (m - 16)], .own 1 [.ints .i64 (Y j) (ly j)]]⟩ _ _
        refine run_K (P := fun K => run tab env112 1 _ ⟨_, _⟩ True K) ?_
        intro K hK
        obtain ⟨y, hy⟩ : ∃ y, y = Y j := ⟨_, rfl⟩
        obtain ⟨ln, hln⟩ : ∃ ln, ln = ly j := ⟨_, rfl⟩
        rw [← hy] at hYs hYl hYi hYj ⊢
        rw [← hln] at hlj ⊢
        rw [← hlj] at hYl
        have e8 : isum .i64 (j : Int) 1 = ((j + 1 : Nat) : Int) := by rw [isum, i64_in] <;> omega
        conv => whnf
        refine ⟨trivial, fun hlt => ?_, fun hlt => ?_⟩
        · have hlt' : j < m - 16 := by simp at hlt; omega
          have hYt := hYs hlt'
          obtain ⟨y', hy'⟩ : ∃ y', y' = (if y.length ≤ j then y ++ [0] else y) := ⟨_, rfl⟩
          rw [← hy'] at hYt
          have hoj := hoin j
          conv => whnf
          refine ⟨trivial, fun hg => ?_, fun hg => ?_⟩
          · have hg' : ln ≤ j := by simp at hg; omega
            rw [if_pos (by omega)] at hy'
            have hl1 : ly (j + 1) = ln + 1 := by omega
            have hyl' : y'.length = ln + 1 := by rw [hy']; simp [hYl]
            have hyj' : 0 ≤ y'.getD j 0 ∧ y'.getD j 0 ≤ 255 := by
              have : y'.getD j 0 = 0 := by
                have : j = ln := by omega
                rw [hy', this, List.getD_eq_getElem?_getD, List.getElem?_append_right (by omega)]; simp [hYl]
              rw [this]; omega
            conv => whnf
            rw [e8]
            have hyv : y'.set (0 + (j : Int).toNat) (isum .i64 (y'.getD (0 + (j : Int).toNat) 0) (imul .i64 5 (out.getD (0 + (j : Int).toNat) 0))) = Y (j + 1) := by
              have f1 : imul .i64 5 (out.getD j 0) = 5 * out.getD j 0 := by rw [imul, i64_in] <;> omega
              have f2 : isum .i64 (y'.getD j 0) (5 * out.getD j 0) = y'.getD j 0 + 5 * out.getD j 0 := by rw [isum, i64_in] <;> omega
              rw [Int.toNat_natCast, Nat.zero_add, hYt, f1, f2]
            subst hK
            change _ ∧ _
            refine ⟨?_, ⟨j + 1, by omega⟩, by show m - 16 - (j + 1) < m - 16 - j; omega, [0, 1, 2, 5], [], rfl, ?_, ?_⟩
            · repeat' apply And.intro
              all_goals first
                | exact True.intro
                | (rw [Int.toNat_natCast]; omega)
                | (show ln + 1 ≤ 9223372036854775807; omega)
                | (show (ln + 1) * 8 ≤ 140737488355328; omega)
                | (show ln * 1 = ln + 0; omega)
                | omega
                | decide +kernel
                | rfl
                | exact Nat.le_of_ble_eq_true rfl
                | (dsimp only; omega)
                | trace_state
            · repeat' apply And.intro
              all_goals first
                | exact True.intro
                | rfl
                | exact Nat.le_refl _
                | decide +kernel
                | (show C.sl 5 0 (ln + 1) 1 = C.sl 5 0 (ly (j + 1)) 1; rw [hl1])
                | trace_state
            · refine ⟨⟨rfl, rfl, rfl, rfl, trivial⟩, ⟨rfl, rfl, rfl, rfl, trivial⟩, ⟨rfl, rfl, rfl, rfl, trivial⟩, ⟨rfl, rfl, ?_, ?_, trivial⟩, trivial⟩
              · refine Eq.trans ?_ hyv
                rw [hy']; rfl
              · show ln + 1 = ly (j + 1); omega
          · have hg' : ¬ ln ≤ j := by simp at hg; omega
            rw [if_neg (by omega)] at hy'
            subst hy'
            have hl1 : ly (j + 1) = ln := by omega
            have hyl' : y'.length = ln := hYl
            have hyj' : 0 ≤ y'.getD j 0 ∧ y'.getD j 0 ≤ 255 := ⟨(hYi.h j).1, hYj⟩
            conv => whnf
            rw [e8]
            have hyv : y'.set (0 + (j : Int).toNat) (isum .i64 (y'.getD (0 + (j : Int).toNat) 0) (imul .i64 5 (out.getD (0 + (j : Int).toNat) 0))) = Y (j + 1) := by
              have f1 : imul .i64 5 (out.getD j 0) = 5 * out.getD j 0 := by rw [imul, i64_in] <;> omega
              have f2 : isum .i64 (y'.getD j 0) (5 * out.getD j 0) = y'.getD j 0 + 5 * out.getD j 0 := by rw [isum, i64_in] <;> omega
              rw [Int.toNat_natCast, Nat.zero_add, hYt, f1, f2]
            subst hK
            change _ ∧ _
            refine ⟨?_, ⟨j + 1, by omega⟩, by show m - 16 - (j + 1) < m - 16 - j; omega, [0, 1, 2, 3], [], rfl, ?_, ?_⟩
            · repeat' apply And.intro
              all_goals first
                | exact True.intro
                | (rw [Int.toNat_natCast]; omega)
                | (show ln + 1 ≤ 9223372036854775807; omega)
                | (show (ln + 1) * 8 ≤ 140737488355328; omega)
                | (show ln * 1 = ln + 0; omega)
                | omega
                | decide +kernel
                | rfl
                | exact Nat.le_of_ble_eq_true rfl
                | (dsimp only; omega)
                | trace_state
            · repeat' apply And.intro
              all_goals first
                | exact True.intro
                | rfl
                | exact Nat.le_refl _
                | decide +kernel
                | (show C.sl 3 0 ln 1 = C.sl 3 0 (ly (j + 1)) 1; rw [hl1])
                | trace_state
            · refine ⟨⟨rfl, rfl, rfl, rfl, trivial⟩, ⟨rfl, rfl, rfl, rfl, trivial⟩, ⟨rfl, rfl, rfl, rfl, trivial⟩, ⟨rfl, rfl, ?_, ?_, trivial⟩, trivial⟩
              · exact hyv
              · show ln = ly (j + 1); omega
        · have hlt' : j = m - 16 := by simp at hlt; omega
          subst hlt'
          rw [← hy] at YE
          have hcl := clen_le (k := 18) hYl (inR_mono hYi (by decide))
          have hge := le_clen (vb 256 y) ln 18
          have hlt2 := lt_clen (v := nextV v) hnv.2 ln 18
          rw [← hlj] at hvF
          rw [YE] at hcl hge
          conv => whnf
          subst hK
          conv => whnf
          rw [YE]
          subst hK
          change _ ∧ _
          refine ⟨?_, ⟨(nextV v, clen (nextV v) ln 18), ⟨hnv.2, hlt2⟩, ⟨hge, by show clen (nextV v) ln 18 ≤ 2000; omega⟩, hvF⟩, by show (nextV v).toNat < v.toNat; omega, [0, 4], [], rfl, ?_, ?_⟩
          · repeat' apply And.intro
            all_goals first
              | exact True.intro
              | exact hYl
              | exact inR_mono hYi (by decide)
              | omega
              | decide +kernel
              | rfl
              | exact Nat.le_of_ble_eq_true rfl
              | (dsimp only; omega)
              | trace_state
          · repeat' apply And.intro
            all_goals first
              | exact True.intro
              | rfl
              | exact Nat.le_refl _
              | decide +kernel
              | omega
              | trace_state
          · exact ⟨⟨rfl, rfl, rfl, rfl, trivial⟩, ⟨rfl, rfl, rfl, rfl, trivial⟩, trivial⟩
  · cases hr
end Go.Proofs.Ytjbagkimpmpfgaa
