/- Chacha: the document's block and derived key. -/
import Derived.Test.YtjbagkimpmpfgaaC9
namespace Go.Proofs.Ytjbagkimpmpfgaa
open Go Go.Mx
set_option maxRecDepth 100000
set_option maxHeartbeats 4000000

def envD : Env := fun f => match f with
  | 100 => some c100
  | 101 => some c101
  | 102 => some c102
  | _ => none
theorem envD_ok : EnvOk Try.prog envD := by
  intro f c h
  unfold envD at h
  split at h
  · simp only [Option.some.injEq] at h; subst h; exact m100
  · simp only [Option.some.injEq] at h; subst h; exact m101
  · simp only [Option.some.injEq] at h; subst h; exact m102
  · cases h
theorem splI_get {l m : List Int} {off : Nat} (h : off + m.length ≤ l.length) (j : Nat) : (splI l off m)[j]? = if j < off then l[j]? else if j < off + m.length then m[j - off]? else l[j]? := by
  have ht : (l.take off).length = off := by rw [List.length_take]; omega
  unfold splI
  by_cases h1 : j < off
  · rw [if_pos h1, List.append_assoc, List.getElem?_append_left (by omega), List.getElem?_take_of_lt h1]
  · rw [if_neg h1]
    by_cases h2 : j < off + m.length
    · rw [if_pos h2, List.getElem?_append_left (by rw [List.length_append]; omega), List.getElem?_append_right (by omega), ht]
    · rw [if_neg h2, List.getElem?_append_right (by rw [List.length_append]; omega), List.length_append, ht, List.getElem?_drop]
      congr 1; omega
theorem splI_comm {o m q : List Int} {a b : Nat} (h1 : a + m.length ≤ b) (h2 : b + q.length ≤ o.length) : splI (splI o b q) a m = splI (splI o a m) b q := by
  apply List.ext_getElem?
  intro j
  rw [splI_get (by rw [splI_length h2]; omega), splI_get h2, splI_get (by rw [splI_length (by omega)]; omega), splI_get (by omega)]
  by_cases c1 : j < a
  · rw [if_pos c1, if_pos (by omega), if_pos (by omega), if_pos c1]
  · rw [if_neg c1]
    by_cases c2 : j < a + m.length
    · rw [if_pos c2, if_pos (by omega), if_neg c1, if_pos c2]
    · rw [if_neg c2]
      by_cases c3 : j < b
      · rw [if_pos c3, if_pos c3, if_neg c1, if_neg c2]
      · rw [if_neg c3, if_neg c3]
        by_cases c4 : j < b + q.length
        · rw [if_pos c4, if_pos c4]
        · rw [if_neg c4, if_neg c4, if_neg c1, if_neg c2]
theorem splI_app {o m q : List Int} {a : Nat} (h : a + m.length + q.length ≤ o.length) : splI (splI o a m) (a + m.length) q = splI o a (m ++ q) := by
  apply List.ext_getElem?
  intro j
  rw [splI_get (by rw [splI_length (by omega)]; omega), splI_get (by omega), splI_get (by rw [List.length_append]; omega), List.length_append]
  by_cases c1 : j < a
  · rw [if_pos (by omega), if_pos c1, if_pos c1]
  · rw [if_neg c1, if_neg c1]
    by_cases c2 : j < a + m.length
    · rw [if_pos c2, if_pos c2, if_pos (by omega), List.getElem?_append_left (by omega)]
    · rw [if_neg c2, if_neg c2]
      by_cases c3 : j < a + m.length + q.length
      · rw [if_pos c3, if_pos (by omega), List.getElem?_append_right (by omega)]
        congr 1; omega
      · rw [if_neg c3, if_neg (by omega)]
theorem putI_copy {o l : List Int} {lo lo2 i : Nat} (h : lo + 4 * i + 4 ≤ o.length) (h2 : lo2 + i < l.length) : splI (putI o lo l lo2 i) (lo + 4 * i) (four (l.getD (lo2 + i) 0)) = putI o lo l lo2 (i + 1) := by
  have hlen : ((l.drop lo2).take i).length = i := by rw [List.length_take, List.length_drop]; omega
  have hl : (lays ((l.drop lo2).take i)).length = 4 * i := by rw [lays_len, hlen]
  unfold putI
  rw [mid_succ h2, lays_snoc, ← splI_app (by rw [hl, four_len]; exact h), hl]
theorem addI_get {s t : List Int} {i n : Nat} (h : i < n) : (addI s t n).getD i 0 = isum .u32 (t.getD i 0) (s.getD i 0) := by
  unfold addI
  rw [getD_left (by simpa using h)]
  simp [List.getD, h]
theorem sum_mod {x y : Int} (hx : isW x) (hy : isW y) : (isum .i64 x y).tmod 4294967296 = isum .u32 y x := by
  obtain ⟨a, rfl⟩ := of_isW hx
  obtain ⟨b, rfl⟩ := of_isW hy
  rw [sum_rem, u32_sum, BitVec.add_comm]
theorem take4_four (x : Int) : List.take 4 (List.take 4 (List.drop 0 (four x))) = four x := rfl
theorem more_of {ctr : Int} {n : List Int} (h : isW ctr) : fourW (four ctr ++ n) = moreI ctr n := by
  unfold fourW moreI
  rw [word4_four h, show (4 : Nat) = 4 + 0 from rfl, word4_right (four_len ctr), show (8 : Nat) = 4 + 4 from rfl, word4_right (four_len ctr), show (12 : Nat) = 4 + 8 from rfl, word4_right (four_len ctr)]
theorem laid {q n : List Int} {z1 m1 z2 f1 m2 m3 z3 : Nat} (hq : q.length = 4) (hn : n.length = 12) (h1 : z1 = 0) (h2 : m1 = 4) (h3 : z2 = 0) (h4 : f1 = 4) (h5 : m2 = 12) (h6 : m3 = 12) (h7 : z3 = 0) :
    splI (splI (List.replicate 16 0) z1 (List.take m1 (List.take 4 (List.drop z2 q)))) f1 (List.take m2 (List.take m3 (List.drop z3 n))) = q ++ n := by
  subst h1; subst h2; subst h3; subst h4; subst h5; subst h6; subst h7
  have hq' : List.take 4 (List.take 4 (List.drop 0 q)) = q := by rw [List.drop_zero, List.take_take, List.take_of_length_le (by omega)]
  have hn' : List.take 12 (List.take 12 (List.drop 0 n)) = n := by rw [List.drop_zero, List.take_take, List.take_of_length_le (by omega)]
  rw [hq', hn']
  have := splI_app (o := List.replicate 16 0) (m := q) (q := n) (a := 0) (by simp; omega)
  rw [hq] at this
  rw [this]
  unfold splI
  rw [List.drop_of_length_le (by simp; omega), List.take_zero, List.nil_append, List.append_nil]
def c33 : Ctr := fun args objs => match args, objs with
  | [.agg [.ints .u8 k 32], .one (.int .u32 ctr), .agg [.ints .u8 n 12]], [] => some ⟨[allB k, k.length = 32, isW ctr, allB n, n.length = 12], .v (.agg [.ints .u8 (blockI k ctr n) 64]), [], []⟩
  | _, _ => none
theorem m33 : Meets Try.prog 33 c33 := by
  refine meets_of_run2 tab_ok envD_ok mixed [.cell 6 34] Try.func33 rfl Try.ntmps33 Try.call33 (fun t w => by simp [results, Try.results33, resS, rv1]) ?_
  intro args objs r hr hcs
  unfold c33 at hr
  split at hr
  · rename_i k ctr n
    simp only [Option.some.injEq] at hr; subst hr
    obtain ⟨h1, h2, h3, h4, h5, _⟩ := hcs
    refine ⟨rfl, ?_⟩
    conv => whnf
    have hc : conv .i64 ctr = ctr := by obtain ⟨a, rfl⟩ := of_isW h3; exact i64_conv a
    have hSW := squareI_W h1 h2 (moreI_W h3 h4 h5)
    have hSL : (squareI k (moreI ctr n)).length = 16 := squareI_len rfl
    have hTW := iter_W 10 hSW
    have hTL : (iter dbl 10 (squareI k (moreI ctr n))).length = 16 := (iter_len 10 _).trans hSL
    have hR : blockI k ctr n = lays (addI (squareI k (moreI ctr n)) (iter dbl 10 (squareI k (moreI ctr n))) 16) := rfl
    have hX := allB_app (four_B ctr) h4
    have hXL : (four ctr ++ n).length = 16 := by rw [List.length_append, h5]; rfl
    dsimp only
    rw [laid (four_len _) h5 ?z1 ?z2 ?z3 ?z4 ?z5 ?z6 ?z7, hc, more_of h3]
    case z1 => rfl
    case z2 => rfl
    case z3 => rfl
    case z4 => rfl
    case z5 => rfl
    case z6 => rfl
    case z7 => rfl
    generalize iter dbl 10 (squareI k (moreI ctr n)) = T at hTW hTL hR ⊢
    generalize squareI k (moreI ctr n) = S at hSW hSL hR ⊢
    have hAL := addI_len (s := S) (t := T) (i := 16) (by omega)
    rw [hTL] at hAL
    refine ⟨?_, { i : Nat // i ≤ 16 }, fun i => ⟨(.any :: .any :: .any :: .any :: .any :: .any :: .v (.one (.ptr 0 0)) :: .any :: .v (.one (.sl 1 0 16 1)) :: .v (.one (.sl 2 0 16 1)) :: .v (.one (.ptr 3 0)) :: .v (.one (.int .i64 i.1)) :: .any :: .any :: .any :: .any :: .any :: .any :: .any :: .any :: .any :: .any :: .any :: .any :: .any :: .any :: .any :: .any :: .any :: .any :: .any :: .any :: .any :: .any :: .any :: .any :: .any :: .any :: .any :: .any :: .any :: .any :: .any :: .any :: .any :: []), [.own 0 [.ints .u8 (List.replicate 64 0) 64], .own 1 [.ints .i64 S 16], .own 1 [.ints .i64 T 16], .own 0 [.ints .u8 (putI (List.replicate 64 0) 0 (addI S T 16) 0 i.1) 64]]⟩, fun i => 16 - i.1, ⟨0, by omega⟩, ?_, fun _ => rfl, ?_⟩
    · repeat' apply And.intro
      all_goals first
        | exact True.intro
        | exact h1
        | exact h2
        | exact h3
        | exact h5
        | exact hX
        | exact hXL
        | exact hSW
        | exact hSL
        | omega
        | decide +kernel
        | rfl
        | exact Nat.le_of_ble_eq_true rfl
        | (dsimp only; omega)
        | trace_state
    · refine ⟨[2, 5, 6, 7], [], rfl, ?_, ?_⟩
      · repeat' apply And.intro
        all_goals first
          | exact True.intro
          | rfl
          | exact Nat.le_refl _
          | decide +kernel
          | omega
          | trace_state
      · refine ⟨⟨rfl, rfl, rfl, rfl, trivial⟩, ⟨rfl, rfl, rfl, rfl, trivial⟩, ⟨rfl, rfl, rfl, rfl, trivial⟩, ⟨rfl, rfl, ?_, rfl, trivial⟩, trivial⟩
        simp [putI, splI, lays]
    · rintro ⟨i, hi⟩
      have hPL := putI_len (o := List.replicate 64 0) (lo := 0) (l := addI S T 16) (lo2 := 0) (i := i) (by simp; omega) (by omega)
      rw [List.length_replicate] at hPL
      have hP : putI (List.replicate 64 0) 0 (addI S T 16) 0 16 = lays (addI S T 16) := by
        have := putI_all (o := List.replicate 64 0) (l := addI S T 16) (by rw [hAL]; rfl)
        rwa [hAL] at this
      show run tab envD 0 _ ⟨(.any :: .any :: .any :: .any :: .any :: .any :: .v (.one (.ptr 0 0)) :: .any :: .v (.one (.sl 1 0 16 1)) :: .v (.one (.sl 2 0 16 1)) :: .v (.one (.ptr 3 0)) :: .v (.one (.int .i64 i)) :: .any :: .any :: .any :: .any :: .any :: .any :: .any :: .any :: .any :: .any :: .any :: .any :: .any :: .any :: .any :: .any :: .any :: .any :: .any :: .any :: .any :: .any :: .any :: .any :: .any :: .any :: .any :: .any :: .any :: .any :: .any :: .any :: .any :: []), [.own 0 [.ints .u8 (List.replicate 64 0) 64], .own 1 [.ints .i64 S 16], .own 1 [.ints .i64 T 16], .own 0 [.ints .u8 (putI (List.replicate 64 0) 0 (addI S T 16) 0 i) 64]]⟩ _ _
      refine run_K (P := fun K => run tab envD 0 _ ⟨_, _⟩ True K) ?_
      intro K hK
      conv => whnf
      refine ⟨trivial, fun hlt => ?_, fun hge => ?_⟩
      · simp only [decide_eq_true_eq] at hlt
        have e2 : imul .i64 4 (i : Int) = ((4 * i : Nat) : Int) := by rw [imul, i64_in] <;> omega
        have e3 : isum .i64 (i : Int) 1 = ((i + 1 : Nat) : Int) := by rw [isum, i64_in] <;> omega
        conv => whnf
        rw [e2, e3]
        subst hK
        change _ ∧ _
        have hx := sum_mod (hSW i (by omega)) (hTW i (by omega))
        have hA : (addI S T 16).getD i 0 = isum .u32 (T.getD i 0) (S.getD i 0) := addI_get (by omega)
        have hxW : isW ((isum .i64 (S.getD i 0) (T.getD i 0)).tmod 4294967296) := by rw [hx]; exact sum_is (hTW i (by omega)) (hSW i (by omega))
        refine ⟨?_, ⟨i + 1, by omega⟩, by show 16 - (i + 1) < 16 - i; omega, [0, 1, 2, 3], [], rfl, ?_, ?_⟩
        · repeat' apply And.intro
          all_goals first
            | exact True.intro
            | omega
            | decide +kernel
            | (simp only [Int.toNat_natCast, Nat.zero_add]; exact hxW)
            | trace_state
        · repeat' apply And.intro
          all_goals first
            | exact True.intro
            | rfl
            | exact Nat.le_refl _
            | decide +kernel
            | omega
            | trace_state
        · refine ⟨⟨rfl, rfl, rfl, rfl, trivial⟩, ⟨rfl, rfl, rfl, rfl, trivial⟩, ⟨rfl, rfl, rfl, rfl, trivial⟩, ⟨rfl, rfl, ?_, rfl, trivial⟩, trivial⟩
          have hm : min 4 (64 - 4 * i) = 4 := by omega
          have hp := putI_copy (o := List.replicate 64 0) (lo := 0) (l := addI S T 16) (lo2 := 0) (i := i) (by simp; omega) (by omega)
          simp only [Nat.zero_add] at hp
          simp only [Int.toNat_natCast, Nat.zero_add, hx, hm, take4_four]
          rw [← hA]
          exact hp
      · simp only [decide_eq_false_iff_not] at hge
        have : i = 16 := by omega
        subst this
        rw [← hR] at hP
        conv => whnf
        subst hK
        conv => whnf
        refine ⟨?_, rfl, [], [], rfl, ⟨⟨rfl, hP, rfl, trivial⟩, trivial⟩, trivial⟩
        repeat' apply And.intro
        all_goals first
          | exact True.intro
          | omega
          | decide +kernel
          | rfl
          | exact Nat.le_of_ble_eq_true rfl
          | (dsimp only; omega)
          | trace_state
  · cases hr
def c35 : Ctr := fun args objs => match args, objs with
  | [.agg [.ints .u8 k 32], .agg [.ints .u8 m 16]], [] => some ⟨[allB k, k.length = 32, allB m, m.length = 16], .v (.agg [.ints .u8 (deriveI k m) 32]), [], []⟩
  | _, _ => none
theorem m35 : Meets Try.prog 35 c35 := by
  refine meets_of_run2 tab_ok envD_ok mixed [.cell 4 30] Try.func35 rfl Try.ntmps35 Try.call35 (fun t w => by simp [results, Try.results35, resS, rv1]) ?_
  intro args objs r hr hcs
  unfold c35 at hr
  split at hr
  · rename_i k m
    simp only [Option.some.injEq] at hr; subst hr
    obtain ⟨h1, h2, h3, h4, _⟩ := hcs
    refine ⟨rfl, ?_⟩
    conv => whnf
    have hSW := squareI_W h1 h2 (fourW_W h3 h4)
    have hSL : (squareI k (fourW m)).length = 16 := squareI_len rfl
    have hTW := iter_W 10 hSW
    have hTL : (iter dbl 10 (squareI k (fourW m))).length = 16 := (iter_len 10 _).trans hSL
    have hR : deriveI k m = putI (putI (List.replicate 32 0) 0 (iter dbl 10 (squareI k (fourW m))) 0 4) 16 (iter dbl 10 (squareI k (fourW m))) 12 4 := rfl
    generalize iter dbl 10 (squareI k (fourW m)) = T at hTW hTL hR ⊢
    generalize squareI k (fourW m) = S at hSW hSL ⊢
    refine ⟨?_, { i : Nat // i ≤ 4 }, fun i => ⟨(.any :: .any :: .any :: .any :: .v (.one (.ptr 0 0)) :: .v (.one (.sl 1 0 16 1)) :: .v (.one (.ptr 2 0)) :: .v (.one (.int .i64 i.1)) :: .any :: .any :: .any :: .any :: .any :: .any :: .any :: .any :: .any :: .any :: .any :: .any :: .any :: .any :: .any :: .any :: .any :: .any :: .any :: .any :: .any :: .any :: .any :: .any :: .any :: .any :: .any :: .any :: .any :: []), [.own 0 [.ints .u8 (List.replicate 32 0) 32], .own 1 [.ints .i64 T 16], .own 0 [.ints .u8 (putI (putI (List.replicate 32 0) 0 T 0 i.1) 16 T 12 i.1) 32]]⟩, fun i => 4 - i.1, ⟨0, by omega⟩, ?_, fun _ => rfl, ?_⟩
    · repeat' apply And.intro
      all_goals first
        | exact True.intro
        | exact h1
        | exact h2
        | exact h3
        | exact h4
        | exact hSW
        | exact hSL
        | omega
        | decide +kernel
        | rfl
        | exact Nat.le_of_ble_eq_true rfl
        | (dsimp only; omega)
        | trace_state
    · refine ⟨[2, 4, 5], [], rfl, ?_, ?_⟩
      · repeat' apply And.intro
        all_goals first
          | exact True.intro
          | rfl
          | exact Nat.le_refl _
          | decide +kernel
          | omega
          | trace_state
      · refine ⟨⟨rfl, rfl, rfl, rfl, trivial⟩, ⟨rfl, rfl, rfl, rfl, trivial⟩, ⟨rfl, rfl, ?_, rfl, trivial⟩, trivial⟩
        simp [putI, splI, lays]
    · rintro ⟨i, hi⟩
      have hPL := putI_len (o := List.replicate 32 0) (lo := 0) (l := T) (lo2 := 0) (i := i) (by simp; omega) (by omega)
      rw [List.length_replicate] at hPL
      have hQL := putI_len (o := putI (List.replicate 32 0) 0 T 0 i) (lo := 16) (l := T) (lo2 := 12) (i := i) (by omega) (by omega)
      rw [hPL] at hQL
      show run tab envD 0 _ ⟨(.any :: .any :: .any :: .any :: .v (.one (.ptr 0 0)) :: .v (.one (.sl 1 0 16 1)) :: .v (.one (.ptr 2 0)) :: .v (.one (.int .i64 i)) :: .any :: .any :: .any :: .any :: .any :: .any :: .any :: .any :: .any :: .any :: .any :: .any :: .any :: .any :: .any :: .any :: .any :: .any :: .any :: .any :: .any :: .any :: .any :: .any :: .any :: .any :: .any :: .any :: .any :: []), [.own 0 [.ints .u8 (List.replicate 32 0) 32], .own 1 [.ints .i64 T 16], .own 0 [.ints .u8 (putI (putI (List.replicate 32 0) 0 T 0 i) 16 T 12 i) 32]]⟩ _ _
      refine run_K (P := fun K => run tab envD 0 _ ⟨_, _⟩ True K) ?_
      intro K hK
      conv => whnf
      refine ⟨trivial, fun hlt => ?_, fun hge => ?_⟩
      · simp only [decide_eq_true_eq] at hlt
        have e2 : imul .i64 4 (i : Int) = ((4 * i : Nat) : Int) := by rw [imul, i64_in] <;> omega
        have e3 : isum .i64 (i : Int) 1 = ((i + 1 : Nat) : Int) := by rw [isum, i64_in] <;> omega
        have e4 : isum .i64 12 (i : Int) = ((12 + i : Nat) : Int) := by rw [isum, i64_in] <;> omega
        have e5 : isum .i64 16 ((4 * i : Nat) : Int) = ((16 + 4 * i : Nat) : Int) := by rw [isum, i64_in] <;> omega
        conv => whnf
        rw [e2, e3, e4, e5]
        subst hK
        change _ ∧ _
        have hx1 := hTW i (by omega)
        have hx2 := hTW (12 + i) (by omega)
        refine ⟨?_, ⟨i + 1, by omega⟩, by show 4 - (i + 1) < 4 - i; omega, [0, 1, 2], [], rfl, ?_, ?_⟩
        · repeat' apply And.intro
          all_goals first
            | exact True.intro
            | omega
            | decide +kernel
            | (simp only [Int.toNat_natCast, Nat.zero_add]; exact hx1)
            | (simp only [Int.toNat_natCast, Nat.zero_add]; exact hx2)
            | (dsimp only; omega)
            | trace_state
        · repeat' apply And.intro
          all_goals first
            | exact True.intro
            | rfl
            | exact Nat.le_refl _
            | decide +kernel
            | omega
            | trace_state
        · refine ⟨⟨rfl, rfl, rfl, rfl, trivial⟩, ⟨rfl, rfl, rfl, rfl, trivial⟩, ⟨rfl, rfl, ?_, rfl, trivial⟩, trivial⟩
          have hm1 : min 4 (32 - 4 * i) = 4 := by omega
          have hm2 : min 4 (32 - (16 + 4 * i)) = 4 := by omega
          have p1 := putI_copy (o := List.replicate 32 0) (lo := 0) (l := T) (lo2 := 0) (i := i) (by simp; omega) (by omega)
          simp only [Nat.zero_add] at p1
          have p2 := putI_copy (o := putI (List.replicate 32 0) 0 T 0 (i + 1)) (lo := 16) (l := T) (lo2 := 12) (i := i) (by rw [putI_len (by simp; omega) (by omega)]; simp; omega) (by omega)
          have hlen : ((T.drop 12).take i).length = i := by rw [List.length_take, List.length_drop]; omega
          have c : splI (putI (putI (List.replicate 32 0) 0 T 0 i) 16 T 12 i) (4 * i) (four (T.getD i 0)) = putI (splI (putI (List.replicate 32 0) 0 T 0 i) (4 * i) (four (T.getD i 0))) 16 T 12 i := by
            rw [show putI (putI (List.replicate 32 0) 0 T 0 i) 16 T 12 i = splI (putI (List.replicate 32 0) 0 T 0 i) 16 (lays ((T.drop 12).take i)) from rfl, splI_comm (by rw [four_len]; omega) (by rw [lays_len, hlen, hPL]; omega)]
            rfl
          simp only [Int.toNat_natCast, Nat.zero_add, hm1, hm2, take4_four]
          rw [c, p1]
          exact p2
      · simp only [decide_eq_false_iff_not] at hge
        have : i = 4 := by omega
        subst this
        conv => whnf
        subst hK
        conv => whnf
        refine ⟨?_, rfl, [], [], rfl, ⟨⟨rfl, hR.symm, rfl, trivial⟩, trivial⟩, trivial⟩
        repeat' apply And.intro
        all_goals first
          | exact True.intro
          | omega
          | decide +kernel
          | rfl
          | exact Nat.le_of_ble_eq_true rfl
          | (dsimp only; omega)
          | trace_state
  · cases hr
end Go.Proofs.Ytjbagkimpmpfgaa

