/- Chacha: the program's block and derived key. -/
import Derived.Test.YtjbagkimpmpfgaaC5
namespace Go.Proofs.Ytjbagkimpmpfgaa
open Go Go.Mx
set_option maxRecDepth 100000
set_option maxHeartbeats 4000000

/-- The first i of t have been added to. -/
def addI (s t : List Int) (i : Nat) : List Int := (List.range i).map (fun j => isum .u32 (t.getD j 0) (s.getD j 0)) ++ t.drop i
theorem addI_zero (s t : List Int) : addI s t 0 = t := by simp [addI]
theorem addI_len {s t : List Int} {i : Nat} (h : i ≤ t.length) : (addI s t i).length = t.length := by simp [addI]; omega
theorem drop_cons {t : List Int} {i : Nat} (h : i < t.length) : t.drop i = t.getD i 0 :: t.drop (i + 1) := by
  rw [List.drop_eq_getElem_cons h]; simp [List.getD, h]
theorem addI_step {s t : List Int} {i : Nat} (h : i < t.length) : (addI s t i).set i (isum .u32 ((addI s t i).getD i 0) (s.getD i 0)) = addI s t (i + 1) := by
  have hl : ((List.range i).map (fun j => isum .u32 (t.getD j 0) (s.getD j 0))).length = i := by simp
  have e : (addI s t i).getD i 0 = t.getD i 0 := by
    unfold addI
    rw [drop_cons h]
    simp [List.getD]
  rw [e]
  unfold addI
  rw [drop_cons h, List.set_append_right _ _ (by omega), hl, Nat.sub_self, List.range_succ, List.map_append]
  simp
theorem allW_of {l : List Int} (h : ∀ x ∈ l, isW x) : allW l := fun i hi => by
  rw [show l.getD i 0 = l[i] by simp [List.getD, hi]]
  exact h _ (List.getElem_mem hi)
theorem of_allW {l : List Int} (h : allW l) : ∀ x ∈ l, isW x := fun x hx => by
  obtain ⟨i, hi, rfl⟩ := List.mem_iff_getElem.1 hx
  have := h i hi
  rwa [show l.getD i 0 = l[i] by simp [List.getD, hi]] at this
theorem sum_is {x y : Int} (hx : isW x) (hy : isW y) : isW (isum .u32 x y) := by
  obtain ⟨a, rfl⟩ := of_isW hx
  obtain ⟨b, rfl⟩ := of_isW hy
  rw [u32_sum]; exact wI_is _
theorem addI_W {s t : List Int} (hs : allW s) (ht : allW t) (hl : s.length = t.length) {i : Nat} (hi : i ≤ t.length) : allW (addI s t i) := by
  apply allW_of
  intro x hx
  unfold addI at hx
  rcases List.mem_append.1 hx with h | h
  · simp only [List.mem_map, List.mem_range] at h
    obtain ⟨j, hj, rfl⟩ := h
    exact sum_is (ht j (by omega)) (hs j (by omega))
  · exact of_allW ht x (List.mem_of_mem_drop h)
theorem consts_W : allW consts := by
  apply allW_of
  intro x hx
  simp only [consts, List.mem_cons, List.not_mem_nil, or_false] at hx
  rcases hx with rfl | rfl | rfl | rfl <;> exact ⟨by decide, by decide⟩
theorem squareI_len {k m : List Int} (hm : m.length = 4) : (squareI k m).length = 16 := by simp [squareI, consts, hm]
theorem squareI_W {k m : List Int} (hk : allB k) (hkl : k.length = 32) (hm : allW m) : allW (squareI k m) := by
  apply allW_of
  intro x hx
  unfold squareI at hx
  rcases List.mem_append.1 hx with h | h
  · rcases List.mem_append.1 h with h | h
    · exact of_allW consts_W x h
    · simp only [List.mem_map, List.mem_range] at h
      obtain ⟨j, hj, rfl⟩ := h
      exact word4_is hk (by omega)
  · exact of_allW hm x h
def moreI (ctr : Int) (n : List Int) : List Int := [ctr, word4 n 0, word4 n 4, word4 n 8]
theorem moreI_W {ctr : Int} {n : List Int} (hc : isW ctr) (hn : allB n) (hl : n.length = 12) : allW (moreI ctr n) := by
  apply allW_of
  intro x hx
  simp only [moreI, List.mem_cons, List.not_mem_nil, or_false] at hx
  rcases hx with rfl | rfl | rfl | rfl
  · exact hc
  · exact word4_is hn (by omega)
  · exact word4_is hn (by omega)
  · exact word4_is hn (by omega)
/-- The block of a key, a number, a nonce, as bytes. -/
def blockI (k : List Int) (ctr : Int) (n : List Int) : List Int := lays (addI (squareI k (moreI ctr n)) (iter dbl 10 (squareI k (moreI ctr n))) 16)
def c32 : Ctr := fun args objs => match args, objs with
  | [.agg [.ints .u8 k 32], .one (.int .u32 ctr), .agg [.ints .u8 n 12]], [] => some ⟨[allB k, k.length = 32, isW ctr, allB n, n.length = 12], .v (.agg [.ints .u8 (blockI k ctr n) 64]), [], []⟩
  | _, _ => none
def envB : Env := fun f => match f with
  | 96 => some c96
  | 97 => some c97
  | 98 => some c98
  | 99 => some c99
  | _ => none
theorem envB_ok : EnvOk Try.prog envB := by
  intro f c h
  unfold envB at h
  split at h
  · simp at h; subst h; exact m96
  · simp at h; subst h; exact m97
  · simp at h; subst h; exact m98
  · simp at h; subst h; exact m99
  · cases h
theorem putI_all {o l : List Int} (h : o.length = 4 * l.length) : putI o 0 l 0 l.length = lays l := by
  unfold putI splI
  rw [List.drop_zero, List.take_length, List.take_zero, List.nil_append, List.drop_of_length_le (by rw [lays_len]; omega), List.append_nil]
theorem m32 : Meets Try.prog 32 c32 := by
  refine meets_of_run2 tab_ok envB_ok mixed [.cell 6 34] Try.func32 rfl Try.ntmps32 Try.call32 (fun t w => by simp [results, Try.results32, resS, rv1]) ?_
  intro args objs r hr hcs
  unfold c32 at hr
  split at hr
  · rename_i k ctr n
    simp only [Option.some.injEq] at hr; subst hr
    obtain ⟨h1, h2, h3, h4, h5, _⟩ := hcs
    refine ⟨rfl, ?_⟩
    conv => whnf
    have hSW := squareI_W h1 h2 (moreI_W h3 h4 h5)
    have hSL : (squareI k (moreI ctr n)).length = 16 := squareI_len rfl
    refine ⟨?_, { i : Nat // i ≤ 16 }, fun i => ⟨[.any, .any, .any, .v (.one (.ptr 0 0)), .any, .v (.one (.ptr 1 0)), .v (.one (.ptr 2 0)), .v (.one (.ptr 3 0)), .v (.one (.ptr 4 0)), .any, .any, .any, .any, .any, .any, .any, .any, .any, .any, .any, .any, .any, .v (.one (.int .i64 i.1)), .any, .any, .any, .any, .any, .any, .any, .any, .any, .any, .any, .any, .any, .any, .any], [.own 0 [.ints .u8 k 32], .own 0 [.ints .u8 n 12], .own 0 [.ints .u8 (List.replicate 64 0) 64], .own 0 [.ints .u32 (squareI k (moreI ctr n)) 16], .own 0 [.ints .u32 (addI (squareI k (moreI ctr n)) (iter dbl 10 (squareI k (moreI ctr n))) i.1) 16]]⟩, fun i => 16 - i.1, ⟨0, by omega⟩, ?_, fun _ => rfl, ?_⟩
    · repeat' apply And.intro
      all_goals first
        | exact True.intro
        | decide +kernel
        | exact h1
        | exact h2
        | exact h3
        | exact h4
        | exact h5
        | (refine squareI_W h1 h2 ?_; exact moreI_W h3 h4 h5)
        | exact squareI_len rfl
        | rfl
    · refine ⟨[0, 1, 2, 3, 4], [], rfl, ?_, ?_⟩
      · repeat' apply And.intro
        all_goals first
          | exact True.intro
          | rfl
      · exact ⟨⟨rfl, rfl, rfl, rfl, trivial⟩, ⟨rfl, rfl, rfl, rfl, trivial⟩, ⟨rfl, rfl, rfl, rfl, trivial⟩, ⟨rfl, rfl, rfl, rfl, trivial⟩, ⟨rfl, rfl, (addI_zero _ _).symm, rfl, trivial⟩, trivial⟩
    · rintro ⟨i, hi⟩
      have hTW := iter_W 10 hSW
      have hTL : (iter dbl 10 (squareI k (moreI ctr n))).length = 16 := (iter_len 10 _).trans hSL
      show run tab envB 0 _ ⟨[.any, .any, .any, .v (.one (.ptr 0 0)), .any, .v (.one (.ptr 1 0)), .v (.one (.ptr 2 0)), .v (.one (.ptr 3 0)), .v (.one (.ptr 4 0)), .any, .any, .any, .any, .any, .any, .any, .any, .any, .any, .any, .any, .any, .v (.one (.int .i64 i)), .any, .any, .any, .any, .any, .any, .any, .any, .any, .any, .any, .any, .any, .any, .any], [.own 0 [.ints .u8 k 32], .own 0 [.ints .u8 n 12], .own 0 [.ints .u8 (List.replicate 64 0) 64], .own 0 [.ints .u32 (squareI k (moreI ctr n)) 16], .own 0 [.ints .u32 (addI (squareI k (moreI ctr n)) (iter dbl 10 (squareI k (moreI ctr n))) i) 16]]⟩ _ _
      have hR : blockI k ctr n = lays (addI (squareI k (moreI ctr n)) (iter dbl 10 (squareI k (moreI ctr n))) 16) := rfl
      generalize iter dbl 10 (squareI k (moreI ctr n)) = T at hTW hTL hR ⊢
      generalize squareI k (moreI ctr n) = S at hSW hSL hR ⊢
      conv => whnf
      refine ⟨trivial, fun hlt => ?_, fun hge => ?_⟩
      · simp only [decide_eq_true_eq] at hlt
        have e4 : isum .i64 (i : Int) 1 = ((i + 1 : Nat) : Int) := by rw [isum, i64_in] <;> omega
        conv => whnf
        rw [e4]
        refine ⟨?_, ⟨i + 1, by omega⟩, by show 16 - (i + 1) < 16 - i; omega, [0, 1, 2, 3, 4], [], rfl, ?_, ?_⟩
        · repeat' apply And.intro
          all_goals first
            | exact True.intro
            | omega
            | decide +kernel
        · repeat' apply And.intro
          all_goals first
            | exact True.intro
            | rfl
        · refine ⟨⟨rfl, rfl, rfl, rfl, trivial⟩, ⟨rfl, rfl, rfl, rfl, trivial⟩, ⟨rfl, rfl, rfl, rfl, trivial⟩, ⟨rfl, rfl, rfl, rfl, trivial⟩, ⟨rfl, rfl, ?_, rfl, trivial⟩, trivial⟩
          simp only [Int.toNat_natCast]
          exact addI_step (by omega)
      · simp only [decide_eq_false_iff_not] at hge
        have : i = 16 := by omega
        subst this
        have hAW := addI_W hSW hTW (hSL.trans hTL.symm) (i := 16) (by omega)
        have hAL := addI_len (s := S) (t := T) (i := 16) (by omega)
        rw [hTL] at hAL
        conv => whnf
        refine ⟨?_, rfl, [], [], rfl, ⟨⟨rfl, ?_, rfl, trivial⟩, trivial⟩, trivial⟩
        · repeat' apply And.intro
          all_goals first
            | exact True.intro
            | assumption
            | rfl
            | decide +kernel
            | (simp [natB]; done)
        · rw [hR]
          have := putI_all (o := List.replicate 64 0) (l := addI S T 16) (by rw [hAL]; rfl)
          rw [hAL] at this
          exact this
  · cases hr
end Go.Proofs.Ytjbagkimpmpfgaa
