/- Texts joined for the claims: A6, A7. Conditions: those that each lists. -/
import Derived.Test.YtjbagkimpmpfgaaLE
import Derived.Test.YtjbagkimpmpfgaaLC
set_option linter.unusedSimpArgs false
set_option linter.unusedVariables false

/- Aead: the laws of seals and of any bytes, walked. -/
namespace Go.Proofs.Ytjbagkimpmpfgaa
open Go Go.Mx
set_option maxRecDepth 100000
set_option maxHeartbeats 4000000

theorem seal_opens (k n : List Int) (t b : ByteArray) : opensB k n (sealB k n t b) b = true := by
  unfold opensB
  rw [seal_size, show t.size + 16 - 16 = t.size by omega, seal_mark, seal_under]
  simp
theorem seal_text (k n : List Int) (t b : ByteArray) : openT k n (sealB k n t b) b = t := by
  unfold openT
  rw [if_pos (seal_opens k n t b), seal_size, show t.size + 16 - 16 = t.size by omega, seal_under, bl_ofL (streamI_B _ _ _ _), streamI_twice _ _ _ (bl_B t), ofL_bl]
theorem seal_err (k n : List Int) (t b : ByteArray) : openE k n (sealB k n t b) b = 0 := by
  unfold openE
  rw [if_pos (seal_opens k n t b)]
/-- What opens is the box of what comes out. -/
theorem open_seal {k n : List Int} {box b : ByteArray} (h : opensB k n box b = true) : sealB k n (openT k n box b) b = box := by
  have ho := h
  unfold opensB at h
  simp only [Bool.and_eq_true, decide_eq_true_eq] at h
  obtain ⟨h1, h2⟩ := h
  unfold openT
  rw [if_pos ho]
  have e1 : streamI k 1 n (bl (ofL (streamI k 1 n (bl (box.extract 0 (box.size - 16)))))) = bl (box.extract 0 (box.size - 16)) := by
    rw [bl_ofL (streamI_B _ _ _ _), streamI_twice _ _ _ (bl_B _)]
  unfold sealB
  rw [e1, ofL_bl, ← h2]
  refine bl_inj ?_
  rw [bl_app, blP_ext, bl_tail, List.drop_zero, List.take_append_drop]
theorem int_absurd {p : Prop} {a b : Int} (e : a = b) (h : (a == b) = false) : p := by subst e; simp at h
theorem str_self {p : Prop} {a b : ByteArray} (e : a = b) (h : (!(a.toList == b.toList)) = true) : p := by subst e; simp at h
def env22 : Env := fun f => match f with
  | 70 => some c70
  | 72 => some c72
  | 73 => some c73
  | 74 => some c74
  | 75 => some c75
  | 76 => some c76
  | 77 => some c77
  | 78 => some c78
  | 69 => some c69
  | 71 => some c71
  | _ => none
theorem env22_ok : EnvOk Try.prog env22 := by
  intro f c h
  unfold env22 at h
  split at h
  · simp only [Option.some.injEq] at h; subst h; exact m70
  · simp only [Option.some.injEq] at h; subst h; exact m72
  · simp only [Option.some.injEq] at h; subst h; exact m73
  · simp only [Option.some.injEq] at h; subst h; exact m74
  · simp only [Option.some.injEq] at h; subst h; exact m75
  · simp only [Option.some.injEq] at h; subst h; exact m76
  · simp only [Option.some.injEq] at h; subst h; exact m77
  · simp only [Option.some.injEq] at h; subst h; exact m78
  · simp only [Option.some.injEq] at h; subst h; exact m69
  · simp only [Option.some.injEq] at h; subst h; exact m71
  · cases h
def c22 : Ctr := fun args objs => match args, objs with
  | [.agg [.ints .u8 k 32], .agg [.ints .u8 w 24], .one (.str t), .one (.str b)], [] => some ⟨[allB k, k.length = 32, allB w, w.length = 24, t.size ≤ 140737488351232, b.size ≤ 140737488351232], .v (.one (.bool true true)), [], []⟩
  | _, _ => none
theorem m22 : Meets Try.prog 22 c22 := by
  refine meets_of_run2 tab_ok env22_ok mixed [.tmp 8] Try.func22 rfl Try.ntmps22 Try.call22 (fun t w => by simp [results, Try.results22, resS, rv1]) ?_
  intro args objs r hr hcs
  unfold c22 at hr
  split at hr
  · rename_i k w t b
    simp only [Option.some.injEq] at hr; subst hr
    obtain ⟨h1, h2, h3, h4, h5, h6, _⟩ := hcs
    refine ⟨rfl, ?_⟩
    conv => whnf
    dsimp only
    generalize hx : splI _ _ _ = X
    have hXa : allB X := by rw [← hx]; exact allB_splI (allB_zeros 12) (allB_take (allB_take (allB_drop h3 _) _) _) _
    have hXl : X.length = 12 := by
      rw [← hx, splI_length]
      · rfl
      · simp; omega
    have z1 := seal_size k X t b
    have z2 := seal_size (narK k w) (narN w) t b
    have q1 := seal_text k X t b
    have q2 := seal_err k X t b
    have q3 := seal_text (narK k w) (narN w) t b
    have q4 := seal_err (narK k w) (narN w) t b
    obtain ⟨S1, hS1⟩ : ∃ S, S = sealB k X t b := ⟨_, rfl⟩
    obtain ⟨S2, hS2⟩ : ∃ S, S = sealB (narK k w) (narN w) t b := ⟨_, rfl⟩
    rw [← hS1] at z1 q1 q2 ⊢
    rw [← hS2] at z2 q3 q4 ⊢
    refine ⟨?_, fun h => str_self rfl h, fun _ => ?_⟩
    ·
      repeat' apply And.intro
      all_goals first
        | exact True.intro
        | with_reducible assumption
        | omega
        | decide +kernel
        | rfl
        | trace_state
    conv => whnf
    refine ⟨?_, fun h => str_self hS2 h, fun _ => ?_⟩
    ·
      repeat' apply And.intro
      all_goals first
        | exact True.intro
        | with_reducible assumption
        | omega
        | decide +kernel
        | rfl
        | trace_state
    conv => whnf
    refine ⟨?_, fun _ => ?_, fun h => str_absurd q1 h⟩
    ·
      repeat' apply And.intro
      all_goals first
        | exact True.intro
        | with_reducible assumption
        | omega
        | decide +kernel
        | rfl
        | trace_state
    conv => whnf
    refine ⟨?_, fun _ => ?_, fun h => str_absurd q3 h⟩
    ·
      repeat' apply And.intro
      all_goals first
        | exact True.intro
        | with_reducible assumption
        | omega
        | decide +kernel
        | rfl
        | trace_state
    conv => whnf
    refine ⟨?_, fun _ => ?_, fun h => int_absurd q2 h⟩
    ·
      repeat' apply And.intro
      all_goals first
        | exact True.intro
        | with_reducible assumption
        | omega
        | decide +kernel
        | rfl
        | trace_state
    conv => whnf
    refine ⟨?_, fun _ => ?_, fun h => int_absurd q4 h⟩
    ·
      repeat' apply And.intro
      all_goals first
        | exact True.intro
        | with_reducible assumption
        | omega
        | decide +kernel
        | rfl
        | trace_state
    conv => whnf
    refine ⟨?_, rfl, [], [], rfl, ⟨rfl, trivial⟩, trivial⟩
    ·
      repeat' apply And.intro
      all_goals first
        | exact True.intro
        | with_reducible assumption
        | omega
        | decide +kernel
        | rfl
        | trace_state
  · cases hr
def c21 : Ctr := fun args objs => match args, objs with
  | [.agg [.ints .u8 k 32], .agg [.ints .u8 w 24], .one (.str t), .one (.str b)], [] => some ⟨[allB k, k.length = 32, allB w, w.length = 24, t.size ≤ 140737488351232, b.size ≤ 140737488351232], .v (.one (.bool true true)), [], []⟩
  | _, _ => none
theorem m21 : Meets Try.prog 21 c21 := by
  refine meets_of_run2 tab_ok env22_ok mixed [.tmp 8] Try.func21 rfl Try.ntmps21 Try.call21 (fun t w => by simp [results, Try.results21, resS, rv1]) ?_
  intro args objs r hr hcs
  unfold c21 at hr
  split at hr
  · rename_i k w t b
    simp only [Option.some.injEq] at hr; subst hr
    obtain ⟨h1, h2, h3, h4, h5, h6, _⟩ := hcs
    refine ⟨rfl, ?_⟩
    conv => whnf
    dsimp only
    generalize hx : splI _ _ _ = X
    have hXa : allB X := by rw [← hx]; exact allB_splI (allB_zeros 12) (allB_take (allB_take (allB_drop h3 _) _) _) _
    have hXl : X.length = 12 := by
      rw [← hx, splI_length]
      · rfl
      · simp; omega
    refine ⟨?_, fun _ => ?_, fun h => str_absurd rfl h⟩
    ·
      repeat' apply And.intro
      all_goals first
        | exact True.intro
        | with_reducible assumption
        | omega
        | decide +kernel
        | rfl
        | trace_state
    conv => whnf
    refine ⟨?_, fun _ => ?_, fun h => str_absurd rfl h⟩
    ·
      repeat' apply And.intro
      all_goals first
        | exact True.intro
        | with_reducible assumption
        | omega
        | decide +kernel
        | rfl
        | trace_state
    conv => whnf
    refine ⟨?_, fun _ => ?_, fun h => int_absurd rfl h⟩
    ·
      repeat' apply And.intro
      all_goals first
        | exact True.intro
        | with_reducible assumption
        | omega
        | decide +kernel
        | rfl
        | trace_state
    conv => whnf
    refine ⟨?_, fun _ => ?_, fun h => int_absurd rfl h⟩
    ·
      repeat' apply And.intro
      all_goals first
        | exact True.intro
        | with_reducible assumption
        | omega
        | decide +kernel
        | rfl
        | trace_state
    conv => whnf
    refine ⟨?_, rfl, [], [], rfl, ⟨rfl, trivial⟩, trivial⟩
    ·
      repeat' apply And.intro
      all_goals first
        | exact True.intro
        | with_reducible assumption
        | omega
        | decide +kernel
        | rfl
        | trace_state
  · cases hr
end Go.Proofs.Ytjbagkimpmpfgaa

/- Aead: the laws of turned boxes, walked. -/
namespace Go.Proofs.Ytjbagkimpmpfgaa
open Go Go.Mx
set_option maxRecDepth 100000
set_option maxHeartbeats 4000000

theorem bl_ofR {l : List Int} (h : inR l 255) : bl (ofL l) = l := bl_ofL (allB_in h)
theorem ext_bl (s : ByteArray) (j : Nat) : bl (s.extract 0 j) = (bl s).take j := by rw [blP_ext, List.drop_zero]
/-- A box with another mark does not open. -/
theorem turned_shut {k n : List Int} {t b : ByteArray} {K : Nat} {v : Int} (h1 : t.size ≤ K) (h2 : K < t.size + 16) (hv : 0 ≤ v ∧ v ≤ 255) (hne : v ≠ (bl (sealB k n t b)).getD K 0) :
    opensB k n (ofL ((bl (sealB k n t b)).set K v)) b = false := by
  obtain ⟨L, hL⟩ : ∃ L, L = bl (sealB k n t b) := ⟨_, rfl⟩
  have hLl : L.length = t.size + 16 := by rw [hL, blP_length, seal_size]
  have hLi : inR L 255 := by rw [hL]; exact bl_in _
  rw [← hL] at hne ⊢
  have hbl : bl (ofL (L.set K v)) = L.set K v := bl_ofR (inR_set hLi hv)
  have hsz : (ofL (L.set K v)).size = t.size + 16 := by rw [ofL_size, List.length_set, hLl]
  cases hq : opensB k n (ofL (L.set K v)) b with
  | false => rfl
  | true =>
    exfalso
    unfold opensB at hq
    simp only [Bool.and_eq_true, decide_eq_true_eq] at hq
    obtain ⟨_, hq⟩ := hq
    rw [hsz, show t.size + 16 - 16 = t.size by omega] at hq
    have hu : (ofL (L.set K v)).extract 0 t.size = (sealB k n t b).extract 0 t.size := by
      refine bl_inj ?_
      rw [ext_bl, ext_bl, hbl, ← hL, List.take_set_of_le h1]
    rw [hu, seal_under, ← seal_mark] at hq
    have hq2 := congrArg bl hq
    rw [blP_ext, blP_ext, hbl, ← hL, List.take_of_length_le (by rw [List.length_set]; omega), List.take_of_length_le (by omega)] at hq2
    have e1 : ∀ l : List Int, (l.drop t.size).getD (K - t.size) 0 = l.getD K 0 := fun l => by
      rw [List.getD_eq_getElem?_getD, List.getD_eq_getElem?_getD, List.getElem?_drop, show t.size + (K - t.size) = K by omega]
    have hq3 := congrArg (fun l : List Int => l.getD (K - t.size) 0) hq2
    rw [e1, e1, getD_set_eq (by omega)] at hq3
    exact hne hq3
theorem short_shut {k n : List Int} {x b : ByteArray} (h : x.size < 16) : opensB k n x b = false := by
  unfold opensB
  rw [decide_eq_false (by omega), Bool.false_and]
theorem shut_text {k n : List Int} {x b : ByteArray} (h : opensB k n x b = false) : openT k n x b = ⟨#[]⟩ := by unfold openT; rw [if_neg (by rw [h]; decide)]
theorem shut_err {k n : List Int} {x b : ByteArray} (h : opensB k n x b = false) : openE k n x b = 13 := by unfold openE; rw [if_neg (by rw [h]; decide)]
def c19 : Ctr := fun args objs => match args, objs with
  | [.agg [.ints .u8 k 32], .agg [.ints .u8 n 12], .one (.str t), .one (.str b), .one (.int .i64 pa), .one (.int .u8 to)], [] => some ⟨[allB k, k.length = 32, allB n, n.length = 12, t.size ≤ 140737488351232, b.size ≤ 140737488351232, isI pa, 0 ≤ to ∧ to ≤ 255], .v (.one (.bool true true)), [], []⟩
  | _, _ => none
theorem u8x_ne {x c : Int} (h : 0 ≤ c ∧ c ≤ 255) (e : bxorI .u8 x c = x) : c = 0 := by
  have h1 := u8x_twice (x := c) ⟨h.1, by omega⟩ x
  have h2 : bxorI .u8 c x = bxorI .u8 x c := by rw [u8x_eq, u8x_eq, BitVec.xor_comm]
  rw [h2, e, u8x_self] at h1
  exact h1.symm
theorem m19 : Meets Try.prog 19 c19 := by
  refine meets_of_run2 tab_ok env22_ok mixed [.tmp 12] Try.func19 rfl Try.ntmps19 Try.call19 (fun t w => by simp [results, Try.results19, resS, rv1]) ?_
  intro args objs r hr hcs
  unfold c19 at hr
  split at hr
  · rename_i k n t b pa to
    simp only [Option.some.injEq] at hr; subst hr
    obtain ⟨h1, h2, h3, h4, h5, h6, h7, h8, _⟩ := hcs
    refine ⟨rfl, ?_⟩
    conv => whnf
    have z1 := seal_size k n t b
    have e1 : isum .i64 (t.size : Int) 16 = ((t.size + 16 : Nat) : Int) := by rw [isum, i64_in] <;> omega
    obtain ⟨box, hbox⟩ : ∃ S, S = sealB k n t b := ⟨_, rfl⟩
    rw [← hbox] at z1 ⊢
    rw [e1, z1]
    refine ⟨?_, fun h => ?_, fun _ => ?_⟩
    ·
      repeat' apply And.intro
      all_goals first
        | exact True.intro
        | with_reducible assumption
        | omega
        | decide +kernel
        | rfl
        | trace_state
    · exfalso
      simp at h
    obtain ⟨p, hp⟩ : ∃ p, p = pickI pa 16 := ⟨_, rfl⟩
    have hp1 : 0 ≤ p := by rw [hp]; exact pickI_lo (by decide)
    have hp2 : p < 16 := by rw [hp]; exact pickI_hi (by decide)
    have z2 : (bl box).length = box.size := blP_length box
    have z3 := bl_in box
    obtain ⟨p, rfl⟩ : ∃ j : Nat, p = (j : Int) := ⟨_, (Int.toNat_of_nonneg hp1).symm⟩
    have e2 : isum .i64 (t.size : Int) (p : Int) = ((t.size + p : Nat) : Int) := by rw [isum, i64_in] <;> omega
    conv => whnf
    rw [← hp]
    refine ⟨?_, fun hg => ?_, fun hg => ?_⟩
    ·
      repeat' apply And.intro
      all_goals first
        | exact True.intro
        | with_reducible assumption
        | omega
        | decide +kernel
        | rfl
        | trace_state
    · obtain ⟨c, hc⟩ : ∃ c : Int, c = 1 := ⟨_, rfl⟩
      have hc0 : c ≠ 0 := by omega
      have hcr : 0 ≤ c ∧ c ≤ 255 := by omega
      conv => whnf
      rw [← hp, e2, ← hc]
      generalize hY : ofL (List.take box.size (List.drop 0 (List.set _ _ _))) = Y
      generalize hS : box.extract (Int.toNat 0) (p : Int).toNat = S
      have hY1 : Y = ofL ((bl box).set (t.size + p) (bxorI .u8 ((bl box).getD (t.size + p) 0) c)) := by
        rw [← hY, Int.toNat_natCast, Nat.zero_add, List.drop_zero, List.take_of_length_le (by rw [List.length_set]; omega)]
      have hYx := z3.h (t.size + p)
      have hYb := u8x_B ((bl box).getD (t.size + p) 0) c
      have hYo : opensB k n Y b = false := by
        rw [hY1, hbox]
        refine turned_shut (by omega) (by omega) ⟨hbox ▸ hYb.lo, ?_⟩ (fun e => hc0 ?_)
        · have := hYb.hi
          rw [hbox] at this
          omega
        · rw [← hbox] at e
          exact u8x_ne hcr e
      have hYz : Y.size = box.size := by rw [hY1, ofL_size, List.length_set, z2]
      have hSz : S.size < 16 := by
        rw [← hS, ByteArray.size_extract, Int.toNat_natCast]
        show min p box.size - 0 < 16
        omega
      have hSo : opensB k n S b = false := short_shut hSz
      have f1 := shut_text hYo
      have f2 := shut_err hYo
      have f3 := shut_text hSo
      have f4 := shut_err hSo
      refine ⟨?_, fun _ => ?_, fun h => str_absurd f1 h⟩
      · have f5 : ((t.size + p : Nat) : Int) < (box.size : Int) := by omega
        repeat' apply And.intro
        all_goals first
          | exact True.intro
          | with_reducible assumption
          | omega
          | (rw [Int.toNat_natCast]; omega)
          | decide +kernel
          | rfl
          | trace_state
      conv => whnf
      refine ⟨?_, fun _ => ?_, fun h => str_absurd f3 h⟩
      ·
        repeat' apply And.intro
        all_goals first
          | exact True.intro
          | with_reducible assumption
          | omega
          | decide +kernel
          | rfl
          | trace_state
      conv => whnf
      refine ⟨?_, fun _ => ?_, fun h => int_absurd f2 h⟩
      ·
        repeat' apply And.intro
        all_goals first
          | exact True.intro
          | with_reducible assumption
          | omega
          | decide +kernel
          | rfl
          | trace_state
      conv => whnf
      refine ⟨?_, fun _ => ?_, fun h => int_absurd f4 h⟩
      ·
        repeat' apply And.intro
        all_goals first
          | exact True.intro
          | with_reducible assumption
          | omega
          | decide +kernel
          | rfl
          | trace_state
      conv => whnf
      refine ⟨?_, fun _ => ?_, fun h => str_absurd hbox.symm h⟩
      ·
        repeat' apply And.intro
        all_goals first
          | exact True.intro
          | with_reducible assumption
          | omega
          | decide +kernel
          | rfl
          | trace_state
      conv => whnf
      refine ⟨?_, rfl, [], [], rfl, ⟨rfl, trivial⟩, trivial⟩
      ·
        repeat' apply And.intro
        all_goals first
          | exact True.intro
          | with_reducible assumption
          | omega
          | decide +kernel
          | rfl
          | trace_state
    · obtain ⟨c, hc⟩ : ∃ c : Int, c = to := ⟨_, rfl⟩
      have hc0 : c ≠ 0 := by rw [hc]; simpa using hg
      have hcr : 0 ≤ c ∧ c ≤ 255 := by omega
      conv => whnf
      rw [← hp, e2, ← hc]
      generalize hY : ofL (List.take box.size (List.drop 0 (List.set _ _ _))) = Y
      generalize hS : box.extract (Int.toNat 0) (p : Int).toNat = S
      have hY1 : Y = ofL ((bl box).set (t.size + p) (bxorI .u8 ((bl box).getD (t.size + p) 0) c)) := by
        rw [← hY, Int.toNat_natCast, Nat.zero_add, List.drop_zero, List.take_of_length_le (by rw [List.length_set]; omega)]
      have hYx := z3.h (t.size + p)
      have hYb := u8x_B ((bl box).getD (t.size + p) 0) c
      have hYo : opensB k n Y b = false := by
        rw [hY1, hbox]
        refine turned_shut (by omega) (by omega) ⟨hbox ▸ hYb.lo, ?_⟩ (fun e => hc0 ?_)
        · have := hYb.hi
          rw [hbox] at this
          omega
        · rw [← hbox] at e
          exact u8x_ne hcr e
      have hYz : Y.size = box.size := by rw [hY1, ofL_size, List.length_set, z2]
      have hSz : S.size < 16 := by
        rw [← hS, ByteArray.size_extract, Int.toNat_natCast]
        show min p box.size - 0 < 16
        omega
      have hSo : opensB k n S b = false := short_shut hSz
      have f1 := shut_text hYo
      have f2 := shut_err hYo
      have f3 := shut_text hSo
      have f4 := shut_err hSo
      refine ⟨?_, fun _ => ?_, fun h => str_absurd f1 h⟩
      · have f5 : ((t.size + p : Nat) : Int) < (box.size : Int) := by omega
        repeat' apply And.intro
        all_goals first
          | exact True.intro
          | with_reducible assumption
          | omega
          | (rw [Int.toNat_natCast]; omega)
          | decide +kernel
          | rfl
          | trace_state
      conv => whnf
      refine ⟨?_, fun _ => ?_, fun h => str_absurd f3 h⟩
      ·
        repeat' apply And.intro
        all_goals first
          | exact True.intro
          | with_reducible assumption
          | omega
          | decide +kernel
          | rfl
          | trace_state
      conv => whnf
      refine ⟨?_, fun _ => ?_, fun h => int_absurd f2 h⟩
      ·
        repeat' apply And.intro
        all_goals first
          | exact True.intro
          | with_reducible assumption
          | omega
          | decide +kernel
          | rfl
          | trace_state
      conv => whnf
      refine ⟨?_, fun _ => ?_, fun h => int_absurd f4 h⟩
      ·
        repeat' apply And.intro
        all_goals first
          | exact True.intro
          | with_reducible assumption
          | omega
          | decide +kernel
          | rfl
          | trace_state
      conv => whnf
      refine ⟨?_, fun _ => ?_, fun h => str_absurd hbox.symm h⟩
      ·
        repeat' apply And.intro
        all_goals first
          | exact True.intro
          | with_reducible assumption
          | omega
          | decide +kernel
          | rfl
          | trace_state
      conv => whnf
      refine ⟨?_, rfl, [], [], rfl, ⟨rfl, trivial⟩, trivial⟩
      ·
        repeat' apply And.intro
        all_goals first
          | exact True.intro
          | with_reducible assumption
          | omega
          | decide +kernel
          | rfl
          | trace_state
  · cases hr
theorem u8x_right {x : Int} (h : 0 ≤ x ∧ x ≤ 255) : bxorI .u8 x 0 = x := by
  rw [u8x_eq, show BitVec.ofInt 8 0 = 0#8 from rfl, BitVec.xor_zero, ofInt8 h]
  omega
theorem openT_le (k n : List Int) (x b : ByteArray) : (openT k n x b).size ≤ x.size := by
  unfold openT
  split
  · rw [stream_size, ByteArray.size_extract]; omega
  · exact Nat.zero_le _
def c20 : Ctr := fun args objs => match args, objs with
  | [.agg [.ints .u8 k 32], .agg [.ints .u8 n 12], .one (.str t), .one (.str b), .one (.int .i64 pa), .one (.int .u8 to)], [] => some ⟨[allB k, k.length = 32, allB n, n.length = 12, t.size ≤ 140737488351232, b.size ≤ 140737488351232, isI pa, 0 ≤ to ∧ to ≤ 255], .v (.one (.bool true true)), [], []⟩
  | _, _ => none
theorem m20 : Meets Try.prog 20 c20 := by
  refine meets_of_run2 tab_ok env22_ok mixed [.tmp 12] Try.func20 rfl Try.ntmps20 Try.call20 (fun t w => by simp [results, Try.results20, resS, rv1]) ?_
  intro args objs r hr hcs
  unfold c20 at hr
  split at hr
  · rename_i k n t b pa to
    simp only [Option.some.injEq] at hr; subst hr
    obtain ⟨h1, h2, h3, h4, h5, h6, h7, h8, _⟩ := hcs
    refine ⟨rfl, ?_⟩
    conv => whnf
    have z1 := seal_size k n t b
    obtain ⟨box, hbox⟩ : ∃ S, S = sealB k n t b := ⟨_, rfl⟩
    rw [← hbox] at z1 ⊢
    refine ⟨?_, fun h => ?_, fun _ => ?_⟩
    ·
      repeat' apply And.intro
      all_goals first
        | exact True.intro
        | with_reducible assumption
        | omega
        | decide +kernel
        | rfl
        | trace_state
    · exfalso
      have h0 : (box.size : Int) = 0 := eq_of_beq h
      omega
    obtain ⟨p, hp⟩ : ∃ p, p = pickI pa (box.size : Int) := ⟨_, rfl⟩
    have hp1 : 0 ≤ p := by rw [hp]; exact pickI_lo (by omega)
    have hp2 : p < (box.size : Int) := by rw [hp]; exact pickI_hi (by omega)
    have z2 : (bl box).length = box.size := blP_length box
    have z3 := bl_in box
    obtain ⟨p, rfl⟩ : ∃ j : Nat, p = (j : Int) := ⟨_, (Int.toNat_of_nonneg hp1).symm⟩
    conv => whnf
    rw [← hp]
    generalize hY : ofL (List.take box.size (List.drop 0 (List.set _ _ _))) = Y
    have hYx := z3.h p
    have hY1 : Y = ofL ((bl box).set p (bxorI .u8 ((bl box).getD p 0) to)) := by
      rw [← hY, Int.toNat_natCast, Nat.zero_add, List.drop_zero, List.take_of_length_le (by rw [List.length_set]; omega)]
    have hYz : Y.size = box.size := by rw [hY1, ofL_size, List.length_set, z2]
    have hY0 : to = 0 → Y = box := fun h0 => by
      rw [hY1, h0, u8x_right hYx]
      have : (bl box).set p ((bl box).getD p 0) = bl box := by
        refine ext_getE (by rw [List.length_set]) (fun i hi => ?_)
        by_cases e : p = i
        · subst e; rw [getD_set_eq (by omega)]
        · rw [getD_set_ne e]
      rw [this, ofL_bl]
    have hbo := seal_opens k n t b
    have hbt := seal_text k n t b
    have hbe := seal_err k n t b
    rw [← hbox] at hbo hbt hbe
    have f5 : ((p : Nat) : Int) < (box.size : Int) := hp2
    obtain ⟨X, hX⟩ : ∃ X, X = openT k n Y b := ⟨_, rfl⟩
    obtain ⟨E, hE⟩ : ∃ E, E = openE k n Y b := ⟨_, rfl⟩
    rw [← hX, ← hE]
    have hXz : X.size ≤ Y.size := by rw [hX]; exact openT_le _ _ _ _
    refine ⟨?_, fun hg => ?_, fun hg => ?_⟩
    · repeat' apply And.intro
      all_goals first
        | exact True.intro
        | with_reducible assumption
        | omega
        | (rw [Int.toNat_natCast]; omega)
        | decide +kernel
        | rfl
        | trace_state
    · have hE0 : E = 0 := eq_of_beq hg
      have hq : opensB k n Y b = true := by
        cases hq : opensB k n Y b with
        | true => rfl
        | false => have := shut_err hq; omega
      have hs := open_seal hq
      rw [← hX] at hs
      have hsz := seal_size k n X b
      conv => whnf
      rw [hY]
      refine ⟨?_, fun _ => ?_, fun h => str_absurd hs h⟩
      ·
        repeat' apply And.intro
        all_goals first
          | exact True.intro
          | with_reducible assumption
          | omega
          | decide +kernel
          | rfl
          | trace_state
      conv => whnf
      refine ⟨?_, fun _ => ?_, fun h => ?_⟩
      ·
        repeat' apply And.intro
        all_goals first
          | exact True.intro
          | with_reducible assumption
          | omega
          | decide +kernel
          | rfl
          | trace_state
      · conv => whnf
        refine ⟨?_, rfl, [], [], rfl, ⟨rfl, trivial⟩, trivial⟩
        ·
          repeat' apply And.intro
          all_goals first
            | exact True.intro
            | with_reducible assumption
            | omega
            | decide +kernel
            | rfl
            | trace_state
      · have h0 : to = 0 := by simpa using h
        have hXt : X = t := by rw [hX, hY0 h0, hbt]
        conv => whnf
        refine ⟨?_, fun _ => ?_, fun h => str_absurd hXt h⟩
        ·
          repeat' apply And.intro
          all_goals first
            | exact True.intro
            | with_reducible assumption
            | omega
            | decide +kernel
            | rfl
            | trace_state
        conv => whnf
        refine ⟨?_, rfl, [], [], rfl, ⟨rfl, trivial⟩, trivial⟩
        ·
          repeat' apply And.intro
          all_goals first
            | exact True.intro
            | with_reducible assumption
            | omega
            | decide +kernel
            | rfl
            | trace_state
    · have hE0 : E ≠ 0 := fun e => by rw [e] at hg; simp at hg
      have hq : opensB k n Y b = false := by
        cases hq : opensB k n Y b with
        | false => rfl
        | true => exact absurd (by rw [hE]; unfold openE; rw [if_pos hq]) hE0
      have hE1 := shut_err hq
      have hX1 := shut_text hq
      rw [← hE] at hE1
      rw [← hX] at hX1
      conv => whnf
      refine ⟨?_, fun _ => ?_, fun h => int_absurd hE1 h⟩
      ·
        repeat' apply And.intro
        all_goals first
          | exact True.intro
          | with_reducible assumption
          | omega
          | decide +kernel
          | rfl
          | trace_state
      conv => whnf
      refine ⟨?_, fun _ => ?_, fun h => str_absurd hX1 h⟩
      ·
        repeat' apply And.intro
        all_goals first
          | exact True.intro
          | with_reducible assumption
          | omega
          | decide +kernel
          | rfl
          | trace_state
      conv => whnf
      refine ⟨?_, fun _ => ?_, fun h => ?_⟩
      ·
        repeat' apply And.intro
        all_goals first
          | exact True.intro
          | with_reducible assumption
          | omega
          | decide +kernel
          | rfl
          | trace_state
      · conv => whnf
        refine ⟨?_, rfl, [], [], rfl, ⟨rfl, trivial⟩, trivial⟩
        ·
          repeat' apply And.intro
          all_goals first
            | exact True.intro
            | with_reducible assumption
            | omega
            | decide +kernel
            | rfl
            | trace_state
      · exfalso
        have h0 : to = 0 := by simpa using h
        rw [hY0 h0, hbo] at hq
        cases hq
  · cases hr
end Go.Proofs.Ytjbagkimpmpfgaa
