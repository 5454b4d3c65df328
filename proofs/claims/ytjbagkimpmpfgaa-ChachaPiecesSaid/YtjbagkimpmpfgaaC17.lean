/- Chacha: the law of the pieces, walked. -/
import Derived.Test.YtjbagkimpmpfgaaC16
namespace Go.Proofs.Ytjbagkimpmpfgaa
open Go Go.Mx
set_option maxRecDepth 100000
set_option maxHeartbeats 4000000

def envE : Env := fun f => match f with
  | 31 => some c31
  | 32 => some c32
  | 36 => some c36
  | 38 => some c38
  | _ => none
theorem envE_ok : EnvOk Try.prog envE := by
  intro f c h
  unfold envE at h
  split at h
  · simp only [Option.some.injEq] at h; subst h; exact m31
  · simp only [Option.some.injEq] at h; subst h; exact m32
  · simp only [Option.some.injEq] at h; subst h; exact m36
  · simp only [Option.some.injEq] at h; subst h; exact m38
  · cases h
def c7 : Ctr := fun args objs => match args, objs with
  | [.agg [.ints .u8 k 32], .one (.int .u32 c), .one (.str s), .one (.int .i64 cut)], [] => some ⟨[allB k, k.length = 32, isW c, s.size ≤ 9223372036854775807, isI cut], .v (.one (.bool true true)), [], []⟩
  | _, _ => none
theorem m7 : Meets Try.prog 7 c7 := by
  refine meets_of_run2 tab_ok envE_ok mixed [.tmp 8] Try.func7 rfl Try.ntmps7 Try.call7 (fun t w => by simp [results, Try.results7, resS, rv1]) ?_
  intro args objs r hr hcs
  unfold c7 at hr
  split at hr
  · rename_i k c s cut
    simp only [Option.some.injEq] at hr; subst hr
    obtain ⟨h1, h2, h3, h4, h5, _⟩ := hcs
    refine ⟨rfl, ?_⟩
    conv => whnf
    dsimp only
    generalize hx : splI _ _ _ = X
    have hX : allB X := by rw [← hx]; exact allB_splI (allB_zeros 12) (allB_take (allB_take (allB_drop h1 _) _) _) _
    have hXL : X.length = 12 := by
      rw [← hx, splI_length]
      · rfl
      · simp; omega
    obtain ⟨S, hS⟩ : ∃ S, S = s.size := ⟨_, rfl⟩
    rw [← hS] at h4
    have q1 : iquo .i64 (S : Int) 64 = ((S / 64 : Nat) : Int) := by
      rw [iquo, Int.tdiv_eq_ediv_of_nonneg (by omega), i64_in] <;> omega
    have q2 : isum .i64 ((S / 64 : Nat) : Int) 1 = ((S / 64 + 1 : Nat) : Int) := by rw [isum, i64_in] <;> omega
    obtain ⟨p, hp⟩ : ∃ p : Nat, pickI cut ((S / 64 + 1 : Nat) : Int) = (p : Int) := ⟨_, (Int.toNat_of_nonneg (pickI_lo (by omega))).symm⟩
    have hp2 : p ≤ S / 64 := by
      have := pickI_hi (c := cut) (n := ((S / 64 + 1 : Nat) : Int)) (by omega)
      omega
    have q3 : imul .i64 64 (p : Int) = ((64 * p : Nat) : Int) := by rw [imul, i64_in] <;> omega
    have hZ : (ofL (streamI k c X (bl s))).size = S := by rw [ofL_size, streamI_len, bl_length, hS]
    rw [← hS, q1, q2, hp, q3, hZ]
    refine ⟨?_, fun h => ?_, fun _ => ?_⟩
    · repeat' apply And.intro
      all_goals first
        | exact True.intro
        | exact h1
        | exact h2
        | exact h3
        | exact h4
        | exact h5
        | exact hX
        | exact hXL
        | omega
        | decide +kernel
        | rfl
        | exact Nat.le_of_ble_eq_true rfl
        | (dsimp only; omega)
        | trace_state
    · simp at h
    conv => whnf
    have hbl : (bl s).length = S := by rw [bl_length, hS]
    have a1 : bl (s.extract (Int.toNat 0) ((64 * p : Nat) : Int).toNat) = (bl s).take (64 * p) := by
      rw [bl_ext, Int.toNat_natCast]; rfl
    have a2 : bl (s.extract ((64 * p : Nat) : Int).toNat ((s.size : Nat) : Int).toNat) = (bl s).drop (64 * p) := by
      rw [bl_ext, Int.toNat_natCast, Int.toNat_natCast, List.take_of_length_le (by omega)]
    have a3 : isum .u32 c (conv .u32 (iquo .i64 ((64 * p : Nat) : Int) 64)) = ctrI c p := by
      have e1 : iquo .i64 ((64 * p : Nat) : Int) 64 = (p : Int) := by
        rw [iquo, Int.tdiv_eq_ediv_of_nonneg (by omega), i64_in] <;> omega
      have e2 : conv .u32 (p : Int) = wI (BitVec.ofNat 32 p) := u32_of p
      obtain ⟨a, rfl⟩ := of_isW h3
      rw [e1, e2, u32_sum]
      unfold ctrI
      rw [wB_wI]
    have a4 : ofL (streamI k c X ((bl s).take (64 * p))) ++ ofL (streamI k (ctrI c p) X ((bl s).drop (64 * p))) = ofL (streamI k c X (bl s)) := by
      rw [ofL_app, streamI_cut _ _ _ _ (by omega)]
    have s1 : (ofL (streamI k c X ((bl s).take (64 * p)))).size + (ofL (streamI k (ctrI c p) X ((bl s).drop (64 * p)))).size ≤ 9223372036854775807 := by
      rw [ofL_size, ofL_size, streamI_len, streamI_len, List.length_take, List.length_drop]; omega
    have s2 : (s.extract ((64 * p : Nat) : Int).toNat ((s.size : Nat) : Int).toNat).size ≤ 9223372036854775807 := by
      rw [ByteArray.size_extract]; omega
    have s3 : (s.extract (Int.toNat 0) ((64 * p : Nat) : Int).toNat).size ≤ 9223372036854775807 := by
      rw [ByteArray.size_extract]; omega
    have s4 : natB ((64 * p : Nat) : Int) ((s.size : Nat) : Int) s.size := by simp only [natB]; omega
    have s5 : natB 0 ((64 * p : Nat) : Int) s.size := by simp only [natB]; omega
    rw [a1, a2, a3, a4]
    refine ⟨?_, fun h => ?_, fun _ => ?_⟩
    · repeat' apply And.intro
      all_goals first
        | exact True.intro
        | exact h1
        | exact h2
        | exact h3
        | exact ctrI_W _ _
        | exact hX
        | exact hXL
        | exact s4
        | exact s5
        | omega
        | decide +kernel
        | rfl
        | exact Nat.le_of_ble_eq_true rfl
        | (dsimp only; omega)
        | trace_state
    · simp at h
    conv => whnf
    have tk : ∀ B : List Int, B.length = 64 → List.take (((64 : Nat) : Int).toNat - Int.toNat 0) (List.drop (Int.toNat 0) B) = B := fun B hB => by
      rw [show Int.toNat 0 = 0 from rfl, List.drop_zero, List.take_of_length_le (by rw [hB]; decide)]
    have b2 : isum .u32 c 1 = ctrI c 1 := by
      have := ctrI_succ c 0
      rwa [ctrI_zero h3] at this
    have b3 : List.take (Int.toNat 128) (List.drop 0 (List.replicate (Int.toNat 128) (0 : Int))) = List.replicate 128 0 := rfl
    have s6 : (ofL (List.replicate 128 (0 : Int))).size ≤ 9223372036854775807 := by rw [ofL_size, List.length_replicate]; omega
    have s7 : (ofL (blockI k c X)).size + (ofL (blockI k (ctrI c 1) X)).size ≤ 9223372036854775807 := by
      rw [ofL_size, ofL_size, blockI_len, blockI_len]; omega
    rw [b2, b3, tk _ (blockI_len _ _ _), tk _ (blockI_len _ _ _), bl_ofL (allB_zeros 128), stream_zeros k h3 X, ofL_app]
    refine ⟨?_, fun h => ?_, fun _ => ?_⟩
    · repeat' apply And.intro
      all_goals first
        | exact True.intro
        | exact h1
        | exact h2
        | exact h3
        | exact ctrI_W _ _
        | exact hX
        | exact hXL
        | omega
        | decide +kernel
        | rfl
        | exact Nat.le_of_ble_eq_true rfl
        | (dsimp only; omega)
        | trace_state
    · simp at h
    obtain ⟨Z, hZZ⟩ : ∃ Z, Z = blockI k c X ++ blockI k (ctrI c 1) X := ⟨_, rfl⟩
    obtain ⟨U, hU⟩ : ∃ U, U = streamI k c X (bl s) := ⟨_, rfl⟩
    have hZL : Z.length = 128 := by rw [hZZ, List.length_append, blockI_len, blockI_len]
    have hUL : U.length = S := by rw [hU, streamI_len, hbl]
    have hZb : bl (ofL Z) = Z := by rw [hZZ]; exact bl_ofL (allB_app (blockI_B _ _ _) (blockI_B _ _ _))
    have hUb : bl (ofL U) = U := by rw [hU]; exact bl_ofL (streamI_B _ _ _ _)
    have key : ∀ i, i < S → i < 128 → bxorI .u8 (U.getD i 0) (Z.getD i 0) = (bl s).getD i 0 := fun i hi h128 => by
      have e : Z.getD i 0 = bxorI .u8 0 (ksI k c X i) := by
        have e0 : (List.replicate 128 (0 : Int)).getD i 0 = 0 := by
          simp only [List.getD, List.getElem?_replicate]; split <;> rfl
        rw [hZZ, ← stream_zeros k h3 X, streamI_get _ _ _ _ (by simpa using h128), e0]
      rw [e, hU, streamI_get _ _ _ _ (by omega), u8x_back (bl_B s i (by omega)) (ksI_B _ _ _ _)]
    have zU : (ofL U).size = S := by rw [ofL_size, hUL]
    have zZ : (ofL Z).size = 128 := by rw [ofL_size, hZL]
    rw [← hZZ, ← hU]
    clear hZZ hU
    conv => whnf
    refine ⟨?_, { i : Nat // i ≤ S ∧ i ≤ 128 }, fun i => ⟨(.any :: .any :: .v (.one (.str s)) :: .any :: .any :: .any :: .any :: .any :: .any :: .any :: .any :: .v (.one (.str (ofL U))) :: .v (.one (.str (ofL Z))) :: .any :: .any :: .v (.one (.int .i64 i.1)) :: .any :: .any :: .any :: .any :: .any :: .any :: .any :: .any :: .any :: .any :: .any :: .any :: .any :: .any :: .any :: .any :: .any :: .any :: .any :: .any :: .any :: .any :: .any :: .any :: .any :: .any :: .any :: .any :: .any :: .any :: .any :: .any :: .any :: .any :: .any :: .any :: .any :: .any :: .any :: .any :: .any :: .any :: .any :: .any :: .any :: .any :: .any :: .any :: .any :: .any :: .any :: .any :: .any :: .any :: .any :: .any :: .any :: .any :: .any :: .any :: .any :: .any :: .any :: .any :: .any :: .any :: .any :: .any :: .any :: .any :: .any :: .any :: .any :: .any :: .any :: .any :: .any :: .any :: .any :: .any :: .any :: .any :: .any :: .any :: .any :: .any :: .any :: []), []⟩, fun i => S - i.1, ⟨0, by omega⟩, ?_, fun _ => rfl, ?_⟩
    · repeat' apply And.intro
      all_goals first
        | exact True.intro
        | omega
        | decide +kernel
        | rfl
        | exact Nat.le_of_ble_eq_true rfl
        | (dsimp only; omega)
        | trace_state
    · refine ⟨[], [], rfl, ?_, trivial⟩
      · repeat' apply And.intro
        all_goals first
          | exact True.intro
          | rfl
          | exact Nat.le_refl _
          | decide +kernel
          | omega
          | trace_state
    rintro ⟨i, hi, hi2⟩
    show run tab envE 0 _ ⟨(.any :: .any :: .v (.one (.str s)) :: .any :: .any :: .any :: .any :: .any :: .any :: .any :: .any :: .v (.one (.str (ofL U))) :: .v (.one (.str (ofL Z))) :: .any :: .any :: .v (.one (.int .i64 i)) :: .any :: .any :: .any :: .any :: .any :: .any :: .any :: .any :: .any :: .any :: .any :: .any :: .any :: .any :: .any :: .any :: .any :: .any :: .any :: .any :: .any :: .any :: .any :: .any :: .any :: .any :: .any :: .any :: .any :: .any :: .any :: .any :: .any :: .any :: .any :: .any :: .any :: .any :: .any :: .any :: .any :: .any :: .any :: .any :: .any :: .any :: .any :: .any :: .any :: .any :: .any :: .any :: .any :: .any :: .any :: .any :: .any :: .any :: .any :: .any :: .any :: .any :: .any :: .any :: .any :: .any :: .any :: .any :: .any :: .any :: .any :: .any :: .any :: .any :: .any :: .any :: .any :: .any :: .any :: .any :: .any :: .any :: .any :: .any :: .any :: .any :: .any :: []), []⟩ _ _
    refine run_K (P := fun K => run tab envE 0 _ ⟨_, _⟩ True K) ?_
    intro K hK
    conv => whnf
    refine ⟨trivial, fun hlt => ?_, fun _ => ?_⟩
    · rw [zU] at hlt
      simp only [decide_eq_true_eq] at hlt
      conv => whnf
      refine ⟨trivial, fun hlt2 => ?_, fun _ => ?_⟩
      · simp only [decide_eq_true_eq] at hlt2
        have e1 : isum .i64 (i : Int) 1 = ((i + 1 : Nat) : Int) := by rw [isum, i64_in] <;> omega
        conv => whnf
        refine ⟨?_, fun h => ?_, fun _ => ?_⟩
        · repeat' apply And.intro
          all_goals first
            | exact True.intro
            | omega
            | decide +kernel
            | rfl
            | exact Nat.le_of_ble_eq_true rfl
            | (dsimp only; omega)
            | trace_state
        · exfalso
          simp only [Int.toNat_natCast, hUb, hZb] at h
          rw [key i (by omega) (by omega)] at h
          simp at h
        · conv => whnf
          rw [e1]
          subst hK
          change _ ∧ _
          refine ⟨trivial, ⟨i + 1, by omega, by omega⟩, by show S - (i + 1) < S - i; omega, [], [], rfl, ?_, trivial⟩
          · repeat' apply And.intro
            all_goals first
              | exact True.intro
              | rfl
              | exact Nat.le_refl _
              | decide +kernel
              | omega
              | trace_state
      · conv => whnf
        subst hK
        conv => whnf
        refine ⟨?_, rfl, [], [], rfl, ⟨rfl, trivial⟩, trivial⟩
        repeat' apply And.intro
        all_goals first
          | exact True.intro
          | omega
          | decide +kernel
          | rfl
          | exact Nat.le_of_ble_eq_true rfl
          | (dsimp only; omega)
          | trace_state
    · conv => whnf
      subst hK
      conv => whnf
      refine ⟨?_, rfl, [], [], rfl, ⟨rfl, trivial⟩, trivial⟩
      repeat' apply And.intro
      all_goals first
        | exact True.intro
        | omega
        | decide +kernel
        | rfl
        | exact Nat.le_of_ble_eq_true rfl
        | (dsimp only; omega)
        | trace_state
  · cases hr
end Go.Proofs.Ytjbagkimpmpfgaa

