/- Texts joined for the claims: A1, A2, A3, A4, A5. Conditions: those that each lists. -/
import Derived.Test.YtjbagkimpmpfgaaLQ
import Derived.Test.YtjbagkimpmpfgaaLC
set_option linter.unusedSimpArgs false
set_option linter.unusedVariables false

/- Aead: numbers as bytes, filling, nonces, walked. -/
namespace Go.Proofs.Ytjbagkimpmpfgaa
open Go Go.Mx
set_option maxRecDepth 100000
set_option maxHeartbeats 4000000

theorem outs8_set (w : Int) (i : Nat) (h : i < 8) : (digs w i ++ List.replicate (8 - i) 0).set i (w / 256 ^ i % 256) = digs w (i + 1) ++ List.replicate (8 - (i + 1)) 0 := by
  rw [List.set_append_right _ _ (by rw [digs_len]; omega), digs_len, Nat.sub_self, show 8 - i = 8 - (i + 1) + 1 by omega, List.replicate_succ, List.set_cons_zero, digs, List.append_assoc]
  rfl
theorem p256_two (i : Nat) : (2 : Int) ^ (8 * i) = 256 ^ i := by rw [Int.pow_mul]; rfl
theorem inR_all {l : List Int} (h : allB l) : inR l 255 := ⟨fun i => by
  by_cases hi : i < l.length
  · have := h i hi; exact ⟨this.lo, by have := this.hi; omega⟩
  · rw [List.getD_eq_getElem?_getD, List.getElem?_eq_none (by omega)]; simp⟩
/-- The bytes of a number, the lowest first. -/
def eightB (n : Int) : ByteArray := ofL (digs n 8)
def c117 : Ctr := fun args objs => match args, objs with
  | [.one (.int .u64 n)], [] => some ⟨[0 ≤ n ∧ n ≤ 18446744073709551615], .v (.one (.str (eightB n))), [], []⟩
  | _, _ => none
theorem m117 : Meets Try.prog 117 c117 := by
  refine meets_of_run2 tab_ok env0 mixed [.tmp 2] Try.func117 rfl Try.ntmps117 Try.call117 (fun t w => by simp [results, Try.results117, resS, rv1]) ?_
  intro args objs r hr hcs
  unfold c117 at hr
  split at hr
  · rename_i n
    simp only [Option.some.injEq] at hr; subst hr
    obtain ⟨h1, _⟩ := hcs
    refine ⟨rfl, ?_⟩
    conv => whnf
    obtain ⟨o, o0, os, ol, oE⟩ : ∃ o : Nat → List Int, o 0 = List.replicate 8 0 ∧ (∀ i, i < 8 → o (i + 1) = (o i).set i (n / 256 ^ i % 256)) ∧ (∀ i, i ≤ 8 → (o i).length = 8) ∧ eightB n = ofL (o 8) := ⟨fun i => digs n i ++ List.replicate (8 - i) 0, rfl, fun i hi => (outs8_set n i hi).symm, fun i hi => by rw [List.length_append, digs_len, List.length_replicate]; omega, by simp [eightB]⟩
    rw [oE]
    refine ⟨?_, { i : Nat // i ≤ 8 }, fun i => ⟨(.v (.one (.int .u64 n)) :: .any :: .any :: .v (.one (.ptr 0 0)) :: .any :: .v (.one (.int .i64 i.1)) :: .any :: .any :: .any :: .any :: .any :: .any :: .any :: .any :: .any :: .any :: .any :: .any :: []), [.own 0 [.ints .u8 (o i.1) 8]]⟩, fun i => 8 - i.1, ⟨0, by omega⟩, ?_, fun _ => rfl, ?_⟩
    · repeat' apply And.intro
      all_goals first
        | exact True.intro
        | omega
        | decide +kernel
        | rfl
        | exact Nat.le_of_ble_eq_true rfl
        | (dsimp only; omega)
        | trace_state
    · refine ⟨[0], [], rfl, ?_, ?_⟩
      ·
        repeat' apply And.intro
        all_goals first
          | exact True.intro
          | rfl
          | exact Nat.le_refl _
          | decide +kernel
          | trace_state
      · exact ⟨⟨rfl, rfl, o0.symm, rfl, trivial⟩, trivial⟩
    rintro ⟨i, hi⟩
    have hol := ol i hi
    have hos := os i
    show run tab (fun _ => none) 0 _ ⟨(.v (.one (.int .u64 n)) :: .any :: .any :: .v (.one (.ptr 0 0)) :: .any :: .v (.one (.int .i64 i)) :: .any :: .any :: .any :: .any :: .any :: .any :: .any :: .any :: .any :: .any :: .any :: .any :: []), [.own 0 [.ints .u8 (o i) 8]]⟩ _ _
    refine run_K (P := fun K => run tab (fun _ => none) 0 _ ⟨_, _⟩ True K) ?_
    intro K hK
    have e1 : isum .i64 (i : Int) 1 = ((i + 1 : Nat) : Int) := by rw [isum, i64_in] <;> omega
    have e2 : imul .i64 8 (i : Int) = ((8 * i : Nat) : Int) := by rw [imul, i64_in] <;> omega
    conv => whnf
    refine ⟨trivial, fun hlt => ?_, fun hlt => ?_⟩
    · have hlt' : i < 8 := by simp at hlt; omega
      have e3 : conv .u8 (shrI .u64 n ((8 * i : Nat) : Int)) = n / 256 ^ i % 256 := by rw [shr64 h1.1 (by omega), p256_two, conv, IntKind.wrap_u8]
      conv => whnf
      rw [e1, e2, e3]
      subst hK
      change _ ∧ _
      refine ⟨?_, ⟨i + 1, by omega⟩, by show 8 - (i + 1) < 8 - i; omega, [0], [], rfl, ?_, ?_⟩
      · repeat' apply And.intro
        all_goals first
          | exact True.intro
          | (rw [Int.toNat_natCast]; omega)
          | omega
          | decide +kernel
          | rfl
          | exact Nat.le_of_ble_eq_true rfl
          | (dsimp only; omega)
          | trace_state
      ·
        repeat' apply And.intro
        all_goals first
          | exact True.intro
          | rfl
          | exact Nat.le_refl _
          | decide +kernel
          | trace_state
      · refine ⟨⟨rfl, rfl, ?_, rfl, trivial⟩, trivial⟩
        simp only [Int.toNat_natCast, Nat.zero_add]
        exact (hos hlt').symm
    · have hlt' : i = 8 := by simp at hlt; omega
      subst hlt'
      conv => whnf
      subst hK
      conv => whnf
      refine ⟨?_, rfl, [], [], rfl, ⟨?_, trivial⟩, trivial⟩
      · repeat' apply And.intro
        all_goals first
          | exact True.intro
          | omega
          | decide +kernel
          | rfl
          | exact Nat.le_of_ble_eq_true rfl
          | (dsimp only; omega)
          | trace_state
      · show ofL (List.take 8 (List.drop 0 (o 8))) = ofL (o 8)
        rw [List.drop_zero, List.take_of_length_le (by omega)]
  · cases hr
def c118 : Ctr := fun args objs => match args, objs with
  | [.one (.int .u64 n)], [] => some ⟨[0 ≤ n ∧ n ≤ 18446744073709551615], .v (.one (.str (eightB n))), [], []⟩
  | _, _ => none
theorem m118 : Meets Try.prog 118 c118 := by
  refine meets_of_run2 tab_ok env0 mixed [.tmp 2] Try.func118 rfl Try.ntmps118 Try.call118 (fun t w => by simp [results, Try.results118, resS, rv1]) ?_
  intro args objs r hr hcs
  unfold c118 at hr
  split at hr
  · rename_i n
    simp only [Option.some.injEq] at hr; subst hr
    obtain ⟨h1, _⟩ := hcs
    refine ⟨rfl, ?_⟩
    conv => whnf
    obtain ⟨o, o0, os, ol, oE⟩ : ∃ o : Nat → List Int, o 0 = List.replicate 8 0 ∧ (∀ i, i < 8 → o (i + 1) = (o i).set i (n / 256 ^ i % 256)) ∧ (∀ i, i ≤ 8 → (o i).length = 8) ∧ eightB n = ofL (o 8) := ⟨fun i => digs n i ++ List.replicate (8 - i) 0, rfl, fun i hi => (outs8_set n i hi).symm, fun i hi => by rw [List.length_append, digs_len, List.length_replicate]; omega, by simp [eightB]⟩
    rw [oE]
    refine ⟨?_, { i : Nat // i ≤ 8 }, fun i => ⟨(.v (.one (.int .u64 (n / 256 ^ i.1))) :: .any :: .any :: .v (.one (.ptr 0 0)) :: .v (.one (.int .i64 i.1)) :: .any :: .any :: .any :: .any :: .any :: .any :: .any :: .any :: .any :: .any :: .any :: .any :: []), [.own 0 [.ints .u8 (o i.1) 8]]⟩, fun i => 8 - i.1, ⟨0, by omega⟩, ?_, fun _ => rfl, ?_⟩
    · repeat' apply And.intro
      all_goals first
        | exact True.intro
        | omega
        | decide +kernel
        | rfl
        | exact Nat.le_of_ble_eq_true rfl
        | (dsimp only; omega)
        | trace_state
    · refine ⟨[0], [], rfl, ?_, ?_⟩
      · repeat' apply And.intro
        all_goals first
          | exact True.intro
          | rfl
          | exact Nat.le_refl _
          | decide +kernel
          | (show n = n / 256 ^ 0; simp; done)
          | trace_state
      · exact ⟨⟨rfl, rfl, o0.symm, rfl, trivial⟩, trivial⟩
    rintro ⟨i, hi⟩
    have hol := ol i hi
    have hos := os i
    show run tab (fun _ => none) 0 _ ⟨(.v (.one (.int .u64 (n / 256 ^ i))) :: .any :: .any :: .v (.one (.ptr 0 0)) :: .v (.one (.int .i64 i)) :: .any :: .any :: .any :: .any :: .any :: .any :: .any :: .any :: .any :: .any :: .any :: .any :: []), [.own 0 [.ints .u8 (o i) 8]]⟩ _ _
    refine run_K (P := fun K => run tab (fun _ => none) 0 _ ⟨_, _⟩ True K) ?_
    intro K hK
    have e1 : isum .i64 (i : Int) 1 = ((i + 1 : Nat) : Int) := by rw [isum, i64_in] <;> omega
    obtain ⟨y, hy⟩ : ∃ y, y = n / 256 ^ i := ⟨_, rfl⟩
    have hy0 : 0 ≤ y := by rw [hy]; exact Int.ediv_nonneg h1.1 (Int.le_of_lt (p256_pos i))
    have hy1 : y ≤ n := by rw [hy]; exact Int.ediv_le_self _ h1.1
    have hy2 : n / 256 ^ (i + 1) = y / 256 := by rw [div_succ, hy]
    rw [← hy] at hos ⊢
    conv => whnf
    refine ⟨trivial, fun hlt => ?_, fun hlt => ?_⟩
    · have hlt' : i < 8 := by simp at hlt; omega
      have e3 : conv .u8 y = y % 256 := by rw [conv, IntKind.wrap_u8]
      have e4 : iquo .u64 y 256 = y / 256 := by rw [iquo, Int.tdiv_eq_ediv_of_nonneg hy0, IntWalk.u64_in]; omega
      conv => whnf
      rw [e1, e3, e4]
      subst hK
      change _ ∧ _
      refine ⟨?_, ⟨i + 1, by omega⟩, by show 8 - (i + 1) < 8 - i; omega, [0], [], rfl, ?_, ?_⟩
      · repeat' apply And.intro
        all_goals first
          | exact True.intro
          | (rw [Int.toNat_natCast]; omega)
          | (show (256 : Int) ≠ 0; decide)
          | omega
          | decide +kernel
          | rfl
          | exact Nat.le_of_ble_eq_true rfl
          | (dsimp only; omega)
          | trace_state
      · repeat' apply And.intro
        all_goals first
          | exact True.intro
          | rfl
          | exact Nat.le_refl _
          | decide +kernel
          | (show y / 256 = n / 256 ^ (i + 1); exact hy2.symm)
          | trace_state
      · refine ⟨⟨rfl, rfl, ?_, rfl, trivial⟩, trivial⟩
        simp only [Int.toNat_natCast, Nat.zero_add]
        exact (hos hlt').symm
    · have hlt' : i = 8 := by simp at hlt; omega
      subst hlt'
      conv => whnf
      subst hK
      conv => whnf
      refine ⟨?_, rfl, [], [], rfl, ⟨?_, trivial⟩, trivial⟩
      · repeat' apply And.intro
        all_goals first
          | exact True.intro
          | omega
          | decide +kernel
          | rfl
          | exact Nat.le_of_ble_eq_true rfl
          | (dsimp only; omega)
          | trace_state
      · show ofL (List.take 8 (List.drop 0 (o 8))) = ofL (o 8)
        rw [List.drop_zero, List.take_of_length_le (by omega)]
  · cases hr
/-- What a length lacks to a multiple of 16. -/
def padN (k : Nat) : Nat := (16 - k % 16) % 16
def padB (k : Nat) : ByteArray := ofL (List.replicate (padN k) 0)
theorem pad_and (k : Nat) (h : k < 9223372036854775808) : bandI .i64 (idif .i64 0 (k : Int)) 15 = (padN k : Int) := by
  have e : idif .i64 0 (k : Int) = -(k : Int) := by rw [idif, i64_in] <;> omega
  have e1 : (BitVec.ofInt IntKind.i64.bits (-(k : Int))).toNat % 16 = padN k := by
    show (BitVec.ofInt 64 (-(k : Int))).toNat % 16 = padN k
    rw [BitVec.toNat_ofInt]
    unfold padN
    omega
  have e2 : (BitVec.ofInt IntKind.i64.bits (15 : Int)).toNat = 2 ^ 4 - 1 := by decide
  rw [e, bandI, BitVec.toNat_and, e2, Nat.and_two_pow_sub_one_eq_mod, e1, i64_in]
  unfold padN
  omega
theorem zeros_cut : ∀ n : Fin 16, (⟨#[0, 0, 0, 0, 0, 0, 0, 0, 0, 0, 0, 0, 0, 0, 0]⟩ : ByteArray).extract 0 n.val = ofL (List.replicate n.val 0) := by decide +kernel
def c143 : Ctr := fun args objs => match args, objs with
  | [.one (.str s)], [] => some ⟨[s.size ≤ 4611686018427387904], .v (.one (.str (padB s.size))), [], []⟩
  | _, _ => none
theorem m143 : Meets Try.prog 143 c143 := by
  refine meets_of_run2 tab_ok env0 mixed [.tmp 2] Try.func143 rfl Try.ntmps143 Try.call143 (fun t w => by simp [results, Try.results143, resS, rv1]) ?_
  intro args objs r hr hcs
  unfold c143 at hr
  split at hr
  · rename_i s
    simp only [Option.some.injEq] at hr; subst hr
    obtain ⟨h1, _⟩ := hcs
    refine ⟨rfl, ?_⟩
    conv => whnf
    have e1 := pad_and s.size (by omega)
    have hp : padN s.size < 16 := by unfold padN; omega
    have e2 := zeros_cut ⟨padN s.size, hp⟩
    rw [e1]
    refine ⟨?_, rfl, [], [], rfl, ⟨?_, trivial⟩, trivial⟩
    · exact ⟨⟨by omega, by omega, by show (padN s.size : Int) ≤ ((15 : Nat) : Int); omega⟩, trivial⟩
    · exact e2
  · cases hr
def c144 : Ctr := fun args objs => match args, objs with
  | [.one (.str s)], [] => some ⟨[s.size ≤ 4611686018427387904], .v (.one (.str (s ++ padB s.size))), [], []⟩
  | _, _ => none
theorem m144 : Meets Try.prog 144 c144 := by
  refine meets_of_run2 tab_ok env0 mixed [.tmp 2] Try.func144 rfl Try.ntmps144 Try.call144 (fun t w => by simp [results, Try.results144, resS, rv1]) ?_
  intro args objs r hr hcs
  unfold c144 at hr
  split at hr
  · rename_i s
    simp only [Option.some.injEq] at hr; subst hr
    obtain ⟨h1, _⟩ := hcs
    refine ⟨rfl, ?_⟩
    conv => whnf
    have hp : padN s.size < 16 := by unfold padN; omega
    have e1 : (s.size : Int).tmod 16 = ((s.size % 16 : Nat) : Int) := by rw [Int.tmod_eq_emod_of_nonneg (by omega)]; omega
    have e2 : idif .i64 16 ((s.size % 16 : Nat) : Int) = ((16 - s.size % 16 : Nat) : Int) := by rw [idif, i64_in] <;> omega
    have e3 : ((16 - s.size % 16 : Nat) : Int).tmod 16 = (padN s.size : Int) := by rw [Int.tmod_eq_emod_of_nonneg (by omega)]; unfold padN; omega
    have hz : (padB s.size).size = padN s.size := by rw [padB, ofL_size, List.length_replicate]
    rw [e1, e2, e3]
    have e5 : ofL (List.take (padN s.size : Int).toNat (List.drop 0 (List.replicate (padN s.size : Int).toNat 0))) = padB s.size := by
      rw [Int.toNat_natCast, List.drop_zero, List.take_of_length_le (by simp)]; rfl
    have e6 : (ofL (List.take (padN s.size : Int).toNat (List.drop 0 (List.replicate (padN s.size : Int).toNat 0)))).size = padN s.size := by rw [e5, hz]
    refine ⟨?_, rfl, [], [], rfl, ⟨?_, trivial⟩, trivial⟩
    · exact ⟨by rw [e6]; omega, by omega, by omega, by omega, by show ((1 : Nat) : Int) * (padN s.size : Int) ≤ 281474976710656; omega, by omega, rfl, by decide, by decide, trivial⟩
    · exact congrArg (s ++ ·) e5
  · cases hr
/-- The nonce of a counter. -/
def nonceL (n : Int) : List Int := List.replicate 4 0 ++ digs n 8
theorem bl_eight (n : Int) : bl (eightB n) = digs n 8 := bl_ofL (allB_in (digs_in n 8))
theorem nonce_eq (n : Int) : splI (List.replicate 12 0) 4 (List.take (min (eightB n).size (12 - 4)) (bl (eightB n))) = nonceL n := by
  have hs : (eightB n).size = 8 := by rw [eightB, ofL_size, digs_len]
  have hd : (digs n 8).length = 8 := digs_len n 8
  rw [bl_eight, hs, show min 8 (12 - 4) = 8 from rfl, List.take_of_length_le (by omega)]
  unfold splI nonceL
  rw [hd]
  show List.take 4 (List.replicate 12 0) ++ digs n 8 ++ List.drop 12 (List.replicate 12 0) = _
  rw [show List.drop 12 (List.replicate 12 (0 : Int)) = [] from rfl, List.append_nil]
  rfl
def env66 : Env := fun f => match f with
  | 117 => some c117
  | 118 => some c118
  | _ => none
theorem env66_ok : EnvOk Try.prog env66 := by
  intro f c h
  unfold env66 at h
  split at h
  · simp only [Option.some.injEq] at h; subst h; exact m117
  · simp only [Option.some.injEq] at h; subst h; exact m118
  · cases h
def c66 : Ctr := fun args objs => match args, objs with
  | [.one (.int .u64 n)], [] => some ⟨[0 ≤ n ∧ n ≤ 18446744073709551615], .v (.agg [.ints .u8 (nonceL n) 12]), [], []⟩
  | _, _ => none
theorem m66 : Meets Try.prog 66 c66 := by
  refine meets_of_run2 tab_ok env66_ok mixed [.cell 2 31] Try.func66 rfl Try.ntmps66 Try.call66 (fun t w => by simp [results, Try.results66, resS, rv1]) ?_
  intro args objs r hr hcs
  unfold c66 at hr
  split at hr
  · rename_i n
    simp only [Option.some.injEq] at hr; subst hr
    obtain ⟨h1, _⟩ := hcs
    refine ⟨rfl, ?_⟩
    conv => whnf
    refine ⟨?_, rfl, [], [], rfl, ⟨⟨rfl, nonce_eq n, rfl, trivial⟩, trivial⟩, trivial⟩
    repeat' apply And.intro
    all_goals first
      | exact True.intro
      | omega
      | decide +kernel
      | rfl
      | exact Nat.le_of_ble_eq_true rfl
      | (dsimp only; omega)
      | trace_state
  · cases hr
def c68 : Ctr := fun args objs => match args, objs with
  | [.one (.int .u64 n)], [] => some ⟨[0 ≤ n ∧ n ≤ 18446744073709551615], .v (.agg [.ints .u8 (nonceL n) 12]), [], []⟩
  | _, _ => none
theorem m68 : Meets Try.prog 68 c68 := by
  refine meets_of_run2 tab_ok env66_ok mixed [.cell 2 31] Try.func68 rfl Try.ntmps68 Try.call68 (fun t w => by simp [results, Try.results68, resS, rv1]) ?_
  intro args objs r hr hcs
  unfold c68 at hr
  split at hr
  · rename_i n
    simp only [Option.some.injEq] at hr; subst hr
    obtain ⟨h1, _⟩ := hcs
    refine ⟨rfl, ?_⟩
    conv => whnf
    refine ⟨?_, rfl, [], [], rfl, ⟨⟨rfl, nonce_eq n, rfl, trivial⟩, trivial⟩, trivial⟩
    repeat' apply And.intro
    all_goals first
      | exact True.intro
      | omega
      | decide +kernel
      | rfl
      | exact Nat.le_of_ble_eq_true rfl
      | (dsimp only; omega)
      | trace_state
  · cases hr
end Go.Proofs.Ytjbagkimpmpfgaa

/- Aead: Same, walked. -/
namespace Go.Proofs.Ytjbagkimpmpfgaa
open Go Go.Mx
set_option maxRecDepth 100000
set_option maxHeartbeats 4000000

theorem u8x_self (x : Int) : bxorI .u8 x x = 0 := by rw [u8x_eq, BitVec.xor_self]; rfl
theorem ofInt8 {x : Int} (h : 0 ≤ x ∧ x ≤ 255) : (BitVec.ofInt 8 x).toNat = x.toNat := by
  rw [BitVec.toNat_ofInt]
  have : x % (2 ^ 8 : Nat) = x := Int.emod_eq_of_lt h.1 (by omega)
  rw [this]
theorem u8x_zero {x y : Int} (hx : 0 ≤ x ∧ x ≤ 255) (hy : 0 ≤ y ∧ y ≤ 255) : bxorI .u8 x y = 0 ↔ x = y := by
  constructor
  · intro h
    have h1 := u8x_twice (x := x) ⟨hx.1, by omega⟩ y
    rw [h, u8x_eq] at h1
    have h0 : BitVec.ofInt 8 0 = 0#8 := rfl
    rw [h0, BitVec.zero_xor, ofInt8 hy] at h1
    omega
  · rintro rfl; exact u8x_self x
theorem u8o_eq {x y : Int} (hx : 0 ≤ x ∧ x ≤ 255) (hy : 0 ≤ y ∧ y ≤ 255) : borI .u8 x y = ((x.toNat ||| y.toNat : Nat) : Int) ∧ (0 ≤ borI .u8 x y ∧ borI .u8 x y ≤ 255) := by
  have e : borI .u8 x y = ((x.toNat ||| y.toNat : Nat) : Int) := by
    have hl : x.toNat ||| y.toNat < 2 ^ 8 := Nat.or_lt_two_pow (by omega) (by omega)
    show IntKind.u8.wrap (((BitVec.ofInt 8 x ||| BitVec.ofInt 8 y).toNat : Nat) : Int) = _
    rw [BitVec.toNat_or, ofInt8 hx, ofInt8 hy, IntWalk.u8_in]
    omega
  refine ⟨e, ?_⟩
  have hl : x.toNat ||| y.toNat < 2 ^ 8 := Nat.or_lt_two_pow (by omega) (by omega)
  rw [e]
  omega
theorem u8o_zero {x y : Int} (hx : 0 ≤ x ∧ x ≤ 255) (hy : 0 ≤ y ∧ y ≤ 255) : borI .u8 x y = 0 ↔ (x = 0 ∧ y = 0) := by
  rw [(u8o_eq hx hy).1]
  have : ((x.toNat ||| y.toNat : Nat) : Int) = 0 ↔ x.toNat ||| y.toNat = 0 := by omega
  rw [this, Nat.or_eq_zero_iff]
  omega
def smX (a b : List Int) : Nat → Int
  | 0 => 0
  | i + 1 => borI .u8 (smX a b i) (bxorI .u8 (a.getD i 0) (b.getD i 0))
theorem smX_spec {a b : List Int} (ha : inR a 255) (hb : inR b 255) : ∀ i, (0 ≤ smX a b i ∧ smX a b i ≤ 255) ∧ (smX a b i = 0 ↔ ∀ j, j < i → a.getD j 0 = b.getD j 0)
  | 0 => ⟨by simp [smX], by simp [smX]⟩
  | i + 1 => by
    obtain ⟨h1, h2⟩ := smX_spec ha hb i
    have hx := u8x_B (a.getD i 0) (b.getD i 0)
    have hxr : 0 ≤ bxorI .u8 (a.getD i 0) (b.getD i 0) ∧ bxorI .u8 (a.getD i 0) (b.getD i 0) ≤ 255 := ⟨hx.lo, by have := hx.hi; omega⟩
    rw [smX]
    refine ⟨(u8o_eq h1 hxr).2, ?_⟩
    rw [u8o_zero h1 hxr, h2, u8x_zero (ha.h i) (hb.h i)]
    constructor
    · rintro ⟨g1, g2⟩ j hj
      by_cases e : j = i
      · subst e; exact g2
      · exact g1 j (by omega)
    · intro g
      exact ⟨fun j hj => g j (by omega), g i (by omega)⟩
theorem same_iff {a b : ByteArray} (h : a.size = b.size) : smX (bl a) (bl b) a.size = 0 ↔ a = b := by
  rw [(smX_spec (bl_in a) (bl_in b) a.size).2]
  constructor
  · intro g
    refine bl_inj (ext_getE (by rw [blP_length, blP_length, h]) (fun i hi => g i (by rwa [blP_length] at hi)))
  · rintro rfl j _; rfl
def c67 : Ctr := fun args objs => match args, objs with
  | [.one (.str a), .one (.str b)], [] => some ⟨[a.size ≤ 9223372036854775807, b.size ≤ 9223372036854775807], .v (.one (.bool false (decide (a = b)))), [], []⟩
  | _, _ => none
theorem m67 : Meets Try.prog 67 c67 := by
  refine meets_of_run2 tab_ok env0 mixed [.tmp 4] Try.func67 rfl Try.ntmps67 Try.call67 (fun t w => by simp [results, Try.results67, resS, rv1]) ?_
  intro args objs r hr hcs
  unfold c67 at hr
  split at hr
  · rename_i a b
    simp only [Option.some.injEq] at hr; subst hr
    obtain ⟨h1, h2, _⟩ := hcs
    refine ⟨rfl, ?_⟩
    conv => whnf
    obtain ⟨q, hq⟩ : ∃ q, q = decide (a = b) := ⟨_, rfl⟩
    rw [← hq]
    refine ⟨trivial, fun hg => ?_, fun hg => ?_⟩
    · have hs : a.size ≠ b.size := by simp at hg; omega
      have hqf : q = false := by rw [hq]; exact decide_eq_false (fun e => hs (by rw [e]))
      subst hqf
      conv => whnf
      refine ⟨?_, rfl, [], [], rfl, ⟨rfl, trivial⟩, trivial⟩
      repeat' apply And.intro
      all_goals first
        | exact True.intro
        | omega
        | decide +kernel
        | rfl
        | exact Nat.le_of_ble_eq_true rfl
        | (dsimp only; omega)
        | trace_state
    · have hs : a.size = b.size := by simp at hg; omega
      have hqe : q = decide (smX (bl a) (bl b) a.size = 0) := by rw [hq]; exact decide_eq_decide.2 (same_iff hs).symm
      obtain ⟨X, X0, Xs, Xb, XE⟩ : ∃ X : Nat → Int, X 0 = 0 ∧ (∀ i, X (i + 1) = borI .u8 (X i) (bxorI .u8 ((bl a).getD i 0) ((bl b).getD i 0))) ∧ (∀ i, 0 ≤ X i ∧ X i ≤ 255) ∧ q = decide (X a.size = 0) := ⟨smX (bl a) (bl b), rfl, fun _ => rfl, fun i => (smX_spec (bl_in a) (bl_in b) i).1, hqe⟩
      conv => whnf
      refine ⟨?_, { i : Nat // i ≤ a.size }, fun i => ⟨(.v (.one (.str a)) :: .v (.one (.str b)) :: .any :: .any :: .any :: .v (.one (.int .u8 (X i.1))) :: .any :: .any :: .any :: .any :: .any :: .any :: .any :: .v (.one (.int .i64 a.size)) :: .v (.one (.int .i64 i.1)) :: .any :: .any :: .any :: .any :: .any :: .any :: .any :: .any :: .any :: .any :: .any :: .any :: .any :: .any :: []), []⟩, fun i => a.size - i.1, ⟨0, by omega⟩, ?_, fun _ => rfl, ?_⟩
      · repeat' apply And.intro
        all_goals first
          | exact True.intro
          | omega
          | decide +kernel
          | rfl
          | exact Nat.le_of_ble_eq_true rfl
          | (dsimp only; omega)
          | trace_state
      · refine ⟨[], [], rfl, ?_, ?_⟩
        · repeat' apply And.intro
          all_goals first
            | exact True.intro
            | rfl
            | (simp only [X0]; exact ⟨rfl, rfl⟩)
            | (simp only [X0]; done)
            | trace_state
        · exact trivial
      rintro ⟨i, hi⟩
      have hXs := Xs i
      show run tab (fun _ => none) 0 _ ⟨(.v (.one (.str a)) :: .v (.one (.str b)) :: .any :: .any :: .any :: .v (.one (.int .u8 (X i))) :: .any :: .any :: .any :: .any :: .any :: .any :: .any :: .v (.one (.int .i64 a.size)) :: .v (.one (.int .i64 i)) :: .any :: .any :: .any :: .any :: .any :: .any :: .any :: .any :: .any :: .any :: .any :: .any :: .any :: .any :: []), []⟩ _ _
      refine run_K (P := fun K => run tab (fun _ => none) 0 _ ⟨_, _⟩ True K) ?_
      intro K hK
      conv => whnf
      refine ⟨trivial, fun hlt => ?_, fun hlt => ?_⟩
      · have hlt' : i < a.size := by simp at hlt; omega
        have e1 : isum .i64 (i : Int) 1 = ((i + 1 : Nat) : Int) := by rw [isum, i64_in] <;> omega
        conv => whnf
        rw [e1]
        subst hK
        change _ ∧ _
        refine ⟨?_, ⟨i + 1, by omega⟩, by show a.size - (i + 1) < a.size - i; omega, [], [], rfl, ?_, ?_⟩
        · repeat' apply And.intro
          all_goals first
            | exact True.intro
            | omega
            | decide +kernel
            | rfl
            | exact Nat.le_of_ble_eq_true rfl
            | (dsimp only; omega)
            | trace_state
        · repeat' apply And.intro
          all_goals first
            | exact True.intro
            | rfl
            | (simp only [hXs, Int.toNat_natCast]; done)
            | (simp only [hXs, Int.toNat_natCast]; exact ⟨rfl, rfl⟩)
            | trace_state
        · exact trivial
      · have hlt' : i = a.size := by simp at hlt; omega
        subst hlt'
        have hqx : q = (X a.size == 0) := by rw [XE, Bool.eq_iff_iff]; simp
        conv => whnf
        subst hK
        conv => whnf
        refine ⟨?_, rfl, [], [], rfl, ⟨hqx.symm, trivial⟩, trivial⟩
        repeat' apply And.intro
        all_goals first
          | exact True.intro
          | omega
          | decide +kernel
          | rfl
          | exact Nat.le_of_ble_eq_true rfl
          | (dsimp only; omega)
          | trace_state
  · cases hr
end Go.Proofs.Ytjbagkimpmpfgaa

/- Aead: marks, walked. -/
namespace Go.Proofs.Ytjbagkimpmpfgaa
open Go Go.Mx
set_option maxRecDepth 100000
set_option maxHeartbeats 4000000

/-- What is marked: what is beside, what is under, filled up, and their lengths. -/
def authL (u b : ByteArray) : List Int := bl b ++ (List.replicate (padN b.size) 0 ++ (bl u ++ (List.replicate (padN u.size) 0 ++ (digs b.size 8 ++ digs u.size 8))))
/-- The mark of a text under the stream, with what is beside. -/
def markL (k n : List Int) (u b : ByteArray) : List Int := refT ((blockI k 0 n).take 32) (authL u b)
theorem markL_len (k n : List Int) (u b : ByteArray) : (markL k n u b).length = 16 := digs_len _ _
theorem markL_in (k n : List Int) (u b : ByteArray) : inR (markL k n u b) 255 := digs_in _ _
theorem lays_all (l : List Int) : allB (lays l) := allB_of fun x hx => by
  simp only [lays, List.mem_flatMap] at hx
  obtain ⟨y, _, hy⟩ := hx
  exact of_allB (four_B y) x hy
theorem blockI_all (k : List Int) (c : Int) (n : List Int) : allB (blockI k c n) := lays_all _
theorem blk32 (k n : List Int) : ((blockI k 0 n).take 32).length = 32 ∧ inR ((blockI k 0 n).take 32) 255 := ⟨by rw [List.length_take, blockI_len]; rfl, inR_take (inR_all (blockI_all k 0 n)) 32⟩
theorem bl_app (a b : ByteArray) : bl (a ++ b) = bl a ++ bl b := by
  unfold bl
  rw [ByteArray.data_append, Array.toList_append, List.map_append]
theorem bl_pad (k : Nat) : bl (padB k) = List.replicate (padN k) 0 := bl_ofL (allB_in (inR_zeros _ (by decide)))
theorem pad_size (k : Nat) : (padB k).size < 16 := by rw [padB, ofL_size, List.length_replicate]; unfold padN; omega
theorem eight_size (n : Int) : (eightB n).size = 8 := by rw [eightB, ofL_size, digs_len]
theorem auth_flat (u b : ByteArray) : flat [b, padB b.size, u, padB u.size, eightB b.size, eightB u.size] = authL u b := by
  simp only [flat, List.flatMap_cons, List.flatMap_nil, List.append_nil, bl_pad, bl_eight]
  rfl
theorem auth_bl (u b : ByteArray) : bl (b ++ padB b.size ++ (u ++ padB u.size) ++ eightB b.size ++ eightB u.size) = authL u b := by
  simp only [bl_app, bl_pad, bl_eight, List.append_assoc]
  rfl
def env119 : Env := fun f => match f with
  | 32 => some c32
  | 33 => some c33
  | 59 => some c59
  | 60 => some c60
  | 117 => some c117
  | 118 => some c118
  | 143 => some c143
  | 144 => some c144
  | _ => none
theorem env119_ok : EnvOk Try.prog env119 := by
  intro f c h
  unfold env119 at h
  split at h
  · simp only [Option.some.injEq] at h; subst h; exact m32
  · simp only [Option.some.injEq] at h; subst h; exact m33
  · simp only [Option.some.injEq] at h; subst h; exact m59
  · simp only [Option.some.injEq] at h; subst h; exact m60
  · simp only [Option.some.injEq] at h; subst h; exact m117
  · simp only [Option.some.injEq] at h; subst h; exact m118
  · simp only [Option.some.injEq] at h; subst h; exact m143
  · simp only [Option.some.injEq] at h; subst h; exact m144
  · cases h
def c119 : Ctr := fun args objs => match args, objs with
  | [.agg [.ints .u8 k 32], .agg [.ints .u8 n 12], .one (.str u), .one (.str b)], [] => some ⟨[allB k, k.length = 32, allB n, n.length = 12, u.size ≤ 1152921504606846976, b.size ≤ 1152921504606846976], .v (.one (.str (ofL (markL k n u b)))), [], []⟩
  | _, _ => none
theorem m119 : Meets Try.prog 119 c119 := by
  refine meets_of_run2 tab_ok env119_ok mixed [.tmp 8] Try.func119 rfl Try.ntmps119 Try.call119 (fun t w => by simp [results, Try.results119, resS, rv1]) ?_
  intro args objs r hr hcs
  unfold c119 at hr
  split at hr
  · rename_i k n u b
    simp only [Option.some.injEq] at hr; subst hr
    obtain ⟨h1, h2, h3, h4, h5, h6, _⟩ := hcs
    refine ⟨rfl, ?_⟩
    conv => whnf
    have e1 : conv .u64 (b.size : Int) = b.size := cnv64 (by omega) (by omega)
    have e2 : conv .u64 (u.size : Int) = u.size := cnv64 (by omega) (by omega)
    rw [e1, e2]
    obtain ⟨f1, f2⟩ : (List.take (31 + 1) (blockI k 0 n)).length = 32 ∧ inR (List.take (31 + 1) (blockI k 0 n)) 255 := blk32 k n
    have f3 : isW 0 := ⟨by decide, by decide⟩
    have he : flat (List.take 6 (List.drop 0 (((((((List.replicate 6 nB).set (0 * 1) b).set (1 * 1) (padB b.size)).set (2 * 1) u).set (3 * 1) (padB u.size)).set (4 * 1) (eightB b.size)).set (5 * 1) (eightB u.size)))) = authL u b := auth_flat u b
    have hfin : ofL (List.take 16 (List.drop 0 (refT (List.take 32 (blockI k 0 n)) (flat (List.take 6 (List.drop 0 (((((((List.replicate 6 nB).set (0 * 1) b).set (1 * 1) (padB b.size)).set (2 * 1) u).set (3 * 1) (padB u.size)).set (4 * 1) (eightB b.size)).set (5 * 1) (eightB u.size)))))))) = ofL (markL k n u b) := by
      rw [he, List.drop_zero, List.take_of_length_le (by rw [refT, digs_len]; exact Nat.le_refl _)]
      rfl
    refine ⟨?_, rfl, [], [], rfl, ⟨hfin, trivial⟩, trivial⟩
    · repeat' apply And.intro
      all_goals first
        | exact True.intro
        | with_reducible assumption
        | omega
        | decide +kernel
        | rfl
        | trace_state
  · cases hr
def c121 : Ctr := fun args objs => match args, objs with
  | [.agg [.ints .u8 k 32], .agg [.ints .u8 n 12], .one (.str u), .one (.str b)], [] => some ⟨[allB k, k.length = 32, allB n, n.length = 12, u.size ≤ 1152921504606846976, b.size ≤ 1152921504606846976], .v (.one (.str (ofL (markL k n u b)))), [], []⟩
  | _, _ => none
theorem m121 : Meets Try.prog 121 c121 := by
  refine meets_of_run2 tab_ok env119_ok mixed [.tmp 8] Try.func121 rfl Try.ntmps121 Try.call121 (fun t w => by simp [results, Try.results121, resS, rv1]) ?_
  intro args objs r hr hcs
  unfold c121 at hr
  split at hr
  · rename_i k n u b
    simp only [Option.some.injEq] at hr; subst hr
    obtain ⟨h1, h2, h3, h4, h5, h6, _⟩ := hcs
    refine ⟨rfl, ?_⟩
    conv => whnf
    have e1 : conv .u64 (b.size : Int) = b.size := cnv64 (by omega) (by omega)
    have e2 : conv .u64 (u.size : Int) = u.size := cnv64 (by omega) (by omega)
    rw [e1, e2]
    have hB : splI (List.replicate 32 0) 0 (List.take (min 32 32) (List.take 32 (List.drop 0 (blockI k 0 n)))) = List.take 32 (blockI k 0 n) := by
      obtain ⟨f1, _⟩ := blk32 k n
      obtain ⟨X, hX⟩ : ∃ X, X = List.take 32 (blockI k 0 n) := ⟨_, rfl⟩
      rw [List.drop_zero, ← hX, Nat.min_self]
      rw [← hX] at f1
      rw [List.take_of_length_le (by omega)]
      unfold splI
      rw [f1, List.take_zero, List.nil_append, Nat.zero_add, show List.drop 32 (List.replicate 32 (0 : Int)) = [] from rfl, List.append_nil]
    obtain ⟨g1, g2⟩ := blk32 k n
    have f3 : isW 0 := ⟨by decide, by decide⟩
    have hBi : inR (splI (List.replicate 32 0) 0 (List.take (min 32 32) (List.take 32 (List.drop 0 (blockI k 0 n))))) 255 := hB ▸ g2
    have hBl : (splI (List.replicate 32 0) 0 (List.take (min 32 32) (List.take 32 (List.drop 0 (blockI k 0 n))))).length = 32 := hB ▸ g1
    have z1 := pad_size b.size
    have z2 := pad_size u.size
    have hfin : ofL (List.take 16 (List.drop 0 (refT (splI (List.replicate 32 0) 0 (List.take (min 32 32) (List.take 32 (List.drop 0 (blockI k 0 n))))) (bl (b ++ padB b.size ++ (u ++ padB u.size) ++ eightB b.size ++ eightB u.size))))) = ofL (markL k n u b) := by
      rw [hB, auth_bl, List.drop_zero, List.take_of_length_le (by rw [refT, digs_len]; exact Nat.le_refl _)]
      rfl
    refine ⟨?_, rfl, [], [], rfl, ⟨hfin, trivial⟩, trivial⟩
    · repeat' apply And.intro
      all_goals first
        | exact True.intro
        | with_reducible assumption
        | omega
        | (simp only [ByteArray.size_append, eight_size]; omega)
        | decide +kernel
        | exact hBi
        | exact hBl
        | rfl
        | trace_state
  · cases hr
/-- A text sealed. -/
def sealB (k n : List Int) (t b : ByteArray) : ByteArray := ofL (streamI k 1 n (bl t)) ++ ofL (markL k n (ofL (streamI k 1 n (bl t))) b)
theorem stream_size (k : List Int) (c : Int) (n : List Int) (t : ByteArray) : (ofL (streamI k c n (bl t))).size = t.size := by rw [ofL_size, streamI_len, blP_length]
theorem mark_size (k n : List Int) (u b : ByteArray) : (ofL (markL k n u b)).size = 16 := by rw [ofL_size, markL_len]
theorem seal_size (k n : List Int) (t b : ByteArray) : (sealB k n t b).size = t.size + 16 := by rw [sealB, ByteArray.size_append, stream_size, mark_size]
/-- Does a box open? -/
def opensB (k n : List Int) (box b : ByteArray) : Bool := decide (16 ≤ box.size) && decide (box.extract (box.size - 16) box.size = ofL (markL k n (box.extract 0 (box.size - 16)) b))
def openT (k n : List Int) (box b : ByteArray) : ByteArray := if opensB k n box b then ofL (streamI k 1 n (bl (box.extract 0 (box.size - 16)))) else ⟨#[]⟩
def openE (k n : List Int) (box b : ByteArray) : Int := if opensB k n box b then 0 else 13
def env70 : Env := fun f => match f with
  | 32 => some c32
  | 33 => some c33
  | 36 => some c36
  | 37 => some c37
  | 67 => some c67
  | 119 => some c119
  | 121 => some c121
  | _ => none
theorem env70_ok : EnvOk Try.prog env70 := by
  intro f c h
  unfold env70 at h
  split at h
  · simp only [Option.some.injEq] at h; subst h; exact m32
  · simp only [Option.some.injEq] at h; subst h; exact m33
  · simp only [Option.some.injEq] at h; subst h; exact m36
  · simp only [Option.some.injEq] at h; subst h; exact m37
  · simp only [Option.some.injEq] at h; subst h; exact m67
  · simp only [Option.some.injEq] at h; subst h; exact m119
  · simp only [Option.some.injEq] at h; subst h; exact m121
  · cases h
def c70 : Ctr := fun args objs => match args, objs with
  | [.agg [.ints .u8 k 32], .agg [.ints .u8 n 12], .one (.str t), .one (.str b)], [] => some ⟨[allB k, k.length = 32, allB n, n.length = 12, t.size ≤ 1152921504606846976, b.size ≤ 1152921504606846976], .v (.one (.str (sealB k n t b))), [], []⟩
  | _, _ => none
theorem m70 : Meets Try.prog 70 c70 := by
  refine meets_of_run2 tab_ok env70_ok mixed [.tmp 8] Try.func70 rfl Try.ntmps70 Try.call70 (fun t w => by simp [results, Try.results70, resS, rv1]) ?_
  intro args objs r hr hcs
  unfold c70 at hr
  split at hr
  · rename_i k n t b
    simp only [Option.some.injEq] at hr; subst hr
    obtain ⟨h1, h2, h3, h4, h5, h6, _⟩ := hcs
    refine ⟨rfl, ?_⟩
    conv => whnf
    have f3 : isW 1 := ⟨by decide, by decide⟩
    have z1 := stream_size k 1 n t
    have z2 := mark_size k n (ofL (streamI k 1 n (bl t))) b
    refine ⟨?_, rfl, [], [], rfl, ⟨rfl, trivial⟩, trivial⟩
    ·
      repeat' apply And.intro
      all_goals first
        | exact True.intro
        | with_reducible assumption
        | omega
        | decide +kernel
        | rfl
        | trace_state
  · cases hr
def c77 : Ctr := fun args objs => match args, objs with
  | [.agg [.ints .u8 k 32], .agg [.ints .u8 n 12], .one (.str t), .one (.str b)], [] => some ⟨[allB k, k.length = 32, allB n, n.length = 12, t.size ≤ 1152921504606846976, b.size ≤ 1152921504606846976], .v (.one (.str (sealB k n t b))), [], []⟩
  | _, _ => none
theorem m77 : Meets Try.prog 77 c77 := by
  refine meets_of_run2 tab_ok env70_ok mixed [.tmp 8] Try.func77 rfl Try.ntmps77 Try.call77 (fun t w => by simp [results, Try.results77, resS, rv1]) ?_
  intro args objs r hr hcs
  unfold c77 at hr
  split at hr
  · rename_i k n t b
    simp only [Option.some.injEq] at hr; subst hr
    obtain ⟨h1, h2, h3, h4, h5, h6, _⟩ := hcs
    refine ⟨rfl, ?_⟩
    conv => whnf
    have f3 : isW 1 := ⟨by decide, by decide⟩
    have z1 := stream_size k 1 n t
    have z2 := mark_size k n (ofL (streamI k 1 n (bl t))) b
    refine ⟨?_, rfl, [], [], rfl, ⟨rfl, trivial⟩, trivial⟩
    ·
      repeat' apply And.intro
      all_goals first
        | exact True.intro
        | with_reducible assumption
        | omega
        | decide +kernel
        | rfl
        | trace_state
  · cases hr
def c72 : Ctr := fun args objs => match args, objs with
  | [.agg [.ints .u8 k 32], .agg [.ints .u8 n 12], .one (.str box), .one (.str b)], [] => some ⟨[allB k, k.length = 32, allB n, n.length = 12, box.size ≤ 1152921504606846976, b.size ≤ 1152921504606846976], .tup [.one (.str (openT k n box b)), .one (.int .i64 (openE k n box b))], [], []⟩
  | _, _ => none
theorem m72 : Meets Try.prog 72 c72 := by
  refine meets_of_run tab_ok env70_ok mixed [8, 9] Try.func72 rfl Try.ntmps72 Try.call72 (fun t w => by simp [results, Try.results72, resV]) ?_
  intro args objs r hr hcs
  unfold c72 at hr
  split at hr
  · rename_i k n box b
    simp only [Option.some.injEq] at hr; subst hr
    obtain ⟨h1, h2, h3, h4, h5, h6, _⟩ := hcs
    refine ⟨rfl, ?_⟩
    conv => whnf
    have f3 : isW 1 := ⟨by decide, by decide⟩
    have e0 : idif .i64 (box.size : Int) 16 = (box.size : Int) - 16 := by rw [idif, i64_in]; omega
    obtain ⟨T, hT⟩ : ∃ T, T = openT k n box b := ⟨_, rfl⟩
    obtain ⟨E, hE⟩ : ∃ E, E = openE k n box b := ⟨_, rfl⟩
    rw [e0, ← hT, ← hE]
    unfold openT opensB at hT
    unfold openE opensB at hE
    refine ⟨trivial, fun hg => ?_, fun hg => ?_⟩
    · have hs : ¬ 16 ≤ box.size := by simp at hg; omega
      rw [decide_eq_false hs, Bool.false_and, if_neg (by simp)] at hT hE
      subst hT hE
      conv => whnf
      refine ⟨?_, rfl, [], [], rfl, ⟨⟨rfl, ⟨rfl, rfl⟩, trivial⟩, trivial⟩, trivial⟩
      repeat' apply And.intro
      all_goals first
        | exact True.intro
        | omega
        | decide +kernel
        | rfl
        | exact Nat.le_of_ble_eq_true rfl
        | (dsimp only; omega)
        | trace_state
    · have hs : 16 ≤ box.size := by simp at hg; omega
      rw [decide_eq_true hs, Bool.true_and] at hT hE
      have e1 : ((box.size : Int) - 16).toNat = box.size - 16 := by omega
      obtain ⟨q, hq⟩ : ∃ q, q = decide (box.extract (box.size - 16) box.size = ofL (markL k n (box.extract 0 (box.size - 16)) b)) := ⟨_, rfl⟩
      have z1 : (box.extract 0 (box.size - 16)).size ≤ box.size := by rw [ByteArray.size_extract]; omega
      have z4 : (box.extract (Int.toNat 0) (box.size - 16)).size ≤ box.size := z1
      have z2 : (box.extract (box.size - 16) box.size).size ≤ box.size := by rw [ByteArray.size_extract]; omega
      have z3 := mark_size k n (box.extract 0 (box.size - 16)) b
      rw [← hq] at hT hE
      conv => whnf
      rw [e1]
      simp only [Int.toNat_natCast, show Int.toNat 0 = 0 from rfl]
      rw [← hq]
      refine ⟨?_, fun hg2 => ?_, fun hg2 => ?_⟩
      ·
        repeat' apply And.intro
        all_goals first
          | exact True.intro
          | with_reducible assumption
          | omega
          | decide +kernel
          | rfl
          | trace_state
      · have hq0 : q = false := by simpa using hg2
        subst hq0
        rw [if_neg (by simp)] at hT hE
        subst hT hE
        conv => whnf
        refine ⟨?_, rfl, [], [], rfl, ⟨⟨rfl, ⟨rfl, rfl⟩, trivial⟩, trivial⟩, trivial⟩
        repeat' apply And.intro
        all_goals first
          | exact True.intro
          | omega
          | decide +kernel
          | rfl
          | exact Nat.le_of_ble_eq_true rfl
          | (dsimp only; omega)
          | trace_state
      · have hq0 : q = true := by simpa using hg2
        subst hq0
        rw [if_pos rfl] at hT hE
        subst hT hE
        conv => whnf
        rw [e1]
        refine ⟨?_, rfl, [], [], rfl, ⟨⟨rfl, ⟨rfl, rfl⟩, trivial⟩, trivial⟩, trivial⟩
        ·
          repeat' apply And.intro
          all_goals first
            | exact True.intro
            | with_reducible assumption
            | omega
            | decide +kernel
            | rfl
            | trace_state
  · cases hr
end Go.Proofs.Ytjbagkimpmpfgaa

/- Aead: the document's opening; wide boxes, walked. -/
namespace Go.Proofs.Ytjbagkimpmpfgaa
open Go Go.Mx
set_option maxRecDepth 100000
set_option maxHeartbeats 4000000

def c74 : Ctr := fun args objs => match args, objs with
  | [.agg [.ints .u8 k 32], .agg [.ints .u8 n 12], .one (.str box), .one (.str b)], [] => some ⟨[allB k, k.length = 32, allB n, n.length = 12, box.size ≤ 1152921504606846976, b.size ≤ 1152921504606846976], .tup [.one (.str (openT k n box b)), .one (.int .i64 (openE k n box b))], [], []⟩
  | _, _ => none
theorem m74 : Meets Try.prog 74 c74 := by
  refine meets_of_run tab_ok env70_ok mixed [8, 9] Try.func74 rfl Try.ntmps74 Try.call74 (fun t w => by simp [results, Try.results74, resV]) ?_
  intro args objs r hr hcs
  unfold c74 at hr
  split at hr
  · rename_i k n box b
    simp only [Option.some.injEq] at hr; subst hr
    obtain ⟨h1, h2, h3, h4, h5, h6, _⟩ := hcs
    refine ⟨rfl, ?_⟩
    conv => whnf
    have f3 : isW 1 := ⟨by decide, by decide⟩
    have e0 : idif .i64 (box.size : Int) 16 = (box.size : Int) - 16 := by rw [idif, i64_in]; omega
    obtain ⟨T, hT⟩ : ∃ T, T = openT k n box b := ⟨_, rfl⟩
    obtain ⟨E, hE⟩ : ∃ E, E = openE k n box b := ⟨_, rfl⟩
    rw [e0, ← hT, ← hE]
    unfold openT opensB at hT
    unfold openE opensB at hE
    refine ⟨trivial, fun hg => ?_, fun hg => ?_⟩
    · have hs : ¬ 16 ≤ box.size := by simp at hg; omega
      rw [decide_eq_false hs, Bool.false_and, if_neg (by simp)] at hT hE
      subst hT hE
      conv => whnf
      refine ⟨?_, rfl, [], [], rfl, ⟨⟨rfl, ⟨rfl, rfl⟩, trivial⟩, trivial⟩, trivial⟩
      repeat' apply And.intro
      all_goals first
        | exact True.intro
        | omega
        | decide +kernel
        | rfl
        | exact Nat.le_of_ble_eq_true rfl
        | (dsimp only; omega)
        | trace_state
    · have hs : 16 ≤ box.size := by simp at hg; omega
      rw [decide_eq_true hs, Bool.true_and] at hT hE
      have e1 : ((box.size : Int) - 16).toNat = box.size - 16 := by omega
      obtain ⟨q, hq⟩ : ∃ q, q = decide (box.extract (box.size - 16) box.size = ofL (markL k n (box.extract 0 (box.size - 16)) b)) := ⟨_, rfl⟩
      have z1 : (box.extract 0 (box.size - 16)).size ≤ box.size := by rw [ByteArray.size_extract]; omega
      have z4 : (box.extract (Int.toNat 0) (box.size - 16)).size ≤ box.size := z1
      have z2 : (box.extract (box.size - 16) box.size).size ≤ box.size := by rw [ByteArray.size_extract]; omega
      have z3 := mark_size k n (box.extract 0 (box.size - 16)) b
      rw [← hq] at hT hE
      conv => whnf
      rw [e1, str_beq]
      simp only [Int.toNat_natCast, show Int.toNat 0 = 0 from rfl]
      rw [← hq]
      refine ⟨?_, fun hg2 => ?_, fun hg2 => ?_⟩
      ·
        repeat' apply And.intro
        all_goals first
          | exact True.intro
          | with_reducible assumption
          | omega
          | decide +kernel
          | rfl
          | trace_state
      · have hq0 : q = false := by simpa using hg2
        subst hq0
        rw [if_neg (by simp)] at hT hE
        subst hT hE
        conv => whnf
        refine ⟨?_, rfl, [], [], rfl, ⟨⟨rfl, ⟨rfl, rfl⟩, trivial⟩, trivial⟩, trivial⟩
        repeat' apply And.intro
        all_goals first
          | exact True.intro
          | omega
          | decide +kernel
          | rfl
          | exact Nat.le_of_ble_eq_true rfl
          | (dsimp only; omega)
          | trace_state
      · have hq0 : q = true := by simpa using hg2
        subst hq0
        rw [if_pos rfl] at hT hE
        subst hT hE
        conv => whnf
        rw [e1]
        refine ⟨?_, rfl, [], [], rfl, ⟨⟨rfl, ⟨rfl, rfl⟩, trivial⟩, trivial⟩, trivial⟩
        ·
          repeat' apply And.intro
          all_goals first
            | exact True.intro
            | with_reducible assumption
            | omega
            | decide +kernel
            | rfl
            | trace_state
  · cases hr
/-- The nonce and the key of a wide box. -/
def narN (w : List Int) : List Int := List.replicate 4 0 ++ w.drop 16
def narK (k w : List Int) : List Int := deriveI k (w.take 16)
theorem narN_eq {w : List Int} (h : w.length = 24) : splI (List.replicate 12 0) 4 (List.take (min (24 - 16) (12 - 4)) (List.take (24 - 16) (List.drop 16 w))) = narN w := by
  have hd : (w.drop 16).length = 8 := by rw [List.length_drop]; omega
  rw [show min (24 - 16) (12 - 4) = 8 from rfl, List.take_take, List.take_of_length_le (by omega)]
  unfold splI narN
  rw [hd]
  show List.take 4 (List.replicate 12 0) ++ w.drop 16 ++ List.drop 12 (List.replicate 12 0) = _
  rw [show List.drop 12 (List.replicate 12 (0 : Int)) = [] from rfl, List.append_nil]
  rfl
theorem narN_is {w : List Int} (hl : w.length = 24) (h : allB w) : (narN w).length = 12 ∧ allB (narN w) := by
  refine ⟨by rw [narN, List.length_append, List.length_drop, hl]; rfl, allB_in ?_⟩
  exact inR_app (inR_zeros 4 (by decide)) (inR_drop (inR_all h) 16)
theorem cut16 {w : List Int} (h : w.length = 24) : splI (List.replicate 16 0) 0 (List.take (min (16 - 0) (16 - 0)) (List.take (16 - 0) (List.drop 0 w))) = w.take 16 := by
  have hd : (w.take 16).length = 16 := by rw [List.length_take]; omega
  rw [List.drop_zero, Nat.sub_zero, Nat.min_self, List.take_take, Nat.min_self]
  unfold splI
  rw [hd, List.take_zero, List.nil_append, Nat.zero_add, show List.drop 16 (List.replicate 16 (0 : Int)) = [] from rfl, List.append_nil]
def env120 : Env := fun f => match f with
  | 34 => some c34
  | 35 => some c35
  | _ => none
theorem env120_ok : EnvOk Try.prog env120 := by
  intro f c h
  unfold env120 at h
  split at h
  · simp only [Option.some.injEq] at h; subst h; exact m34
  · simp only [Option.some.injEq] at h; subst h; exact m35
  · cases h
def c120 : Ctr := fun args objs => match args, objs with
  | [.agg [.ints .u8 k 32], .agg [.ints .u8 w 24]], [] => some ⟨[allB k, k.length = 32, allB w, w.length = 24], .tup [.agg [.ints .u8 (narK k w) 32], .agg [.ints .u8 (narN w) 12]], [], []⟩
  | _, _ => none
theorem m120 : Meets Try.prog 120 c120 := by
  refine meets_of_run2 tab_ok env120_ok mixed [.cell 4 30, .cell 5 31] Try.func120 rfl Try.ntmps120 Try.call120 (fun t w => by simp [results, Try.results120, resS, rv1, rvs]) ?_
  intro args objs r hr hcs
  unfold c120 at hr
  split at hr
  · rename_i k w
    simp only [Option.some.injEq] at hr; subst hr
    obtain ⟨h1, h2, h3, h4, _⟩ := hcs
    refine ⟨rfl, ?_⟩
    conv => whnf
    have f1 : (List.take (15 + 1) w).length = 16 := by rw [List.length_take]; omega
    have f2 : allB (List.take (15 + 1) w) := allB_in (inR_take (inR_all h3) 16)
    refine ⟨?_, rfl, [], [], rfl, ⟨⟨⟨rfl, rfl, rfl, trivial⟩, ⟨rfl, narN_eq h4, rfl, trivial⟩, trivial⟩, trivial⟩, trivial⟩
    ·
      repeat' apply And.intro
      all_goals first
        | exact True.intro
        | with_reducible assumption
        | omega
        | decide +kernel
        | rfl
        | trace_state
  · cases hr
def c122 : Ctr := fun args objs => match args, objs with
  | [.agg [.ints .u8 k 32], .agg [.ints .u8 w 24]], [] => some ⟨[allB k, k.length = 32, allB w, w.length = 24], .tup [.agg [.ints .u8 (narK k w) 32], .agg [.ints .u8 (narN w) 12]], [], []⟩
  | _, _ => none
theorem m122 : Meets Try.prog 122 c122 := by
  refine meets_of_run2 tab_ok env120_ok mixed [.cell 4 30, .cell 5 31] Try.func122 rfl Try.ntmps122 Try.call122 (fun t w => by simp [results, Try.results122, resS, rv1, rvs]) ?_
  intro args objs r hr hcs
  unfold c122 at hr
  split at hr
  · rename_i k w
    simp only [Option.some.injEq] at hr; subst hr
    obtain ⟨h1, h2, h3, h4, _⟩ := hcs
    refine ⟨rfl, ?_⟩
    conv => whnf
    have hc := cut16 h4
    have f1 : (splI (List.replicate 16 0) 0 (List.take (min (16 - 0) (16 - 0)) (List.take (16 - 0) (List.drop 0 w)))).length = 16 := by rw [hc, List.length_take]; omega
    have f2 : allB (splI (List.replicate 16 0) 0 (List.take (min (16 - 0) (16 - 0)) (List.take (16 - 0) (List.drop 0 w)))) := by rw [hc]; exact allB_in (inR_take (inR_all h3) 16)
    refine ⟨?_, rfl, [], [], rfl, ⟨⟨⟨rfl, congrArg (deriveI k) hc, rfl, trivial⟩, ⟨rfl, narN_eq h4, rfl, trivial⟩, trivial⟩, trivial⟩, trivial⟩
    · repeat' apply And.intro
      all_goals first
        | exact True.intro
        | with_reducible assumption
        | omega
        | decide +kernel
        | exact f1
        | exact f2
        | rfl
        | trace_state
  · cases hr
end Go.Proofs.Ytjbagkimpmpfgaa

/- Aead: wide boxes; the example, walked. -/
namespace Go.Proofs.Ytjbagkimpmpfgaa
open Go Go.Mx
set_option maxRecDepth 100000
set_option maxHeartbeats 4000000

theorem putI_B {o l : List Int} {lo lo2 i : Nat} (h : inR o 255) : inR (putI o lo l lo2 i) 255 := by
  unfold putI
  exact inR_app (inR_app (inR_take h _) (inR_all (lays_all _))) (inR_drop h _)
theorem narK_is {k w : List Int} (h1 : allB k) (h2 : k.length = 32) (h3 : allB w) (h4 : w.length = 24) : (narK k w).length = 32 ∧ allB (narK k w) := by
  unfold narK deriveI
  obtain ⟨T, hT⟩ : ∃ T, T = iter dbl 10 (squareI k (fourW (w.take 16))) := ⟨_, rfl⟩
  have hTl : T.length = 16 := by rw [hT, iter_len]; exact squareI_len rfl
  rw [← hT]
  have hz : (List.replicate 32 (0 : Int)).length = 32 := by simp
  have hP : (putI (List.replicate 32 0) 0 T 0 4).length = 32 := by rw [putI_len (by omega) (by omega), hz]
  refine ⟨by rw [putI_len (by omega) (by omega), hP], allB_in (putI_B (putI_B (inR_zeros 32 (by decide))))⟩
def env76 : Env := fun f => match f with
  | 70 => some c70
  | 72 => some c72
  | 74 => some c74
  | 77 => some c77
  | 120 => some c120
  | 122 => some c122
  | _ => none
theorem env76_ok : EnvOk Try.prog env76 := by
  intro f c h
  unfold env76 at h
  split at h
  · simp only [Option.some.injEq] at h; subst h; exact m70
  · simp only [Option.some.injEq] at h; subst h; exact m72
  · simp only [Option.some.injEq] at h; subst h; exact m74
  · simp only [Option.some.injEq] at h; subst h; exact m77
  · simp only [Option.some.injEq] at h; subst h; exact m120
  · simp only [Option.some.injEq] at h; subst h; exact m122
  · cases h
def c76 : Ctr := fun args objs => match args, objs with
  | [.agg [.ints .u8 k 32], .agg [.ints .u8 w 24], .one (.str t), .one (.str b)], [] => some ⟨[allB k, k.length = 32, allB w, w.length = 24, t.size ≤ 1152921504606846976, b.size ≤ 1152921504606846976], .v (.one (.str (sealB (narK k w) (narN w) t b))), [], []⟩
  | _, _ => none
theorem m76 : Meets Try.prog 76 c76 := by
  refine meets_of_run2 tab_ok env76_ok mixed [.tmp 8] Try.func76 rfl Try.ntmps76 Try.call76 (fun t w => by simp [results, Try.results76, resS, rv1]) ?_
  intro args objs r hr hcs
  unfold c76 at hr
  split at hr
  · rename_i k w t b
    simp only [Option.some.injEq] at hr; subst hr
    obtain ⟨h1, h2, h3, h4, h5, h6, _⟩ := hcs
    refine ⟨rfl, ?_⟩
    conv => whnf
    obtain ⟨f1, f2⟩ := narK_is h1 h2 h3 h4
    obtain ⟨f3, f4⟩ := narN_is h4 h3
    refine ⟨?_, rfl, [], [], rfl, ⟨rfl, trivial⟩, trivial⟩
    ·
      repeat' apply And.intro
      all_goals first
        | exact True.intro
        | with_reducible assumption
        | omega
        | decide +kernel
        | rfl
        | trace_state
  · cases hr
def c78 : Ctr := fun args objs => match args, objs with
  | [.agg [.ints .u8 k 32], .agg [.ints .u8 w 24], .one (.str t), .one (.str b)], [] => some ⟨[allB k, k.length = 32, allB w, w.length = 24, t.size ≤ 1152921504606846976, b.size ≤ 1152921504606846976], .v (.one (.str (sealB (narK k w) (narN w) t b))), [], []⟩
  | _, _ => none
theorem m78 : Meets Try.prog 78 c78 := by
  refine meets_of_run2 tab_ok env76_ok mixed [.tmp 8] Try.func78 rfl Try.ntmps78 Try.call78 (fun t w => by simp [results, Try.results78, resS, rv1]) ?_
  intro args objs r hr hcs
  unfold c78 at hr
  split at hr
  · rename_i k w t b
    simp only [Option.some.injEq] at hr; subst hr
    obtain ⟨h1, h2, h3, h4, h5, h6, _⟩ := hcs
    refine ⟨rfl, ?_⟩
    conv => whnf
    obtain ⟨f1, f2⟩ := narK_is h1 h2 h3 h4
    obtain ⟨f3, f4⟩ := narN_is h4 h3
    refine ⟨?_, rfl, [], [], rfl, ⟨rfl, trivial⟩, trivial⟩
    ·
      repeat' apply And.intro
      all_goals first
        | exact True.intro
        | with_reducible assumption
        | omega
        | decide +kernel
        | rfl
        | trace_state
  · cases hr
def c73 : Ctr := fun args objs => match args, objs with
  | [.agg [.ints .u8 k 32], .agg [.ints .u8 w 24], .one (.str t), .one (.str b)], [] => some ⟨[allB k, k.length = 32, allB w, w.length = 24, t.size ≤ 1152921504606846976, b.size ≤ 1152921504606846976], .tup [.one (.str (openT (narK k w) (narN w) t b)), .one (.int .i64 (openE (narK k w) (narN w) t b))], [], []⟩
  | _, _ => none
theorem m73 : Meets Try.prog 73 c73 := by
  refine meets_of_run tab_ok env76_ok mixed [8, 9] Try.func73 rfl Try.ntmps73 Try.call73 (fun t w => by simp [results, Try.results73, resV]) ?_
  intro args objs r hr hcs
  unfold c73 at hr
  split at hr
  · rename_i k w t b
    simp only [Option.some.injEq] at hr; subst hr
    obtain ⟨h1, h2, h3, h4, h5, h6, _⟩ := hcs
    refine ⟨rfl, ?_⟩
    conv => whnf
    obtain ⟨f1, f2⟩ := narK_is h1 h2 h3 h4
    obtain ⟨f3, f4⟩ := narN_is h4 h3
    refine ⟨?_, rfl, [], [], rfl, ⟨⟨rfl, ⟨rfl, rfl⟩, trivial⟩, trivial⟩, trivial⟩
    ·
      repeat' apply And.intro
      all_goals first
        | exact True.intro
        | with_reducible assumption
        | omega
        | decide +kernel
        | rfl
        | trace_state
  · cases hr
def c75 : Ctr := fun args objs => match args, objs with
  | [.agg [.ints .u8 k 32], .agg [.ints .u8 w 24], .one (.str t), .one (.str b)], [] => some ⟨[allB k, k.length = 32, allB w, w.length = 24, t.size ≤ 1152921504606846976, b.size ≤ 1152921504606846976], .tup [.one (.str (openT (narK k w) (narN w) t b)), .one (.int .i64 (openE (narK k w) (narN w) t b))], [], []⟩
  | _, _ => none
theorem m75 : Meets Try.prog 75 c75 := by
  refine meets_of_run tab_ok env76_ok mixed [8, 9] Try.func75 rfl Try.ntmps75 Try.call75 (fun t w => by simp [results, Try.results75, resV]) ?_
  intro args objs r hr hcs
  unfold c75 at hr
  split at hr
  · rename_i k w t b
    simp only [Option.some.injEq] at hr; subst hr
    obtain ⟨h1, h2, h3, h4, h5, h6, _⟩ := hcs
    refine ⟨rfl, ?_⟩
    conv => whnf
    obtain ⟨f1, f2⟩ := narK_is h1 h2 h3 h4
    obtain ⟨f3, f4⟩ := narN_is h4 h3
    refine ⟨?_, rfl, [], [], rfl, ⟨⟨rfl, ⟨rfl, rfl⟩, trivial⟩, trivial⟩, trivial⟩
    ·
      repeat' apply And.intro
      all_goals first
        | exact True.intro
        | with_reducible assumption
        | omega
        | decide +kernel
        | rfl
        | trace_state
  · cases hr
def c69 : Ctr := fun args objs => match args, objs with
  | [], [] => some ⟨[], .v (.one (.bool true true)), [], []⟩
  | _, _ => none
def env69 : Env := fun f => match f with
  | 70 => some c70
  | _ => none
theorem env69_ok : EnvOk Try.prog env69 := by
  intro f c h
  unfold env69 at h
  split at h
  · simp only [Option.some.injEq] at h; subst h; exact m70
  · cases h
theorem seal_mark (k n : List Int) (t b : ByteArray) : (sealB k n t b).extract t.size (t.size + 16) = ofL (markL k n (ofL (streamI k 1 n (bl t))) b) := by
  have e1 : (bl (ofL (streamI k 1 n (bl t)))).length = t.size := by rw [blP_length, stream_size]
  have e2 : (bl (ofL (markL k n (ofL (streamI k 1 n (bl t))) b))).length = 16 := by rw [blP_length, mark_size]
  refine bl_inj ?_
  rw [blP_ext, sealB, bl_app]
  generalize bl (ofL (streamI k 1 n (bl t))) = X at *
  generalize bl (ofL (markL k n (ofL (streamI k 1 n (bl t))) b)) = Y at *
  rw [List.take_of_length_le (by rw [List.length_append]; omega), List.drop_append_of_le_length (by omega), List.drop_of_length_le (by omega), List.nil_append]
theorem seal_under (k n : List Int) (t b : ByteArray) : (sealB k n t b).extract 0 t.size = ofL (streamI k 1 n (bl t)) := by
  have e1 : (bl (ofL (streamI k 1 n (bl t)))).length = t.size := by rw [blP_length, stream_size]
  refine bl_inj ?_
  rw [blP_ext, sealB, bl_app, List.drop_zero]
  generalize bl (ofL (streamI k 1 n (bl t))) = X at *
  rw [List.take_append_of_le_length (by omega), List.take_of_length_le (by omega)]
def exT : ByteArray := ⟨#[76, 97, 100, 105, 101, 115, 32, 97, 110, 100, 32, 71, 101, 110, 116, 108, 101, 109, 101, 110, 32, 111, 102, 32, 116, 104, 101, 32, 99, 108, 97, 115, 115, 32, 111, 102, 32, 39, 57, 57, 58, 32, 73, 102, 32, 73, 32, 99, 111, 117, 108, 100, 32, 111, 102, 102, 101, 114, 32, 121, 111, 117, 32, 111, 110, 108, 121, 32, 111, 110, 101, 32, 116, 105, 112, 32, 102, 111, 114, 32, 116, 104, 101, 32, 102, 117, 116, 117, 114, 101, 44, 32, 115, 117, 110, 115, 99, 114, 101, 101, 110, 32, 119, 111, 117, 108, 100, 32, 98, 101, 32, 105, 116, 46]⟩
def exB : ByteArray := ⟨#[80, 81, 82, 83, 192, 193, 194, 195, 196, 197, 198, 199]⟩
def exM : ByteArray := ⟨#[26, 225, 11, 89, 79, 9, 226, 106, 126, 144, 46, 203, 208, 96, 6, 145]⟩
def exN : List Int := [7, 0, 0, 0, 64, 65, 66, 67, 68, 69, 70, 71]
theorem exT_size : exT.size = 114 := by decide +kernel
def exK (i : Nat) : List Int := (List.range i).map (fun j => ((128 + j : Nat) : Int)) ++ List.replicate (32 - i) 0
theorem exK_set (i : Nat) (h : i < 32) : (exK i).set i ((128 + i : Nat) : Int) = exK (i + 1) := by
  unfold exK
  rw [List.set_append_right _ _ (by simp), List.length_map, List.length_range, Nat.sub_self, show 32 - i = 32 - (i + 1) + 1 by omega, List.replicate_succ, List.set_cons_zero, List.range_succ, List.map_append, List.append_assoc]
  rfl
theorem exK_len (i : Nat) (h : i ≤ 32) : (exK i).length = 32 := by simp [exK]; omega
def exL0 : List Int := [123, 172, 43, 37, 45, 180, 71, 175, 9, 182, 122, 85, 164, 233, 85, 132, 10, 225, 214, 115, 16, 117, 217, 235, 42, 147, 117, 120, 62, 213, 83, 255, 162, 126, 204, 222, 173, 219, 77, 180, 209, 23, 156, 228, 201, 11, 67, 216, 188, 183, 148, 140, 75, 75, 125, 139, 125, 246, 39, 57, 50, 164, 105, 22]
def exL1 : List Int := [159, 123, 233, 93, 1, 253, 64, 186, 21, 226, 143, 251, 54, 129, 10, 174, 193, 192, 136, 63, 9, 1, 110, 222, 221, 138, 208, 135, 85, 130, 3, 165, 78, 158, 203, 56, 172, 142, 94, 43, 184, 218, 178, 15, 250, 219, 82, 232, 117, 4, 178, 110, 190, 105, 109, 79, 96, 164, 133, 207, 17, 184, 27, 89]
def exL2 : List Int := [252, 177, 196, 95, 66, 25, 238, 172, 236, 106, 222, 195, 78, 102, 105, 120, 142, 219, 65, 196, 156, 163, 1, 225, 39, 224, 172, 171, 59, 68, 185, 207, 92, 134, 187, 149, 224, 107, 13, 242, 144, 26, 182, 69, 228, 171, 230, 34, 21, 56, 12, 3, 206, 53, 108, 215, 166, 118, 99, 251, 221, 239, 255, 100]
def exU : List Int := [211, 26, 141, 52, 100, 142, 96, 219, 123, 134, 175, 188, 83, 239, 126, 194, 164, 173, 237, 81, 41, 110, 8, 254, 169, 226, 181, 167, 54, 238, 98, 214, 61, 190, 164, 94, 140, 169, 103, 18, 130, 250, 251, 105, 218, 146, 114, 139, 26, 113, 222, 10, 158, 6, 11, 41, 5, 214, 165, 182, 126, 205, 59, 54, 146, 221, 189, 127, 45, 119, 139, 140, 152, 3, 174, 227, 40, 9, 27, 88, 250, 179, 36, 228, 250, 214, 117, 148, 85, 133, 128, 139, 72, 49, 215, 188, 63, 244, 222, 240, 142, 75, 122, 157, 229, 118, 210, 101, 134, 206, 198, 75, 97, 22]
theorem ex_b0 : blockI (exK 32) 0 exN = exL0 := by decide +kernel
theorem ex_b1 : blockI (exK 32) 1 exN = exL1 := by decide +kernel
theorem ex_b2 : blockI (exK 32) 2 exN = exL2 := by decide +kernel
theorem ex_stream : streamI (exK 32) 1 exN (bl exT) = exU := by
  have e : streamI (exK 32) 1 exN (bl exT) = (List.range 114).map (fun i => bxorI .u8 ((bl exT).getD i 0) (if i < 64 then exL1.getD i 0 else exL2.getD (i - 64) 0)) := by
    unfold streamI
    rw [blP_length, exT_size]
    refine List.map_congr_left (fun i hi => ?_)
    rw [List.mem_range] at hi
    congr 1
    unfold ksI
    by_cases h : i < 64
    · rw [if_pos h, Nat.div_eq_of_lt h, Nat.mod_eq_of_lt h, show ctrI 1 0 = 1 from by decide +kernel, ex_b1]
    · rw [if_neg h, show i / 64 = 1 by omega, show i % 64 = i - 64 by omega, show ctrI 1 1 = 2 from by decide +kernel, ex_b2]
  rw [e]
  decide +kernel
theorem ex_mark : markL (exK 32) exN (ofL (streamI (exK 32) 1 exN (bl exT))) exB = bl exM := by
  unfold markL
  rw [ex_stream, ex_b0]
  decide +kernel
theorem ex_end : (sealB (exK 32) exN exT exB).extract 114 (sealB (exK 32) exN exT exB).size = exM := by
  have h := seal_mark (exK 32) exN exT exB
  rw [exT_size, ex_mark, ofL_bl] at h
  rw [seal_size, exT_size]
  exact h
theorem seal_absurd {p : Prop} {x : Nat} (e : x = 130) (h : ((x : Int) == 130) = false) : p := by subst e; simp at h
theorem m69 : Meets Try.prog 69 c69 := by
  refine meets_of_run2 tab_ok env69_ok mixed [.tmp 0] Try.func69 rfl Try.ntmps69 Try.call69 (fun t w => by simp [results, Try.results69, resS, rv1]) ?_
  intro args objs r hr hcs
  unfold c69 at hr
  split at hr
  · skip
    simp only [Option.some.injEq] at hr; subst hr
    refine ⟨rfl, ?_⟩
    conv => whnf
    obtain ⟨o, o0, os, ol, oE⟩ : ∃ o : Nat → List Int, o 0 = List.replicate 32 0 ∧ (∀ i, i < 32 → o (i + 1) = (o i).set i ((128 + i : Nat) : Int)) ∧ (∀ i, i ≤ 32 → (o i).length = 32) ∧ o 32 = exK 32 := ⟨exK, rfl, fun i hi => (exK_set i hi).symm, exK_len, rfl⟩
    refine ⟨?_, { i : Nat // i ≤ 32 }, fun i => ⟨(.any :: .v (.one (.ptr 0 0)) :: .v (.one (.int .i64 i.1)) :: .any :: .any :: .any :: .any :: .any :: .any :: .any :: .any :: .any :: .any :: .any :: .any :: .any :: .any :: .any :: .any :: .any :: .any :: .any :: .any :: .any :: []), [.own 0 [.ints .u8 (o i.1) 32]]⟩, fun i => 32 - i.1, ⟨0, by omega⟩, ?_, fun _ => rfl, ?_⟩
    · repeat' apply And.intro
      all_goals first
        | exact True.intro
        | omega
        | decide +kernel
        | rfl
        | exact Nat.le_of_ble_eq_true rfl
        | (dsimp only; omega)
        | trace_state
    · refine ⟨[0], [], rfl, ?_, ?_⟩
      · repeat' apply And.intro
        all_goals first
          | exact True.intro
          | rfl
          | exact Nat.le_refl _
          | decide +kernel
          | omega
          | trace_state
      · exact ⟨⟨rfl, rfl, o0.symm, rfl, trivial⟩, trivial⟩
    rintro ⟨i, hi⟩
    have hol := ol i hi
    have hos := os i
    show run tab env69 0 _ ⟨(.any :: .v (.one (.ptr 0 0)) :: .v (.one (.int .i64 i)) :: .any :: .any :: .any :: .any :: .any :: .any :: .any :: .any :: .any :: .any :: .any :: .any :: .any :: .any :: .any :: .any :: .any :: .any :: .any :: .any :: .any :: []), [.own 0 [.ints .u8 (o i) 32]]⟩ _ _
    refine run_K (P := fun K => run tab env69 0 _ ⟨_, _⟩ True K) ?_
    intro K hK
    have e1 : isum .i64 (i : Int) 1 = ((i + 1 : Nat) : Int) := by rw [isum, i64_in] <;> omega
    have e2 : isum .i64 128 (i : Int) = ((128 + i : Nat) : Int) := by rw [isum, i64_in] <;> omega
    conv => whnf
    refine ⟨trivial, fun hlt => ?_, fun hlt => ?_⟩
    · have hlt' : i < 32 := by simp at hlt; omega
      have e3 : conv .u8 ((128 + i : Nat) : Int) = ((128 + i : Nat) : Int) := by rw [conv, IntWalk.u8_in]; omega
      conv => whnf
      rw [e1, e2, e3]
      subst hK
      change _ ∧ _
      refine ⟨?_, ⟨i + 1, by omega⟩, by show 32 - (i + 1) < 32 - i; omega, [0], [], rfl, ?_, ?_⟩
      · repeat' apply And.intro
        all_goals first
          | exact True.intro
          | (rw [Int.toNat_natCast]; omega)
          | omega
          | decide +kernel
          | rfl
          | exact Nat.le_of_ble_eq_true rfl
          | (dsimp only; omega)
          | trace_state
      · repeat' apply And.intro
        all_goals first
          | exact True.intro
          | rfl
          | exact Nat.le_refl _
          | decide +kernel
          | omega
          | trace_state
      · refine ⟨⟨rfl, rfl, ?_, rfl, trivial⟩, trivial⟩
        simp only [Int.toNat_natCast, Nat.zero_add]
        exact (hos hlt').symm
    · have hlt' : i = 32 := by simp at hlt; omega
      subst hlt'
      rw [oE]
      conv => whnf
      subst hK
      conv => whnf
      have hN : allB exN := allB_in (inR_mem (by decide) (by decide))
      have hKl : (exK 32).length = 32 := exK_len 32 (by decide)
      have hKa : allB (exK 32) := allB_in (inR_mem (by decide) (by decide +kernel))
      have hz : (sealB (exK 32) exN exT exB).size = 130 := by rw [seal_size, exT_size]
      refine ⟨?_, fun _ => ?_, fun h => seal_absurd hz h⟩
      · repeat' apply And.intro
        all_goals first
          | exact True.intro
          | with_reducible assumption
          | omega
          | decide +kernel
          | exact hN
          | rfl
          | trace_state
      conv => whnf
      refine ⟨?_, rfl, [], [], rfl, ⟨?_, trivial⟩, trivial⟩
      · have hz2 : (114 : Int) ≤ ((sealB (exK 32) exN exT exB).size : Int) := by rw [hz]; decide
        exact ⟨⟨by decide, hz2, Int.le_refl _⟩, trivial⟩
      · show (((sealB (exK 32) exN exT exB).extract (Int.toNat 114) ((sealB (exK 32) exN exT exB).size : Int).toNat).toList == exM.toList) = true
        rw [str_beq, Int.toNat_natCast]
        exact decide_eq_true ex_end
  · cases hr
theorem bool_absurd {p : Prop} {x : Bool} (e : x = true) (h : x = false) : p := by rw [e] at h; cases h
def env18 : Env := fun f => match f with
  | 66 => some c66
  | 67 => some c67
  | 68 => some c68
  | 69 => some c69
  | _ => none
theorem env18_ok : EnvOk Try.prog env18 := by
  intro f c h
  unfold env18 at h
  split at h
  · simp only [Option.some.injEq] at h; subst h; exact m66
  · simp only [Option.some.injEq] at h; subst h; exact m67
  · simp only [Option.some.injEq] at h; subst h; exact m68
  · simp only [Option.some.injEq] at h; subst h; exact m69
  · cases h
def c18 : Ctr := fun args objs => match args, objs with
  | [.one (.str a), .one (.str b), .one (.int .u64 n)], [] => some ⟨[a.size ≤ 9223372036854775807, b.size ≤ 9223372036854775807, 0 ≤ n ∧ n ≤ 18446744073709551615], .v (.one (.bool true true)), [], []⟩
  | _, _ => none
theorem m18 : Meets Try.prog 18 c18 := by
  refine meets_of_run2 tab_ok env18_ok mixed [.tmp 6] Try.func18 rfl Try.ntmps18 Try.call18 (fun t w => by simp [results, Try.results18, resS, rv1]) ?_
  intro args objs r hr hcs
  unfold c18 at hr
  split at hr
  · rename_i a b n
    simp only [Option.some.injEq] at hr; subst hr
    obtain ⟨h1, h2, h3, _⟩ := hcs
    refine ⟨rfl, ?_⟩
    conv => whnf
    have hab : (decide (a = b) == (a.toList == b.toList)) = true := by rw [str_beq]; simp
    refine ⟨?_, fun _ => ?_, fun h => bool_absurd hab h⟩
    ·
      repeat' apply And.intro
      all_goals first
        | exact True.intro
        | with_reducible assumption
        | omega
        | decide +kernel
        | rfl
        | trace_state
    conv => whnf
    refine ⟨?_, fun _ => ?_, fun h => bool_absurd (decide_eq_true (rfl : a = a)) h⟩
    ·
      repeat' apply And.intro
      all_goals first
        | exact True.intro
        | with_reducible assumption
        | omega
        | decide +kernel
        | rfl
        | trace_state
    conv => whnf
    refine ⟨?_, fun _ => ?_, fun h => beq_absurd rfl h⟩
    ·
      repeat' apply And.intro
      all_goals first
        | exact True.intro
        | with_reducible assumption
        | omega
        | decide +kernel
        | rfl
        | trace_state
    conv => whnf
    refine ⟨?_, rfl, [], [], rfl, ⟨rfl, trivial⟩, trivial⟩
    ·
      repeat' apply And.intro
      all_goals first
        | exact True.intro
        | with_reducible assumption
        | omega
        | decide +kernel
        | rfl
        | trace_state
  · cases hr
end Go.Proofs.Ytjbagkimpmpfgaa
