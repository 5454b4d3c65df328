/- Picks, and pieces of texts. -/
import Derived.Test.YtjbagkimpmpfgaaC15
namespace Go.Proofs.Ytjbagkimpmpfgaa
open Go Go.Mx
set_option maxRecDepth 100000
set_option maxHeartbeats 4000000

structure isI (x : Int) : Prop where
  lo : -9223372036854775808 ≤ x
  hi : x ≤ 9223372036854775807
theorem wfI {x : Int} (h : (Lit.int .i64 x).wf = true) : isI x := ⟨(bounds_i64 h).1, (bounds_i64 h).2⟩
/-- Which of n things a raw number speaks of. -/
def pickI (c n : Int) : Int := (if c < 0 then -(c + 1) else c) % n
theorem pickI_lo {c n : Int} (h : 0 < n) : 0 ≤ pickI c n := Int.emod_nonneg _ (by omega)
theorem pickI_hi {c n : Int} (h : 0 < n) : pickI c n < n := Int.emod_lt_of_pos _ h
def cPick : Ctr := fun args objs => match args, objs with
  | [.one (.int .i64 c), .one (.int .i64 n)], [] => some ⟨[isI c, 0 < n], .v (.one (.int .i64 (pickI c n))), [], []⟩
  | _, _ => none
def c38 : Ctr := cPick
theorem m38 : Meets Try.prog 38 c38 := by
  refine meets_of_run2 tab_ok env0 mixed [.tmp 4] Try.func38 rfl Try.ntmps38 Try.call38 (fun t w => by simp [results, Try.results38, resS, rv1]) ?_
  intro args objs r hr hcs
  unfold c38 cPick at hr
  split at hr
  · rename_i c n
    simp only [Option.some.injEq] at hr; subst hr
    obtain ⟨⟨h1, h2⟩, h3, _⟩ := hcs
    refine ⟨rfl, ?_⟩
    conv => whnf
    refine ⟨trivial, fun h => ?_, fun h => ?_⟩
    · simp only [decide_eq_true_eq] at h
      conv => whnf
      have e1 : isum .i64 c 1 = c + 1 := by rw [isum, i64_in]; omega
      have e2 : idif .i64 0 (c + 1) = -(c + 1) := by rw [idif, i64_in] <;> omega
      refine ⟨⟨by omega, trivial⟩, rfl, [], [], rfl, ⟨⟨rfl, ?_⟩, trivial⟩, trivial⟩
      rw [e1, e2, Int.tmod_eq_emod_of_nonneg (by omega)]
      unfold pickI
      rw [if_pos h]
    · simp only [decide_eq_false_iff_not] at h
      conv => whnf
      refine ⟨⟨by omega, trivial⟩, rfl, [], [], rfl, ⟨⟨rfl, ?_⟩, trivial⟩, trivial⟩
      rw [Int.tmod_eq_emod_of_nonneg (by omega)]
      unfold pickI
      rw [if_neg h]
  · cases hr
/-! ### Bytes of pieces -/
theorem bl_app (a b : ByteArray) : bl (a ++ b) = bl a ++ bl b := by
  unfold bl
  rw [ByteArray.data_append, Array.toList_append, List.map_append]
theorem bl_ext (s : ByteArray) (a b : Nat) : bl (s.extract a b) = ((bl s).take b).drop a := by
  unfold bl
  rw [ByteArray.data_extract, Array.toList_extract, List.extract_eq_drop_take', List.map_drop, List.map_take]
theorem ofL_app (a b : List Int) : ofL a ++ ofL b = ofL (a ++ b) := by
  apply ByteArray.ext
  rw [ByteArray.data_append]
  simp [ofL]
theorem streamI_cut (k : List Int) (c : Int) (n t : List Int) {p : Nat} (hp : 64 * p ≤ t.length) : streamI k c n (t.take (64 * p)) ++ streamI k (ctrI c p) n (t.drop (64 * p)) = streamI k c n t := by
  have hl : (streamI k c n (t.take (64 * p))).length = 64 * p := by rw [streamI_len, List.length_take]; omega
  apply ext_getD
  · rw [List.length_append, streamI_len, streamI_len, streamI_len, ← List.length_append, List.take_append_drop]
  · intro i hi
    rw [List.length_append, hl, streamI_len, List.length_drop] at hi
    rw [streamI_get k c n t (by omega)]
    by_cases h : i < 64 * p
    · have e : (t.take (64 * p)).getD i 0 = t.getD i 0 := by simp [List.getD, h]
      rw [getD_left (by omega), streamI_get _ _ _ _ (by rw [List.length_take]; omega), e]
    · obtain ⟨j, rfl⟩ : ∃ j, i = 64 * p + j := ⟨i - 64 * p, by omega⟩
      have e : (t.drop (64 * p)).getD j 0 = t.getD (64 * p + j) 0 := by simp [List.getD]
      have e1 : (64 * p + j) / 64 = p + j / 64 := by omega
      have e2 : (64 * p + j) % 64 = j % 64 := by omega
      have e3 : ksI k (ctrI c p) n j = ksI k c n (64 * p + j) := by
        unfold ksI
        rw [ctrI_ctrI, e1, e2]
      rw [getD_right hl, streamI_get _ _ _ _ (by rw [List.length_drop]; omega), e, e3]
theorem lays_B (l : List Int) : allB (lays l) := allB_of fun x hx => by
  simp only [lays, List.mem_flatMap] at hx
  obtain ⟨y, _, hy⟩ := hx
  exact of_allB (four_B y) x hy
theorem u8x_zero {y : Int} (h : isB y) : bxorI .u8 0 y = y := by
  obtain ⟨h1, h2⟩ := h
  rw [u8x_eq, show BitVec.ofInt 8 0 = 0#8 from rfl, BitVec.zero_xor, BitVec.toNat_ofInt]
  omega
theorem u8x_back {x : Int} (h : isB x) {y : Int} (hy : isB y) : bxorI .u8 (bxorI .u8 x y) (bxorI .u8 0 y) = x := by rw [u8x_zero hy, u8x_twice h]
theorem blockI_B (k : List Int) (c : Int) (n : List Int) : allB (blockI k c n) := lays_B _
theorem ksI_B (k : List Int) (c : Int) (n : List Int) (i : Nat) : isB (ksI k c n i) := blockI_B _ _ _ _ (by rw [blockI_len]; omega)
theorem stream_zeros (k : List Int) {c : Int} (hc : isW c) (n : List Int) : streamI k c n (List.replicate 128 0) = blockI k c n ++ blockI k (ctrI c 1) n := by
  apply ext_getD
  · rw [streamI_len, List.length_append, blockI_len, blockI_len]; rfl
  · intro i hi
    rw [streamI_len, List.length_replicate] at hi
    rw [streamI_get _ _ _ _ (by simpa using hi)]
    have e : (List.replicate 128 (0 : Int)).getD i 0 = 0 := by
      simp only [List.getD, List.getElem?_replicate]; split <;> rfl
    rw [e, u8x_zero (ksI_B _ _ _ _)]
    unfold ksI
    by_cases h : i < 64
    · rw [getD_left (by rw [blockI_len]; exact h), show i / 64 = 0 by omega, ctrI_zero hc, Nat.mod_eq_of_lt h]
    · obtain ⟨j, rfl⟩ : ∃ j, i = 64 + j := ⟨i - 64, by omega⟩
      rw [getD_right (blockI_len _ _ _), show (64 + j) / 64 = 1 by omega, show (64 + j) % 64 = j by omega]
end Go.Proofs.Ytjbagkimpmpfgaa

