/- Replay: bits of words of 64, a row of such words. -/
import Derived.Test.YtjbagkimpmpfgaaWord
import Derived.Test.YtjbagkimpmpfgaaRun
namespace Go.Proofs.Ytjbagkimpmpfgaa
open Go Go.Mx
set_option maxRecDepth 100000
set_option maxHeartbeats 4000000

structure isU (x : Int) : Prop where
  lo : 0 ≤ x
  hi : x < 18446744073709551616
def allU (l : List Int) : Prop := ∀ i, i < l.length → isU (l.getD i 0)
abbrev V64 := BitVec 64
theorem u64_nat (n : Nat) (h : n < 18446744073709551616) : IntKind.u64.wrap (n : Int) = (n : Int) := by
  rw [IntKind.wrap_u64]; omega
theorem ofI_toNat {x : Int} (h : isU x) : (BitVec.ofInt 64 x).toNat = x.toNat := by
  obtain ⟨h1, h2⟩ := h
  rw [BitVec.toNat_ofInt]; omega
theorem one_shl {k : Nat} (h : k < 64) : shlI .u64 1 (k : Int) = ((2 ^ k : Nat) : Int) := by
  have e : min ((k : Int).toNat) IntKind.u64.bits = k := by simp [IntKind.bits]; omega
  simp only [shlI, e, Int.one_mul]
  rw [show (2 : Int) ^ k = ((2 ^ k : Nat) : Int) by push_cast; rfl]
  exact u64_nat _ (by have : 2 ^ k < 2 ^ 64 := Nat.pow_lt_pow_right (by omega) h; omega)
theorem two_isU {k : Nat} (h : k < 64) : isU ((2 ^ k : Nat) : Int) := ⟨Int.natCast_nonneg _, by have : 2 ^ k < 2 ^ 64 := Nat.pow_lt_pow_right (by omega) h; omega⟩
theorem or_eq {x : Int} (h : isU x) {k : Nat} (hk : k < 64) : borI .u64 x (shlI .u64 1 (k : Int)) = ((x.toNat ||| 2 ^ k : Nat) : Int) := by
  rw [one_shl hk]
  simp only [borI]
  show IntKind.u64.wrap (((BitVec.ofInt 64 x ||| BitVec.ofInt 64 ((2 ^ k : Nat) : Int)).toNat : Nat) : Int) = _
  rw [u64_nat _ (BitVec.isLt _), BitVec.toNat_or, ofI_toNat h, ofI_toNat (two_isU hk), Int.toNat_natCast]
theorem clr_eq {x : Int} (h : isU x) {k : Nat} (hk : k < 64) : bclrI .u64 x (shlI .u64 1 (k : Int)) = (((BitVec.ofNat 64 x.toNat &&& ~~~ BitVec.ofNat 64 (2 ^ k)).toNat : Nat) : Int) := by
  rw [one_shl hk]
  simp only [bclrI]
  show IntKind.u64.wrap (((BitVec.ofInt 64 x &&& ~~~ BitVec.ofInt 64 ((2 ^ k : Nat) : Int)).toNat : Nat) : Int) = _
  rw [u64_nat _ (BitVec.isLt _), BitVec.ofInt_natCast]
  congr 3
  apply BitVec.eq_of_toNat_eq
  rw [ofI_toNat h, BitVec.toNat_ofNat]
  obtain ⟨h1, h2⟩ := h
  omega
theorem and_eq {x : Int} (h : isU x) {k : Nat} (hk : k < 64) : bandI .u64 x (shlI .u64 1 (k : Int)) = ((x.toNat &&& 2 ^ k : Nat) : Int) := by
  rw [one_shl hk]
  simp only [bandI]
  show IntKind.u64.wrap (((BitVec.ofInt 64 x &&& BitVec.ofInt 64 ((2 ^ k : Nat) : Int)).toNat : Nat) : Int) = _
  rw [u64_nat _ (BitVec.isLt _), BitVec.toNat_and, ofI_toNat h, ofI_toNat (two_isU hk), Int.toNat_natCast]
theorem or_bit {x : Int} (h : isU x) {k : Nat} (hk : k < 64) (j : Nat) : (borI .u64 x (shlI .u64 1 (k : Int))).toNat.testBit j = (x.toNat.testBit j || decide (k = j)) := by
  rw [or_eq h hk, Int.toNat_natCast, Nat.testBit_or, Nat.testBit_two_pow]
theorem clr_bit {x : Int} (h : isU x) {k : Nat} (hk : k < 64) {j : Nat} (hj : j < 64) : (bclrI .u64 x (shlI .u64 1 (k : Int))).toNat.testBit j = (x.toNat.testBit j && !decide (k = j)) := by
  rw [clr_eq h hk, Int.toNat_natCast]
  rw [BitVec.testBit_toNat, BitVec.getLsbD_and, BitVec.getLsbD_not, BitVec.getLsbD_ofNat, BitVec.getLsbD_ofNat, Nat.testBit_two_pow]
  simp [hj]
theorem and_bit {x : Int} (h : isU x) {k : Nat} (hk : k < 64) : (bandI .u64 x (shlI .u64 1 (k : Int)) == 0) = !x.toNat.testBit k := by
  rw [and_eq h hk]
  cases hb : x.toNat.testBit k
  · have : x.toNat &&& 2 ^ k = 0 := by
      apply Nat.eq_of_testBit_eq
      intro i
      rw [Nat.testBit_and, Nat.testBit_two_pow, Nat.zero_testBit]
      by_cases e : k = i
      · subst e; rw [hb]; rfl
      · simp [e]
    rw [this]; rfl
  · have : x.toNat &&& 2 ^ k ≠ 0 := by
      intro e
      have := Nat.testBit_and x.toNat (2 ^ k) k
      rw [e, hb, Nat.zero_testBit, Nat.testBit_two_pow] at this
      simp at this
    rw [beq_eq_false_iff_ne.2 (by omega)]
    rfl
theorem or_isU {x : Int} (h : isU x) {k : Nat} (hk : k < 64) : isU (borI .u64 x (shlI .u64 1 (k : Int))) := by
  rw [or_eq h hk]
  obtain ⟨h1, h2⟩ := h
  have : x.toNat ||| 2 ^ k < 2 ^ 64 := Nat.or_lt_two_pow (by omega) (Nat.pow_lt_pow_right (by omega) hk)
  constructor <;> omega
theorem clr_isU {x : Int} (h : isU x) {k : Nat} (hk : k < 64) : isU (bclrI .u64 x (shlI .u64 1 (k : Int))) := by
  rw [clr_eq h hk]
  have := (BitVec.ofNat 64 x.toNat &&& ~~~ BitVec.ofNat 64 (2 ^ k)).isLt
  constructor <;> omega

/-! ### A row of words -/
def bitP (l : List Int) (p : Nat) : Bool := (l.getD (p / 64) 0).toNat.testBit (p % 64)
def setB (l : List Int) (p : Nat) : List Int := l.set (p / 64) (borI .u64 (l.getD (p / 64) 0) (shlI .u64 1 ((p % 64 : Nat) : Int)))
def clrB (l : List Int) (p : Nat) : List Int := l.set (p / 64) (bclrI .u64 (l.getD (p / 64) 0) (shlI .u64 1 ((p % 64 : Nat) : Int)))
theorem setB_len (l : List Int) (p : Nat) : (setB l p).length = l.length := by simp [setB]
theorem clrB_len (l : List Int) (p : Nat) : (clrB l p).length = l.length := by simp [clrB]
theorem get_set {l : List Int} {i j : Nat} {v : Int} (h : i < l.length) : (l.set i v).getD j 0 = if i = j then v else l.getD j 0 := by
  by_cases hij : i = j
  · subst hij; simp [List.getD, h]
  · rw [if_neg hij]; simp [List.getD, List.getElem?_set_ne hij]
theorem allU_set {l : List Int} (hl : allU l) {i : Nat} {v : Int} (hv : isU v) : allU (l.set i v) := by
  intro j hj
  rw [List.length_set] at hj
  by_cases hij : i = j
  · subst hij; rw [get_set hj, if_pos rfl]; exact hv
  · simp only [List.getD, List.getElem?_set_ne hij]; exact hl j hj
theorem setB_U {l : List Int} (hl : allU l) {p : Nat} (hp : p / 64 < l.length) : allU (setB l p) := allU_set hl (or_isU (hl _ hp) (Nat.mod_lt _ (by omega)))
theorem clrB_U {l : List Int} (hl : allU l) {p : Nat} (hp : p / 64 < l.length) : allU (clrB l p) := allU_set hl (clr_isU (hl _ hp) (Nat.mod_lt _ (by omega)))
theorem bitP_setB {l : List Int} (hl : allU l) {p : Nat} (hp : p / 64 < l.length) (q : Nat) : bitP (setB l p) q = (bitP l q || decide (p = q)) := by
  unfold bitP setB
  rw [get_set hp]
  by_cases h : p / 64 = q / 64
  · rw [if_pos h, or_bit (hl _ hp) (Nat.mod_lt _ (by omega)), h]
    congr 1
    simp only [decide_eq_decide]
    omega
  · rw [if_neg h]
    have : p ≠ q := fun e => h (by rw [e])
    simp [this]
theorem bitP_clrB {l : List Int} (hl : allU l) {p : Nat} (hp : p / 64 < l.length) (q : Nat) : bitP (clrB l p) q = (bitP l q && !decide (p = q)) := by
  unfold bitP clrB
  rw [get_set hp]
  by_cases h : p / 64 = q / 64
  · rw [if_pos h, clr_bit (hl _ hp) (Nat.mod_lt _ (by omega)) (Nat.mod_lt _ (by omega)), h]
    congr 2
    simp only [decide_eq_decide]
    omega
  · rw [if_neg h]
    have : p ≠ q := fun e => h (by rw [e])
    simp [this]
theorem bitP_zeros (n q : Nat) : bitP (List.replicate n 0) q = false := by
  unfold bitP
  have : (List.replicate n (0 : Int)).getD (q / 64) 0 = 0 := by
    simp only [List.getD, List.getElem?_replicate]; split <;> rfl
  rw [this]; simp
theorem zeros_U (n : Nat) : allU (List.replicate n 0) := by
  intro i hi
  have : (List.replicate n (0 : Int)).getD i 0 = 0 := by
    simp only [List.getD, List.getElem?_replicate]; split <;> rfl
  rw [this]; exact ⟨by decide, by decide⟩
/-- The places of so many numbers, from one on, are cleared. -/
def clrFrom (l : List Int) (B t : Nat) : Nat → List Int
  | 0 => l
  | k + 1 => clrB (clrFrom l B t k) ((t + k) % B)
theorem clrFrom_len (l : List Int) (B t : Nat) : ∀ k, (clrFrom l B t k).length = l.length
  | 0 => rfl
  | k + 1 => by rw [clrFrom, clrB_len, clrFrom_len]
theorem clrFrom_U {l : List Int} (hl : allU l) {B : Nat} (hB : B = l.length * 64) (h0 : 0 < B) (t : Nat) : ∀ k, allU (clrFrom l B t k)
  | 0 => hl
  | k + 1 => clrB_U (clrFrom_U hl hB h0 t k) (by rw [clrFrom_len]; have := Nat.mod_lt (t + k) h0; omega)
theorem bitP_clrFrom {l : List Int} (hl : allU l) {B : Nat} (hB : B = l.length * 64) (h0 : 0 < B) (t q : Nat) : ∀ k, bitP (clrFrom l B t k) q = true ↔ (bitP l q = true ∧ ∀ j, j < k → (t + j) % B ≠ q)
  | 0 => by simp [clrFrom]
  | k + 1 => by
    have hp : (t + k) % B / 64 < (clrFrom l B t k).length := by rw [clrFrom_len]; have := Nat.mod_lt (t + k) h0; omega
    rw [clrFrom, bitP_clrB (clrFrom_U hl hB h0 t k) hp, Bool.and_eq_true, bitP_clrFrom hl hB h0 t q k]
    simp only [Bool.not_eq_true', decide_eq_false_iff_not]
    constructor
    · rintro ⟨⟨h1, h2⟩, h3⟩
      refine ⟨h1, fun j hj => ?_⟩
      by_cases e : j = k
      · subst e; exact h3
      · exact h2 j (by omega)
    · rintro ⟨h1, h2⟩
      exact ⟨⟨h1, fun j hj => h2 j (by omega)⟩, h2 k (by omega)⟩
end Go.Proofs.Ytjbagkimpmpfgaa

