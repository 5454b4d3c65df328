/- Words of 32 bits and what the program's operations make of them. Conditions: each lemma's own. -/
import Derived.Test.YtjbagkimpmpfgaaMxM
import Derived.IntWalk
namespace Go.Proofs.Ytjbagkimpmpfgaa
open Go Go.Mx

abbrev W := BitVec 32
def wI (a : W) : Int := (a.toNat : Int)
def wB (x : Int) : W := BitVec.ofInt 32 x
structure isW (x : Int) : Prop where
  lo : 0 ≤ x
  hi : x < 4294967296

theorem wI_is (a : W) : isW (wI a) := ⟨by unfold wI; omega, by have := a.isLt; unfold wI; omega⟩
theorem wI_lt (a : W) : 0 ≤ wI a ∧ wI a < 4294967296 := ⟨(wI_is a).lo, (wI_is a).hi⟩
theorem wB_wI (a : W) : wB (wI a) = a := by simp [wB, wI]
theorem wI_wB {x : Int} (h : isW x) : wI (wB x) = x := by
  obtain ⟨h1, h2⟩ := h
  simp only [wI, wB, BitVec.toNat_ofInt]
  omega
theorem of_isW {x : Int} (h : isW x) : ∃ a : W, x = wI a := ⟨wB x, (wI_wB h).symm⟩
theorem wI_inj {a b : W} : wI a = wI b ↔ a = b := by
  constructor
  · intro h; have := congrArg wB h; rwa [wB_wI, wB_wI] at this
  · intro h; rw [h]

theorem u32_of (n : Nat) : IntKind.u32.wrap (n : Int) = wI (BitVec.ofNat 32 n) := by
  rw [IntKind.wrap_u32]; simp [wI]
theorem u32_sum (a b : W) : isum .u32 (wI a) (wI b) = wI (a + b) := by
  simp only [isum, wI, ← Int.natCast_add]
  rw [u32_of]
  simp [wI, BitVec.toNat_add]
theorem u32_dif (a b : W) : idif .u32 (wI a) (wI b) = wI (a - b) := by
  simp only [idif, IntKind.wrap_u32, wI, BitVec.toNat_sub]
  have := a.isLt
  have := b.isLt
  omega
theorem ofI (a : W) : BitVec.ofInt 32 (wI a) = a := wB_wI a
theorem u32_xor (a b : W) : bxorI .u32 (wI a) (wI b) = wI (a ^^^ b) := by
  simp only [bxorI]
  show IntKind.u32.wrap (((BitVec.ofInt 32 (wI a) ^^^ BitVec.ofInt 32 (wI b)).toNat : Nat) : Int) = _
  rw [ofI, ofI, u32_of]; simp
theorem u32_or (a b : W) : borI .u32 (wI a) (wI b) = wI (a ||| b) := by
  simp only [borI]
  show IntKind.u32.wrap (((BitVec.ofInt 32 (wI a) ||| BitVec.ofInt 32 (wI b)).toNat : Nat) : Int) = _
  rw [ofI, ofI, u32_of]; simp
theorem u32_shl (a : W) {n : Nat} (h : n ≤ 32) : shlI .u32 (wI a) (n : Int) = wI (a <<< n) := by
  have e : min ((n : Int).toNat) IntKind.u32.bits = n := by simp [IntKind.bits]; omega
  simp only [shlI, e, wI]
  have : ((a.toNat : Int) * 2 ^ n) = ((a.toNat * 2 ^ n : Nat) : Int) := by push_cast; rfl
  rw [this, u32_of]
  simp [wI, BitVec.toNat_shiftLeft, Nat.shiftLeft_eq]
theorem shr_any (k : IntKind) (a : W) {n : Nat} (h : n ≤ k.bits) : shrI k (wI a) (n : Int) = wI (a >>> n) := by
  have e : min ((n : Int).toNat) k.bits = n := by simp; omega
  simp only [shrI, e, wI]
  rw [Int.fdiv_eq_ediv_of_nonneg _ (by exact Int.le_of_lt (Int.pow_pos (by decide)))]
  simp [BitVec.toNat_ushiftRight, Nat.shiftRight_eq_div_pow]
def rotl (a : W) (n : Nat) : W := (a <<< n) ||| (a >>> (32 - n))

/-! ### The same, on 64 bits -/
theorem i64_in {x : Int} (h : -9223372036854775808 ≤ x ∧ x ≤ 9223372036854775807) : IntKind.i64.wrap x = x := IntWalk.i64_in x h
theorem i64_bits (a b : W) (f : Nat → Nat → Nat) (g : BitVec 64 → BitVec 64 → BitVec 64) (g' : W → W → W) (h1 : ∀ x y : BitVec 64, (g x y).toNat = f x.toNat y.toNat) (h2 : ∀ x y : W, (g' x y).toNat = f x.toNat y.toNat) :
    IntKind.i64.wrap (((g (BitVec.ofInt 64 (wI a)) (BitVec.ofInt 64 (wI b))).toNat : Nat) : Int) = wI (g' a b) := by
  have e : ∀ a : W, (BitVec.ofInt 64 (wI a)).toNat = a.toNat := fun a => by
    have := a.isLt
    simp only [wI, BitVec.toNat_ofInt]
    omega
  rw [h1, e, e, ← h2, i64_in]
  · rfl
  · have := (g' a b).isLt; omega
theorem i64_xor (a b : W) : bxorI .i64 (wI a) (wI b) = wI (a ^^^ b) := i64_bits a b (· ^^^ ·) (· ^^^ ·) (· ^^^ ·) (fun _ _ => by simp) (fun _ _ => by simp)
theorem i64_or (a b : W) : borI .i64 (wI a) (wI b) = wI (a ||| b) := i64_bits a b (· ||| ·) (· ||| ·) (· ||| ·) (fun _ _ => by simp) (fun _ _ => by simp)
theorem i64_sum (a b : W) : isum .i64 (wI a) (wI b) = wI a + wI b := by
  have := wI_lt a
  have := wI_lt b
  rw [isum, i64_in]; omega
theorem i64_conv (a : W) : conv .i64 (wI a) = wI a := by
  have := wI_lt a
  rw [conv, i64_in]; omega
theorem u32_conv (a : W) : conv .u32 (wI a) = wI a := by
  have := wI_lt a
  rw [conv, IntWalk.u32_in]; omega
end Go.Proofs.Ytjbagkimpmpfgaa
