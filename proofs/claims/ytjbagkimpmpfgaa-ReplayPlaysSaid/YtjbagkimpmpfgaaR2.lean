/- Replay: what the window's functions compute. Conditions: none. -/
import Derived.Test.YtjbagkimpmpfgaaR1
namespace Go.Proofs.Ytjbagkimpmpfgaa
open Go Go.Mx
set_option maxRecDepth 100000
set_option maxHeartbeats 4000000

def hasW (l : List Int) (n : Int) : Bool := !(l.length == 0) && bitP l (n.toNat % (l.length * 64))
def freshW (m z t : Int) (l : List Int) (n : Int) : Bool := !(n == m) && (decide (n ≥ t) || (decide (t - 1 - n < imax z 1) && !hasW l n))
def wordsW (z : Int) : Nat := ((imax z 1).toNat + 63) / 64 + 1
def rowW (z : Int) (l : List Int) : List Int := if l.length = 0 then List.replicate (wordsW z) 0 else l
def goneW (t : Int) (l : List Int) (n : Int) : List Int := if n - t ≥ ((l.length * 64 : Nat) : Int) then List.replicate l.length 0 else clrFrom l (l.length * 64) t.toNat (n - t).toNat
def takeL (m z t : Int) (l : List Int) (n : Int) : List Int :=
  if freshW m z t l n = true then setB (if n ≥ t then goneW t (rowW z l) n else rowW z l) (n.toNat % ((rowW z l).length * 64)) else l
def takeT (m z t : Int) (l : List Int) (n : Int) : Int := if freshW m z t l n = true ∧ n ≥ t then n + 1 else t
theorem imax_nat {z : Int} (h : 0 ≤ z) : imax z 1 = ((max z.toNat 1 : Nat) : Int) := by
  unfold imax; split <;> omega
theorem rowW_len {z : Int} {l : List Int} (h0 : 0 ≤ z) (hz : z ≤ 8192) (hl : l.length ≤ 1000) : 0 < (rowW z l).length ∧ (rowW z l).length ≤ 1000 := by
  unfold rowW
  split
  · rw [List.length_replicate]; unfold wordsW; rw [imax_nat h0]; omega
  · omega
theorem rowW_U {z : Int} {l : List Int} (h : allU l) : allU (rowW z l) := by
  unfold rowW; split
  · exact zeros_U _
  · exact h
theorem goneW_len (t : Int) (l : List Int) (n : Int) : (goneW t l n).length = l.length := by
  unfold goneW; split
  · simp
  · exact clrFrom_len _ _ _ _
theorem goneW_U {t : Int} {l : List Int} {n : Int} (h : allU l) (h0 : 0 < l.length) : allU (goneW t l n) := by
  unfold goneW; split
  · exact zeros_U _
  · exact clrFrom_U h rfl (by omega) _ _
theorem takeL_len {m z t : Int} {l : List Int} {n : Int} : (takeL m z t l n).length = if freshW m z t l n = true then (rowW z l).length else l.length := by
  unfold takeL
  split
  · rw [setB_len]
    split
    · exact goneW_len _ _ _
    · rfl
  · rfl
theorem place_k {n : Nat} (hn : n < 18446744073709551616) {w : Nat} (h0 : 0 < w) (h1 : w ≤ 1000) : (n : Int).tmod (conv .u64 (imul .i64 (w : Int) 64)) = ((n % (w * 64) : Nat) : Int) := by
  have e : imul .i64 (w : Int) 64 = ((w * 64 : Nat) : Int) := by rw [imul, i64_in] <;> omega
  have e2 : conv .u64 ((w * 64 : Nat) : Int) = ((w * 64 : Nat) : Int) := by rw [conv]; exact u64_nat _ (by omega)
  rw [e, e2, Int.tmod_eq_emod_of_nonneg (by omega)]
  omega
theorem place_w {p : Nat} (h : p < 64000) : conv .i64 (iquo .u64 (p : Int) 64) = ((p / 64 : Nat) : Int) := by
  have e : iquo .u64 (p : Int) 64 = ((p / 64 : Nat) : Int) := by
    rw [iquo, Int.tdiv_eq_ediv_of_nonneg (by omega), show (p : Int) / 64 = ((p / 64 : Nat) : Int) by omega]
    exact u64_nat _ (by omega)
  rw [e, conv, i64_in]; omega
theorem place_b {p : Nat} : (p : Int).tmod 64 = ((p % 64 : Nat) : Int) := by rw [Int.tmod_eq_emod_of_nonneg (by omega)]; omega
theorem mul_ne {w : Nat} (h0 : 0 < w) (h1 : w ≤ 1000) : conv .u64 (imul .i64 (w : Int) 64) ≠ 0 := by
  have e : imul .i64 (w : Int) 64 = ((w * 64 : Nat) : Int) := by rw [imul, i64_in] <;> omega
  have e2 : conv .u64 ((w * 64 : Nat) : Int) = ((w * 64 : Nat) : Int) := by rw [conv]; exact u64_nat _ (by omega)
  rw [e, e2]; omega
theorem has_bit {l : List Int} (hl : allU l) {p : Nat} (hp : p / 64 < l.length) : (bandI .u64 (l.getD (p / 64) 0) (shlI .u64 1 ((p % 64 : Nat) : Int)) != 0) = bitP l p := by
  rw [bne, and_bit (hl _ hp) (Nat.mod_lt _ (by omega)), Bool.not_not]; rfl
theorem isU_of {x : Int} {m : Int} (h : 0 ≤ x ∧ x ≤ m) (hm : m ≤ 18446744073709551615) : isU x := ⟨h.1, by omega⟩
end Go.Proofs.Ytjbagkimpmpfgaa

