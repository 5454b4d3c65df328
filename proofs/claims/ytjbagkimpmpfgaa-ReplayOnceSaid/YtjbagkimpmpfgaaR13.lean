/- Replay: counters in blocks, each turned within its own. -/
import Derived.Test.YtjbagkimpmpfgaaR11
import Derived.Test.YtjbagkimpmpfgaaR9
import Derived.Test.YtjbagkimpmpfgaaPick
namespace Go.Proofs.Ytjbagkimpmpfgaa
open Go Go.Mx
set_option maxRecDepth 100000
set_option maxHeartbeats 4000000

/-- A list of k counters from a base on, each in the block of n that it began in. -/
structure Blk (base : Int) (n k : Nat) (L : List Int) : Prop where
  len : L.length = k
  nodup : L.Nodup
  lo : ∀ j, j < k → base ≤ L.getD j 0 ∧ L.getD j 0 < base + k
  blk : ∀ j, j < k → (L.getD j 0 - base).toNat / n = j / n
def baseL (base : Int) : Nat → List Int
  | 0 => []
  | i + 1 => baseL base i ++ [base + i]
theorem baseL_len (base : Int) : ∀ i, (baseL base i).length = i
  | 0 => rfl
  | i + 1 => by rw [baseL, List.length_append, baseL_len base i]; rfl
theorem baseL_get (base : Int) : ∀ i j, j < i → (baseL base i).getD j 0 = base + j
  | 0, j, h => by omega
  | i + 1, j, h => by
    rw [baseL]
    by_cases e : j = i
    · subst e
      have := baseL_len base j
      simp [List.getD, List.getElem?_append_right (show (baseL base j).length ≤ j by omega), this]
    · have hl := baseL_len base i
      have := baseL_get base i j (by omega)
      simp only [List.getD, List.getElem?_append_left (show j < (baseL base i).length by omega)] at this ⊢
      exact this
theorem nodup_of {L : List Int} (h : ∀ i j, i < L.length → j < L.length → L.getD i 0 = L.getD j 0 → i = j) : L.Nodup := by
  rw [List.nodup_iff_pairwise_ne, List.pairwise_iff_getElem]
  intro i j hi hj hij e
  have := h i j hi hj (by simp only [List.getD, List.getElem?_eq_getElem hi, List.getElem?_eq_getElem hj, Option.getD_some]; exact e)
  omega
theorem baseL_blk (base : Int) (n k : Nat) : Blk base n k (baseL base k) := by
  refine ⟨baseL_len _ _, nodup_of (fun i j hi hj e => ?_), fun j hj => ?_, fun j hj => ?_⟩
  · rw [baseL_len] at hi hj
    rw [baseL_get _ _ _ hi, baseL_get _ _ _ hj] at e; omega
  · rw [baseL_get _ _ _ hj]; omega
  · rw [baseL_get _ _ _ hj]
    congr 1; omega
/-- Two places change what they hold. -/
def swapL (L : List Int) (i j : Nat) : List Int := (L.set i (L.getD j 0)).set j (L.getD i 0)
theorem swap_get {L : List Int} {i j : Nat} (hi : i < L.length) (hj : j < L.length) (x : Nat) : (swapL L i j).getD x 0 = if x = j then L.getD i 0 else if x = i then L.getD j 0 else L.getD x 0 := by
  unfold swapL
  rw [get_set (by simpa using hj)]
  by_cases e : j = x
  · subst e; simp
  · rw [if_neg e, if_neg (fun h => e h.symm), get_set hi]
    by_cases e2 : i = x
    · subst e2; simp
    · rw [if_neg e2, if_neg (fun h => e2 h.symm)]
theorem swap_blk {base : Int} {n k : Nat} {L : List Int} (h : Blk base n k L) {i j : Nat} (hi : i < k) (hj : j < k) (hb : i / n = j / n) : Blk base n k (swapL L i j) := by
  have hl := h.len
  have g := swap_get (L := L) (i := i) (j := j) (by omega) (by omega)
  refine ⟨by simp [swapL, hl], nodup_of (fun x y hx hy e => ?_), fun x hx => ?_, fun x hx => ?_⟩
  · simp only [swapL, List.length_set] at hx hy
    have inj : ∀ a b, a < k → b < k → L.getD a 0 = L.getD b 0 → a = b := fun a b ha hb' e => nodup_getD h.nodup (by omega) (by omega) e
    rw [g, g] at e
    by_cases e1 : x = j
    · by_cases e2 : y = j
      · omega
      · rw [if_pos e1, if_neg e2] at e
        by_cases e3 : y = i
        · rw [if_pos e3] at e; have := inj _ _ hi hj e; omega
        · rw [if_neg e3] at e; have := inj _ _ hi (by omega) e; omega
    · rw [if_neg e1] at e
      by_cases e2 : x = i
      · rw [if_pos e2] at e
        by_cases e3 : y = j
        · rw [if_pos e3] at e; have := inj _ _ hj hi e; omega
        · rw [if_neg e3] at e
          by_cases e4 : y = i
          · omega
          · rw [if_neg e4] at e; have := inj _ _ hj (by omega) e; omega
      · rw [if_neg e2] at e
        by_cases e3 : y = j
        · rw [if_pos e3] at e; have := inj _ _ (by omega) hi e; omega
        · rw [if_neg e3] at e
          by_cases e4 : y = i
          · rw [if_pos e4] at e; have := inj _ _ (by omega) hj e; omega
          · rw [if_neg e4] at e; exact inj _ _ (by omega) (by omega) e
  · rw [g]
    split
    · exact h.lo i hi
    · split
      · exact h.lo j hj
      · exact h.lo x hx
  · rw [g]
    split
    · rename_i e; subst e; rw [h.blk i hi, hb]
    · split
      · rename_i e; subst e; rw [h.blk j hj, hb]
      · exact h.blk x hx
theorem take_snoc {L : List Int} {i : Nat} (h : i < L.length) : L.take (i + 1) = L.take i ++ [L.getD i 0] := by
  rw [List.take_succ_eq_append_getElem h]; simp [List.getD, h]
theorem take_mem {L : List Int} {i : Nat} {x : Int} (h : x ∈ L.take i) : ∃ j, j < i ∧ j < L.length ∧ L.getD j 0 = x := by
  obtain ⟨j, hj, rfl⟩ := List.mem_iff_getElem.1 h
  rw [List.length_take] at hj
  refine ⟨j, by omega, by omega, ?_⟩
  simp [List.getD, show j < L.length by omega, List.getElem_take]
theorem blk_fresh {base : Int} {n k : Nat} {L : List Int} (h : Blk base n k L) (hn : 0 < n) {M : Int} (hM : base + k ≤ M) {i : Nat} (hi : i < k) : freshA M n (L.take i) (L.getD i 0) = true := by
  obtain ⟨b1, b2⟩ := h.lo i hi
  have i1 : inA (L.take i) (L.getD i 0) = false := by
    rw [Bool.eq_false_iff, ne_eq, inA_iff]
    intro hm
    obtain ⟨j, h1, h2, h3⟩ := take_mem hm
    have := nodup_getD h.nodup h2 (by rw [h.len]; exact hi) h3; omega
  have i2 : lateA n (L.take i) (L.getD i 0) = false := by
    rw [Bool.eq_false_iff, ne_eq, lateA_iff]
    rintro ⟨x, hm, h4, h5⟩
    obtain ⟨j, h1, h2, h3⟩ := take_mem hm
    have c1 := h.blk i hi
    have c2 := h.blk j (by rw [h.len] at h2; exact h2)
    rw [h3] at c2
    have c3 : j / n ≤ i / n := Nat.div_le_div_right (by omega)
    have c4 : (L.getD i 0 - base).toNat / n ≤ (x - base).toNat / n := Nat.div_le_div_right (by omega)
    have c5 : (L.getD i 0 - base).toNat / n = (x - base).toNat / n := by omega
    have d1 := Nat.div_add_mod (L.getD i 0 - base).toNat n
    have d2 := Nat.div_add_mod (x - base).toNat n
    have d3 := Nat.mod_lt (x - base).toNat hn
    rw [c5] at d1
    omega
  unfold freshA
  rw [i1, i2, beq_eq_false_iff_ne.2 (by omega)]; rfl
theorem twice_fresh {M z : Int} {A : List Int} {x : Int} (h : x ∈ A) : freshA M z A x = false := by
  unfold freshA
  rw [inA_iff.2 h]; simp
end Go.Proofs.Ytjbagkimpmpfgaa

