/- Replay: what came, on both sides. -/
import Derived.Test.YtjbagkimpmpfgaaR10
namespace Go.Proofs.Ytjbagkimpmpfgaa
open Go Go.Mx
set_option maxRecDepth 100000
set_option maxHeartbeats 4000000

theorem sorted_ext : ∀ {l m : List Int}, l.Pairwise (· < ·) → m.Pairwise (· < ·) → (∀ x, x ∈ l ↔ x ∈ m) → l = m
  | [], [], _, _, _ => rfl
  | [], y :: m, _, _, h => by have := (h y).2 (by simp); simp at this
  | x :: l, [], _, _, h => by have := (h x).1 (by simp); simp at this
  | x :: l, y :: m, hl, hm, h => by
    rw [List.pairwise_cons] at hl hm
    have e : x = y := by
      rcases List.mem_cons.1 ((h x).1 (by simp)) with e | e
      · exact e
      · rcases List.mem_cons.1 ((h y).2 (by simp)) with e2 | e2
        · exact e2.symm
        · have := hm.1 x e; have := hl.1 y e2; omega
    subst e
    rw [sorted_ext hl.2 hm.2 (fun z => ?_)]
    constructor
    · intro hz
      rcases List.mem_cons.1 ((h z).1 (by simp [hz])) with e | e
      · have := hl.1 z hz; omega
      · exact e
    · intro hz
      rcases List.mem_cons.1 ((h z).2 (by simp [hz])) with e | e
      · have := hm.1 z hz; omega
      · exact e
theorem upto_mem (l : List Int) (b x : Int) : ∀ k : Nat, x ∈ cameUpto l b k ↔ ∃ j : Nat, j < k ∧ x = b + j ∧ hasW l x = true
  | 0 => by simp [cameUpto]
  | k + 1 => by
    rw [cameUpto, List.mem_append, upto_mem l b x k]
    constructor
    · rintro (⟨j, h1, h2, h3⟩ | h)
      · exact ⟨j, by omega, h2, h3⟩
      · split at h
        · rename_i hh; simp at h; subst h; exact ⟨k, by omega, rfl, hh⟩
        · simp at h
    · rintro ⟨j, h1, h2, h3⟩
      by_cases e : j = k
      · subst e; right; rw [if_pos (by rw [← h2]; exact h3)]; simp [h2]
      · left; exact ⟨j, by omega, h2, h3⟩
theorem upto_sorted (l : List Int) (b : Int) : ∀ k : Nat, (cameUpto l b k).Pairwise (· < ·)
  | 0 => List.Pairwise.nil
  | k + 1 => by
    rw [cameUpto, List.pairwise_append]
    refine ⟨upto_sorted l b k, ?_, fun x hx y hy => ?_⟩
    · split <;> simp
    · obtain ⟨j, h1, h2, _⟩ := (upto_mem l b x k).1 hx
      split at hy
      · simp at hy; subst hy; omega
      · simp at hy
theorem insA_cons (x : Int) (l : List Int) (n : Int) : insA (x :: l) n = if x < n then x :: insA l n else n :: x :: l := by
  unfold insA
  by_cases h : x < n
  · rw [if_pos h]; simp [h]
  · rw [if_neg h]; simp [h]
theorem insA_mem (n x : Int) : ∀ out : List Int, x ∈ insA out n ↔ x = n ∨ x ∈ out
  | [] => by simp [insA]
  | y :: l => by
    rw [insA_cons]
    split
    · rw [List.mem_cons, insA_mem n x l, List.mem_cons]
      constructor
      · rintro (h | h | h)
        · exact .inr (.inl h)
        · exact .inl h
        · exact .inr (.inr h)
      · rintro (h | h | h)
        · exact .inr (.inl h)
        · exact .inl h
        · exact .inr (.inr h)
    · simp
theorem insA_sorted (n : Int) : ∀ out : List Int, out.Pairwise (· < ·) → n ∉ out → (insA out n).Pairwise (· < ·)
  | [], _, _ => by simp [insA]
  | y :: l, h, hn => by
    rw [List.pairwise_cons] at h
    rw [insA_cons]
    split
    · rename_i hlt
      rw [List.pairwise_cons]
      refine ⟨fun z hz => ?_, insA_sorted n l h.2 (fun hm => hn (by simp [hm]))⟩
      rcases (insA_mem n z l).1 hz with e | e
      · omega
      · exact h.1 z e
    · rename_i hlt
      have hyn : y ≠ n := fun e => hn (by simp [e])
      rw [List.pairwise_cons]
      refine ⟨fun z hz => ?_, List.pairwise_cons.2 h⟩
      rcases List.mem_cons.1 hz with e | e
      · omega
      · have := h.1 z e; omega
theorem cameAU_mem (T z : Int) (A : List Int) (x : Int) : ∀ i : Nat, x ∈ cameAU T z A i ↔ ∃ j, j < i ∧ A.getD j 0 = x ∧ ¬ (T - 1 - x ≥ z)
  | 0 => by simp [cameAU]
  | i + 1 => by
    rw [cameAU]
    split
    · rename_i h
      rw [cameAU_mem T z A x i]
      constructor
      · rintro ⟨j, h1, h2⟩; exact ⟨j, by omega, h2⟩
      · rintro ⟨j, h1, h2, h3⟩
        by_cases e : j = i
        · subst e; rw [h2] at h; exact absurd h h3
        · exact ⟨j, by omega, h2, h3⟩
    · rename_i h
      rw [insA_mem, cameAU_mem T z A x i]
      constructor
      · rintro (e | ⟨j, h1, h2⟩)
        · exact ⟨i, by omega, e.symm, by rw [e]; exact h⟩
        · exact ⟨j, by omega, h2⟩
      · rintro ⟨j, h1, h2, h3⟩
        by_cases e : j = i
        · subst e; exact .inl h2.symm
        · exact .inr ⟨j, by omega, h2, h3⟩
theorem nodup_getD {A : List Int} (h : A.Nodup) {i j : Nat} (hi : i < A.length) (hj : j < A.length) (e : A.getD i 0 = A.getD j 0) : i = j := by
  have h1 : A.getD i 0 = A[i] := by simp [List.getD, hi]
  have h2 : A.getD j 0 = A[j] := by simp [List.getD, hj]
  rw [h1, h2] at e
  exact (List.getElem_inj h).1 e
theorem cameAU_sorted (T z : Int) {A : List Int} (hA : A.Nodup) : ∀ i : Nat, i ≤ A.length → (cameAU T z A i).Pairwise (· < ·)
  | 0, _ => List.Pairwise.nil
  | i + 1, hi => by
    rw [cameAU]
    split
    · exact cameAU_sorted T z hA i (by omega)
    · refine insA_sorted _ _ (cameAU_sorted T z hA i (by omega)) (fun hm => ?_)
      obtain ⟨j, h1, h2, _⟩ := (cameAU_mem T z A _ i).1 hm
      have := nodup_getD hA (by omega) (by omega) h2
      omega
theorem came_eq {M z t : Int} {l A : List Int} (h : Rel M z t l A) (hz : 1 ≤ z) : cameW z t l = cameA z A := by
  have ht := h.t0
  apply sorted_ext (upto_sorted _ _ _) (cameAU_sorted _ _ h.nodup _ (Nat.le_refl _))
  intro x
  rw [upto_mem, cameAU_mem, ← h.top]
  constructor
  · rintro ⟨j, h1, h2, h3⟩
    have hx : x ∈ A := (has_iff h hz (by omega) (by omega) (by omega)).1 h3
    obtain ⟨i, hi, he⟩ := mem_getD hx
    exact ⟨i, hi, he, by omega⟩
  · rintro ⟨i, hi, he, h2⟩
    have hx : x ∈ A := by rw [← he]; exact getD_mem' hi
    have h3 := lt_top hx
    rw [← h.top] at h3
    have h4 := (h.range x hx).1
    exact ⟨(x - (t - (min t.toNat (max z.toNat 1) : Nat))).toNat, by omega, by omega, (has_iff h hz (by omega) h4 (by omega)).2 hx⟩
end Go.Proofs.Ytjbagkimpmpfgaa

