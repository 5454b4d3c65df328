/- Replay: the plain law: a window and all that ever came say the same. -/
import Derived.Test.YtjbagkimpmpfgaaR8
namespace Go.Proofs.Ytjbagkimpmpfgaa
open Go Go.Mx
set_option maxRecDepth 100000
set_option maxHeartbeats 4000000

structure Rel (M z t : Int) (l A : List Int) : Prop where
  U : allU l
  len : l.length = 0 ∨ l.length = wordsW z
  nil : l.length = 0 → A = []
  top : t = topA A
  range : ∀ x ∈ A, 0 ≤ x ∧ x < M
  nodup : A.Nodup
  bits : l.length ≠ 0 → ∀ x : Int, 0 ≤ x → x < t → t - x ≤ ((l.length * 64 : Nat) : Int) → (bitP l (x.toNat % (l.length * 64)) = true ↔ x ∈ A)

theorem mem_getD {A : List Int} {x : Int} (h : x ∈ A) : ∃ i, i < A.length ∧ A.getD i 0 = x := by
  obtain ⟨i, hi, rfl⟩ := List.mem_iff_getElem.1 h
  exact ⟨i, hi, by simp [List.getD, hi]⟩
theorem getD_mem' {A : List Int} {i : Nat} (h : i < A.length) : A.getD i 0 ∈ A := by
  rw [show A.getD i 0 = A[i] by simp [List.getD, h]]; exact List.getElem_mem h
theorem lt_top {A : List Int} {x : Int} (h : x ∈ A) : x + 1 ≤ topA A := by
  obtain ⟨i, hi, rfl⟩ := mem_getD h
  exact topA_gt A hi
theorem topU_mem (A : List Int) : ∀ i, topU A i = 0 ∨ ∃ j, j < i ∧ topU A i = A.getD j 0 + 1
  | 0 => .inl rfl
  | i + 1 => by
    rw [topU]
    split
    · exact .inr ⟨i, by omega, rfl⟩
    · rcases topU_mem A i with h | ⟨j, hj, h⟩
      · exact .inl h
      · exact .inr ⟨j, by omega, h⟩
theorem top_mem (A : List Int) : topA A = 0 ∨ topA A - 1 ∈ A := by
  rcases topU_mem A A.length with h | ⟨j, hj, h⟩
  · exact .inl h
  · right
    unfold topA
    rw [h, Int.add_sub_cancel]
    exact getD_mem' hj
theorem topU_app (A B : List Int) : ∀ i, i ≤ A.length → topU (A ++ B) i = topU A i
  | 0, _ => rfl
  | i + 1, h => by
    rw [topU, topU, topU_app A B i (by omega)]
    have : (A ++ B).getD i 0 = A.getD i 0 := by simp [List.getD, List.getElem?_append_left (show i < A.length by omega)]
    rw [this]
theorem top_snoc (A : List Int) (n : Int) : topA (A ++ [n]) = if n + 1 > topA A then n + 1 else topA A := by
  unfold topA
  rw [List.length_append]
  show topU (A ++ [n]) (A.length + 1) = _
  rw [topU, topU_app A [n] _ (Nat.le_refl _)]
  have : (A ++ [n]).getD A.length 0 = n := by simp [List.getD]
  rw [this]
theorem top_nonneg (A : List Int) (h : ∀ x ∈ A, 0 ≤ x) : 0 ≤ topA A := by
  rcases top_mem A with e | e
  · omega
  · have := h _ e; omega
theorem Rel.allN {M z t : Int} {l A : List Int} (h : Rel M z t l A) (hM : M ≤ 18446744073709551615) : allN A := fun i hi => by
  have := h.range _ (getD_mem' hi); omega
theorem Rel.allUA {M z t : Int} {l A : List Int} (h : Rel M z t l A) (hM : M ≤ 18446744073709551615) : allU A := fun i hi => by
  have := h.range _ (getD_mem' hi); exact ⟨by omega, by omega⟩
theorem Rel.t0 {M z t : Int} {l A : List Int} (h : Rel M z t l A) : 0 ≤ t := by rw [h.top]; exact top_nonneg A (fun x hx => (h.range x hx).1)
theorem Rel.tM {M z t : Int} {l A : List Int} (h : Rel M z t l A) (hM : 0 ≤ M) : t ≤ M := by
  rw [h.top]
  rcases top_mem A with e | e
  · omega
  · have := (h.range _ e).2; omega
theorem Rel.tnil {M z t : Int} {l A : List Int} (h : Rel M z t l A) (hl : l.length = 0) : t = 0 := by rw [h.top, h.nil hl]; rfl
theorem Rel.small {M z t : Int} {l A : List Int} (h : Rel M z t l A) (hz : 1 ≤ z ∧ z ≤ 8192) : l.length ≤ 1000 := by
  rcases h.len with e | e
  · omega
  · rw [e]; unfold wordsW; rw [imax_nat (by omega)]; omega
theorem Rel.start (M z : Int) : Rel M z 0 [] [] := ⟨fun i hi => by simp at hi, .inl rfl, fun _ => rfl, rfl, fun x hx => by simp at hx, List.nodup_nil, fun h => absurd rfl h⟩
theorem words_ge {z : Int} (hz : 1 ≤ z) : z ≤ ((wordsW z * 64 : Nat) : Int) ∧ 0 < wordsW z := by
  unfold wordsW; rw [imax_nat (by omega)]; omega

theorem inA_iff {A : List Int} {n : Int} : inA A n = true ↔ n ∈ A := by
  unfold inA; rw [List.any_eq_true]
  constructor
  · rintro ⟨x, hx, he⟩; rw [← eq_of_beq he]; exact hx
  · intro h; exact ⟨n, h, by simp⟩
theorem lateA_iff {z : Int} {A : List Int} {n : Int} : lateA z A n = true ↔ ∃ x ∈ A, x > n ∧ x - n ≥ z := by
  unfold lateA; rw [List.any_eq_true]
  constructor
  · rintro ⟨x, hx, he⟩
    rw [Bool.and_eq_true, decide_eq_true_eq, decide_eq_true_eq] at he
    exact ⟨x, hx, he⟩
  · rintro ⟨x, hx, he⟩
    exact ⟨x, hx, by rw [Bool.and_eq_true, decide_eq_true_eq, decide_eq_true_eq]; exact he⟩
theorem late_iff {M z t : Int} {l A : List Int} (h : Rel M z t l A) (hz : 1 ≤ z) {n : Int} (hn : n < t) (h0 : 0 ≤ n) : lateA z A n = true ↔ t - 1 - n ≥ z := by
  rw [lateA_iff]
  constructor
  · rintro ⟨x, hx, _, h2⟩
    have := lt_top hx
    rw [← h.top] at this; omega
  · intro h2
    rcases top_mem A with e | e
    · rw [← h.top] at e; omega
    · rw [← h.top] at e
      exact ⟨t - 1, e, by omega, by omega⟩
theorem has_iff {M z t : Int} {l A : List Int} (h : Rel M z t l A) (hz : 1 ≤ z) {n : Int} (hn : n < t) (h0 : 0 ≤ n) (hl : t - 1 - n < z) : hasW l n = true ↔ n ∈ A := by
  have hne : l.length ≠ 0 := fun e => by have := h.tnil e; omega
  have hw : l.length = wordsW z := by rcases h.len with e | e; exact absurd e hne; exact e
  have := words_ge hz
  unfold hasW
  rw [beq_eq_false_iff_ne.2 hne, Bool.not_false, Bool.true_and]
  exact h.bits hne n h0 hn (by rw [hw]; omega)
theorem fresh_eq {M z t : Int} {l A : List Int} (h : Rel M z t l A) (hz : 1 ≤ z) {n : Int} (h0 : 0 ≤ n) : freshW M z t l n = freshA M z A n := by
  unfold freshW freshA
  have hz' : imax z 1 = z := by unfold imax; split <;> omega
  rw [hz']
  congr 1
  by_cases hn : n ≥ t
  · have i1 : inA A n = false := by
      rw [Bool.eq_false_iff, ne_eq, inA_iff]
      intro hx; have := lt_top hx; rw [← h.top] at this; omega
    have i2 : lateA z A n = false := by
      rw [Bool.eq_false_iff, ne_eq, lateA_iff]
      rintro ⟨x, hx, h1, _⟩; have := lt_top hx; rw [← h.top] at this; omega
    rw [i1, i2, decide_eq_true hn]; rfl
  · rw [decide_eq_false hn, Bool.false_or]
    by_cases hl : t - 1 - n < z
    · have i2 : lateA z A n = false := by
        rw [Bool.eq_false_iff, ne_eq, late_iff h hz (by omega) h0]; omega
      have i1 : hasW l n = inA A n := by
        rw [Bool.eq_iff_iff, has_iff h hz (by omega) h0 hl, inA_iff]
      rw [decide_eq_true hl, i1, i2, Bool.true_and, Bool.not_false, Bool.and_true]
    · have i2 : lateA z A n = true := by rw [late_iff h hz (by omega) h0]; omega
      rw [decide_eq_false hl, i2, Bool.false_and, Bool.not_true, Bool.and_false]

theorem mod_eq_iff {B : Nat} {x y : Int} (hx : 0 ≤ x) (hy : 0 ≤ y) (h1 : x - y < (B : Int)) (h2 : y - x < (B : Int)) : x.toNat % B = y.toNat % B ↔ x = y := by
  constructor
  · intro h
    rcases Int.lt_or_le x y with hl | hl
    · exfalso
      have : (y.toNat - x.toNat) % B = 0 := Nat.sub_mod_eq_zero_of_mod_eq h.symm
      have hd := Nat.dvd_of_mod_eq_zero this
      have := Nat.le_of_dvd (by omega) hd
      omega
    · rcases Int.lt_or_le y x with hl2 | hl2
      · exfalso
        have : (x.toNat - y.toNat) % B = 0 := Nat.sub_mod_eq_zero_of_mod_eq h
        have hd := Nat.dvd_of_mod_eq_zero this
        have := Nat.le_of_dvd (by omega) hd
        omega
      · omega
  · intro h; rw [h]
/-- A fresh counter is taken. -/
theorem take_rel {M z t : Int} {l A : List Int} (h : Rel M z t l A) (hz : 1 ≤ z ∧ z ≤ 8192) {n : Int} (h0 : 0 ≤ n) (hM : n ≤ M) (hf : freshA M z A n = true) : Rel M z (takeT M z t l n) (takeL M z t l n) (A ++ [n]) := by
  have hf' : freshW M z t l n = true := by rw [fresh_eq h hz.1 h0]; exact hf
  obtain ⟨hnM, hnA, hnl⟩ : n ≠ M ∧ n ∉ A ∧ ¬ lateA z A n = true := by
    unfold freshA at hf
    rw [Bool.and_eq_true, Bool.and_eq_true, Bool.not_eq_true', Bool.not_eq_true', Bool.not_eq_true'] at hf
    refine ⟨fun e => ?_, fun e => ?_, fun e => ?_⟩
    · rw [e] at hf; simp at hf
    · rw [inA_iff.2 e] at hf; simp at hf
    · rw [e] at hf; simp at hf
  obtain ⟨r, hr⟩ : ∃ r, r = rowW z l := ⟨_, rfl⟩
  have hrl : r.length = wordsW z := by
    rw [hr]; unfold rowW
    split
    · simp
    · rename_i e
      rcases h.len with e2 | e2
      · exact absurd e2 e
      · exact e2
  have hrU : allU r := by rw [hr]; exact rowW_U h.U
  obtain ⟨w1, w2⟩ := words_ge hz.1
  have ht0 := h.t0
  have hrb : ∀ x : Int, 0 ≤ x → x < t → t - x ≤ ((r.length * 64 : Nat) : Int) → (bitP r (x.toNat % (r.length * 64)) = true ↔ x ∈ A) := by
    intro x hx0 hx1 hx2
    by_cases e : l.length = 0
    · have := h.tnil e; omega
    · have er : r = l := by rw [hr]; unfold rowW; rw [if_neg e]
      rw [er] at hx2 ⊢
      exact h.bits e x hx0 hx1 hx2
  have eL : takeL M z t l n = setB (if n ≥ t then goneW t r n else r) (n.toNat % (r.length * 64)) := by unfold takeL; rw [if_pos hf', hr]
  have eT : takeT M z t l n = if n ≥ t then n + 1 else t := by unfold takeT; rw [hf']; simp
  have hB : ((r.length * 64 : Nat) : Int) ≥ 64 := by omega
  have hp := Nat.mod_lt n.toNat (show 0 < r.length * 64 by omega)
  -- the row ahead of the last bit
  obtain ⟨g, hg⟩ : ∃ g, g = (if n ≥ t then goneW t r n else r) := ⟨_, rfl⟩
  have hgl : g.length = r.length := by rw [hg]; split; exact goneW_len _ _ _; rfl
  have hgU : allU g := by
    rw [hg]; split
    · exact goneW_U hrU (by omega)
    · exact hrU
  have hgb : ∀ x : Int, 0 ≤ x → x < (if n ≥ t then n + 1 else t) → (if n ≥ t then n + 1 else t) - x ≤ ((r.length * 64 : Nat) : Int) → x ≠ n → (bitP g (x.toNat % (r.length * 64)) = true ↔ x ∈ A) := by
    intro x hx0 hx1 hx2 hxn
    by_cases hnt : n ≥ t
    · rw [if_pos hnt] at hg hx1 hx2
      have hxA : x ≥ t → x ∉ A := fun hx hm => by have := lt_top hm; rw [← h.top] at this; omega
      unfold goneW at hg
      split at hg
      · rw [hg, bitP_zeros]
        constructor
        · intro e; cases e
        · intro e; exact absurd e (hxA (by omega))
      · rw [hg, bitP_clrFrom hrU rfl (by omega)]
        by_cases hxt : x ≥ t
        · constructor
          · rintro ⟨_, h2⟩
            exfalso
            refine h2 (x - t).toNat (by omega) ?_
            congr 1; omega
          · intro e; exact absurd e (hxA hxt)
        · rw [hrb x hx0 (by omega) (by omega)]
          constructor
          · exact fun h => h.1
          · intro e
            refine ⟨e, fun j hj hc => ?_⟩
            have hc' : ((t + j : Int)).toNat % (r.length * 64) = x.toNat % (r.length * 64) := by
              rw [← hc]; congr 1; omega
            have := (mod_eq_iff (B := r.length * 64) (x := t + j) (y := x) (by omega) hx0 (by omega) (by omega)).1 hc'
            omega
    · rw [if_neg hnt] at hg hx1 hx2
      rw [hg]; exact hrb x hx0 hx1 hx2
  have etop : (if n ≥ t then n + 1 else t) = topA (A ++ [n]) := by
    rw [top_snoc, ← h.top]
    by_cases hnt : n ≥ t
    · rw [if_pos hnt, if_pos (by omega)]
    · rw [if_neg hnt]
      split <;> omega
  have hnear : n < t → t - n ≤ z := fun hn => by
    have := mt (late_iff h hz.1 hn h0).2 hnl; omega
  rw [eT, eL, ← hg]
  refine ⟨setB_U hgU (by omega), .inr (by rw [setB_len, hgl, hrl]), fun e => ?_, etop, fun x hx => ?_, ?_, fun _ x hx0 hx1 hx2 => ?_⟩
  · rw [setB_len, hgl] at e; omega
  · rcases List.mem_append.1 hx with hx | hx
    · exact h.range x hx
    · simp at hx; subst hx; omega
  · rw [List.nodup_append]
    refine ⟨h.nodup, by simp, fun a ha b hb e => ?_⟩
    simp at hb; subst hb; subst e; exact hnA ha
  · rw [setB_len, hgl] at hx2 ⊢
    rw [bitP_setB hgU (by rw [hgl]; omega), List.mem_append, List.mem_singleton, Bool.or_eq_true, decide_eq_true_eq]
    by_cases hxn : x = n
    · subst hxn; simp
    · rw [hgb x hx0 hx1 hx2 hxn]
      have hmod : n.toNat % (r.length * 64) = x.toNat % (r.length * 64) ↔ n = x := by
        apply mod_eq_iff h0 hx0
        · by_cases hnt : n ≥ t
          · rw [if_pos hnt] at hx1 hx2; omega
          · rw [if_neg hnt] at hx1 hx2; omega
        · by_cases hnt : n ≥ t
          · rw [if_pos hnt] at hx1 hx2; omega
          · rw [if_neg hnt] at hx1 hx2
            have := hnear (by omega)
            omega
      rw [hmod]
      constructor
      · rintro (h | h)
        · exact .inl h
        · exact absurd h.symm hxn
      · rintro (h | h)
        · exact .inl h
        · exact absurd h hxn
/-- The same, said of both sides at once. -/
theorem step_rel {M z t : Int} {l A : List Int} (h : Rel M z t l A) (hz : 1 ≤ z ∧ z ≤ 8192) {n : Int} (h0 : 0 ≤ n) (hM : n ≤ M) : Rel M z (takeT M z t l n) (takeL M z t l n) (takeA M z A n) := by
  by_cases hf : freshA M z A n = true
  · have : takeA M z A n = A ++ [n] := by unfold takeA; rw [if_pos hf]
    rw [this]; exact take_rel h hz h0 hM hf
  · have hf' : freshW M z t l n = false := by rw [fresh_eq h hz.1 h0]; simpa using hf
    have e1 : takeA M z A n = A := by unfold takeA; rw [if_neg hf]
    have e2 : takeL M z t l n = l := by unfold takeL; rw [if_neg (by rw [hf']; decide)]
    have e3 : takeT M z t l n = t := by unfold takeT; rw [if_neg (by rw [hf']; simp)]
    rw [e1, e2, e3]; exact h
theorem takeA_len (la z : Int) (A : List Int) (n : Int) : (takeA la z A n).length ≤ A.length + 1 := by
  unfold takeA; split <;> simp
end Go.Proofs.Ytjbagkimpmpfgaa

