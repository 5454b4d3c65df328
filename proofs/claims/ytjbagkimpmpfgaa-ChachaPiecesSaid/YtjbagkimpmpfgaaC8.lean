/- Chacha: the document's bytes, words, square and rounds. -/
import Derived.Test.YtjbagkimpmpfgaaC7
import Derived.Test.YtjbagkimpmpfgaaRun
namespace Go.Proofs.Ytjbagkimpmpfgaa
open Go Go.Mx
set_option maxRecDepth 100000
set_option maxHeartbeats 4000000

/-! ### Four bytes of a word -/
theorem iq {x d : Int} (h : isW x) (hd : 0 < d) : iquo .i64 x d = x / d := by
  obtain ⟨h1, h2⟩ := h
  have h3 := Int.ediv_le_self d h1
  have h4 := Int.ediv_nonneg h1 (Int.le_of_lt hd)
  rw [iquo, Int.tdiv_eq_ediv_of_nonneg h1, i64_in]
  omega
theorem four_of {x : Int} (h : isW x) : [conv .u8 x, conv .u8 (iquo .i64 x 256), conv .u8 (iquo .i64 x 65536), conv .u8 (iquo .i64 x 16777216)] = four x := by
  rw [iq h (by decide), iq h (by decide), iq h (by decide), byte0, byte0, byte0, byte0]; rfl
theorem four_len (x : Int) : (four x).length = 4 := rfl
theorem four_B (x : Int) : allB (four x) := by
  intro i hi
  rw [four_len] at hi
  match i, hi with
  | 0, _ => exact ⟨Int.emod_nonneg _ (by decide), Int.emod_lt_of_pos _ (by decide)⟩
  | 1, _ => exact ⟨Int.emod_nonneg _ (by decide), Int.emod_lt_of_pos _ (by decide)⟩
  | 2, _ => exact ⟨Int.emod_nonneg _ (by decide), Int.emod_lt_of_pos _ (by decide)⟩
  | 3, _ => exact ⟨Int.emod_nonneg _ (by decide), Int.emod_lt_of_pos _ (by decide)⟩
theorem word4_four {x : Int} (h : isW x) (r : List Int) : word4 (four x ++ r) 0 = x := by
  obtain ⟨h1, h2⟩ := h
  show x % 256 + 256 * (x / 256 % 256) + 65536 * (x / 65536 % 256) + 16777216 * (x / 16777216 % 256) = x
  omega
theorem getD_left {a b : List Int} {k : Nat} (h : k < a.length) : (a ++ b).getD k 0 = a.getD k 0 := by simp [List.getD, List.getElem?_append_left h]
theorem getD_right {a b : List Int} {n k : Nat} (h : a.length = n) : (a ++ b).getD (n + k) 0 = b.getD k 0 := by simp [List.getD, List.getElem?_append_right (show a.length ≤ n + k by omega), h]
theorem word4_left {a b : List Int} {k : Nat} (h : k + 4 ≤ a.length) : word4 (a ++ b) k = word4 a k := by
  unfold word4
  rw [getD_left (by omega), getD_left (by omega), getD_left (by omega), getD_left (by omega)]
theorem word4_right {a b : List Int} {n k : Nat} (h : a.length = n) : word4 (a ++ b) (n + k) = word4 b k := by
  unfold word4
  rw [Nat.add_assoc n k 1, Nat.add_assoc n k 2, Nat.add_assoc n k 3, getD_right h, getD_right h, getD_right h, getD_right h]
theorem allB_app {a b : List Int} (ha : allB a) (hb : allB b) : allB (a ++ b) := by
  intro i hi
  by_cases h : i < a.length
  · rw [getD_left h]; exact ha i h
  · obtain ⟨k, rfl⟩ : ∃ k, i = a.length + k := ⟨i - a.length, by omega⟩
    rw [getD_right rfl]; exact hb k (by rw [List.length_append] at hi; omega)

theorem sum4 {a b c d : Int} (ha : isB a) (hb : isB b) (hc : isB c) (hd : isB d) :
    isum .i64 (isum .i64 (isum .i64 (conv .i64 a) (imul .i64 256 (conv .i64 b))) (imul .i64 65536 (conv .i64 c))) (imul .i64 16777216 (conv .i64 d)) = a + 256 * b + 65536 * c + 16777216 * d := by
  obtain ⟨a1, a2⟩ := ha; obtain ⟨b1, b2⟩ := hb; obtain ⟨c1, c2⟩ := hc; obtain ⟨d1, d2⟩ := hd
  have ca : conv .i64 a = a := by rw [conv, i64_in]; omega
  have cb : conv .i64 b = b := by rw [conv, i64_in]; omega
  have cc : conv .i64 c = c := by rw [conv, i64_in]; omega
  have cd : conv .i64 d = d := by rw [conv, i64_in]; omega
  have mb : imul .i64 256 b = 256 * b := by rw [imul, i64_in]; omega
  have mc : imul .i64 65536 c = 65536 * c := by rw [imul, i64_in]; omega
  have md : imul .i64 16777216 d = 16777216 * d := by rw [imul, i64_in]; omega
  have s1 : isum .i64 a (256 * b) = a + 256 * b := by rw [isum, i64_in]; omega
  have s2 : isum .i64 (a + 256 * b) (65536 * c) = a + 256 * b + 65536 * c := by rw [isum, i64_in]; omega
  have s3 : isum .i64 (a + 256 * b + 65536 * c) (16777216 * d) = a + 256 * b + 65536 * c + 16777216 * d := by rw [isum, i64_in]; omega
  rw [ca, cb, cc, cd, mb, mc, md, s1, s2, s3]

/-! ### The square out of its bytes -/
def consB : List Int := [101, 120, 112, 97, 110, 100, 32, 51, 50, 45, 98, 121, 116, 101, 32, 107]
def wordsI (l : List Int) (n : Nat) : List Int := (List.range n).map (fun j => word4 l (4 * j))
theorem wordsI_snoc (l : List Int) (n : Nat) : wordsI l (n + 1) = wordsI l n ++ [word4 l (4 * n)] := by simp [wordsI, List.range_succ]
theorem wordsI_len (l : List Int) (n : Nat) : (wordsI l n).length = n := by simp [wordsI]
theorem consB_B : allB consB := by
  intro i hi
  have : ∀ i, i < 16 → (0 ≤ consB.getD i 0 ∧ consB.getD i 0 < 256) := by decide
  exact ⟨(this i hi).1, (this i hi).2⟩
theorem square_words {k m : List Int} (hk : k.length = 32) : wordsI (consB ++ k ++ m) 16 = squareI k (fourW m) := by
  have hL : (consB ++ k).length = 48 := by rw [List.length_append, hk]; rfl
  have A : ∀ j, j + 4 ≤ 16 → word4 (consB ++ k ++ m) j = word4 consB j := fun j hj => by
    rw [word4_left (by omega), word4_left (by exact hj)]
  have B : ∀ j, j + 4 ≤ 32 → word4 (consB ++ k ++ m) (16 + j) = word4 k j := fun j hj => by
    rw [word4_left (by omega), word4_right (show consB.length = 16 from rfl)]
  have C : ∀ j, word4 (consB ++ k ++ m) (48 + j) = word4 m j := fun j => word4_right hL
  generalize hl : consB ++ k ++ m = L at A B C
  show [word4 L 0, word4 L 4, word4 L 8, word4 L 12, word4 L (16 + 0), word4 L (16 + 4), word4 L (16 + 8), word4 L (16 + 12), word4 L (16 + 16), word4 L (16 + 20), word4 L (16 + 24), word4 L (16 + 28), word4 L (48 + 0), word4 L (48 + 4), word4 L (48 + 8), word4 L (48 + 12)] = _
  rw [A 0 (by omega), A 4 (by omega), A 8 (by omega), A 12 (by omega), B 0 (by omega), B 4 (by omega), B 8 (by omega), B 12 (by omega), B 16 (by omega), B 20 (by omega), B 24 (by omega), B 28 (by omega), C, C, C, C]
  rfl

/-! ### The rounds, half by half -/
def half1 (l : List Int) : Nat → List Int
  | 0 => l
  | n + 1 => quarterAt (half1 l n) n (4 + n) (8 + n) (12 + n)
def half2 (l : List Int) : Nat → List Int
  | 0 => l
  | n + 1 => quarterAt (half2 l n) n (4 + (n + 1) % 4) (8 + (n + 2) % 4) (12 + (n + 3) % 4)
theorem half1_len (l : List Int) : ∀ n, (half1 l n).length = l.length
  | 0 => rfl
  | n + 1 => by rw [half1, quarterAt_len, half1_len l n]
theorem half2_len (l : List Int) : ∀ n, (half2 l n).length = l.length
  | 0 => rfl
  | n + 1 => by rw [half2, quarterAt_len, half2_len l n]
theorem half1_W {l : List Int} (h : allW l) : ∀ n, allW (half1 l n)
  | 0 => h
  | n + 1 => quarterAt_W (half1_W h n) _ _ _ _
theorem half2_W {l : List Int} (h : allW l) : ∀ n, allW (half2 l n)
  | 0 => h
  | n + 1 => quarterAt_W (half2_W h n) _ _ _ _
/-- The two halves of a double round, as functions that nothing unfolds. -/
theorem halves {m : List Int} (hW : allW m) (hL : m.length = 16) : ∃ h g : Nat → List Int, h 0 = m ∧ (∀ k, h (k + 1) = quarterAt (h k) k (4 + k) (8 + k) (12 + k)) ∧ g 0 = h 4 ∧
    (∀ k, g (k + 1) = quarterAt (g k) k (4 + (k + 1) % 4) (8 + (k + 2) % 4) (12 + (k + 3) % 4)) ∧ g 4 = dbl m ∧ (∀ k, allW (h k)) ∧ (∀ k, (h k).length = 16) ∧ (∀ k, allW (g k)) ∧ (∀ k, (g k).length = 16) :=
  ⟨half1 m, half2 (half1 m 4), rfl, fun _ => rfl, rfl, fun _ => rfl, rfl, half1_W hW, fun k => (half1_len m k).trans hL, half2_W (half1_W hW 4), fun k => (half2_len _ k).trans ((half1_len m 4).trans hL)⟩
theorem dbl_halves (l : List Int) : half2 (half1 l 4) 4 = dbl l := rfl
end Go.Proofs.Ytjbagkimpmpfgaa

