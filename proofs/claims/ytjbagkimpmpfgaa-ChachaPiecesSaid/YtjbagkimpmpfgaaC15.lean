/- Chacha: the law of the streams, walked. -/
import Derived.Test.YtjbagkimpmpfgaaC14
namespace Go.Proofs.Ytjbagkimpmpfgaa
open Go Go.Mx
set_option maxRecDepth 100000
set_option maxHeartbeats 4000000

theorem no_selfU {p : Prop} (l : List UInt8) (h : (l == l) = false) : p := by simp at h
def envV : Env := fun f => match f with
  | 31 => some c31
  | 32 => some c32
  | 33 => some c33
  | 34 => some c34
  | 35 => some c35
  | 36 => some c36
  | 37 => some c37
  | _ => none
theorem envV_ok : EnvOk Try.prog envV := by
  intro f c h
  unfold envV at h
  split at h
  · simp only [Option.some.injEq] at h; subst h; exact m31
  · simp only [Option.some.injEq] at h; subst h; exact m32
  · simp only [Option.some.injEq] at h; subst h; exact m33
  · simp only [Option.some.injEq] at h; subst h; exact m34
  · simp only [Option.some.injEq] at h; subst h; exact m35
  · simp only [Option.some.injEq] at h; subst h; exact m36
  · simp only [Option.some.injEq] at h; subst h; exact m37
  · cases h
def c6 : Ctr := fun args objs => match args, objs with
  | [.agg [.ints .u8 k 32], .one (.int .u32 c), .one (.str s)], [] => some ⟨[allB k, k.length = 32, isW c, s.size ≤ 9223372036854775807], .v (.one (.bool true true)), [], []⟩
  | _, _ => none
theorem m6 : Meets Try.prog 6 c6 := by
  refine meets_of_run2 tab_ok envV_ok mixed [.tmp 6] Try.func6 rfl Try.ntmps6 Try.call6 (fun t w => by simp [results, Try.results6, resS, rv1]) ?_
  intro args objs r hr hcs
  unfold c6 at hr
  split at hr
  · rename_i k c s
    simp only [Option.some.injEq] at hr; subst hr
    obtain ⟨h1, h2, h3, h4, _⟩ := hcs
    refine ⟨rfl, ?_⟩
    conv => whnf
    dsimp only
    generalize hx : splI _ _ _ = X
    have hX : allB X := by rw [← hx]; exact allB_splI (allB_zeros 12) (allB_take (allB_take (allB_drop h1 _) _) _) _
    have hXL : X.length = 12 := by
      rw [← hx, splI_length]
      · rfl
      · simp; omega
    have hT : ofL (streamI k c X (bl (ofL (streamI k c X (bl s))))) = s := by
      rw [bl_ofL (streamI_B _ _ _ _), streamI_twice _ _ _ (bl_B s), ofL_bl]
    have hZ : (ofL (streamI k c X (bl s))).size ≤ 9223372036854775807 := by
      rw [ofL_size, streamI_len, bl_length]; exact h4
    refine ⟨?_, fun _ => ?_, fun h => no_selfU _ h⟩
    · repeat' apply And.intro
      all_goals first
        | exact True.intro
        | exact h1
        | exact h2
        | exact h3
        | exact h4
        | exact hX
        | exact hXL
        | omega
        | decide +kernel
        | rfl
        | exact Nat.le_of_ble_eq_true rfl
        | (dsimp only; omega)
        | trace_state
    conv => whnf
    rw [hT]
    refine ⟨?_, fun _ => ?_, fun h => no_selfU _ h⟩
    · repeat' apply And.intro
      all_goals first
        | exact True.intro
        | exact h1
        | exact h2
        | exact h3
        | exact hZ
        | exact hX
        | exact hXL
        | omega
        | decide +kernel
        | rfl
        | exact Nat.le_of_ble_eq_true rfl
        | (dsimp only; omega)
        | trace_state
    conv => whnf
    refine ⟨?_, rfl, [], [], rfl, ⟨rfl, trivial⟩, trivial⟩
    repeat' apply And.intro
    all_goals first
      | exact True.intro
      | omega
      | decide +kernel
      | rfl
      | exact Nat.le_of_ble_eq_true rfl
      | (dsimp only; omega)
      | trace_state
  · cases hr
end Go.Proofs.Ytjbagkimpmpfgaa

