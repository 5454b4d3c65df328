/- Chacha: the law of the blocks, walked. -/
import Derived.Test.YtjbagkimpmpfgaaC10
import Derived.Test.YtjbagkimpmpfgaaFrame
namespace Go.Proofs.Ytjbagkimpmpfgaa
open Go Go.Mx
set_option maxRecDepth 100000
set_option maxHeartbeats 4000000

theorem allB_of {l : List Int} (h : ∀ x ∈ l, isB x) : allB l := fun i hi => by
  rw [show l.getD i 0 = l[i] by simp [List.getD, hi]]
  exact h _ (List.getElem_mem hi)
theorem of_allB {l : List Int} (h : allB l) : ∀ x ∈ l, isB x := fun x hx => by
  obtain ⟨i, hi, rfl⟩ := List.mem_iff_getElem.1 hx
  have := h i hi
  rwa [show l.getD i 0 = l[i] by simp [List.getD, hi]] at this
theorem allB_zeros (n : Nat) : allB (List.replicate n 0) := allB_of fun x hx => by rw [List.eq_of_mem_replicate hx]; exact ⟨by decide, by decide⟩
theorem allB_take {l : List Int} (h : allB l) (n : Nat) : allB (l.take n) := allB_of fun x hx => of_allB h x (List.mem_of_mem_take hx)
theorem allB_drop {l : List Int} (h : allB l) (n : Nat) : allB (l.drop n) := allB_of fun x hx => of_allB h x (List.mem_of_mem_drop hx)
theorem allB_splI {l m : List Int} (h : allB l) (hm : allB m) (n : Nat) : allB (splI l n m) := allB_app (allB_app (allB_take h n) hm) (allB_drop h _)
theorem allB_set {l : List Int} (h : allB l) {x : Int} (hx : isB x) (n : Nat) : allB (l.set n x) := allB_of fun y hy => by
  rcases List.mem_or_eq_of_mem_set hy with hy | rfl
  · exact of_allB h y hy
  · exact hx
theorem u8_B (x : Int) : isB (conv .u8 x) := by rw [byte0]; exact ⟨Int.emod_nonneg _ (by decide), Int.emod_lt_of_pos _ (by decide)⟩
theorem no_selfL {p : Prop} (l : List Int) (h : (l == l) = false) : p := by simp at h
theorem wfB {l : List Int} (h : ∀ x ∈ l, (Lit.int .u8 x).wf = true) : allB l := allB_of fun x hx => ⟨(bounds_u8 (h x hx)).1, by have := (bounds_u8 (h x hx)).2; omega⟩
theorem wfW {x : Int} (h : (Lit.int .u32 x).wf = true) : isW x := ⟨(bounds_u32 h).1, by have := (bounds_u32 h).2; omega⟩
def envM : Env := fun f => match f with
  | 31 => some c31
  | 32 => some c32
  | 33 => some c33
  | 34 => some c34
  | 35 => some c35
  | _ => none
theorem envM_ok : EnvOk Try.prog envM := by
  intro f c h
  unfold envM at h
  split at h
  · simp only [Option.some.injEq] at h; subst h; exact m31
  · simp only [Option.some.injEq] at h; subst h; exact m32
  · simp only [Option.some.injEq] at h; subst h; exact m33
  · simp only [Option.some.injEq] at h; subst h; exact m34
  · simp only [Option.some.injEq] at h; subst h; exact m35
  · cases h
def c5 : Ctr := fun args objs => match args, objs with
  | [.agg [.ints .u8 k 32], .one (.int .u32 ctr), .agg [.ints .u8 n 12]], [] => some ⟨[allB k, k.length = 32, isW ctr, allB n, n.length = 12], .v (.one (.bool true true)), [], []⟩
  | _, _ => none
theorem m5 : Meets Try.prog 5 c5 := by
  refine meets_of_run2 tab_ok envM_ok mixed [.tmp 6] Try.func5 rfl Try.ntmps5 Try.call5 (fun t w => by simp [results, Try.results5, resS, rv1]) ?_
  intro args objs r hr hcs
  unfold c5 at hr
  split at hr
  · rename_i k ctr n
    simp only [Option.some.injEq] at hr; subst hr
    obtain ⟨h1, h2, h3, h4, h5, _⟩ := hcs
    refine ⟨rfl, ?_⟩
    conv => whnf
    have hX : allB ((splI (List.replicate 16 0) 0 (List.take 12 (List.take 12 (List.drop 0 n)))).set 15 (conv .u8 ctr)) := allB_set (allB_splI (allB_zeros 16) (allB_take (allB_take (allB_drop h4 0) _) _) 0) (u8_B _) 15
    have hXL : ((splI (List.replicate 16 0) 0 (List.take 12 (List.take 12 (List.drop 0 n)))).set 15 (conv .u8 ctr)).length = 16 := by
      rw [List.length_set, splI_length (by simp; omega)]; rfl
    refine ⟨?_, fun _ => ?_, fun h => no_selfL _ h⟩
    · repeat' apply And.intro
      all_goals first
        | exact True.intro
        | exact h1
        | exact h2
        | exact h3
        | exact h4
        | exact h5
        | omega
        | decide +kernel
        | rfl
        | exact Nat.le_of_ble_eq_true rfl
        | (dsimp only; omega)
        | trace_state
    conv => whnf
    dsimp only
    generalize hx : (splI _ _ _).set _ (conv .u8 ctr) = X
    have hX' : allB X := by rw [← hx]; exact hX
    have hXL' : X.length = 16 := by rw [← hx]; exact hXL
    refine ⟨?_, fun _ => ?_, fun h => no_selfL _ h⟩
    · repeat' apply And.intro
      all_goals first
        | exact True.intro
        | exact h1
        | exact h2
        | exact hX'
        | exact hXL'
        | omega
        | decide +kernel
        | rfl
        | exact Nat.le_of_ble_eq_true rfl
        | (dsimp only; omega)
        | trace_state
    conv => whnf
    refine ⟨?_, rfl, [], [], rfl, ⟨rfl, trivial⟩, trivial⟩
    repeat' apply And.intro
    all_goals first
      | exact True.intro
      | omega
      | decide +kernel
      | rfl
      | exact Nat.le_of_ble_eq_true rfl
      | (dsimp only; omega)
      | trace_state
  · cases hr
end Go.Proofs.Ytjbagkimpmpfgaa

