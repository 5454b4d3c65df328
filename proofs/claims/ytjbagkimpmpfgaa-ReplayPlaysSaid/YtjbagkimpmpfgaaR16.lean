/- Replay: copies, and clearing, walked. -/
import Derived.Test.YtjbagkimpmpfgaaR15
namespace Go.Proofs.Ytjbagkimpmpfgaa
open Go Go.Mx
set_option maxRecDepth 100000
set_option maxHeartbeats 4000000

def c110n : Ctr := fun args objs => match args, objs with
  | [.one .nils], [] => some ⟨[], .v (.one .nils), [], []⟩
  | _, _ => none
theorem m110n : Meets Try.prog 110 c110n := by
  refine meets_of_run2 tab_ok env0 mixed [.tmp 2] Try.func110 rfl Try.ntmps110 Try.call110 (fun t w => by simp [results, Try.results110, resS, rv1]) ?_
  intro args objs r hr hcs
  unfold c110n at hr
  split at hr
  · skip
    simp only [Option.some.injEq] at hr; subst hr
    refine ⟨rfl, ?_⟩
    conv => whnf
    refine ⟨trivial, rfl, [], [], rfl, ⟨rfl, trivial⟩, trivial⟩
  · cases hr
def c110s : Ctr := fun args objs => match args, objs with
  | [.one (.sx 0 0 1 0 n _ 0)], [.own 1 [.ints .u64 l n']] => some ⟨[n = n', l.length = n, n ≤ 1000], .v (.one (.sl 1 0 n 1)), [], [.own 1 [.ints .u64 l n]]⟩
  | _, _ => none
theorem m110s : Meets Try.prog 110 c110s := by
  refine meets_of_run2 tab_ok env0 mixed [.tmp 2] Try.func110 rfl Try.ntmps110 Try.call110 (fun t w => by simp [results, Try.results110, resS, rv1]) ?_
  intro args objs r hr hcs
  unfold c110s at hr
  split at hr
  · rename_i n cap l n'
    simp only [Option.some.injEq] at hr; subst hr
    obtain ⟨h1, h2, h3, _⟩ := hcs
    refine ⟨rfl, ?_⟩
    conv => whnf
    subst h1
    have hl : List.take n (List.drop 0 l) = l := by rw [List.drop_zero, List.take_of_length_le (by omega)]
    refine ⟨?_, rfl, [0, 2], [], rfl, ⟨?_, trivial⟩, ⟨rfl, rfl, rfl, rfl, trivial⟩, ⟨rfl, rfl, ?_, ?_, trivial⟩, trivial⟩
    · repeat' apply And.intro
      all_goals first
        | exact True.intro
        | (show 0 + n ≤ 9223372036854775807; omega)
        | (show (0 + n) * 8 ≤ 140737488355328; omega)
        | omega
        | decide +kernel
        | rfl
        | exact Nat.le_of_ble_eq_true rfl
        | (dsimp only; omega)
        | trace_state
    · show C.sl 2 0 (0 + n) 1 = C.sl 2 0 n 1
      rw [Nat.zero_add]
    · exact hl
    · show 0 + n = n
      rw [Nat.zero_add]
  · cases hr
def c110 : Ctr := fun args objs => match args, objs with
  | [.one (.sl 0 0 n 1)], [.own 1 [.ints .u64 l n']] => some ⟨[n = n', l.length = n, n ≤ 1000], .v (.one (.sl 1 0 n 1)), [], [.own 1 [.ints .u64 l n]]⟩
  | _, _ => none
theorem m110 : Meets Try.prog 110 c110 := by
  refine ⟨m110s.1, ?_⟩
  intro args objs r hr hcs ν w F hargs
  unfold c110 at hr
  split at hr
  · rename_i n l n'
    simp only [Option.some.injEq] at hr; subst hr
    obtain ⟨h1, h2, h3, _⟩ := hcs
    subst h1
    have hf := F.fit 0 _ rfl
    simp only [MObj.fit, sizeS, Seg.size, denS, Seg.den, List.append_nil, List.length_map] at hf
    cases hnil : (ν 0).nil with
    | false =>
      rw [hnil] at hf
      simp only [Bool.false_eq_true, if_false] at hf
      obtain ⟨_, spare, t, fz, _, _, hcap⟩ := hf
      have hcap' := hcap (by decide)
      have e : [V1.one (.sl 0 0 n 1)].map (V1.den ν) = [V1.one (.sx 0 0 1 0 n (ν 0).cap 0)].map (V1.den ν) := by simp [V1.den, C.den, hnil, at_]
      rw [e]
      refine m110s.2 [.one (.sx 0 0 1 0 n (ν 0).cap 0)] [.own 1 [.ints .u64 l n]] _ rfl ⟨rfl, h2, h3, trivial⟩ ν w F (fun x hx => ?_)
      simp only [List.mem_cons, List.not_mem_nil, or_false] at hx
      subst hx
      exact ⟨dom_hpL.2 (by simp), by omega, fun _ => rfl⟩
    | true =>
      rw [hnil] at hf
      simp only [if_true] at hf
      obtain ⟨hn, hcap⟩ := hf
      have hn0 : n = 0 := by omega
      subst hn0
      have hl : l = [] := List.eq_nil_of_length_eq_zero h2
      subst hl
      have e : [V1.one (.sl 0 0 0 1)].map (V1.den ν) = [V1.one .nils].map (V1.den ν) := by simp [V1.den, C.den, hnil, hcap]
      rw [e]
      have F0 : FitH ν (hpL []) w := ⟨fun i o hi => by simp [hpL] at hi, fun i o hi => by simp [hpL] at hi, fun i j o o' _ hi => by simp [hpL] at hi⟩
      refine (m110n.2 [.one .nils] [] _ rfl trivial ν w F0 (fun x hx => by simp only [List.mem_cons, List.not_mem_nil, or_false] at hx; subst hx; trivial)).mono (fun e w' hp => ?_)
      obtain ⟨y, ν', he, _, _, hrel, _, hfr, _⟩ := hp
      simp only [V.rel, V1.den, C.den] at hrel
      have cases2 : ∀ (i : Nat) (o : MObj), ([MObj.own 1 [.ints .u64 [] 0]] ++ [MObj.own 1 [.ints .u64 [] 0]])[i]? = some o → i < 2 ∧ o = .own 1 [.ints .u64 [] 0] := fun i o hi => by
        match i, hi with
        | 0, hi => simp at hi; exact ⟨by omega, hi.symm⟩
        | 1, hi => simp at hi; exact ⟨by omega, hi.symm⟩
        | _ + 2, hi => simp at hi
      have outE : ∀ (i : Nat), outH [MObj.own 1 [.ints .u64 [] 0]] ⟨[0 = 0, ([] : List Int).length = 0, 0 ≤ 1000], .v (.one (.sl 1 0 0 1)), [], [.own 1 [.ints .u64 [] 0]]⟩ i = ([MObj.own 1 [.ints .u64 [] 0]] ++ [MObj.own 1 [.ints .u64 [] 0]])[i]? := fun i => rfl
      refine ⟨y, fun i => if i = 0 then ν 0 else ⟨0, 0, 0, true⟩, he, fun i hi => ?_, ⟨fun i o hi => ?_, fun i o hi => ?_, fun i j o o' _ hi _ ho => ?_⟩, ?_, ?_, ?_, fun i o hi ho => ?_⟩
      · have : i = 0 := by simpa using hi
        subst this; rfl
      · rw [outE] at hi
        obtain ⟨h, rfl⟩ := cases2 i o hi
        by_cases e0 : i = 0
        · subst e0; simp [MObj.fit, sizeS, Seg.size, hnil, hcap]
        · simp [MObj.fit, sizeS, Seg.size, e0]
      · rw [outE] at hi
        obtain ⟨h, rfl⟩ := cases2 i o hi
        exact ⟨rfl, trivial⟩
      · exfalso
        rw [outE] at hi
        obtain ⟨h, rfl⟩ := cases2 i o hi
        by_cases e0 : i = 0
        · subst e0; simp [MObj.owns, hnil] at ho
        · simp [MObj.owns, e0] at ho
      · rw [hrel]; simp [V.rel, V1.den, C.den]
      · show dom _ 1
        intro h; rw [outE] at h; simp at h
      · exact ⟨hfr.os, hfr.tape, hfr.output, hfr.size, fun b hb _ => hfr.block b hb (by rintro ⟨i, o, hi, _⟩; simp [hpL] at hi)⟩
      · exfalso
        rw [outE] at hi
        obtain ⟨h, rfl⟩ := cases2 i o hi
        by_cases e0 : i = 0
        · subst e0; simp [MObj.owns, hnil] at ho
        · simp [MObj.owns, e0] at ho
  · cases hr
def envCp : Env := fun f => match f with
  | 56 => some c56
  | 110 => some c110
  | _ => none
theorem envCp_ok : EnvOk Try.prog envCp := by
  intro f c h
  unfold envCp at h
  split at h
  · simp only [Option.some.injEq] at h; subst h; exact m56
  · simp only [Option.some.injEq] at h; subst h; exact m110
  · cases h
def c54 : Ctr := fun args objs => match args, objs with
  | [.one (.ptr 0 0)], [.own 0 [.c (.int .i64 z), .c (.int .u64 t), .c (.sl 1 0 nw 1)], .own 1 [.ints .u64 l nw']] =>
    some ⟨[nw = nw', l.length = nw, nw ≤ 1000, 0 ≤ z ∧ z ≤ 8192], .v (.one (.ptr 2 0)), [], [.own 0 [.c (.int .i64 (imax z 1)), .c (.int .u64 t), .c (.sl 3 0 nw 1)], .own 1 [.ints .u64 l nw]]⟩
  | _, _ => none
theorem m54 : Meets Try.prog 54 c54 := by
  refine meets_of_run2 tab_ok envCp_ok mixed [.tmp 2] Try.func54 rfl Try.ntmps54 Try.call54 (fun t w => by simp [results, Try.results54, resS, rv1]) ?_
  intro args objs r hr hcs
  unfold c54 at hr
  split at hr
  · rename_i z t nw l nw'
    simp only [Option.some.injEq] at hr; subst hr
    obtain ⟨h1, h2, h3, h4, _⟩ := hcs
    refine ⟨rfl, ?_⟩
    conv => whnf
    subst h1
    refine ⟨?_, rfl, [0, 1, 3, 2], [], rfl, ⟨rfl, trivial⟩, ⟨rfl, ⟨rfl, rfl⟩, ⟨rfl, rfl⟩, rfl, trivial⟩, ⟨rfl, rfl, rfl, rfl, trivial⟩, ⟨rfl, ⟨rfl, rfl⟩, ⟨rfl, rfl⟩, rfl, trivial⟩, ⟨rfl, rfl, rfl, rfl, trivial⟩, trivial⟩
    repeat' apply And.intro
    all_goals first
      | exact True.intro
      | exact h2
      | exact h4
      | omega
      | decide +kernel
      | rfl
      | exact Nat.le_of_ble_eq_true rfl
      | (dsimp only; omega)
      | trace_state
  · cases hr
def c57 : Ctr := fun args objs => match args, objs with
  | [.one (.ptr 0 0)], [.own 0 [.c (.int .i64 z), .c (.int .u64 _), .c (.sl 1 0 nw 1)], .own 1 [.ints .u64 l nw']] =>
    some ⟨[nw = nw', l.length = nw], .tup [], [(0, .own 0 [.c (.int .i64 z), .c (.int .u64 0), .c (.sl 1 0 nw 1)]), (1, .own 1 [.ints .u64 (List.replicate nw 0) nw])], []⟩
  | _, _ => none
theorem m57 : Meets Try.prog 57 c57 := by
  refine meets_of_run tab_ok env0 mixed [] Try.func57 rfl Try.ntmps57 Try.call57 (fun t w => by simp [results, Try.results57, resV]) ?_
  intro args objs r hr hcs
  unfold c57 at hr
  split at hr
  · rename_i z t nw l nw'
    simp only [Option.some.injEq] at hr; subst hr
    obtain ⟨h1, h2, _⟩ := hcs
    refine ⟨rfl, ?_⟩
    conv => whnf
    subst h1
    have es : splI l 0 (List.replicate nw 0) = List.replicate nw 0 := by
      unfold splI
      rw [List.take_zero, List.nil_append, List.length_replicate, List.drop_of_length_le (by omega), List.append_nil]
    refine ⟨?_, rfl, [0, 1], [], rfl, ⟨trivial, trivial⟩, ⟨rfl, ⟨rfl, rfl⟩, ⟨rfl, rfl⟩, rfl, trivial⟩, ⟨rfl, rfl, es, rfl, trivial⟩, trivial⟩
    repeat' apply And.intro
    all_goals first
      | exact True.intro
      | omega
      | decide +kernel
      | rfl
      | exact Nat.le_of_ble_eq_true rfl
      | (dsimp only; omega)
      | trace_state
  · cases hr
end Go.Proofs.Ytjbagkimpmpfgaa

