/- From a law's summary to the end that its statement asks for. Conditions: the summary. -/
import Derived.Test.YtjbagkimpmpfgaaMxM
import Derived.Below
import Derived.ChangeSame
namespace Go.Mx
open Go.RowKit

def pl0 : Pl := fun _ => ⟨0, 0, 0, false⟩

theorem law_of_meets {P : Program} {f : Nat} {c : Ctr} (h : Meets P f c) {args : List V1} {cs : List Prop} {k : Bool} (hr : c args [] = some ⟨cs, .v (.one (.bool k true)), [], []⟩) (hc : AllP cs) (hargs : ∀ x ∈ args, x.ok (fun _ => False)) (w : World) :
    Calls P f (args.map (V1.den pl0)).toArray w fun e w' => e = .returned (.bool true) ∧ Below w.heap.size w w' := by
  have F : FitH pl0 (hpL []) w := ⟨fun i o hi => by simp [hpL] at hi, fun i o hi => by simp [hpL] at hi, fun i j o o' _ hi => by simp [hpL] at hi⟩
  refine (h.2 args [] _ hr hc pl0 w F (fun x hx => V1.ok_mono (fun _ h => h.elim) (hargs x hx))).mono (fun e w' hp => ?_)
  obtain ⟨y, ν', rfl, _, _, hrel, _, hfr, _⟩ := hp
  simp only [V.rel, V1.den, C.den] at hrel
  refine ⟨by rw [hrel], hfr.os, hfr.tape, hfr.output, hfr.size, fun b hb => hfr.block b hb ?_⟩
  rintro ⟨i, o, hi, _⟩
  simp [hpL] at hi
end Go.Mx
namespace Go.Proofs.Ytjbagkimpmpfgaa
open Go Go.RowKit Go.ChangeShapes Go.WideShapes
theorem post_below {H : Type} {enc : TypeId × Value → H} {P : Program} {f : Func} {s : ChangeSpec} {apart fresh handsOn again : Bool} {W W' : World} {args : Array Value} {v : Value} {ds gs : List (DataW H)} {before pa pv : List MemPlace}
    (hW : DataW.Whole enc P f.params.toList s.vars apart W args.toList ds gs before)
    (hres : ∀ (b : Nat) (sp : Nat → Bool) (hd : Bool), DataW.TrodAll enc P W' b sp hd f.resultTypes.toList (v.resultList f.resultTypes.size) (s.fn H (ds ++ gs)).results [])
    (hargs : ∀ sp : Nat → Bool, (∀ p ∈ before, sp p.block = true) → DataW.TrodAll enc P W' 0 sp true f.params.toList args.toList (s.fn H (ds ++ gs)).args pa)
    (hvars : ∀ sp : Nat → Bool, (∀ p ∈ before, sp p.block = true) → DataW.TrodVars enc P W' sp s.vars (s.fn H (ds ++ gs)).vars pv)
    (hps : before = pa ++ pv) (hk : Below W.heap.size W W')
    (hok : ∀ (j : Nat) (t : TypeId) (r : Value), f.resultTypes[j]? = some t → (v.resultList f.resultTypes.size)[j]? = some r → Value.okWide P W' .any 0 t r) :
    s.post enc P f apart fresh handsOn again W args v W' := by
  have hlt := fun p hp => hW.lt p hp
  have hold : ∀ p ∈ before, (fun b => decide (b < W.heap.size)) p.block = true := fun p hp => by simpa using hlt p hp
  refine ⟨ds, gs, before, [], pa, pv, hW, hres _ _ _, hargs _ hold, hvars _ hold, World.keptBut_mono (fun p hp => ⟨hp, ?_⟩) (hk.frame (· ∈ before)), fun _ => ?_⟩
  · rw [hps, List.mem_append] at hp
    exact Or.inr hp
  · obtain ⟨_, _, _, _, _, hz, hn⟩ := hW
    refine ⟨hok, _, _, ([] ++ pa) ++ pv, ⟨[] ++ pa, pv, trodAll_append (hargs _ (fun _ _ => rfl)) (hres _ _ _), hvars _ (fun _ _ => rfl), rfl, ?_, ?_⟩, ?_⟩
    · intro b off hp
      have hp' : MemPlace.cell b off ∈ before := by rw [hps]; simpa using hp
      have := hlt _ hp'
      rw [hk.frozen (p := ⟨b, off, none⟩) this]
      exact hz b off hp'
    · intro ha
      have := hn ha
      rw [hps] at this
      simpa using this
    · intro p hp _
      rw [hps]
      simpa using hp
end Go.Proofs.Ytjbagkimpmpfgaa
