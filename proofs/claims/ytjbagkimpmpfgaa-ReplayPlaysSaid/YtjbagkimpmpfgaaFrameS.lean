/- Statements with slices among their parameters: a slice of numbers is a view; from a summary over views to the frame. Conditions: those that each lists. -/
import Derived.Test.YtjbagkimpmpfgaaFrame
namespace Go.Mx
open Go.RowKit
theorem law_of_view {P : Program} {f : Nat} {c : Ctr} (h : Meets P f c) {args : List V1} {objs : List MObj} {cs : List Prop} {k : Bool} (hr : c args objs = some ⟨cs, .v (.one (.bool k true)), [], []⟩) (hc : AllP cs)
    {ν : Pl} {w : World} (F : FitH ν (hpL objs) w) (hargs : ∀ x ∈ args, x.ok (dom (hpL objs))) (hv : ∀ o ∈ objs, ∀ p, ¬ o.owns p) :
    Calls P f (args.map (V1.den ν)).toArray w fun e w' => e = .returned (.bool true) ∧ Below w.heap.size w w' := by
  refine (h.2 args objs _ hr hc ν w F hargs).mono (fun e w' hp => ?_)
  obtain ⟨y, ν', rfl, _, _, hrel, _, hfr, _⟩ := hp
  simp only [V.rel, V1.den, C.den] at hrel
  refine ⟨by rw [hrel], hfr.os, hfr.tape, hfr.output, hfr.size, fun b hb => hfr.block b hb ?_⟩
  rintro ⟨i, o, hi, ho, _⟩
  have hm : o ∈ objs := List.mem_of_getElem? (by simpa [hpL] using hi)
  exact hv o hm _ ho
theorem fit_views {objs : List MObj} {ν : Pl} {w : World} (hf : ∀ (i : Nat) (o : MObj), objs[i]? = some o → o.fit (ν i) ν w) (ho : ∀ (i : Nat) (o : MObj), objs[i]? = some o → o.ok (dom (hpL objs))) (hv : ∀ o ∈ objs, ∀ p, ¬ o.owns p) : FitH ν (hpL objs) w :=
  ⟨fun i o hi => hf i o (by simpa [hpL] using hi), fun i o hi => ho i o (by simpa [hpL] using hi), fun i j o o' _ hi _ h => absurd h (hv o (List.mem_of_getElem? (by simpa [hpL] using hi)) _)⟩
end Go.Mx
namespace Go.Proofs.Ytjbagkimpmpfgaa
open Go Go.RowKit Go.ChangeShapes Go.WideShapes
set_option maxRecDepth 100000
/-- The places of the views, in their order. -/
def plOf (l : List Mx.Place) : Mx.Pl := fun i => (l[i]?).getD ⟨0, 0, 0, true⟩
section
variable {H : Type} {enc : TypeId × Value → H} {P : Program} {w : World} {base : Nat} {spare : Nat → Bool} {held : Bool}
theorem shape_lt {b : Nat} {x : TypeId × Nat} (h : w.shape? b = some x) : b < w.heap.size := by
  unfold World.shape? at h
  split at h <;> first | (cases h; done) | skip
  rename_i hb
  exact (Array.getElem?_eq_some_iff.1 hb).1
theorem open_sliceI {r : Reach} {b0 : Nat} {t e : TypeId} {k : IntKind} {v : Value} {d : DataW H} {ps : List MemPlace} (ht : P.underlying t = some (.slice e)) (he : P.underlying e = some (.int k)) (hc : P.cellsOf e = 1)
    (hval : Value.okWide P w r b0 t v) (hd : DataW.Trod enc P w base spare held t v d ps) :
    ∃ (p : Mx.Place) (n : Nat) (L : List Int), (∀ (ν : Mx.Pl) (i : Nat), ν i = p → v = Mx.C.den ν (.sl i 0 n 1)) ∧ L.length = n ∧ n ≤ maxLen ∧ (∀ x ∈ L, (Lit.int k x).wf = true) ∧ (∀ ν, Mx.MObj.fit p ν w (.view 1 [.ints k L n])) := by
  obtain ⟨fuel, hf⟩ := hd
  rcases DataW.trod_slice ht hf with ⟨h, _⟩ | ⟨a, len, cap, elems, rest, m, _, h, _, _, hle, hcap, hlen, hel, _, _⟩
  · obtain ⟨x, l, c, rfl⟩ := okWide_slice ht hval
    simp [Value.cells] at h
    obtain ⟨rfl, rfl, rfl⟩ := h
    exact ⟨⟨0, 0, 0, true⟩, 0, [], fun ν i hi => by simp [Mx.C.den, hi], rfl, by simp [maxLen], fun x hx => by simp at hx, fun ν => by simp [Mx.MObj.fit, Mx.sizeS, Mx.Seg.size]⟩
  · obtain ⟨x, l, c, rfl⟩ := okWide_slice ht hval
    simp [Value.cells] at h
    obtain ⟨rfl, rfl, rfl⟩ := h
    obtain ⟨hsp, row, cells, hsh, _⟩ : a.spot = none ∧ ∃ row cells, w.shape? a.block = some (row, cells) ∧ liesAt P P.depth row (cells / P.cellsOf row) a.off e c = true := by
      simp only [Value.okWide, ht, Cell.okWide, Cell.ok, World.has] at hval
      exact hval.2.2.2
    obtain ⟨b, off, spot⟩ := a
    simp only at hsp hsh; subst hsp
    rw [hc] at hel
    have one : ∀ i, i < l → ∃ x, w.cell? ⟨b, off + i, none⟩ = some (.int k x) ∧ (Lit.int k x).wf = true := by
      intro i hi
      have hi' := hel i hi
      have hs : elems[i]? = some elems[i] := List.getElem?_eq_getElem (by omega)
      rw [hs, Option.bind_eq_some_iff] at hi'
      obtain ⟨vs, h1, h2⟩ := hi'
      obtain ⟨z, rfl, _, hz⟩ := DataW.trod_int he h2
      refine ⟨z, ?_, hz⟩
      unfold World.cells? at h1
      split at h1
      · have := mapM_some_get h1 0 0 (by simp)
        simp only [Nat.mul_one, Go.WideShapes.add_plain, Nat.add_zero] at this
        simpa using this
      · cases h1
    have all : ∀ m, m ≤ l → ∃ L : List Int, L.length = m ∧ (∀ i, i < m → w.cell? ⟨b, off + i, none⟩ = some (.int k (L.getD i 0))) ∧ ∀ x ∈ L, (Lit.int k x).wf = true := by
      intro m
      induction m with
      | zero => intro _; exact ⟨[], rfl, fun i hi => by omega, fun x hx => by simp at hx⟩
      | succ m ih =>
        intro hm
        obtain ⟨L, h1, h2, h3⟩ := ih (by omega)
        obtain ⟨x, h4, h5⟩ := one m (by omega)
        refine ⟨L ++ [x], by simp [h1], fun i hi => ?_, fun y hy => ?_⟩
        · by_cases e : i = m
          · subst e; rw [h4]; simp [List.getD, ← h1]
          · rw [h2 i (by omega)]; simp [List.getD, List.getElem?_append_left (show i < L.length by omega)]
        · rcases List.mem_append.1 hy with h | h
          · exact h3 y h
          · simp at h; subst h; exact h5
    obtain ⟨L, h1, h2, h3⟩ := all l (Nat.le_refl _)
    refine ⟨⟨b, off, c, false⟩, l, L, fun ν i hi => ?_, h1, by omega, h3, fun ν => ?_⟩
    · simp [Mx.C.den, hi, Mx.at_]
    · simp only [Mx.MObj.fit, Mx.sizeS, Mx.Seg.size, Bool.false_eq_true, if_false]
      refine ⟨shape_lt hsh, fun _ => by omega, fun j u hj => ?_⟩
      simp only [Mx.denS, Mx.Seg.den, List.append_nil, List.getElem?_map, Option.map_eq_some_iff] at hj
      obtain ⟨x, hx, rfl⟩ := hj
      have hjl : j < L.length := (List.getElem?_eq_some_iff.1 hx).1
      rw [h2 j (by omega)]
      simp [List.getD, hx]
end
end Go.Proofs.Ytjbagkimpmpfgaa
