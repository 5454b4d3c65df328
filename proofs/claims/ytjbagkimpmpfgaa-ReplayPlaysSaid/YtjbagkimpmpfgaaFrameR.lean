/- A slice of pairs of numbers among a statement's parameters is a view of rows. Conditions: those that each lists. -/
import Derived.Test.YtjbagkimpmpfgaaFrameS
namespace Go.Proofs.Ytjbagkimpmpfgaa
open Go Go.RowKit Go.ChangeShapes Go.WideShapes
set_option maxRecDepth 100000
theorem rows_get {A B : Nat → Value} : ∀ (n j : Nat) (v : Value), ((List.range n).flatMap fun q => [A q, B q])[j]? = some v → ∃ q, q < n ∧ ((j = 2 * q ∧ v = A q) ∨ (j = 2 * q + 1 ∧ v = B q))
  | 0, j, v, h => by simp at h
  | n + 1, j, v, h => by
    rw [List.range_succ, List.flatMap_append] at h
    have hl : ((List.range n).flatMap fun q => [A q, B q]).length = 2 * n := by
      clear h
      induction n with
      | zero => rfl
      | succ n ih => rw [List.range_succ, List.flatMap_append, List.length_append, ih]; simp; omega
    by_cases hj : j < 2 * n
    · rw [List.getElem?_append_left (by omega)] at h
      obtain ⟨q, h1, h2⟩ := rows_get n j v h
      exact ⟨q, by omega, h2⟩
    · rw [List.getElem?_append_right (by omega), hl] at h
      simp only [List.flatMap_cons, List.flatMap_nil, List.append_nil] at h
      match hk : j - 2 * n, h with
      | 0, h => simp at h; exact ⟨n, by omega, .inl ⟨by omega, h.symm⟩⟩
      | 1, h => simp at h; exact ⟨n, by omega, .inr ⟨by omega, h.symm⟩⟩
      | _ + 2, h => simp at h
section
variable {H : Type} {enc : TypeId × Value → H} {P : Program} {w : World} {base : Nat} {spare : Nat → Bool} {held : Bool}
theorem open_sliceR {r : Reach} {b0 : Nat} {t e t0 t1 : TypeId} {k0 k1 : IntKind} {fs : Array Field} {f0 f1 : Field} {v : Value} {d : DataW H} {ps : List MemPlace} (ht : P.underlying t = some (.slice e)) (he : P.underlying e = some (.struct fs)) (hc : P.cellsOf e = 2)
    (h0 : fs[0]? = some f0) (h1 : fs[1]? = some f1) (hs : fs.size = 2) (o0 : f0.offset = 0) (o1 : f1.offset = 1) (ht0 : f0.type = t0) (ht1 : f1.type = t1) (he0 : P.underlying t0 = some (.int k0)) (he1 : P.underlying t1 = some (.int k1)) (hc0 : P.cellsOf t0 = 1) (hc1 : P.cellsOf t1 = 1)
    (hval : Value.okWide P w r b0 t v) (hd : DataW.Trod enc P w base spare held t v d ps) :
    ∃ (p : Mx.Place) (n : Nat) (Ks Ns : Nat → Int), (∀ (ν : Mx.Pl) (i : Nat), ν i = p → v = Mx.C.den ν (.sl i 0 n 2)) ∧ n ≤ maxLen ∧ (∀ j, j < n → (Lit.int k0 (Ks j)).wf = true ∧ (Lit.int k1 (Ns j)).wf = true) ∧ (∀ ν, Mx.MObj.fit p ν w (.view 2 [.rows 2 n (fun j => [.int k0 (Ks j), .int k1 (Ns j)])])) := by
  obtain ⟨fuel, hf⟩ := hd
  rcases DataW.trod_slice ht hf with ⟨h, _⟩ | ⟨a, len, cap, elems, rest, m, _, h, _, _, hle, hcap, hlen, hel, _, _⟩
  · obtain ⟨x, l, c, rfl⟩ := okWide_slice ht hval
    simp [Value.cells] at h
    obtain ⟨rfl, rfl, rfl⟩ := h
    exact ⟨⟨0, 0, 0, true⟩, 0, fun _ => 0, fun _ => 0, fun ν i hi => by simp [Mx.C.den, hi], by simp [maxLen], fun j hj => by omega, fun ν => by simp [Mx.MObj.fit, Mx.sizeS, Mx.Seg.size]⟩
  · obtain ⟨x, l, c, rfl⟩ := okWide_slice ht hval
    simp [Value.cells] at h
    obtain ⟨rfl, rfl, rfl⟩ := h
    obtain ⟨hsp, row, cells, hsh, _⟩ : a.spot = none ∧ ∃ row cells, w.shape? a.block = some (row, cells) ∧ liesAt P P.depth row (cells / P.cellsOf row) a.off e c = true := by
      simp only [Value.okWide, ht, Cell.okWide, Cell.ok, World.has] at hval
      exact hval.2.2.2
    obtain ⟨b, off, spot⟩ := a
    simp only at hsp hsh; subst hsp
    rw [hc] at hel
    have one : ∀ i, ∃ xy : Int × Int, i < l → w.cell? ⟨b, off + i * 2, none⟩ = some (.int k0 xy.1) ∧ w.cell? ⟨b, off + i * 2 + 1, none⟩ = some (.int k1 xy.2) ∧ (Lit.int k0 xy.1).wf = true ∧ (Lit.int k1 xy.2).wf = true := by
      intro i
      by_cases hi : i < l
      · have hi' := hel i hi
        have hse : elems[i]? = some elems[i] := List.getElem?_eq_getElem (by omega)
        rw [hse, Option.bind_eq_some_iff] at hi'
        obtain ⟨vs, g1, g2⟩ := hi'
        obtain ⟨xs, m', _, _, hvl, hxs, hall⟩ := DataW.trod_struct he g2
        rw [hc] at hvl
        have a0 := hall 0 f0 h0
        have a1 := hall 1 f1 h1
        rw [o0, ht0, hc0, List.getElem?_eq_getElem (by omega)] at a0
        rw [o1, ht1, hc1, List.getElem?_eq_getElem (by omega)] at a1
        obtain ⟨x, hx, _, wx⟩ := DataW.trod_int he0 a0
        obtain ⟨y, hy, _, wy⟩ := DataW.trod_int he1 a1
        unfold World.cells? at g1
        split at g1
        · have c0 := mapM_some_get g1 0 0 (by simp)
          have c1 := mapM_some_get g1 1 1 (by simp)
          simp only [Go.WideShapes.add_plain, Nat.add_zero] at c0 c1
          refine ⟨(x, y), fun _ => ⟨?_, ?_, wx, wy⟩⟩
          · rw [c0]
            have := congrArg (fun z : List Value => z[0]?) hx
            simpa using this
          · rw [c1]
            have := congrArg (fun z : List Value => z[0]?) hy
            simpa using this
        · cases g1
      · exact ⟨(0, 0), fun h => absurd h hi⟩
    obtain ⟨F, hF⟩ := Classical.skolem.1 one
    refine ⟨⟨b, off, c, false⟩, l, fun j => (F j).1, fun j => (F j).2, fun ν i hi => ?_, by omega, fun j hj => ⟨(hF j hj).2.2.1, (hF j hj).2.2.2⟩, fun ν => ?_⟩
    · simp [Mx.C.den, hi, Mx.at_]
    · simp only [Mx.MObj.fit, Mx.sizeS, Mx.Seg.size, Bool.false_eq_true, if_false]
      refine ⟨shape_lt hsh, fun _ => by omega, fun j u hj => ?_⟩
      simp only [Mx.denS, Mx.Seg.den, List.append_nil, List.map_cons, List.map_nil, Mx.C.den] at hj
      obtain ⟨q, hq, ⟨rfl, rfl⟩ | ⟨rfl, rfl⟩⟩ := rows_get (A := fun j => Value.int k0 (F j).1) (B := fun j => Value.int k1 (F j).2) l j u hj
      · have := (hF q hq).1
        rw [Nat.mul_comm]; exact this
      · have := (hF q hq).2.1
        rw [Nat.mul_comm, ← Nat.add_assoc]; exact this
end
end Go.Proofs.Ytjbagkimpmpfgaa
