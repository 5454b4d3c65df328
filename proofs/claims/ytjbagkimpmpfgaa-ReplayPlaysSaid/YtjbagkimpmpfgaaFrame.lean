/- What a statement's frame asks for, for parameters of any type: each reads behind the call as it did ahead of it. Arrays and strings, opened. Conditions: those that each lists. -/
import Derived.Test.YtjbagkimpmpfgaaLaw
import Derived.ChangeStays
import Derived.OpenShut
import Derived.Test.YtjbagkimpmpfgaaRows
namespace Go.Proofs.Ytjbagkimpmpfgaa
open Go Go.RowKit Go.ChangeShapes Go.WideShapes
set_option maxRecDepth 100000

theorem laidOut : laidOutB Try.prog = true := by kernel_rfl
theorem mapsIn : mapsRowed Try.prog = true := by kernel_rfl
theorem slicesFull : ((List.range Try.prog.types.size).all fun t => match Try.prog.underlying t with | some (.slice e) => decide (0 < Try.prog.cellsOf e) | _ => true) = true := by kernel_rfl
theorem slicesFull' : ∀ {t e : TypeId}, t < Try.prog.types.size → Try.prog.underlying t = some (.slice e) → 0 < Try.prog.cellsOf e := by
  intro t e hl ht
  have := List.all_eq_true.1 slicesFull t (List.mem_range.2 hl)
  rw [ht] at this
  simpa using this

section
variable {H : Type} {enc : TypeId × Value → H}

theorem all_again {W W' : World} (hk : Below W.heap.size W W') {sp : Nat → Bool} : ∀ {ts : List TypeId} {vs : List Value} {ds : List (DataW H)} {ps : List MemPlace}, (∀ t ∈ ts, t < Try.prog.types.size) →
    DataW.TrodAll enc Try.prog W 0 (fun _ => true) true ts vs ds ps → (∀ p ∈ ps, p.block < W.heap.size) → (∀ p ∈ ps, sp p.block = true) → DataW.TrodAll enc Try.prog W' 0 sp true ts vs ds ps
  | [], [], [], _, _, h, _, _ => h
  | _ :: _, _ :: _, _ :: _, _, hT, ⟨p, q, ⟨n, h1⟩, h2, e⟩, hl, hs =>
    ⟨p, q, ⟨n, DataW.trod_stays (kids_rows laidOut mapsIn) slicesFull' (fun h => by cases h) (hT _ (List.mem_cons.2 (Or.inl rfl))) h1
        (fun x hx => hk.same (hl x (by rw [e]; exact List.mem_append_left _ hx))) (fun x hx => hs x (by rw [e]; exact List.mem_append_left _ hx))⟩,
      all_again hk (fun t ht => hT t (List.mem_cons.2 (Or.inr ht))) h2 (fun x hx => hl x (by rw [e]; exact List.mem_append_right _ hx)) (fun x hx => hs x (by rw [e]; exact List.mem_append_right _ hx)), e⟩

theorem law_post {f : Func} {s : ChangeSpec} {apart fresh handsOn again : Bool} {W W' : World} {args : Array Value} {ds gs : List (DataW H)} {before : List MemPlace}
    (hv : s.vars = []) (hts : ∀ t ∈ f.params.toList, t < Try.prog.types.size) (hrt : f.resultTypes = #[4])
    (hW : DataW.Whole enc Try.prog f.params.toList s.vars apart W args.toList ds gs before)
    (hfn : s.fn H ds = { results := [.lit (.bool true)], args := ds }) (hk : Below W.heap.size W W') : s.post enc Try.prog f apart fresh handsOn again W args (.bool true) W' := by
  have hlt := fun p hp => hW.lt p hp
  have hW0 := hW
  obtain ⟨p, q, hA, hV, rfl, hfz, hnd⟩ := hW
  rw [hv] at hV
  obtain ⟨rfl, rfl⟩ := trodVars_none hV
  have hA' : ∀ sp : Nat → Bool, (∀ x ∈ p ++ [], sp x.block = true) → DataW.TrodAll enc Try.prog W' 0 sp true f.params.toList args.toList ds p := fun sp hsp =>
    all_again hk hts hA (fun x hx => hlt x (by simpa using hx)) (fun x hx => hsp x (by simpa using hx))
  have e : s.fn H (ds ++ []) = { results := [.lit (.bool true)], args := ds } := by rw [List.append_nil]; exact hfn
  refine post_below (pa := p) (pv := []) hW0 ?_ ?_ ?_ rfl hk ?_
  · intro b sp hd
    rw [e, hrt]
    exact trodAll_cons_mk (shut_bool Try.underlying4 true) trodAll_mk0
  · intro sp hsp
    rw [e]
    exact hA' sp hsp
  · intro sp hsp
    rw [e, hv]
    rfl
  · exact ok_one (v := .bool true) hrt (show (Value.bool true).resultList 1 = [.bool true] from rfl) (okWide_bool_mk Try.underlying4 true)
end

/-! ### Opening -/
section
variable {H : Type} {enc : TypeId × Value → H} {P : Program} {w : World} {base : Nat} {spare : Nat → Bool} {held : Bool}
theorem ints_of {e : TypeId} {k : IntKind} (he : P.underlying e = some (.int k)) (hc : P.cellsOf e = 1) {m : Nat} :
    ∀ (n : Nat) (cs : List Value) (xs : List (DataW H × List MemPlace)), cs.length = n → xs.length = n → (∀ i, i < n → DataW.trod enc P w base spare held m e ((cs.drop i).take 1) = xs[i]?) → ∃ l : List Int, cs = l.map (.int k) ∧ l.length = n ∧ ∀ x ∈ l, (Lit.int k x).wf = true
  | 0, cs, xs, h1, _, _ => ⟨[], by simpa using List.eq_nil_of_length_eq_zero h1, rfl, fun _ h => by cases h⟩
  | n + 1, [], xs, h1, _, _ => by simp at h1
  | n + 1, c :: cs, [], _, h2, _ => by simp at h2
  | n + 1, c :: cs, y :: ys, h1, h2, h => by
    obtain ⟨l, rfl, hl, hw⟩ := ints_of he hc (m := m) n cs ys (by simpa using h1) (by simpa using h2) (fun i hi => by simpa using h (i + 1) (by omega))
    have h0 := h 0 (by omega)
    simp only [List.drop_zero, List.take_succ_cons, List.take_zero, List.getElem?_cons_zero] at h0
    obtain ⟨z, hz, _, hw0⟩ := DataW.trod_int he h0
    simp only [List.cons.injEq, and_true] at hz
    subst hz
    exact ⟨z :: l, rfl, by simp [hl], fun x hx => by
      rcases List.mem_cons.1 hx with rfl | hx
      · exact hw0
      · exact hw x hx⟩
theorem open_ints {t e : TypeId} {n : Nat} {k : IntKind} {v : Value} {d : DataW H} {ps : List MemPlace} (ht : P.underlying t = some (.array n e)) (he : P.underlying e = some (.int k)) (hc : P.cellsOf e = 1) (hct : P.cellsOf t = n) (hn : n ≠ 1) (hd : DataW.Trod enc P w base spare held t v d ps) :
    ∃ l : List Int, v = .agg (l.map (.int k)).toArray ∧ l.length = n ∧ ∀ x ∈ l, (Lit.int k x).wf = true := by
  obtain ⟨fuel, hf⟩ := hd
  obtain ⟨xs, m, rfl, _, hlen, hxs, hall⟩ := DataW.trod_array ht hf
  rw [hct] at hlen
  obtain ⟨l, hl, hll, hw⟩ := ints_of (k := k) he hc (m := m) n v.cells.toList xs hlen hxs (fun i hi => by have := hall i hi; rwa [hc, Nat.mul_one] at this)
  refine ⟨l, ?_, hll, hw⟩
  have hv : v.cells = (l.map (.int k)).toArray := by rw [← hl]
  cases v <;> first | (simp only [Value.cells] at hv; subst hv; rfl) | (exfalso; apply hn; rw [← hll]; simp only [Value.cells] at hv; have := congrArg Array.size hv; simpa using this.symm)
theorem open_text {r : Reach} {b0 : Nat} {t : TypeId} {v : Value} {d : DataW H} {ps : List MemPlace} (ht : P.underlying t = some .string) (hval : Value.okWide P w r b0 t v) (hd : DataW.Trod enc P w base spare held t v d ps) :
    ∃ s : ByteArray, v = .string s ∧ s.size ≤ maxLen := by
  obtain ⟨s, rfl⟩ := okWide_string ht hval
  obtain ⟨fuel, hf⟩ := hd
  obtain ⟨s', h, hx, hs⟩ := DataW.trod_string ht hf
  simp [Value.cells] at h
  subst h
  exact ⟨s, rfl, hs⟩
end
end Go.Proofs.Ytjbagkimpmpfgaa
