/- The engine, part W: what becomes of a state where a block is made, written, or grows. -/
import Derived.Test.YtjbagkimpmpfgaaMxE
namespace Go.Mx

theorem SatAt.next {X : Ctx} {ν ν' : Pl} {s : St} {a : Act} {w w' : World} (h : SatAt X ν s a w) {hp' : Hp} {d : Option Nat} {v : V} {y : Value}
    (hν : ∀ i, dom s.hp i → ν' i = ν i) (hdom : ∀ i, dom s.hp i → dom hp' i) (hd : ∀ x, d = some x → x < X.nt) (hr : v.rel ν' y) (hvok : v.ok (dom hp')) (hfit : FitH ν' hp' w')
    (hos : w'.os = w.os) (htape : w'.tape = w.tape) (hout : w'.output = w.output) (hsz : w.heap.size ≤ w'.heap.size) (hblk : ∀ b, b < X.w0.heap.size → ¬ X.M b → w'.heap[b]? = w.heap[b]?)
    (hin : ∀ i o, hp' i = some o → o.owns (ν' i) → X.M (ν' i).blk ∨ X.w0.heap.size ≤ (ν' i).blk) : SatAt X ν' ⟨putF d v s.tmp, hp'⟩ (a.put d y) w' := by
  refine ⟨fun i hi => (hν i (h.mdom i hi)).trans (h.old i hi), ?_, ?_, fun t => ?_, fun t => ?_, hfit, ?_, hin, fun i hi => hdom i (h.mdom i hi)⟩
  · cases d <;> exact h.hdef
  · cases d with
    | none => exact h.size
    | some d => simp [Act.put, h.size]
  · have old : (s.tmp t).rel ν' (a.tmps.getD t undef) := V.rel_congr (fun i hi => (hν i hi).symm) (h.tok t) (h.tmp t)
    cases d with
    | none => exact old
    | some d =>
      rw [getD_put (by rw [h.size]; exact hd d rfl)]
      simp only [putF]
      by_cases hdt : d = t
      · simp [hdt, hr]
      · rw [if_neg hdt, if_neg (by simpa using hdt)]; exact old
  · simp only [putF]
    split
    · exact hvok
    · exact V.ok_mono hdom (h.tok t)
  · exact ⟨hos.trans h.fr.os, htape.trans h.fr.tape, hout.trans h.fr.output, Nat.le_trans h.fr.size hsz, fun b hb hM => (hblk b hb hM).trans (h.fr.block b hb hM)⟩

/-- All objects but one are as they were, or are gone. -/
theorem FitH.one {ν ν' : Pl} {hp hp' : Hp} {w w' : World} (F : FitH ν hp w) (n : Nat) (hν : ∀ i, dom hp i → ν' i = ν i) (hdom : ∀ i, dom hp i → dom hp' i)
    (hkeep : ∀ j o, j ≠ n → hp' j = some o → o = .gone ∨ (hp j = some o ∧ (o.holds (ν j) → w'.heap[(ν j).blk]? = w.heap[(ν j).blk]?))) (hsz : w.heap.size ≤ w'.heap.size)
    (hnew : ∀ o, hp' n = some o → o.fit (ν' n) ν' w' ∧ o.ok (dom hp') ∧ ∀ j o', j ≠ n → hp' j = some o' → hp j = some o' → (o.owns (ν' n) → o'.holds (ν j) → (ν' n).blk ≠ (ν j).blk) ∧ (o'.owns (ν j) → o.holds (ν' n) → (ν j).blk ≠ (ν' n).blk)) :
    FitH ν' hp' w' := by
  have K : ∀ j o, j ≠ n → hp' j = some o → o = .gone ∨ (hp j = some o ∧ ν' j = ν j) := fun j o hj ho => (hkeep j o hj ho).imp id (fun h => ⟨h.1, hν j (by rw [dom, h.1]; simp)⟩)
  refine ⟨fun i o hi => ?_, fun i o hi => ?_, fun i j o o' hij hi hj ho ho' => ?_⟩
  · by_cases hin : i = n
    · subst hin; exact (hnew o hi).1
    · rcases hkeep i o hin hi with rfl | ⟨h1, h2⟩
      · trivial
      · rw [hν i (by rw [dom, h1]; simp)]
        exact MObj.fit_congr (fun k hk => (hν k hk).symm) (F.ok i o h1) (MObj.fit_block hsz h2 (F.fit i o h1))
  · by_cases hin : i = n
    · subst hin; exact (hnew o hi).2.1
    · rcases hkeep i o hin hi with rfl | ⟨h1, _⟩
      · exact trivial
      · exact okS_mono hdom (F.ok i o h1)
  · by_cases hin : i = n
    · subst hin
      rcases K j o' (Ne.symm hij) hj with rfl | ⟨h1, h2⟩
      · exact ho'.elim
      · rw [h2] at ho' ⊢
        exact ((hnew o hi).2.2 j o' (Ne.symm hij) hj h1).1 ho ho'
    · rcases K i o hin hi with rfl | ⟨h1, h2⟩
      · exact ho.elim
      · by_cases hjn : j = n
        · subst hjn
          rw [h2] at ho ⊢
          exact ((hnew o' hj).2.2 i o hij hi h1).2 ho ho'
        · rcases K j o' hjn hj with rfl | ⟨g1, g2⟩
          · exact ho'.elim
          · rw [h2] at ho ⊢
            rw [g2] at ho' ⊢
            exact F.apart i j o o' hij h1 g1 ho ho'

def upd1 (ν : Pl) (n : Nat) (p : Place) : Pl := fun i => if i = n then p else ν i
theorem upd1_same (ν : Pl) (n : Nat) (p : Place) : upd1 ν n p n = p := by simp [upd1]
theorem upd1_ne {ν : Pl} {n i : Nat} {p : Place} (h : i ≠ n) : upd1 ν n p i = ν i := by simp [upd1, h]

theorem updF_one {n k : Nat} {o : MObj} {h : Hp} : updF [(n, o)] h k = if k = n then some o else h k := by
  unfold updF
  by_cases hk : k = n
  · subst hk; simp
  · have : (n == k) = false := by simpa using fun e => hk e.symm
    simp [List.find?, this, hk]

theorem alloc_heap_old (w : World) (o : Obj) (k : Nat) (h : k < w.heap.size) : (w.alloc o).heap[k]? = w.heap[k]? := by
  show (w.heap.push o)[k]? = _
  rw [Array.getElem?_push, if_neg (by omega)]
theorem alloc_heap_new (w : World) (o : Obj) : (w.alloc o).heap[w.heap.size]? = some o := by
  show (w.heap.push o)[w.heap.size]? = _
  simp

theorem MObj.holds_of_owns {o : MObj} {p : Place} (h : o.owns p) : o.holds p := by cases o <;> first | exact h | exact h.elim

/-- A new block. -/
theorem SatAt.fresh {X : Ctx} {ν : Pl} {s : St} {a : Act} {w : World} (h : SatAt X ν s a w) {n : Nat} (hn : s.hp n = none) {e : Nat} {b : List Seg} {cap : Nat} {arr : Array Value} {spare : List Value} {t : TypeId} {fz : Nat × Nat}
    (hb : okS (dom s.hp) b) (harr : arr.toList = denS ν b ++ spare) (hcap : e ≠ 0 → cap * e = arr.size) (hfz : fz = (0, 0) ∨ fz = (arr.size, arr.size + 1)) {d : Option Nat} {v : V} {y : Value}
    (hd : ∀ x, d = some x → x < X.nt) (hr : v.rel (upd1 ν n ⟨w.heap.size, 0, cap, false⟩) y) (hvok : v.ok (dom (updF [(n, .own e b)] s.hp))) :
    SatAt X (upd1 ν n ⟨w.heap.size, 0, cap, false⟩) ⟨putF d v s.tmp, updF [(n, .own e b)] s.hp⟩ (a.put d y) (w.alloc (.cells arr t fz)) := by
  have hν : ∀ i, dom s.hp i → upd1 ν n ⟨w.heap.size, 0, cap, false⟩ i = ν i := fun i hi => upd1_ne (fun e => hi (by rw [e]; exact hn))
  have hdom : ∀ i, dom s.hp i → dom (updF [(n, MObj.own e b)] s.hp) i := fun i hi => by
    unfold dom; rw [updF_one]; split
    · simp
    · exact hi
  have hlen : arr.size = (denS ν b).length + spare.length := by rw [← Array.length_toList, harr]; simp
  have hbν : denS (upd1 ν n ⟨w.heap.size, 0, cap, false⟩) b = denS ν b := denS_congr hν hb
  refine h.next hν hdom hd hr hvok ?_ rfl rfl rfl (by simp) (fun b' hb' hM => alloc_heap_old w _ b' (Nat.lt_of_lt_of_le hb' h.fr.size)) ?_
  · refine h.fit.one n hν hdom (fun j o hj ho => ?_) (by simp) (fun o ho => ?_)
    · rw [updF_one, if_neg hj] at ho
      exact .inr ⟨ho, fun hh => alloc_heap_old w _ _ (MObj.holds_lt (h.fit.fit j o ho) hh)⟩
    · rw [updF_one, if_pos rfl] at ho
      simp at ho; subst ho
      refine ⟨?_, okS_mono hdom hb, fun j o' hj ho' ho'' => ?_⟩
      · simp only [MObj.fit, upd1_same, Bool.false_eq_true, if_false]
        refine ⟨trivial, spare, t, fz, ?_, ?_, ?_⟩
        · rw [alloc_heap_new, hbν]
          congr 2
          rw [← harr]
        · rw [hbν, ← hlen]; exact hfz
        · intro he; rw [hbν, ← hlen]; exact hcap he
      · rw [upd1_same]
        refine ⟨fun _ hh => ?_, fun ho _ => ?_⟩
        · have := MObj.holds_lt (h.fit.fit j o' ho'') hh
          simp only; omega
        · have := MObj.holds_lt (h.fit.fit j o' ho'') (MObj.holds_of_owns ho)
          simp only; omega
  · intro i o hi ho
    rw [updF_one] at hi
    by_cases hin : i = n
    · subst hin
      rw [upd1_same]
      exact .inr h.fr.size
    · rw [if_neg hin] at hi
      rw [hν i (by rw [dom, hi]; simp)] at ho ⊢
      exact h.inM i o hi ho

/-- A new name for a nil slice. -/
theorem SatAt.nilRow {X : Ctx} {ν : Pl} {s : St} {a : Act} {w : World} (h : SatAt X ν s a w) {n : Nat} (hn : s.hp n = none) {e : Nat} {d : Option Nat} {v : V} {y : Value}
    (hd : ∀ x, d = some x → x < X.nt) (hr : v.rel (upd1 ν n ⟨0, 0, 0, true⟩) y) (b : List Seg) (hb0 : sizeS b = 0) (hbok : okS (dom s.hp) b) (hvok : v.ok (dom (updF [(n, .own e b)] s.hp))) :
    SatAt X (upd1 ν n ⟨0, 0, 0, true⟩) ⟨putF d v s.tmp, updF [(n, .own e b)] s.hp⟩ (a.put d y) w := by
  have hν : ∀ i, dom s.hp i → upd1 ν n ⟨0, 0, 0, true⟩ i = ν i := fun i hi => upd1_ne (fun e => hi (by rw [e]; exact hn))
  have hdom : ∀ i, dom s.hp i → dom (updF [(n, MObj.own e b)] s.hp) i := fun i hi => by
    unfold dom; rw [updF_one]; split
    · simp
    · exact hi
  refine h.next hν hdom hd hr hvok ?_ rfl rfl rfl (Nat.le_refl _) (fun _ _ _ => rfl) ?_
  · refine h.fit.one n hν hdom (fun j o hj ho => ?_) (Nat.le_refl _) (fun o ho => ?_)
    · rw [updF_one, if_neg hj] at ho
      exact .inr ⟨ho, fun _ => rfl⟩
    · rw [updF_one, if_pos rfl] at ho
      simp at ho; subst ho
      refine ⟨?_, okS_mono hdom hbok, fun j o' hj ho' ho'' => ?_⟩
      · simp only [MObj.fit, upd1_same, if_true]; exact ⟨hb0, trivial⟩
      · rw [upd1_same]
        exact ⟨fun ho => by simp [MObj.owns] at ho, fun _ ho => by simp [MObj.holds] at ho⟩
  · intro i o hi ho
    rw [updF_one] at hi
    by_cases hin : i = n
    · subst hin
      rw [upd1_same] at ho
      rw [if_pos rfl] at hi
      simp at hi; subst hi
      simp [MObj.owns] at ho
    · rw [if_neg hin] at hi
      rw [hν i (by rw [dom, hi]; simp)] at ho ⊢
      exact h.inM i o hi ho

/-! ### Cells written one behind the other -/
theorem setCell_heap (w : World) (b o : Nat) (v : Value) {c : Array Value} {t : TypeId} {fz : Nat × Nat} (h : w.heap[b]? = some (.cells c t fz)) : (w.setCell ⟨b, o, none⟩ v).heap[b]? = some (.cells (c.setIfInBounds o v) t fz) := by
  simp only [World.setCell, Array.getElem?_modify, if_true, h, Option.map_some]
  simp
theorem setCells_heap : ∀ (vs : List Value) (b o : Nat) (w : World) (c : Array Value) (t : TypeId) (fz : Nat × Nat), w.heap[b]? = some (.cells c t fz) → o + vs.length ≤ c.size →
    ∃ c', (w.setCells b o vs).heap[b]? = some (.cells c' t fz) ∧ c'.toList = spl c.toList o vs
  | [], b, o, w, c, t, fz, h, _ => ⟨c, h, by simp [spl]⟩
  | v :: vs, b, o, w, c, t, fz, h, hl => by
    simp only [List.length_cons] at hl
    obtain ⟨c', h1, h2⟩ := setCells_heap vs b (o + 1) (w.setCell ⟨b, o, none⟩ v) _ t fz (setCell_heap w b o v h) (by simp; omega)
    refine ⟨c', h1, ?_⟩
    rw [h2]
    simp only [Array.toList_setIfInBounds]
    exact spl_cons (by simp; omega)
theorem setCells_other : ∀ (vs : List Value) (b o : Nat) (w : World) (k : Nat), k ≠ b → (w.setCells b o vs).heap[k]? = w.heap[k]?
  | [], _, _, _, _, _ => rfl
  | v :: vs, b, o, w, k, h => by
    rw [World.setCells, setCells_other vs b (o + 1) _ k h]
    simp only [World.setCell, Array.getElem?_modify]
    rw [if_neg (by omega)]
theorem setCells_same : ∀ (vs : List Value) (b o : Nat) (w : World), (w.setCells b o vs).os = w.os ∧ (w.setCells b o vs).tape = w.tape ∧ (w.setCells b o vs).output = w.output ∧ (w.setCells b o vs).heap.size = w.heap.size
  | [], _, _, _ => ⟨rfl, rfl, rfl, rfl⟩
  | v :: vs, b, o, w => by
    obtain ⟨h1, h2, h3, h4⟩ := setCells_same vs b (o + 1) (w.setCell ⟨b, o, none⟩ v)
    exact ⟨h1, h2, h3, by rw [World.setCells, h4]; simp⟩

/-- What an owned object says of its block. -/
theorem own_block {ν : Pl} {h : Hp} {w : World} (F : FitH ν h w) {i e : Nat} {b : List Seg} (hi : h i = some (.own e b)) (hn : (ν i).nil = false) :
    (ν i).base = 0 ∧ ∃ spare t fz, w.heap[(ν i).blk]? = some (.cells (denS ν b ++ spare).toArray t fz) ∧ (fz = (0, 0) ∨ fz = ((denS ν b).length + spare.length, (denS ν b).length + spare.length + 1)) ∧ (e ≠ 0 → (ν i).cap * e = (denS ν b).length + spare.length) := by
  have := F.fit i _ hi
  simp only [MObj.fit, hn, Bool.false_eq_true, if_false] at this
  exact this

theorem run_store_own {P : Program} {ν : Pl} {h : Hp} {w : World} (F : FitH ν h w) {i e : Nat} {b : List Seg} (hi : h i = some (.own e b)) (hn : (ν i).nil = false) {off : Nat} {vs : List Value} (h1 : ∀ v ∈ vs, v.oneCell' = true)
    {N : Nat} (hN : ∃ spare t fz, w.heap[(ν i).blk]? = some (.cells (denS ν b ++ spare).toArray t fz) ∧ (denS ν b ++ spare).length = N) (hle : off + vs.length ≤ N) :
    (storeCells (at_ ν i off) vs).run P w = .ok () (w.setCells (ν i).blk off vs) := by
  obtain ⟨hb, spare, t, fz, hh, hf, _⟩ := own_block F hi hn
  obtain ⟨spare', t', fz', hh', hN'⟩ := hN
  rw [hh] at hh'
  simp at hh'
  obtain ⟨hsp, rfl, rfl⟩ := hh'
  subst hsp
  have ha : at_ ν i off = ⟨(ν i).blk, off, none⟩ := by simp [at_, hb]
  rw [ha]
  have := run_storeCells_cells (P := P) (ν i).blk off vs 0 w (fun j hj => by
    unfold World.cell?
    simp only [hh, Option.isSome_none, Bool.false_eq_true, if_false, Nat.add_zero]
    rw [List.getElem?_toArray, List.getElem?_eq_getElem (by omega)]
    rfl) (fun j hj => by
    unfold World.frozen?
    simp only [hh, Nat.add_zero]
    rcases hf with rfl | rfl
    · simp
    · simp only [List.length_append] at hN'
      simp
      omega) h1
  simpa using this

/-- An owned object whose cells have been written. -/
theorem SatAt.wrote {X : Ctx} {ν : Pl} {s : St} {a : Act} {w : World} (h : SatAt X ν s a w) {i e : Nat} {b b' : List Seg} (hi : s.hp i = some (.own e b)) (hn : (ν i).nil = false) {off : Nat} {vs : List Value}
    (hb' : okS (dom s.hp) b') (hden : denS ν b' = spl (denS ν b) off vs) (hle : off + vs.length ≤ (denS ν b).length) {d : Option Nat} {v : V} {y : Value} (hd : ∀ x, d = some x → x < X.nt) (hr : v.rel ν y) (hvok : v.ok (dom s.hp)) :
    SatAt X ν ⟨putF d v s.tmp, updF [(i, .own e b')] s.hp⟩ (a.put d y) (w.setCells (ν i).blk off vs) := by
  have hdom : ∀ k, dom (updF [(i, MObj.own e b')] s.hp) k ↔ dom s.hp k := fun k => by
    unfold dom; rw [updF_one]; split
    · rename_i hk; subst hk; simp [hi]
    · rfl
  obtain ⟨hb, spare, t, fz, hh, hf, hc⟩ := own_block h.fit hi hn
  obtain ⟨s1, s2, s3, s4⟩ := setCells_same vs (ν i).blk off w
  have hlen' : (denS ν b').length = (denS ν b).length := by rw [hden, spl_length hle]
  refine h.next (fun _ _ => rfl) (fun k hk => (hdom k).2 hk) hd hr (V.ok_mono (fun k hk => (hdom k).2 hk) hvok) ?_ s1 s2 s3 (by rw [s4]; exact Nat.le_refl _) ?_ ?_
  · refine h.fit.one i (fun _ _ => rfl) (fun k hk => (hdom k).2 hk) (fun j o hj ho => ?_) (by rw [s4]; exact Nat.le_refl _) (fun o ho => ?_)
    · rw [updF_one, if_neg hj] at ho
      refine .inr ⟨ho, fun hho => setCells_other vs _ off w _ ?_⟩
      exact (h.fit.apart i j _ o (Ne.symm hj) hi ho hn hho).symm
    · rw [updF_one, if_pos rfl] at ho
      simp at ho; subst ho
      refine ⟨?_, okS_mono (fun k hk => (hdom k).2 hk) hb', fun j o' hj ho' ho'' => ⟨fun h1 h2 => h.fit.apart i j _ o' (Ne.symm hj) hi ho'' hn h2, fun h1 _ => h.fit.apart j i o' _ hj ho'' hi h1 hn⟩⟩
      simp only [MObj.fit, hn, Bool.false_eq_true, if_false]
      obtain ⟨c', g1, g2⟩ := setCells_heap vs (ν i).blk off w _ t fz hh (by simp; omega)
      refine ⟨hb, spare, t, fz, ?_, ?_, ?_⟩
      · rw [g1]
        congr 2
        rw [← Array.toList_inj, g2, hden]
        simp only [spl]
        rw [List.take_append_of_le_length (by omega), List.drop_append_of_le_length (by omega)]
        simp
      · rw [hlen']; exact hf
      · rw [hlen']; exact hc
  · intro k hk hM
    refine setCells_other vs _ off w k ?_
    rcases h.inM i _ hi hn with h1 | h1
    · intro e; rw [e] at hM; exact hM h1
    · omega
  · intro k o hk ho
    rw [updF_one] at hk
    by_cases hki : k = i
    · subst hki
      exact h.inM k _ hi hn
    · rw [if_neg hki] at hk
      exact h.inM k o hk ho
end Go.Mx
