/- The engine, part Y: stores, copies, clears. Conditions: those that each lists. -/
import Derived.Test.YtjbagkimpmpfgaaMxX
namespace Go.Mx

/-! ### A store -/
def storeC (Γ : Tab) (T : Nat) (p : C) (x : V) (ob : Option MObj) : Option Eff :=
  match Γ T, ob, p.obj with
  | some ti, some (.own e b), some i =>
    bif knownT ti.k then
      bif isAggT ti.k then
        match p, x with
        | .ptr _ off, .v (.agg q) => bif Nat.blt 0 ti.size then (match putS b off q ti.size with
          | some r => some ⟨[sizeS q = ti.size], .any, [(i, .own e b)], [(i, .own e r)], []⟩
          | none => none) else none
        | .pel _ off row w f, .v (.agg q) => bif Nat.blt 0 ti.size then (match putS b (off + row * w + f) q ti.size with
          | some r => some ⟨[sizeS q = ti.size], .any, [(i, .own e b)], [(i, .own e r)], []⟩
          | none => none) else none
        | _, _ => none
      else bif Nat.beq ti.size 1 then match p, x with
        | .ptr _ off, .v (.one c) => match setP b off c with
          | some (cs, r) => some ⟨cs, .any, [(i, .own e b)], [(i, .own e r)], []⟩
          | none => none
        | .pel _ off row w f, .v (.one c) => match setE b off row w f c with
          | some (cs, r) => some ⟨cs, .any, [(i, .own e b)], [(i, .own e r)], []⟩
          | none => none
        | _, _ => none
      else none
    else none
  | _, _, _ => none

/-- What a store comes to, by the numbers: which object, which place, which cells. -/
structure Wrote (b r : List Seg) (off : Nat) (D : Nat → Prop) (ν : Pl) (vs : List Value) : Prop where
  den : denS ν r = spl (denS ν b) off vs
  ok : okS D r
  le : off + vs.length ≤ (denS ν b).length

theorem set_spl {l : List Value} {off : Nat} {v : Value} (h : off < l.length) : l.set off v = spl l off [v] := by
  unfold spl
  rw [List.set_eq_take_append_cons_drop]
  simp [h]

theorem not_nil_of {ν : Pl} {h : Hp} {w : World} (F : FitH ν h w) {i e : Nat} {b : List Seg} (hi : h i = some (.own e b)) (hb : 0 < (denS ν b).length) : (ν i).nil = false := by
  cases hn : (ν i).nil with
  | false => rfl
  | true =>
    have := F.fit i _ hi
    simp only [MObj.fit, hn, if_true] at this
    have e1 : (denS ν b).length = sizeS b := denS_len (F.ok i _ hi)
    omega

/-- The step of an operation that writes cells of one object. -/
theorem wpOk_write {X : Ctx} {Q : Exit → Act → World → Prop} {o : Oper} {r : Rec V MObj} {i e : Nat} {b b' : List Seg} (hu : r.upd = [(i, .own e b')]) (hf : (i, MObj.own e b) ∈ r.foot) (hd : r.dst = o.dst) (hdt : ∀ x, o.dst = some x → x < X.nt)
    (hrun : ∀ ν s a w, r.valid s → SatAt X ν s a w → s.hp i = some (.own e b) → r.v.ok (dom s.hp) ∧ ∃ off vs, Wrote b b' off (dom s.hp) ν vs ∧ (vs ≠ [] → (ν i).nil = false) ∧
      (vs = [] → ∃ n, ((n = .skip ∧ r.v.rel ν undef) ∨ ∃ y, n = .value y ∧ r.v.rel ν y) ∧ (execOp a.eval o).run X.P w = .ok n w) ∧
      (vs ≠ [] → ∃ n, ((n = .skip ∧ r.v.rel ν undef) ∨ ∃ y, n = .value y ∧ r.v.rel ν y) ∧ (execOp a.eval o).run X.P w = .ok n (w.setCells (ν i).blk off vs))) : WpOk X Q o r := by
  intro s a w K hv hs hK
  obtain ⟨ν, hs⟩ := hs
  have hi := hv.2.1 _ hf
  obtain ⟨hvok, off, vs, hw, hnil, h0, h1⟩ := hrun ν s a w hv hs hi
  have fin : ∀ {n : Next} {w' : World}, ((n = .skip ∧ r.v.rel ν undef) ∨ ∃ y, n = .value y ∧ r.v.rel ν y) → (execOp a.eval o).run X.P w = .ok n w' → (∀ y, r.v.rel ν y → SatAt X ν (r.app s) (a.put o.dst y) w') → o.wp X.P a w K Q := by
    intro n w' hn hrun hsat
    unfold Oper.wp
    rw [hrun]
    rcases hn with ⟨rfl, hr⟩ | ⟨y, rfl, hr⟩
    · exact hK _ _ ⟨ν, hsat _ hr⟩
    · exact hK _ _ ⟨ν, hsat _ hr⟩
  by_cases hvs : vs = []
  · obtain ⟨n, hn, hrn⟩ := h0 hvs
    refine fin hn hrn (fun y hr => ?_)
    subst hvs
    have hden : denS ν b' = denS ν b := by rw [hw.den]; simp [spl]
    have hdom : ∀ k, dom (updF [(i, MObj.own e b')] s.hp) k ↔ dom s.hp k := fun k => by
      unfold dom; rw [updF_one]; split
      · rename_i hk; subst hk; simp [hi]
      · rfl
    simp only [Rec.app, hu, hd]
    refine hs.next (fun _ _ => rfl) (fun k hk => (hdom k).2 hk) hdt hr (V.ok_mono (fun k hk => (hdom k).2 hk) hvok) ?_ rfl rfl rfl (Nat.le_refl _) (fun _ _ _ => rfl) ?_
    · refine hs.fit.one i (fun _ _ => rfl) (fun k hk => (hdom k).2 hk) (fun j o hj ho => ?_) (Nat.le_refl _) (fun o ho => ?_)
      · rw [updF_one, if_neg hj] at ho
        exact .inr ⟨ho, fun _ => rfl⟩
      · rw [updF_one, if_pos rfl] at ho
        simp at ho; subst ho
        refine ⟨?_, okS_mono (fun k hk => (hdom k).2 hk) hw.ok, fun j o' hj ho' ho'' => ⟨fun h1 h2 => hs.fit.apart i j _ o' (Ne.symm hj) hi ho'' h1 h2, fun h1 h2 => hs.fit.apart j i o' _ hj ho'' hi h1 h2⟩⟩
        have hfit := hs.fit.fit i _ hi
        simp only [MObj.fit] at hfit ⊢
        rw [hden]
        have : sizeS b' = sizeS b := by
          have e1 := denS_len (ν := ν) hw.ok
          have e2 : (denS ν b).length = sizeS b := denS_len (hs.fit.ok i _ hi)
          rw [← e1, hden, e2]
        rw [this]; exact hfit
    · intro k o hk ho
      rw [updF_one] at hk
      by_cases hki : k = i
      · subst hki; rw [if_pos rfl] at hk; simp at hk; subst hk
        exact hs.inM k _ hi ho
      · rw [if_neg hki] at hk
        exact hs.inM k o hk ho
  · obtain ⟨n, hn, hrn⟩ := h1 hvs
    refine fin hn hrn (fun y hr => ?_)
    simp only [Rec.app, hu, hd]
    exact hs.wrote hi (hnil hvs) hw.ok hw.den hw.le hdt hr hvok

theorem lift0 {P : Program} {w w' : World} {m : Sem Unit} (h : m.run P w = .ok () w') : (do m; pure Next.skip : Sem Next).run P w = .ok .skip w' := by
  simp only [Sem.run_bind, h, Result.andThen_ok, Sem.run_pure]

theorem own_N {ν : Pl} {h : Hp} {w : World} (F : FitH ν h w) {i e : Nat} {b : List Seg} (hi : h i = some (.own e b)) (hn : (ν i).nil = false) :
    ∃ N, (∃ spare t fz, w.heap[(ν i).blk]? = some (.cells (denS ν b ++ spare).toArray t fz) ∧ (denS ν b ++ spare).length = N) ∧ (denS ν b).length ≤ N := by
  obtain ⟨_, spare, t, fz, hh, _, _⟩ := own_block F hi hn
  exact ⟨_, ⟨spare, t, fz, hh, rfl⟩, by simp⟩

section
variable {X : Ctx} {Q : Exit → Act → World → Prop} {Γ : Tab} (hΓ : Γ.Ok X.P) {dst : Option Nat} {ty : TypeId} {pos : String} {aft : Array Edge} {gd : Option (Nat × Bool)} {slots : List (Nat × V)} (hdt : ∀ x, dst = some x → x < X.nt)
include hΓ hdt

theorem store_ok {T : Nat} {p x : Operand} {c : C} {f : Eff} {g : Nat → V} {ob : Option MObj} (h : storeC Γ T c (ov g x) ob = some f) (hc : AllP f.cs) (hp : ov g p = .v (.one c))
    (hsl : ∀ s : St, (f.toR dst slots).valid s → ov s.tmp p = ov g p ∧ ov s.tmp x = ov g x) : WpOk X Q ⟨dst, .store T p x, ty, pos, aft, gd⟩ (f.toR dst slots) := by
  have core : ∀ {ti : TI} {i e off : Nat} {b r : List Seg} {y : V1} {cs : List Prop}, Γ T = some ti → c.den = (fun ν => Value.pointer (some (at_ ν i off))) → ov g x = .v y → f = ⟨cs, .any, [(i, .own e b)], [(i, .own e r)], []⟩ →
      (∀ (D : Nat → Prop) (ν : Pl), okS D b → y.ok D → denS ν r = spl (denS ν b) off (denS ν y.segs) ∧ okS D r ∧ off + (denS ν y.segs).length ≤ (denS ν b).length ∧ (denS ν y.segs).length = ti.size ∧ 0 < ti.size) →
      WpOk X Q ⟨dst, .store T p x, ty, pos, aft, gd⟩ (f.toR dst slots) := by
    intro ti i e off b r y cs hT hcd hx hf hspec
    subst hf
    refine wpOk_write (i := i) (e := e) (b := b) (b' := r) rfl (by simp [Eff.toR]) rfl hdt (fun ν s a w hv hs hi => ?_)
    obtain ⟨g1, g2⟩ := hsl s hv
    have hpv := ov_rel hs p
    rw [g1, hp] at hpv
    have hxv := ov_rel hs x
    rw [g2, hx] at hxv
    obtain ⟨s1, s2, s3, s4, s5⟩ := hspec (dom s.hp) ν (hs.fit.ok i _ hi) hxv.2
    have hn := not_nil_of hs.fit hi (by omega)
    refine ⟨trivial, off, denS ν y.segs, ⟨s1, s2, s3⟩, fun _ => hn, fun h => ?_, fun _ => ⟨.skip, .inl ⟨rfl, trivial⟩, ?_⟩⟩
    · rw [h] at s4; simp at s4; omega
    · have hpe : a.eval p = .pointer (some (at_ ν i off)) := by rw [hpv.1]; exact congrFun hcd ν
      have hxe : a.eval x = y.den ν := hxv.1
      have hcells : (y.den ν).cells.toList = denS ν y.segs := V1.cells hxv.2
      have hsize : (y.den ν).cells.size = ti.size := by rw [← Array.length_toList, hcells, s4]
      obtain ⟨N, hN, hle⟩ := own_N hs.fit hi hn
      have hst := run_store_own (P := X.P) hs.fit hi hn (off := off) (vs := denS ν y.segs) (denS_ones (V1.segs_ok hxv.2)) hN (by omega)
      refine lift0 ?_
      rw [hpe, hxe]
      simp only [Instr.storeAt, Instr.sureAddr, Sem.run_bind, Sem.run_pure, Result.andThen_ok, storeVar, (hΓ T ti hT).sizeOf w, hsize, ne_eq, not_true_eq_false, if_false]
      rw [hcells, hst]
  unfold storeC at h
  split at h
  · rename_i ti e b i hT hi
    cases hk : knownT ti.k with
    | false => rw [hk] at h; simp at h
    | true =>
      rw [hk] at h; simp only [cond_true] at h
      cases ha : isAggT ti.k with
      | true =>
        rw [ha] at h; simp only [cond_true] at h
        split at h
        · rename_i i' off q hx
          cases hz : Nat.blt 0 ti.size with
          | false => rw [hz] at h; simp at h
          | true =>
            rw [hz] at h; simp only [cond_true] at h
            rw [Nat.blt_eq] at hz
            split at h
            · rename_i r hr
              simp at h
              simp [C.obj] at hi; subst hi
              refine core hT rfl hx h.symm (fun D ν hb hy => ?_)
              have hsq : sizeS q = ti.size := by rw [← h] at hc; exact hc.1
              obtain ⟨p1, p2, p3, p4⟩ := putS_spec (ν := ν) hr hb hy hsq
              have e1 := denS_len (ν := ν) (l := q) hy
              exact ⟨p1, p2, by simp only [V1.segs]; omega, by simp only [V1.segs]; omega, hz⟩
            · cases h
        · rename_i i' off row w' f' q hx
          cases hz : Nat.blt 0 ti.size with
          | false => rw [hz] at h; simp at h
          | true =>
            rw [hz] at h; simp only [cond_true] at h
            rw [Nat.blt_eq] at hz
            split at h
            · rename_i r hr
              simp at h
              simp [C.obj] at hi; subst hi
              refine core hT rfl hx h.symm (fun D ν hb hy => ?_)
              have hsq : sizeS q = ti.size := by rw [← h] at hc; exact hc.1
              obtain ⟨p1, p2, p3, p4⟩ := putS_spec (ν := ν) hr hb hy hsq
              have e1 := denS_len (ν := ν) (l := q) hy
              exact ⟨p1, p2, by simp only [V1.segs]; omega, by simp only [V1.segs]; omega, hz⟩
            · cases h
        · cases h
      | false =>
        rw [ha] at h; simp only [cond_false] at h
        cases hz1 : Nat.beq ti.size 1 with
        | false => rw [hz1] at h; simp at h
        | true =>
        rw [hz1] at h; simp only [cond_true] at h
        have h1 : ti.size = 1 := Nat.eq_of_beq_eq_true hz1
        split at h
        · rename_i i' off y hx
          split at h
          · rename_i cs r hr
            simp at h
            simp [C.obj] at hi; subst hi
            refine core hT rfl hx h.symm (fun D ν hb hy => ?_)
            obtain ⟨p1, p2, p3, p4⟩ := setP_spec (ν := ν) hr (by rw [← h] at hc; exact hc) hb hy
            simp only [V1.segs, denS, Seg.den, List.append_nil, List.length_singleton]
            exact ⟨by rw [p1, set_spl p3], p2, by omega, h1.symm, by omega⟩
          · cases h
        · rename_i i' off row w' f' y hx
          split at h
          · rename_i cs r hr
            simp at h
            simp [C.obj] at hi; subst hi
            refine core hT rfl hx h.symm (fun D ν hb hy => ?_)
            obtain ⟨p1, p2, p3, p4⟩ := setE_spec (ν := ν) hr (by rw [← h] at hc; exact hc) hb hy
            simp only [V1.segs, denS, Seg.den, List.append_nil, List.length_singleton]
            exact ⟨by rw [p1, set_spl p3], p2, by omega, h1.symm, by omega⟩
          · cases h
        · cases h
  · cases h
end

/-! ### Rows of numbers, as a copy sees them -/
def splI (l : List Int) (off : Nat) (m : List Int) : List Int := l.take off ++ m ++ l.drop (off + m.length)
theorem splI_map (k : IntKind) (l : List Int) (off : Nat) (m : List Int) : (splI l off m).map (Value.int k) = spl (l.map (Value.int k)) off (m.map (Value.int k)) := by
  simp [splI, spl]
theorem splI_length {l m : List Int} {off : Nat} (h : off + m.length ≤ l.length) : (splI l off m).length = l.length := by
  simp [splI]; omega

def putRow : List Seg → Nat → Seg → Option (List Seg)
  | _ :: r, 0, x => some (x :: r)
  | .c y :: r, off + 1, x => match putRow r off x with | some q => some (.c y :: q) | none => none
  | s :: r, off + 1, x => bif Nat.blt (off + 1) s.size then none else match putRow r (off + 1 - s.size) x with | some q => some (s :: q) | none => none
  | [], _, _ => none

theorem spl_spl {L S vs : List Value} {off lo : Nat} (h : ∀ j, j < S.length → L[off + j]? = S[j]?) (hl : off + S.length ≤ L.length) (hv : lo + vs.length ≤ S.length) : spl L off (spl S lo vs) = spl L (off + lo) vs := by
  apply List.ext_getElem?
  intro j
  have e : (spl S lo vs).length = S.length := spl_length hv
  have a := spl_get (l := L) (m := spl S lo vs) (off := off) (by rw [e]; exact hl) j
  have b := spl_get (l := L) (m := vs) (off := off + lo) (by omega) j
  have c := spl_get (l := S) (m := vs) (off := lo) hv (j - off)
  rw [e] at a
  rw [a, b, c]
  by_cases h1 : j < off
  · rw [if_pos h1, if_pos (by omega)]
  · rw [if_neg h1]
    by_cases h2 : j < off + S.length
    · rw [if_pos h2]
      have hj : L[j]? = S[j - off]? := by
        rw [← h (j - off) (by omega)]
        congr 1; omega
      by_cases h3 : j - off < lo
      · rw [if_pos h3, if_pos (by omega), hj]
      · rw [if_neg h3]
        by_cases h4 : j - off < lo + vs.length
        · rw [if_pos h4, if_neg (by omega), if_pos (by omega)]
          congr 1; omega
        · rw [if_neg h4, if_neg (by omega), if_neg (by omega), hj]
    · rw [if_neg h2, if_neg (by omega), if_neg (by omega)]

theorem putRow_spec {D : Nat → Prop} {ν : Pl} : ∀ {l : List Seg} {off : Nat} {s x : Seg} {q : List Seg}, rowAt l off = some s → putRow l off x = some q → x.size = s.size → okS D l → x.ok D →
    denS ν q = spl (denS ν l) off (x.den ν) ∧ okS D q ∧ sizeS q = sizeS l := by
  intro l
  induction l with
  | nil => intro off s x q h; cases off <;> simp [rowAt] at h
  | cons y r ih =>
    intro off s x q hr h hsz hok hx
    cases off with
    | zero =>
      simp [rowAt] at hr; subst hr
      simp [putRow] at h; subst h
      refine ⟨?_, ⟨hx, hok.2⟩, by simp [sizeS, hsz]⟩
      simp only [denS, spl, List.take_zero, List.nil_append, Nat.zero_add]
      rw [Seg.len hx, hsz, List.drop_append, Seg.len hok.1, List.drop_of_length_le (by rw [Seg.len hok.1]; exact Nat.le_refl _)]
      simp
    | succ off =>
      have past : ∀ n, y.size = n → n ≤ off + 1 → ∀ q', rowAt r (off + 1 - n) = some s → putRow r (off + 1 - n) x = some q' → q = y :: q' → denS ν q = spl (denS ν (y :: r)) (off + 1) (x.den ν) ∧ okS D q ∧ sizeS q = sizeS (y :: r) := by
        intro n hn hle q' h1 h2 h3
        subst h3
        obtain ⟨g1, g2, g3⟩ := ih h1 h2 hsz hok.2 hx
        obtain ⟨_, _, r3⟩ := rowAt_spec (ν := ν) h1 hok.2
        refine ⟨?_, ⟨hok.1, g2⟩, by simp [sizeS, g3]⟩
        have hy := Seg.len (ν := ν) hok.1
        have hxl := Seg.len (ν := ν) hx
        simp only [denS, g1]
        unfold spl
        rw [take_app (l := y.den ν) (by omega), drop_app (l := y.den ν) (by omega), hy, hn]
        simp only [List.append_assoc]
        congr 4
        omega
      have big : (bif Nat.blt (off + 1) y.size then none else rowAt r (off + 1 - y.size)) = some s → (bif Nat.blt (off + 1) y.size then none else match putRow r (off + 1 - y.size) x with | some q => some (y :: q) | none => none) = some q →
          denS ν q = spl (denS ν (y :: r)) (off + 1) (x.den ν) ∧ okS D q ∧ sizeS q = sizeS (y :: r) := by
        intro hr h
        cases hb : Nat.blt (off + 1) y.size with
        | true => rw [hb] at h; simp at h
        | false =>
          rw [hb] at h hr; simp only [cond_false] at h hr
          split at h
          · rename_i q' hq
            simp at h
            exact past _ rfl (blt_false hb) q' hr hq h.symm
          · cases h
      cases y with
      | c z =>
        simp only [rowAt] at hr
        simp only [putRow] at h
        split at h
        · rename_i q' hq
          simp at h
          exact past 1 rfl (by omega) q' (by simpa using hr) (by simpa using hq) h.symm
        · cases h
      | ints k l n => exact big hr h
      | strs l n => exact big hr h
      | rows w n f => exact big hr h

/-- A slice of numbers: the object's stretch, the place in it, how many. -/
structure RowC where
  cs : List Prop
  off : Nat
  lo : Nat
  len : Nat
  k : IntKind
  l : List Int
  n : Nat
def rowC (x : C) (o : MObj) : Option RowC :=
  match x with
  | .sl _ lo len w =>
    match o.cnt w, rowAt o.segs 0 with
    | some c, some (.ints k l n) => bif Nat.beq w 1 then some ⟨[lo + len ≤ c, lo + len ≤ n], 0, lo, len, k, l, n⟩ else none
    | _, _ => none
  | .sx _ off w lo len _ _ =>
    match rowAt o.segs off with
    | some (.ints k l n) => bif Nat.beq w 1 then some ⟨[lo + len ≤ n], off, lo, len, k, l, n⟩ else none
    | _ => none
  | _ => none

theorem rowC_spec {ν : Pl} {h : Hp} {w : World} (F : FitH ν h w) {x : C} {i : Nat} {o : MObj} {q : RowC} (hq : rowC x o = some q) (hc : AllP q.cs) (hx : x.obj = some i) (hi : h i = some o) (hok : x.ok (dom h)) :
    rowAt o.segs q.off = some (.ints q.k q.l q.n) ∧ q.lo + q.len ≤ q.n ∧ ∃ base cap, x.den ν = .slice base q.len cap ∧ (q.len ≠ 0 → base = some (at_ ν i (q.off + q.lo)) ∧ (ν i).nil = false) := by
  unfold rowC at hq
  split at hq
  · rename_i i' lo len w'
    simp [C.obj] at hx; subst hx
    split at hq
    · rename_i c k l n hcn hr
      cases hb : Nat.beq w' 1 with
      | false => rw [hb] at hq; simp at hq
      | true =>
        rw [hb] at hq; simp at hq; subst hq
        have ew := Nat.eq_of_beq_eq_true hb
        subst ew
        have hle : lo + len ≤ c := hc.1
        have hle' : lo + len ≤ n := hc.2.1
        obtain ⟨g1, g2, g3⟩ := MObj.cnt_cap hcn (F.ok i' o hi) (F.fit i' o hi)
        refine ⟨hr, hle', _, _, rfl, fun hne => ?_⟩
        have hne : len ≠ 0 := hne
        have hn : (ν i').nil = false := by
          cases hn : (ν i').nil with
          | false => rfl
          | true => have := (g1 hn).1; omega
        refine ⟨?_, hn⟩
        simp only [hn, Bool.false_eq_true, if_false]
        rw [if_neg (by omega), Nat.mul_one, Nat.zero_add]
    · cases hq
  · rename_i i' off w' lo len cap adr
    simp [C.obj] at hx; subst hx
    split at hq
    · rename_i k l n hr
      cases hb : Nat.beq w' 1 with
      | false => rw [hb] at hq; simp at hq
      | true =>
        rw [hb] at hq; simp at hq; subst hq
        have ew := Nat.eq_of_beq_eq_true hb
        subst ew
        have hle : lo + len ≤ n := hc.1
        refine ⟨hr, hle, _, _, rfl, fun hne => ?_⟩
        have hne : len ≠ 0 := hne
        have hadr := hok.2.2 (by have := hok.2.1; omega)
        refine ⟨by simp only [hadr, Nat.mul_one], ?_⟩
        obtain ⟨r1, r2, r3⟩ := rowAt_spec (ν := ν) hr (F.ok i' o hi)
        have hln : l.length = n := r1
        have := (cell_of_fit F hi (j := off + lo) (v := .int k (l[lo]'(by omega))) (by rw [r2 lo (by simp [Seg.size]; omega)]; simp [Seg.den])).2
        exact this
    · cases hq
  · cases hq

theorem MObj.cnt_eq {w c : Nat} {o : MObj} (h : o.cnt w = some c) : Mx.cnt w o.segs = some c := by
  cases o with
  | own e b =>
    simp only [MObj.cnt, MObj.segs] at h ⊢
    cases hbb : (Nat.beq e w && !(Nat.beq w 0)) with
    | false => rw [hbb] at h; simp at h
    | true => rw [hbb] at h; simpa using h
  | view e b =>
    simp only [MObj.cnt, MObj.segs] at h ⊢
    cases hbb : (Nat.beq e w && !(Nat.beq w 0)) with
    | false => rw [hbb] at h; simp at h
    | true => rw [hbb] at h; simpa using h
  | gone => simp [MObj.cnt] at h
theorem MObj.cnt_ints {w c : Nat} {o : MObj} {k : IntKind} {l : List Int} {n : Nat} (h : o.cnt w = some c) (ho : o.segs = [.ints k l n]) : w = 1 := by
  have := MObj.cnt_eq h
  rw [ho] at this
  simp only [Mx.cnt] at this
  cases hb : Nat.beq w 1 with
  | false => rw [hb] at this; simp at this
  | true => exact Nat.eq_of_beq_eq_true hb
theorem MObj.cnt_strs {w c : Nat} {o : MObj} {l : List ByteArray} {n : Nat} (h : o.cnt w = some c) (ho : o.segs = [.strs l n]) : w = 1 := by
  have := MObj.cnt_eq h
  rw [ho] at this
  simp only [Mx.cnt] at this
  cases hb : Nat.beq w 1 with
  | false => rw [hb] at this; simp at this
  | true => exact Nat.eq_of_beq_eq_true hb

/-- What is copied or appended: the cells, how many elements. -/
structure SrcC where
  cs : List Prop
  b : List Seg
  m : Nat
def srcC (x : C) (ob : Option MObj) (w : Nat) : Option SrcC :=
  match x, ob with
  | .str s, _ => bif Nat.beq w 1 then some ⟨[], [.ints .u8 (bl s) s.size], s.size⟩ else none
  | .nils, _ => some ⟨[], [], 0⟩
  | .sl _ lo m w', some o => bif Nat.beq w' w then
      (match o.cnt w, o.segs with
      | some c, [.ints k l n] => some ⟨[lo + m ≤ c, lo + m ≤ n], [.ints k ((l.drop lo).take m) m], m⟩
      | some c, [.strs l n] => some ⟨[lo + m ≤ c, lo + m ≤ n], [.strs ((l.drop lo).take m) m], m⟩
      | some c, b => bif Nat.beq lo 0 then some ⟨[m * w = sizeS b, m ≤ c], b, m⟩ else none
      | _, _ => none) else none
  | .clip _ m, some o =>
      (match o.cnt w, o.segs with
      | some c, [.ints k l n] => some ⟨[m ≤ c, m ≤ n], [.ints k (l.take m) m], m⟩
      | some c, [.strs l n] => some ⟨[m ≤ c, m ≤ n], [.strs (l.take m) m], m⟩
      | _, _ => none)
  | .sx _ off w' lo m _ _, some o => bif Nat.beq w' 1 && Nat.beq w 1 then
      (match rowAt o.segs off with
      | some (.ints k l n) => some ⟨[lo + m ≤ n], [.ints k ((l.drop lo).take m) m], m⟩
      | _ => none) else none
  | _, _ => none

theorem FitH.drew {ν : Pl} {h : Hp} {w : World} (F : FitH ν h w) : FitH ν h w.drew :=
  ⟨fun i o hi => MObj.fit_block (Nat.le_refl _) (fun _ => rfl) (F.fit i o hi), F.ok, F.apart⟩

theorem run_firstCells_at {P : Program} {ν : Pl} {h : Hp} {w : World} (F : FitH ν h w) {i : Nat} {o : MObj} (hi : h i = some o) {size n m cap adr : Nat} {l : List Value} (hl : l.length = m * size) (hn : n ≤ m) (hadr : m ≠ 0 → ∀ j, j < l.length → (denS ν o.segs)[adr + j]? = l[j]?) :
    (Builtin.firstCells size n (.slice (some (at_ ν i adr)) m cap)).run P w = .ok (l.take (n * size)).toArray w := by
  simp only [Builtin.firstCells]
  have hle : n * size ≤ l.length := by rw [hl]; exact Nat.mul_le_mul_right _ hn
  have := run_loadCells_list (P := P) w (at_ ν i adr) (l.take (n * size)) (fun j v hj => by
    have hjl := (List.getElem?_eq_some_iff.1 hj).1
    rw [List.length_take] at hjl
    rw [List.getElem?_take, if_pos (by omega)] at hj
    rw [at_add]
    refine (cell_of_fit F hi ?_).1
    rw [hadr (fun e => by rw [e, Nat.zero_mul] at hl; omega) j (by omega)]
    exact hj)
  rwa [List.length_take, Nat.min_eq_left hle] at this

theorem srcC_spec {P : Program} {ν : Pl} {h : Hp} {w : World} (F : FitH ν h w) {x : C} {ob : Option MObj} {size : Nat} {q : SrcC} (hq : srcC x ob size = some q) (hc : AllP q.cs) (hok : x.ok (dom h)) (hob : ∀ i o, x.obj = some i → ob = some o → h i = some o) (hsz : 0 < size) :
    okS (dom h) q.b ∧ (denS ν q.b).length = q.m * size ∧ (Builtin.lenOf (x.den ν)).run P w = .ok q.m w ∧ ∀ n, n ≤ q.m → (Builtin.firstCells size n (x.den ν)).run P w = .ok ((denS ν q.b).take (n * size)).toArray w := by
  unfold srcC at hq
  split at hq
  · rename_i s
    cases hb : Nat.beq size 1 with
    | false => rw [hb] at hq; simp at hq
    | true =>
      rw [hb] at hq; simp at hq; subst hq
      have e := Nat.eq_of_beq_eq_true hb
      subst e
      refine ⟨⟨bl_length s, trivial⟩, by simp [denS, Seg.den, bl_length], rfl, fun n hn => ?_⟩
      simp only [C.den, Builtin.firstCells, Sem.run_pure]
      congr 1
      apply Array.ext'
      simp [denS, Seg.den, bl, ByteArray.data_extract]
      rfl
  · simp at hq; subst hq
    refine ⟨trivial, by simp [denS], rfl, fun n hn => ?_⟩
    have hn : n ≤ 0 := hn
    have : n = 0 := by omega
    subst this
    simp [C.den, Builtin.firstCells, denS]
  · rename_i i lo m w' o
    cases hb : Nat.beq w' size with
    | false => rw [hb] at hq; simp at hq
    | true =>
      rw [hb] at hq; simp only [cond_true] at hq
      have e := Nat.eq_of_beq_eq_true hb
      subst e
      have hi := hob i o rfl rfl
      have core : ∀ {c : Nat} {b : List Seg}, o.cnt w' = some c → okS (dom h) b → (denS ν b).length = m * w' → lo + m ≤ c → (∀ j, j < m * w' → (denS ν o.segs)[lo * w' + j]? = (denS ν b)[j]?) →
          okS (dom h) b ∧ (denS ν b).length = m * w' ∧ (Builtin.lenOf ((C.sl i lo m w').den ν)).run P w = .ok m w ∧ ∀ n, n ≤ m → (Builtin.firstCells w' n ((C.sl i lo m w').den ν)).run P w = .ok ((denS ν b).take (n * w')).toArray w := by
        intro c b hcn hbok hbl hle hcell
        obtain ⟨g1, g2, g3⟩ := MObj.cnt_cap hcn (F.ok i o hi) (F.fit i o hi)
        refine ⟨hbok, hbl, rfl, fun n hn => ?_⟩
        cases hnil : (ν i).nil with
        | true =>
          have hm : m = 0 := by have := (g1 hnil).1; omega
          subst hm
          have : n = 0 := by omega
          subst this
          simp [C.den, hnil, Builtin.firstCells]
        | false =>
          simp only [C.den, hnil, Bool.false_eq_true, if_false]
          refine run_firstCells_at F hi hbl hn (fun hm j hj => ?_)
          rw [if_neg (by omega)]
          exact hcell j (by rw [← hbl]; exact hj)
      split at hq
      · rename_i c k l n hcn hsg
        simp at hq; subst hq
        have hle : lo + m ≤ c := hc.1
        have hle' : lo + m ≤ n := hc.2.1
        have hoko := F.ok i o hi
        have hln : l.length = n := by unfold MObj.ok at hoko; rw [hsg] at hoko; exact hoko.1
        have hw1 : w' = 1 := MObj.cnt_ints hcn hsg
        subst hw1
        have hlen : ((l.drop lo).take m).length = m := by rw [List.length_take, List.length_drop]; omega
        refine core hcn ⟨hlen, trivial⟩ (by simp [denS, Seg.den]; omega) hle (fun j hj => ?_)
        rw [hsg]
        simp only [denS, Seg.den, List.append_nil, List.getElem?_map, List.getElem?_take, List.getElem?_drop]
        rw [if_pos (by omega)]
        congr 2; omega
      · rename_i c l n hcn hsg
        simp at hq; subst hq
        have hle : lo + m ≤ c := hc.1
        have hle' : lo + m ≤ n := hc.2.1
        have hoko := F.ok i o hi
        have hln : l.length = n := by unfold MObj.ok at hoko; rw [hsg] at hoko; exact hoko.1
        have hw1 : w' = 1 := MObj.cnt_strs hcn hsg
        subst hw1
        have hlen : ((l.drop lo).take m).length = m := by rw [List.length_take, List.length_drop]; omega
        refine core hcn ⟨hlen, trivial⟩ (by simp [denS, Seg.den]; omega) hle (fun j hj => ?_)
        rw [hsg]
        simp only [denS, Seg.den, List.append_nil, List.getElem?_map, List.getElem?_take, List.getElem?_drop]
        rw [if_pos (by omega)]
        congr 2; omega
      · rename_i c hcn _ _
        cases hb0 : Nat.beq lo 0 with
        | false => rw [hb0] at hq; simp at hq
        | true =>
          rw [hb0] at hq; simp at hq; subst hq
          have e0 := Nat.eq_of_beq_eq_true hb0
          subst e0
          have hle : m ≤ c := hc.2.1
          have hms : m * w' = sizeS o.segs := hc.1
          refine core hcn (F.ok i o hi) (by rw [denS_len (F.ok i o hi)]; exact hms.symm) (by omega) (fun j hj => by rw [Nat.zero_mul, Nat.zero_add])
      · cases hq
  · rename_i i m o
    have hi := hob i o rfl rfl
    have core : ∀ {c : Nat} {b : List Seg}, o.cnt size = some c → okS (dom h) b → (denS ν b).length = m * size → m ≤ c → (∀ j, j < m * size → (denS ν o.segs)[j]? = (denS ν b)[j]?) →
        okS (dom h) b ∧ (denS ν b).length = m * size ∧ (Builtin.lenOf ((C.clip i m).den ν)).run P w = .ok m w ∧ ∀ n, n ≤ m → (Builtin.firstCells size n ((C.clip i m).den ν)).run P w = .ok ((denS ν b).take (n * size)).toArray w := by
      intro c b hcn hbok hbl hle hcell
      obtain ⟨g1, g2, g3⟩ := MObj.cnt_cap hcn (F.ok i o hi) (F.fit i o hi)
      refine ⟨hbok, hbl, rfl, fun n hn => ?_⟩
      cases hnil : (ν i).nil with
      | true =>
        have hm : m = 0 := by have := (g1 hnil).1; omega
        subst hm
        have : n = 0 := by omega
        subst this
        simp [C.den, hnil, Builtin.firstCells]
      | false =>
        simp only [C.den, hnil, Bool.false_eq_true, if_false]
        refine run_firstCells_at F hi hbl hn (fun hm j hj => ?_)
        rw [Nat.zero_add]
        exact hcell j (by rw [← hbl]; exact hj)
    split at hq
    · rename_i c k l n hcn hsg
      simp at hq; subst hq
      have hle : m ≤ c := hc.1
      have hle' : m ≤ n := hc.2.1
      have hoko := F.ok i o hi
      have hln : l.length = n := by unfold MObj.ok at hoko; rw [hsg] at hoko; exact hoko.1
      have hw1 := MObj.cnt_ints hcn hsg
      subst hw1
      have hlen : (l.take m).length = m := by rw [List.length_take]; omega
      refine core hcn ⟨hlen, trivial⟩ (by simp [denS, Seg.den]; omega) hle (fun j hj => ?_)
      rw [hsg]
      simp only [denS, Seg.den, List.append_nil, List.getElem?_map, List.getElem?_take]
      rw [if_pos (by omega)]
    · rename_i c l n hcn hsg
      simp at hq; subst hq
      have hle : m ≤ c := hc.1
      have hle' : m ≤ n := hc.2.1
      have hoko := F.ok i o hi
      have hln : l.length = n := by unfold MObj.ok at hoko; rw [hsg] at hoko; exact hoko.1
      have hw1 := MObj.cnt_strs hcn hsg
      subst hw1
      have hlen : (l.take m).length = m := by rw [List.length_take]; omega
      refine core hcn ⟨hlen, trivial⟩ (by simp [denS, Seg.den]; omega) hle (fun j hj => ?_)
      rw [hsg]
      simp only [denS, Seg.den, List.append_nil, List.getElem?_map, List.getElem?_take]
      rw [if_pos (by omega)]
    · cases hq
  · rename_i i off w' lo m cap adr o
    cases hb : (Nat.beq w' 1 && Nat.beq size 1) with
    | false => rw [hb] at hq; simp at hq
    | true =>
      rw [hb] at hq; simp only [cond_true] at hq
      simp only [Bool.and_eq_true] at hb
      have e1 := Nat.eq_of_beq_eq_true hb.1
      have e2 := Nat.eq_of_beq_eq_true hb.2
      subst e1; subst e2
      have hi := hob i o rfl rfl
      split at hq
      · rename_i k l n hr
        simp at hq; subst hq
        have hle : lo + m ≤ n := hc.1
        obtain ⟨r1, r2, r3⟩ := rowAt_spec (ν := ν) hr (F.ok i o hi)
        have hln : l.length = n := r1
        have hlen : ((l.drop lo).take m).length = m := by rw [List.length_take, List.length_drop]; omega
        have hdl : (denS ν [Seg.ints k ((l.drop lo).take m) m]).length = m * 1 := by simp [denS, Seg.den]; omega
        refine ⟨⟨hlen, trivial⟩, hdl, rfl, fun n' hn' => ?_⟩
        simp only [C.den]
        refine run_firstCells_at F hi hdl hn' (fun hm j hj => ?_)
        rw [hdl] at hj
        have hadr := hok.2.2 (by have := hok.2.1; omega)
        rw [hadr, Nat.mul_one, Nat.add_assoc, r2 (lo + j) (by simp [Seg.size]; omega)]
        simp only [denS, Seg.den, List.append_nil, List.getElem?_map, List.getElem?_take, List.getElem?_drop]
        rw [if_pos (by omega)]
      · cases hq
  · cases hq
end Go.Mx
