/- The engine, part Z: copy, clear, append, and the mark on constant bytes. Conditions: those that each lists. -/
import Derived.Test.YtjbagkimpmpfgaaMxY
namespace Go.Mx

def footOf (i : Option Nat) (o : Option MObj) : List (Nat × MObj) := match i, o with | some i, some o => [(i, o)] | _, _ => []

/-! ### copy -/
def copyC (x y : C) (ox oy : Option MObj) : Option Eff :=
  match x.obj, ox with
  | some i, some (.own e b) =>
    match rowC x (.own e b), srcC y oy 1 with
    | some q, some D =>
      match D.b with
      | [.ints k d _] =>
        bif kindB q.k k then
          match putRow b q.off (.ints q.k (splI q.l q.lo (d.take (min D.m q.len))) q.n) with
          | some r => some ⟨q.cs ++ D.cs, uint .i64 ((min D.m q.len : Nat) : Int), (i, .own e b) :: footOf y.obj oy, [(i, .own e r)], []⟩
          | none => none
        else none
      | _ => none
    | _, _ => none
  | _, _ => none

/-! ### clear -/
def clearC (Γ : Tab) (T : Nat) (x : C) (ox : Option MObj) : Option Eff :=
  match Γ T with
  | some ⟨.slice e, _, _, _⟩ =>
    match Γ e, x.obj, ox with
    | some ⟨_, _, _, [.c (.int k z)]⟩, some i, some (.own e' b) =>
      match rowC x (.own e' b) with
      | some q => bif kindB q.k k then
          match putRow b q.off (.ints q.k (splI q.l q.lo (List.replicate q.len z)) q.n) with
          | some r => some ⟨q.cs, .tup [], [(i, .own e' b)], [(i, .own e' r)], []⟩
          | none => none
        else none
      | none => none
    | _, _, _ => none
  | _ => none

section
variable {X : Ctx} {Q : Exit → Act → World → Prop} {Γ : Tab} {dst : Option Nat} {ty : TypeId} {pos : String} {aft : Array Edge} {gd : Option (Nat × Bool)} {slots : List (Nat × V)} (hdt : ∀ x, dst = some x → x < X.nt)

theorem row_wrote {ν : Pl} {h : Hp} {w : World} (F : FitH ν h w) {i e : Nat} {b r : List Seg} (hi : h i = some (.own e b)) {q : RowC} (hrow : rowAt b q.off = some (.ints q.k q.l q.n)) (hle : q.lo + q.len ≤ q.n) {d : List Int} (hd : d.length ≤ q.len)
    (hr : putRow b q.off (.ints q.k (splI q.l q.lo d) q.n) = some r) : Wrote b r (q.off + q.lo) (dom h) ν (d.map (Value.int q.k)) := by
  have hok := F.ok i _ hi
  obtain ⟨r1, r2, r3⟩ := rowAt_spec (ν := ν) hrow hok
  have hln : q.l.length = q.n := r1
  have hsl : (splI q.l q.lo d).length = q.n := by rw [splI_length (by omega), hln]
  obtain ⟨p1, p2, p3⟩ := putRow_spec (D := dom h) (ν := ν) hrow hr rfl hok hsl
  refine ⟨?_, p2, ?_⟩
  · rw [p1]
    simp only [Seg.den, splI_map]
    refine spl_spl (fun j hj => ?_) (by simp only [List.length_map]; simp only [Seg.size] at r3; omega) (by simp only [List.length_map]; omega)
    rw [List.length_map] at hj
    have := r2 j (by simp only [Seg.size]; omega)
    rw [this]; rfl
  · simp only [List.length_map]; simp only [Seg.size] at r3; omega

include hdt
theorem copy_ok {x y : Operand} {ts : List Nat} {T' e0 : Nat} {c d : C} {f : Eff} {g : Nat → V} {ox oy : Option MObj} (hT : ∃ t2, ts = [T', t2]) (hu : X.P.underlying T' = some (.slice e0)) (hsz : ∀ w, (sizeOf e0).run X.P w = .ok 1 w)
    (h : copyC c d ox oy = some f) (hc : AllP f.cs) (hx : ov g x = .v (.one c)) (hy : ov g y = .v (.one d))
    (hsl : ∀ s : St, (f.toR dst slots).valid s → ov s.tmp x = ov g x ∧ ov s.tmp y = ov g y) :
    WpOk X Q ⟨dst, .call ⟨.builtin .copy, #[x, y], ts.toArray⟩, ty, pos, aft, gd⟩ (f.toR dst slots) := by
  obtain ⟨t2, rfl⟩ := hT
  unfold copyC at h
  split at h
  · rename_i i e b hci
    split at h
    · rename_i q D hq hD
      split at h
      · rename_i k dd mm hb
        cases hkb : kindB q.k k with
        | false => rw [hkb] at h; simp at h
        | true =>
        rw [hkb] at h; simp only [cond_true] at h
        have hkk := kindB_eq hkb
        subst hkk
        split at h
        · rename_i r hr
          simp at h
          subst h
          rw [AllP_append] at hc
          refine wpOk_write (i := i) (e := e) (b := b) (b' := r) rfl (by simp [Eff.toR]) rfl hdt (fun ν s a w hv hs hi => ?_)
          obtain ⟨g1, g2⟩ := hsl s hv
          have hxv := ov_rel hs x
          rw [g1, hx] at hxv
          have hyv := ov_rel hs y
          rw [g2, hy] at hyv
          obtain ⟨q1, q2, base, cap, q3, q4⟩ := rowC_spec hs.fit hq hc.1 hci hi hxv.2
          have hoby : ∀ j o, d.obj = some j → oy = some o → s.hp j = some o := fun j o hj ho => by
            refine hv.2.1 (j, o) ?_
            simp [Eff.toR, footOf, hj, ho]
          obtain ⟨s1, s2, s3, s4⟩ := srcC_spec (P := X.P) hs.fit hD hc.2 hyv.2 hoby (by omega)
          have hcells := s4 (min D.m q.len) (Nat.min_le_left _ _)
          have hdl : dd.length = D.m := by rw [hb] at s2; simpa [denS, Seg.den] using s2
          have hdata : (denS ν D.b).take (min D.m q.len * 1) = (dd.take (min D.m q.len)).map (Value.int q.k) := by rw [hb]; simp [denS, Seg.den]
          rw [hdata] at hcells
          have hxe : a.eval x = .slice base q.len cap := hxv.1.trans q3
          have hye : a.eval y = d.den ν := hyv.1
          have hlen : ((dd.take (min D.m q.len)).map (Value.int q.k)).length = min D.m q.len := by rw [List.length_map, List.length_take]; omega
          have hwr := row_wrote hs.fit hi q1 q2 (d := dd.take (min D.m q.len)) (by rw [List.length_take]; omega) hr
          have hrun : ∀ w', (match base with | some a => storeCells a ((dd.take (min D.m q.len)).map (Value.int q.k)) | none => Pure.pure ()).run X.P w = .ok () w' →
              (execOp a.eval ⟨dst, .call ⟨.builtin .copy, #[x, y], [T', t2].toArray⟩, ty, pos, aft, gd⟩).run X.P w = .ok (.value (.int .i64 ((min D.m q.len : Nat) : Int))) w' := by
            intro w' hst
            simp only [execOp, resolve, invoke, builtin, Sem.run_bind, Sem.run_pure, Result.andThen_ok, Builtin.copy_, List.map_toArray, List.map_cons, List.map_nil, hxe, hye]
            simp only [List.getElem?_toArray, List.getElem?_cons_zero, List.getElem?_cons_succ, Sem.run_bind, run_underlying hu, Result.andThen_ok, s3, hsz]
            have hmin : Nat.min D.m q.len = min D.m q.len := rfl
            rw [hmin, hcells]
            simp only [Result.andThen_ok]
            cases base with
            | none => simp at hst; subst hst; rfl
            | some ad => simp only [Sem.run_bind, hst, Result.andThen_ok]; rfl
          refine ⟨trivial, _, _, hwr, fun hne => ?_, fun he => ⟨_, .inr ⟨_, rfl, rfl⟩, hrun w ?_⟩, fun hne => ⟨_, .inr ⟨_, rfl, rfl⟩, hrun _ ?_⟩⟩
          · exact (q4 (fun h0 => hne (List.eq_nil_of_length_eq_zero (by rw [hlen, h0]; exact Nat.min_zero _)))).2
          · rw [he]
            cases base <;> simp [storeCells]
          · obtain ⟨b1, b2⟩ := q4 (fun h0 => hne (List.eq_nil_of_length_eq_zero (by rw [hlen, h0]; exact Nat.min_zero _)))
            rw [b1]
            obtain ⟨M, hM, hle⟩ := own_N hs.fit hi b2
            exact run_store_own (P := X.P) hs.fit hi b2 (fun v hv => by rw [List.mem_map] at hv; obtain ⟨z, _, rfl⟩ := hv; rfl) hM (Nat.le_trans hwr.le hle)
        · cases h
      · cases h
    · cases h
  · cases h

omit hdt in
theorem zeroCells_int (k : IntKind) (z : Int) (n : Nat) : (Builtin.zeroCells (Value.int k z).cells n).toList = (List.replicate n z).map (Value.int k) := by
  apply List.ext_getElem?
  intro j
  simp only [Builtin.zeroCells, Value.cells]
  rcases Nat.lt_or_ge j n with h | h
  · simp [h, Nat.mod_one]
  · simp [h]

theorem clear_ok (hΓ : Γ.Ok X.P) {T : Nat} {x : Operand} {c : C} {f : Eff} {g : Nat → V} {ox : Option MObj} (h : clearC Γ T c ox = some f) (hc : AllP f.cs) (hx : ov g x = .v (.one c))
    (hsl : ∀ s : St, (f.toR dst slots).valid s → ov s.tmp x = ov g x) : WpOk X Q ⟨dst, .call ⟨.builtin .clear, #[x], #[T]⟩, ty, pos, aft, gd⟩ (f.toR dst slots) := by
  unfold clearC at h
  split at h
  · rename_i e0 _ _ _ hT
    split at h
    · rename_i te k0 sz0 by0 k z i e b hte hci
      split at h
      · rename_i q hq
        cases hkb : kindB q.k k with
        | false => rw [hkb] at h; simp at h
        | true =>
        rw [hkb] at h; simp only [cond_true] at h
        have hkk := kindB_eq hkb
        subst hkk
        split at h
        · rename_i r hr
          simp at h
          subst h
          obtain ⟨dT, hdT, hkT⟩ := (hΓ T _ hT).und
          simp only [TK.Is] at hkT; subst hkT
          refine wpOk_write (i := i) (e := e) (b := b) (b' := r) rfl (by simp [Eff.toR]) rfl hdt (fun ν s a w hv hs hi => ?_)
          have hxv := ov_rel hs x
          rw [hsl s hv, hx] at hxv
          obtain ⟨q1, q2, base, cap, q3, q4⟩ := rowC_spec hs.fit hq hc hci hi hxv.2
          have hxe : a.eval x = .slice base q.len cap := hxv.1.trans q3
          have hwr := row_wrote hs.fit hi q1 q2 (d := List.replicate q.len z) (by simp) hr
          obtain ⟨zv, hz1, hz2⟩ := run_zeroValue (hΓ e0 _ hte) w
          have hzc : zv.cells = (Value.int q.k z).cells := by
            have := hz2 ν
            rw [← Array.toList_inj, this]
            rfl
          have hrun : ∀ w', (q.len = 0 → w' = w) → (q.len ≠ 0 → ∃ ad, base = some ad ∧ (storeCells ad ((List.replicate q.len z).map (Value.int q.k))).run X.P w = .ok () w') →
              (execOp a.eval ⟨dst, .call ⟨.builtin .clear, #[x], #[T]⟩, ty, pos, aft, gd⟩).run X.P w = .ok (.value (.tuple #[])) w' := by
            intro w' h0 h1
            simp only [execOp, resolve, invoke, builtin, Sem.run_bind, Sem.run_pure, Result.andThen_ok, Builtin.clear_, List.map_toArray, List.map_cons, List.map_nil, hxe]
            simp only [List.getElem?_toArray, List.getElem?_cons_zero, Sem.run_bind, run_underlying hdT, Result.andThen_ok]
            by_cases hl : q.len = 0
            · rw [h0 hl, hl]
              cases base <;> simp
            · obtain ⟨ad, hb, hst⟩ := h1 hl
              subst hb
              obtain ⟨m, hm⟩ : ∃ m, q.len = m + 1 := ⟨q.len - 1, by omega⟩
              rw [hm] at hst ⊢
              simp only [Sem.run_bind, hz1, Result.andThen_ok, hzc, zeroCells_int, hst]
              rfl
          have hlen : ((List.replicate q.len z).map (Value.int q.k)).length = q.len := by simp
          refine ⟨(fun y hy => by cases hy), _, _, hwr, fun hne => ?_, fun he => ⟨_, .inr ⟨_, rfl, rfl⟩, hrun w (fun _ => rfl) (fun hne => ?_)⟩, fun hne => ⟨_, .inr ⟨_, rfl, rfl⟩, hrun _ (fun h0 => ?_) (fun hl => ?_)⟩⟩
          · exact (q4 (fun h0 => hne (List.eq_nil_of_length_eq_zero (by rw [hlen, h0])))).2
          · exact absurd (by rw [← hlen, he]; rfl) hne
          · exact absurd (List.eq_nil_of_length_eq_zero (by rw [hlen, h0])) hne
          · obtain ⟨b1, b2⟩ := q4 hl
            obtain ⟨M, hM, hle⟩ := own_N hs.fit hi b2
            exact ⟨_, b1, run_store_own (P := X.P) hs.fit hi b2 (fun v hv => by rw [List.mem_map] at hv; obtain ⟨z, _, rfl⟩ := hv; rfl) hM (Nat.le_trans hwr.le hle)⟩
        · cases h
      · cases h
    · cases h
  · cases h
end

/-! ### append -/
def cells1 : List Seg → Option (List C)
  | [] => some []
  | .c x :: l => bif x.flat then (match cells1 l with | some r => some (x :: r) | none => none) else none
  | _ => none
/-- Two contents, one behind the other. -/
def catS (w : Nat) (b d : List Seg) : List Seg :=
  match b, d with
  | [.ints k l n], [.ints k' l' m] => bif kindB k k' then [.ints k (l ++ l') (n + m)] else b ++ d
  | [.strs l n], [.strs l' m] => [.strs (l ++ l') (n + m)]
  | [.rows w' n f], d => match cells1 d with
    | some xs => bif Nat.beq w' w && Nat.beq (sizeS d) w then [.rows w' (n + 1) (fun j => bif Nat.beq j n then xs else f j)] else b ++ d
    | none => b ++ d
  | [], d => d
  | b, d => b ++ d

theorem cells1_eq : ∀ {d : List Seg} {xs : List C}, cells1 d = some xs → d = xs.map Seg.c ∧ ∀ x ∈ xs, x.flat = true
  | [], xs, h => by simp [cells1] at h; subst h; simp
  | .c x :: l, xs, h => by
    simp only [cells1] at h
    cases hf : x.flat with
    | false => rw [hf] at h; simp at h
    | true =>
      rw [hf] at h; simp only [cond_true] at h
      split at h
      · rename_i r hr
        simp at h; subst h
        obtain ⟨h1, h2⟩ := cells1_eq hr
        refine ⟨by rw [h1]; rfl, fun y hy => ?_⟩
        rcases List.mem_cons.1 hy with rfl | hy
        · exact hf
        · exact h2 y hy
      · cases h
  | .ints _ _ _ :: _, _, h => by simp [cells1] at h
  | .strs _ _ :: _, _, h => by simp [cells1] at h
  | .rows _ _ _ :: _, _, h => by simp [cells1] at h

theorem catS_spec {D : Nat → Prop} {ν : Pl} {w : Nat} {b d : List Seg} (hb : okS D b) (hd : okS D d) : denS ν (catS w b d) = denS ν b ++ denS ν d ∧ okS D (catS w b d) := by
  have dflt : denS ν (b ++ d) = denS ν b ++ denS ν d ∧ okS D (b ++ d) := ⟨denS_append ν b d, okS_append.2 ⟨hb, hd⟩⟩
  unfold catS
  split
  · rename_i k l n k' l' m
    cases hk : kindB k k' with
    | false => exact dflt
    | true =>
      have := kindB_eq hk; subst this
      have h1 : l.length = n := hb.1
      have h2 : l'.length = m := hd.1
      refine ⟨by simp [denS, Seg.den], ⟨by simp [Seg.ok, h1, h2], trivial⟩⟩
  · rename_i l n l' m
    have h1 : l.length = n := hb.1
    have h2 : l'.length = m := hd.1
    exact ⟨by simp [denS, Seg.den], ⟨by simp [Seg.ok, h1, h2], trivial⟩⟩
  · rename_i _ w' n f
    split
    · rename_i xs hxs
      cases hbb : (Nat.beq w' w && Nat.beq (sizeS d) w) with
      | false => exact dflt
      | true =>
        simp only [Bool.and_eq_true] at hbb
        have e1 := Nat.eq_of_beq_eq_true hbb.1
        have e2 := Nat.eq_of_beq_eq_true hbb.2
        obtain ⟨x1, x2⟩ := cells1_eq hxs
        have hxl : xs.length = w' := by rw [e1, ← e2, x1, sizeS_map_c]
        have hne : ∀ j, j < n → Nat.beq j n = false := fun j hj => by
          cases hq : Nat.beq j n with
          | false => rfl
          | true => have := Nat.eq_of_beq_eq_true hq; omega
        rw [cond_true]
        refine ⟨?_, ⟨fun j hj => ?_, trivial⟩⟩
        · simp only [denS, Seg.den, List.append_nil]
          rw [List.range_succ, List.flatMap_append]
          congr 1
          · have : ∀ m, m ≤ n → (List.range m).flatMap (fun j => (bif Nat.beq j n then xs else f j).map (C.den ν)) = (List.range m).flatMap (fun j => (f j).map (C.den ν)) := by
              intro m
              induction m with
              | zero => intro _; rfl
              | succ m ih =>
                intro hm
                rw [List.range_succ, List.flatMap_append, List.flatMap_append, ih (by omega)]
                simp [hne m (by omega)]
            exact this n (Nat.le_refl _)
          · simp only [List.flatMap_cons, List.flatMap_nil, List.append_nil, Nat.beq_refl, cond_true]
            rw [x1, denS_map_c]
        · show (bif Nat.beq j n then xs else f j).length = w' ∧ ∀ y ∈ (bif Nat.beq j n then xs else f j), y.flat = true
          by_cases hjn : j = n
          · subst hjn
            simp only [Nat.beq_refl, cond_true]
            exact ⟨hxl, x2⟩
          · rw [hne j (by omega)]
            exact hb.1 j (by omega)
    · exact dflt
  · exact ⟨by simp [denS], hd⟩
  · exact dflt

def otherObj (x : C) (i : Nat) : Bool := match x.obj with | some j => !(Nat.beq j i) | none => true
def appendC (Γ : Tab) (T n : Nat) (x y : C) (ox oy : Option MObj) : Option Eff :=
  match Γ T with
  | some ⟨.slice e, _, _, _⟩ =>
    match Γ e with
    | some te =>
      match srcC y oy te.size with
      | some D =>
        bif Nat.blt 0 te.size then
          match x, ox with
          | .nils, _ => some ⟨D.cs ++ [D.m * te.bytes ≤ 140737488355328, D.m ≤ 9223372036854775807], .v (.one (.sl n 0 D.m te.size)), footOf y.obj oy, [(n, .own te.size D.b)], [n]⟩
          | .sl i lo len w, some (.own e' b) =>
            bif Nat.beq lo 0 && (Nat.beq w te.size && (Nat.beq e' w && otherObj y i)) then
              some ⟨D.cs ++ [len * w = sizeS b, (len + D.m) * te.bytes ≤ 140737488355328, len + D.m ≤ 9223372036854775807], .v (.one (.sl n 0 (len + D.m) w)), (i, .own e' b) :: footOf y.obj oy, [(i, .gone), (n, .own w (catS w b D.b))], [n]⟩
            else none
          | _, _ => none
        else none
      | none => none
    | none => none
  | _ => none

def AppT (P : Program) (T' : Nat) : Prop := P.underlying T' = some .string ∨ ∃ e', P.underlying T' = some (.slice e')

theorem run_append_room' {P : Program} (w w' : World) {T T' ty e sz n m cap : Nat} (hT : P.underlying T = some (.slice e)) (hT' : AppT P T') (hsz : (sizeOf e).run P w = .ok sz w)
    {base : Option Addr} {x : Value} (hlen : (Builtin.lenOf x).run P w = .ok m w) {news : Array Value} (hfc : (Builtin.firstCells sz m x).run P w = .ok news w) (hroom : n + m ≤ cap)
    (hst : (match base with | some a => storeCells (a.add (n * sz)) news.toList | none => Pure.pure ()).run P w = .ok () w') :
    (Builtin.append_ #[T, T'] ty #[.slice base n cap, x]).run P w = .ok (.slice base (n + m) cap) w' := by
  unfold Builtin.append_
  rcases hT' with hT' | ⟨e', hT'⟩
  all_goals
    simp only [List.getElem?_toArray, List.getElem?_cons_succ, List.getElem?_cons_zero, Sem.run_bind, run_underlying hT, run_underlying hT', Result.andThen_ok, hsz, Sem.run_pure, Bool.false_eq_true, if_false, hlen, if_pos hroom, Bool.not_false, if_true, hfc]
    cases base with
    | none => simp at hst; subst hst; rfl
    | some a => simp only [Sem.run_bind, hst, Result.andThen_ok]; rfl

theorem run_append_grow' {P : Program} {Γ : Tab} (hΓ : Γ.Ok P) (w : World) {T T' ty e n m cap : Nat} {te : TI} (hte : Γ e = some te) (hT : P.underlying T = some (.slice e)) (hT' : AppT P T')
    {base : Option Addr} {x : Value} (hlen : (Builtin.lenOf x).run P w = .ok m w) {olds news : Array Value} (hfc : (Builtin.firstCells te.size m x).run P w.drew = .ok news w.drew) (hfo : (Builtin.firstCells te.size n (.slice base n cap)).run P w.drew = .ok olds w.drew)
    (hroom : ¬ n + m ≤ cap) (hb : (n + m) * te.bytes ≤ 140737488355328) (h63 : n + m ≤ 9223372036854775807) :
    ∃ z, (Builtin.append_ #[T, T'] ty #[.slice base n cap, x]).run P w = .ok (.slice (some ⟨w.heap.size, 0, none⟩) (n + m) (grownCap w (n + m) cap e)) (w.drew.alloc (.cells (olds ++ news ++ Builtin.zeroCells z (grownCap w (n + m) cap e - (n + m))) e)) ∧ z.size = te.size := by
  obtain ⟨i0, z0, hi, hsize, hbytes, hzz, hz3, hzok, hzs⟩ := (hΓ e te hte).info
  have hsz := (hΓ e te hte).sizeOf w
  have hzsz : z0.cells.size = te.size := by rw [← Array.length_toList, hz3 (fun _ => ⟨0, 0, 0, false⟩), denS_len (hzok (fun _ => True)), hzs]
  have h63' : ¬ (((n + m : Nat) : Int) > IntKind.i64.max ∧ ((false = true) ∨ te.bytes = 0)) := by
    rintro ⟨h1, _⟩
    have : IntKind.i64.max = 9223372036854775807 := rfl
    rw [this] at h1
    omega
  have hfit := growslice_fits (need := n + m) (old := cap) (bytes := te.bytes) (by omega) hb
  have h48 : ¬ (Builtin.nextslicecap (n + m) cap * te.bytes > 2 ^ 48) := by have : (2 : Nat) ^ 48 = 281474976710656 := rfl; omega
  have hti : (typeInfo e).run P w = .ok i0 w := by simp [typeInfo, hi]
  have hti' : (typeInfo e).run P w.drew = .ok i0 w.drew := by simp [typeInfo, hi]
  refine ⟨z0.cells, ?_, hzsz⟩
  unfold Builtin.append_
  rcases hT' with hT' | ⟨e', hT'⟩
  all_goals
    simp only [List.getElem?_toArray, List.getElem?_cons_succ, List.getElem?_cons_zero, Sem.run_bind, run_underlying hT, run_underlying hT', Result.andThen_ok, hsz, Sem.run_pure, Bool.false_eq_true, if_false, hlen, if_neg hroom, Bool.not_false, if_true, hti, hbytes, Sem.run_ite]
    rw [if_neg (by simpa using h63'), if_neg h48]
    simp only [run_choose, Question.forced, Bool.false_eq_true, if_false, Result.andThen_ok, World.drew_eq, run_askRoom, hti', Sem.run_bind, zeroValue, hzz, Sem.run_pure, hfo, hfc, newRow, run_newObj]
    rfl
end Go.Mx
