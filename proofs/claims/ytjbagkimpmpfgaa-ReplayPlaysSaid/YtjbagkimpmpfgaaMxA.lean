/- The engine, part A: append. Conditions: those that it lists. -/
import Derived.Test.YtjbagkimpmpfgaaMxZ
namespace Go.Mx

/-- An object's number given up. -/
theorem SatAt.drop {X : Ctx} {ν : Pl} {s : St} {a : Act} {w : World} (h : SatAt X ν s a w) {i : Nat} (hi : dom s.hp i) : SatAt X ν ⟨s.tmp, updF [(i, .gone)] s.hp⟩ a w := by
  have hdom : ∀ k, dom (updF [(i, MObj.gone)] s.hp) k ↔ dom s.hp k := fun k => by
    unfold dom; rw [updF_one]; split
    · rename_i hk; subst hk; simp [show s.hp k ≠ none from hi]
    · rfl
  have back : ∀ {k o}, updF [(i, MObj.gone)] s.hp k = some o → o = .gone ∨ s.hp k = some o := fun {k o} hk => by
    rw [updF_one] at hk; split at hk
    · simp at hk; exact .inl hk.symm
    · exact .inr hk
  refine ⟨h.old, h.hdef, h.size, h.tmp, fun t => V.ok_mono (fun k hk => (hdom k).2 hk) (h.tok t), ⟨fun k o hk => ?_, fun k o hk => ?_, fun k j o o' hkj hk hj ho ho' => ?_⟩, h.fr, fun k o hk ho => ?_, fun k hk => (hdom k).2 (h.mdom k hk)⟩
  · rcases back hk with rfl | h1
    · trivial
    · exact h.fit.fit k o h1
  · rcases back hk with rfl | h1
    · trivial
    · exact okS_mono (fun k hk => (hdom k).2 hk) (h.fit.ok k o h1)
  · rcases back hk with rfl | h1
    · exact ho.elim
    · rcases back hj with rfl | h2
      · exact ho'.elim
      · exact h.fit.apart k j o o' hkj h1 h2 ho ho'
  · rcases back hk with rfl | h1
    · exact ho.elim
    · exact h.inM k o h1 ho

theorem updF_two {i n : Nat} {o o' : MObj} {h : Hp} (hne : i ≠ n) : updF [(i, o), (n, o')] h = updF [(i, o)] (updF [(n, o')] h) := by
  funext k
  rw [updF_one, updF_one]
  unfold updF
  by_cases hk : k = i
  · subst hk; simp
  · have e1 : (i == k) = false := by simpa using fun e => hk e.symm
    by_cases hkn : k = n
    · subst hkn; simp [List.find?, e1, hk]
    · have e2 : (n == k) = false := by simpa using fun e => hkn e.symm
      simp [List.find?, e1, e2, hk, hkn]

/-- An owned object that has grown where it lay; its old number is given up. -/
theorem SatAt.grown {X : Ctx} {ν : Pl} {s : St} {a : Act} {w : World} (h : SatAt X ν s a w) {i n e : Nat} {b b' : List Seg} (hi : s.hp i = some (.own e b)) (hn : s.hp n = none) (he : e ≠ 0) {vs : List Value}
    (hb' : okS (dom s.hp) b') (hden : denS ν b' = denS ν b ++ vs) (hle : (denS ν b).length + vs.length ≤ (ν i).cap * e) {d : Option Nat} {v : V} {y : Value} (hd : ∀ x, d = some x → x < X.nt)
    (hr : v.rel (upd1 ν n (ν i)) y) (hvok : v.ok (dom (updF [(i, .gone), (n, .own e b')] s.hp))) :
    SatAt X (upd1 ν n (ν i)) ⟨putF d v s.tmp, updF [(i, .gone), (n, .own e b')] s.hp⟩ (a.put d y) (w.setCells (ν i).blk (denS ν b).length vs) := by
  have hin : i ≠ n := fun e => by rw [e, hn] at hi; cases hi
  have hνi : upd1 ν n (ν i) i = ν i := upd1_ne hin
  have hν : ∀ k, dom s.hp k → upd1 ν n (ν i) k = ν k := fun k hk => upd1_ne (fun e => hk (by rw [e]; exact hn))
  have hat : ∀ k, updF [(i, MObj.gone), (n, MObj.own e b')] s.hp k = if k = i then some .gone else if k = n then some (.own e b') else s.hp k := fun k => by
    rw [updF_two hin, updF_one, updF_one]
  have hdom : ∀ k, dom s.hp k → dom (updF [(i, MObj.gone), (n, MObj.own e b')] s.hp) k := fun k hk => by
    unfold dom; rw [hat]; split
    · simp
    · split
      · simp
      · exact hk
  obtain ⟨s1, s2, s3, s4⟩ := setCells_same vs (ν i).blk (denS ν b).length w
  have hbν : denS (upd1 ν n (ν i)) b' = denS ν b' := denS_congr hν hb'
  have hsz : sizeS b' = (denS ν b).length + vs.length := by
    rw [← denS_len (ν := ν) hb', hden]; simp
  have hvs : (ν i).nil = true → vs = [] := fun hnl => by
    have := h.fit.fit i _ hi
    simp only [MObj.fit, hnl, if_true] at this
    have h2 := this.2
    rw [h2, Nat.zero_mul] at hle
    exact List.eq_nil_of_length_eq_zero (by omega)
  refine h.next hν hdom hd hr hvok ?_ s1 s2 s3 (by rw [s4]; exact Nat.le_refl _) ?_ ?_
  · refine h.fit.one n hν hdom (fun j o hj ho => ?_) (by rw [s4]; exact Nat.le_refl _) (fun o ho => ?_)
    · rw [hat] at ho
      by_cases hji : j = i
      · rw [if_pos hji] at ho; simp at ho; exact .inl ho.symm
      · rw [if_neg hji, if_neg hj] at ho
        refine .inr ⟨ho, fun hho => ?_⟩
        cases hnl : (ν i).nil with
        | true => rw [hvs hnl]; rfl
        | false => exact setCells_other vs _ _ w _ (h.fit.apart i j _ o (Ne.symm hji) hi ho hnl hho).symm
    · rw [hat, if_neg (Ne.symm hin), if_pos rfl] at ho
      simp at ho; subst ho
      refine ⟨?_, okS_mono hdom hb', fun j o' hj ho' ho'' => ?_⟩
      · have hfit := h.fit.fit i _ hi
        simp only [MObj.fit, upd1_same] at hfit ⊢
        cases hnl : (ν i).nil with
        | true =>
          simp only [hnl, if_true] at hfit ⊢
          refine ⟨?_, hfit.2⟩
          have hl0 : (denS ν b).length = sizeS b := denS_len (h.fit.ok i _ hi)
          rw [hsz, hvs hnl, hl0]
          simpa using hfit.1
        | false =>
          simp only [hnl, Bool.false_eq_true, if_false] at hfit ⊢
          obtain ⟨hb0, spare, t, fz, hh, hf, hc⟩ := hfit
          have hcap := hc he
          have hsp : vs.length ≤ spare.length := by omega
          obtain ⟨c', g1, g2⟩ := setCells_heap vs (ν i).blk (denS ν b).length w _ t fz hh (by simp; omega)
          have hl' : (denS ν b').length = (denS ν b).length + vs.length := by rw [hden]; simp
          refine ⟨hb0, spare.drop vs.length, t, fz, ?_, ?_, ?_⟩
          · rw [g1, hbν]
            congr 2
            rw [← Array.toList_inj, g2, hden]
            simp only [spl]
            rw [List.take_left', List.drop_append]
            · simp
            · rfl
          · rw [hbν, hl', List.length_drop]
            have : (denS ν b).length + vs.length + (spare.length - vs.length) = (denS ν b).length + spare.length := by omega
            rw [this]; exact hf
          · intro _
            rw [hbν, hl', List.length_drop, hcap]; omega
      · rw [upd1_same]
        by_cases hji : j = i
        · rw [hat, if_pos hji] at ho'
          simp at ho'
          subst ho'
          rw [hji, hi] at ho''
          simp at ho''
        · exact ⟨fun h1 h2 => h.fit.apart i j _ o' (Ne.symm hji) hi ho'' h1 h2, fun h1 h2 => h.fit.apart j i o' _ hji ho'' hi h1 h2⟩
  · intro k hk hM
    cases hnl : (ν i).nil with
    | true => rw [hvs hnl]; rfl
    | false =>
      refine setCells_other vs _ _ w k ?_
      rcases h.inM i _ hi hnl with h1 | h1
      · intro e; rw [e] at hM; exact hM h1
      · omega
  · intro k o hk ho
    rw [hat] at hk
    by_cases hki : k = i
    · rw [if_pos hki] at hk; simp at hk; subst hk; exact ho.elim
    · rw [if_neg hki] at hk
      by_cases hkn : k = n
      · rw [if_pos hkn] at hk; simp at hk; subst hk
        rw [hkn, upd1_same] at ho ⊢
        exact h.inM i _ hi ho
      · rw [if_neg hkn] at hk
        rw [hν k (by rw [dom, hk]; simp)] at ho ⊢
        exact h.inM k o hk ho

theorem zeroCells_len (z : Array Value) (n : Nat) : (Builtin.zeroCells z n).size = n * z.size := by
  simp [Builtin.zeroCells]

section
variable {X : Ctx} {Q : Exit → Act → World → Prop} {Γ : Tab} {dst : Option Nat} {ty : TypeId} {pos : String} {aft : Array Edge} {gd : Option (Nat × Bool)} {slots : List (Nat × V)} (hdt : ∀ x, dst = some x → x < X.nt)

theorem run_app_call {P : Program} {a : Act} {x y : Operand} {T T' : Nat} {w w' : World} {vx vy v : Value} (hx : a.eval x = vx) (hy : a.eval y = vy) (h : (Builtin.append_ #[T, T'] ty #[vx, vy]).run P w = .ok v w') :
    (execOp a.eval ⟨dst, .call ⟨.builtin .append, #[x, y], #[T, T']⟩, ty, pos, aft, gd⟩).run P w = .ok (.value v) w' := by
  simp only [execOp, resolve, invoke, builtin, Sem.run_bind, Sem.run_pure, Result.andThen_ok, List.map_toArray, List.map_cons, List.map_nil, hx, hy, h]

include hdt
theorem append_ok (hΓ : Γ.Ok X.P) {T T' n : Nat} {x y : Operand} {c d : C} {f : Eff} {g : Nat → V} {ox oy : Option MObj} (hT' : AppT X.P T')
    (h : appendC Γ T n c d ox oy = some f) (hc : AllP f.cs) (hx : ov g x = .v (.one c)) (hy : ov g y = .v (.one d))
    (hsl : ∀ s : St, (f.toR dst slots).valid s → ov s.tmp x = ov g x ∧ ov s.tmp y = ov g y) :
    WpOk X Q ⟨dst, .call ⟨.builtin .append, #[x, y], #[T, T']⟩, ty, pos, aft, gd⟩ (f.toR dst slots) := by
  unfold appendC at h
  split at h
  · rename_i e _ _ _ hT
    split at h
    · rename_i te hte
      split at h
      · rename_i D hD
        cases hz : Nat.blt 0 te.size with
        | false => rw [hz] at h; simp at h
        | true =>
        rw [hz] at h; simp only [cond_true] at h
        rw [Nat.blt_eq] at hz
        obtain ⟨dT, hdT, hkT⟩ := (hΓ T _ hT).und
        simp only [TK.Is] at hkT; subst hkT
        split at h
        · simp at h; subst h
          rw [AllP_append] at hc
          obtain ⟨hcD, hb, h63, _⟩ := hc
          intro s a w K hv hs hK
          obtain ⟨ν, hs⟩ := hs
          obtain ⟨g1, g2⟩ := hsl s hv
          have hxv := ov_rel hs x
          rw [g1, hx] at hxv
          have hyv := ov_rel hs y
          rw [g2, hy] at hyv
          have hn := hv.2.2 n (by simp [Eff.toR])
          have hoby : ∀ j o, d.obj = some j → oy = some o → s.hp j = some o := fun j o hj ho => by
            refine hv.2.1 (j, o) ?_
            simp [Eff.toR, footOf, hj, ho]
          obtain ⟨s1, s2, s3, s4⟩ := srcC_spec (P := X.P) hs.fit hD hcD hyv.2 hoby hz
          obtain ⟨_, _, _, t4⟩ := srcC_spec (P := X.P) hs.fit.drew hD hcD hyv.2 hoby hz
          have hxe : a.eval x = .slice none 0 0 := hxv.1
          have hdomn : dom (updF [(n, MObj.own te.size D.b)] s.hp) n := by unfold dom; rw [updF_one, if_pos rfl]; simp
          by_cases hm : D.m = 0
          · have hfc := s4 0 (Nat.zero_le _)
            have hrun := run_append_room' (P := X.P) w w (T := T) (T' := T') (ty := ty) (n := 0) (m := 0) (cap := 0) (base := none) hdT hT' ((hΓ e te hte).sizeOf w) (by rw [← hm]; exact s3) hfc (Nat.le_refl _) (by simp)
            unfold Oper.wp
            rw [run_app_call hxe hyv.1 hrun]
            refine hK _ _ ⟨upd1 ν n ⟨0, 0, 0, true⟩, ?_⟩
            simp only [Rec.app, Eff.toR]
            refine hs.nilRow hn hdt ?_ D.b ?_ s1 hdomn
            · simp [V.rel, V1.den, C.den, upd1_same, hm]
            · have := denS_len (ν := ν) s1; rw [s2, hm] at this; omega
          · have hfc := t4 D.m (Nat.le_refl _)
            rw [List.take_of_length_le (by rw [s2]; exact Nat.le_refl _)] at hfc
            obtain ⟨z, hrun, hzs⟩ := run_append_grow' (P := X.P) hΓ w (T := T) (T' := T') (ty := ty) (n := 0) (m := D.m) (cap := 0) (base := none) hte hdT hT' s3 hfc (olds := #[]) (by simp [Builtin.firstCells]) (by omega) (by rw [Nat.zero_add]; exact hb) (by rw [Nat.zero_add]; exact h63)
            rw [Nat.zero_add] at hrun
            have hge := grownCap_ge w D.m 0 e
            unfold Oper.wp
            rw [run_app_call hxe hyv.1 hrun]
            refine hK _ _ ⟨upd1 ν n ⟨w.heap.size, 0, grownCap w D.m 0 e, false⟩, ?_⟩
            simp only [Rec.app, Eff.toR]
            refine (hs.drew).fresh (cap := grownCap w D.m 0 e) (spare := (Builtin.zeroCells z (grownCap w D.m 0 e - D.m)).toList) hn s1 (by simp) (fun _ => ?_) (.inl rfl) hdt ?_ hdomn
            · simp only [Array.size_append, zeroCells_len, hzs, List.size_toArray, s2, List.size_toArray, List.length_nil, Nat.zero_add]
              rw [← Nat.add_mul]; congr 1; omega
            · simp only [V.rel, V1.den, C.den, upd1_same, at_, Nat.zero_mul, Nat.add_zero, ite_self, Bool.false_eq_true, if_false, Nat.sub_zero]; rfl
        · rename_i i lo len w' e' b
          cases hbb : (Nat.beq lo 0 && (Nat.beq w' te.size && (Nat.beq e' w' && otherObj d i))) with
          | false => rw [hbb] at h; simp at h
          | true =>
          rw [hbb] at h; simp only [cond_true] at h
          simp at h; subst h
          simp only [Bool.and_eq_true] at hbb
          obtain ⟨hb1, hb2, hb3, hb4⟩ := hbb
          have e1 := Nat.eq_of_beq_eq_true hb1
          have e2 := Nat.eq_of_beq_eq_true hb2
          have e3 := Nat.eq_of_beq_eq_true hb3
          subst e1; subst e3; subst e2
          rw [AllP_append] at hc
          obtain ⟨hcD, hlen, hb, h63, _⟩ := hc
          intro s a w K hv hs hK
          obtain ⟨ν, hs⟩ := hs
          obtain ⟨g1, g2⟩ := hsl s hv
          have hxv := ov_rel hs x
          rw [g1, hx] at hxv
          have hyv := ov_rel hs y
          rw [g2, hy] at hyv
          have hn := hv.2.2 n (by simp [Eff.toR])
          have hi : s.hp i = some (.own te.size b) := hv.2.1 (i, _) (by simp [Eff.toR])
          have hin : i ≠ n := fun e => by rw [e, hn] at hi; cases hi
          have hoby : ∀ j o, d.obj = some j → oy = some o → s.hp j = some o := fun j o hj ho => by
            refine hv.2.1 (j, o) ?_
            simp [Eff.toR, footOf, hj, ho]
          obtain ⟨s1, s2, s3, s4⟩ := srcC_spec (P := X.P) hs.fit hD hcD hyv.2 hoby hz
          obtain ⟨_, _, _, t4⟩ := srcC_spec (P := X.P) hs.fit.drew hD hcD hyv.2 hoby hz
          have hbok : okS (dom s.hp) b := hs.fit.ok i _ hi
          have hbl : (denS ν b).length = len * te.size := (denS_len hbok).trans hlen.symm
          obtain ⟨c1, c2⟩ := catS_spec (ν := ν) (w := te.size) hbok s1
          have hxe : a.eval x = .slice (if (ν i).nil then none else some (at_ ν i 0)) len (ν i).cap := by
            have := hxv.1
            simp only [V.rel, V1.den, C.den, Nat.zero_mul, Nat.sub_zero, ite_self] at this
            exact this
          have hdomn : dom (updF [(i, MObj.gone), (n, MObj.own te.size (catS te.size b D.b))] s.hp) n := by unfold dom; rw [updF_two hin, updF_one, if_neg (Ne.symm hin), updF_one, if_pos rfl]; simp
          have hnl : (ν i).nil = true → (ν i).cap = 0 ∧ len = 0 := fun hnl => by
            have := hs.fit.fit i _ hi
            simp only [MObj.fit, hnl, if_true] at this
            refine ⟨this.2, ?_⟩
            rw [this.1] at hlen
            rcases Nat.mul_eq_zero.1 hlen with h' | h'
            · exact h'
            · omega
          by_cases hroom : len + D.m ≤ (ν i).cap
          · have hfc := s4 D.m (Nat.le_refl _)
            rw [List.take_of_length_le (by rw [s2]; exact Nat.le_refl _)] at hfc
            have hst : (match (if (ν i).nil then none else some (at_ ν i 0)) with | some a => storeCells (a.add (len * te.size)) (denS ν D.b).toArray.toList | none => Pure.pure ()).run X.P w = .ok () (w.setCells (ν i).blk (denS ν b).length (denS ν D.b)) := by
              cases hnil : (ν i).nil with
              | true =>
                obtain ⟨h1, h2⟩ := hnl hnil
                have : D.m = 0 := by omega
                have : denS ν D.b = [] := List.eq_nil_of_length_eq_zero (by rw [s2, this, Nat.zero_mul])
                simp [this, World.setCells]
              | false =>
                obtain ⟨hb0, spare, t, fz, hh, hf, hcp⟩ := own_block hs.fit hi hnil
                have hcap := hcp (by omega)
                have hle : (len + D.m) * te.size ≤ (ν i).cap * te.size := Nat.mul_le_mul_right _ hroom
                rw [Nat.add_mul] at hle
                have := run_store_own (P := X.P) hs.fit hi hnil (off := (denS ν b).length) (vs := denS ν D.b) (denS_ones s1) ⟨spare, t, fz, hh, rfl⟩ (by rw [List.length_append]; omega)
                simp only [Bool.false_eq_true, if_false, at_add, Nat.zero_add]
                rw [← hbl]; exact this
            have hrun := run_append_room' (P := X.P) w _ (T := T) (T' := T') (ty := ty) (n := len) (m := D.m) (cap := (ν i).cap) hdT hT' ((hΓ e te hte).sizeOf w) s3 hfc hroom hst
            unfold Oper.wp
            rw [run_app_call hxe hyv.1 hrun]
            refine hK _ _ ⟨upd1 ν n (ν i), ?_⟩
            simp only [Rec.app, Eff.toR]
            refine hs.grown hi hn (by omega) c2 c1 ?_ hdt ?_ hdomn
            · rw [hbl, s2, ← Nat.add_mul]; exact Nat.mul_le_mul_right _ hroom
            · simp only [V.rel, V1.den, C.den, upd1_same, at_, Nat.zero_mul, Nat.sub_zero, ite_self]
          · have hfc := t4 D.m (Nat.le_refl _)
            rw [List.take_of_length_le (by rw [s2]; exact Nat.le_refl _)] at hfc
            have hfo : (Builtin.firstCells te.size len (.slice (if (ν i).nil then none else some (at_ ν i 0)) len (ν i).cap)).run X.P w.drew = .ok (denS ν b).toArray w.drew := by
              cases hnil : (ν i).nil with
              | true =>
                obtain ⟨h1, h2⟩ := hnl hnil
                have : denS ν b = [] := List.eq_nil_of_length_eq_zero (by rw [hbl, h2, Nat.zero_mul])
                simp [Builtin.firstCells, this]
              | false =>
                have := run_firstCells_at (P := X.P) hs.fit.drew hi (size := te.size) (n := len) (m := len) (cap := (ν i).cap) (adr := 0) (l := denS ν b) hbl (Nat.le_refl _) (fun _ j hj => by rw [Nat.zero_add]; rfl)
                rw [List.take_of_length_le (by rw [hbl]; exact Nat.le_refl _)] at this
                simpa using this
            obtain ⟨z, hrun, hzs⟩ := run_append_grow' (P := X.P) hΓ w (T := T) (T' := T') (ty := ty) (n := len) (m := D.m) (cap := (ν i).cap) hte hdT hT' s3 hfc hfo hroom hb h63
            have hge := grownCap_ge w (len + D.m) (ν i).cap e
            unfold Oper.wp
            rw [run_app_call hxe hyv.1 hrun]
            refine hK _ _ ⟨upd1 ν n ⟨w.heap.size, 0, grownCap w (len + D.m) (ν i).cap e, false⟩, ?_⟩
            simp only [Rec.app, Eff.toR]
            rw [updF_two hin]
            have hfr := (hs.drew).fresh (n := n) (e := te.size) (b := catS te.size b D.b) (cap := grownCap w (len + D.m) (ν i).cap e) (arr := (denS ν b).toArray ++ (denS ν D.b).toArray ++ Builtin.zeroCells z (grownCap w (len + D.m) (ν i).cap e - (len + D.m))) (t := e) (fz := (0, 0))
              (spare := (Builtin.zeroCells z (grownCap w (len + D.m) (ν i).cap e - (len + D.m))).toList) (d := dst) (v := .v (.one (.sl n 0 (len + D.m) te.size))) (y := .slice (some ⟨w.heap.size, 0, none⟩) (len + D.m) (grownCap w (len + D.m) (ν i).cap e)) hn c2 (by rw [c1]; simp) (fun _ => ?_) (.inl rfl) hdt ?_ ?_
            · refine hfr.drop (i := i) ?_
              show updF [(n, MObj.own te.size (catS te.size b D.b))] s.hp i ≠ none
              rw [updF_one, if_neg hin, hi]; simp
            · simp only [Array.size_append, zeroCells_len, hzs, List.size_toArray, s2, hbl]
              rw [← Nat.add_mul, ← Nat.add_mul]; congr 1; omega
            · simp only [V.rel, V1.den, C.den, upd1_same, at_, Nat.zero_mul, Nat.add_zero, ite_self, Bool.false_eq_true, if_false, Nat.sub_zero]; rfl
            · show updF [(n, MObj.own te.size (catS te.size b D.b))] s.hp n ≠ none
              rw [updF_one, if_pos rfl]; simp
        · cases h
      · cases h
    · cases h
  · cases h
end
end Go.Mx
