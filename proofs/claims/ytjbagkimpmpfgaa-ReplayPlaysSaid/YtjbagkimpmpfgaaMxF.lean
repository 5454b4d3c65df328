/- The engine, part F: the step of a call. Conditions: those that each lists. -/
import Derived.Test.YtjbagkimpmpfgaaMxD
namespace Go.Mx

def EnvOk (P : Program) (E : Env) : Prop := ∀ f c, E f = some c → Meets P f c

theorem lits {g : Nat → V} {e : Operand → Value} {ν : Pl} {D : Nat → Prop} (R1 : ∀ {x : Operand} {c : V1}, ov g x = .v c → e x = c.den ν ∧ c.ok D) :
    ∀ {l : List Operand} {xs : List V1}, v1s (l.map (ov g)) = some xs → l.map e = xs.map (V1.den ν) ∧ ∀ x ∈ xs, x.ok D
  | [], xs, h => by simp [v1s] at h; subst h; simp
  | y :: l, xs, h => by
    simp only [List.map_cons] at h
    cases hy : ov g y with
    | any => rw [hy] at h; simp [v1s] at h
    | tup _ => rw [hy] at h; simp [v1s] at h
    | v c =>
      rw [hy] at h
      simp only [v1s] at h
      split at h
      · rename_i r hr
        simp at h; subst h
        obtain ⟨h1, h2⟩ := lits R1 hr
        obtain ⟨g1, g2⟩ := R1 hy
        refine ⟨by simp [g1, h1], fun x hx => ?_⟩
        rcases List.mem_cons.1 hx with rfl | hx
        · exact g2
        · exact h2 x hx
      · cases h

theorem call_ok {X : Ctx} {Q : Exit → Act → World → Prop} {E : Env} (hE : EnvOk X.P E) {o : Oper} {c : Call} {fv : Operand} (ho : o.op = .call c) (hcal : c.callee = .value fv) {g : Nat → V} {hp : Hp} {n : Nat} {f : Eff} {slots : List (Nat × V)}
    (h : callC E (vsOf g o.op) n hp = some f) (hc : AllP f.cs) (hdt : ∀ x, o.dst = some x → x < X.nt)
    (hsl : ∀ s : St, (f.toR o.dst slots).valid s → ∀ x ∈ o.op.operands.toList, ov s.tmp x = ov g x) : WpOk X Q o (f.toR o.dst slots) := by
  obtain ⟨dst, op, ty, pos, aft, gd⟩ := o
  simp only at ho; subst ho
  obtain ⟨callee, args, ts⟩ := c
  simp only at hcal; subst hcal
  obtain ⟨args⟩ := args
  have hvs : vsOf g (.call ⟨.value fv, ⟨args⟩, ts⟩) = ov g fv :: args.map (ov g) := by simp [vsOf, Op.operands, Call.operands]
  simp only at h hdt hsl
  rw [hvs] at h
  unfold callC at h
  split at h
  · rename_i fn vargs hcallee
    split at h
    · rename_i ctr hctr
      obtain ⟨hcf, hmeets⟩ := hE fn ctr hctr
      dsimp only at h
      generalize hL : growL hp 100 0 (addAll [] (ptsV vargs)) = L at h
      split at h
      · rename_i os hos
        unfold intoC at h
        cases hnd : nodupB L with
        | false => rw [hnd] at h; simp at h
        | true =>
        rw [hnd] at h; simp only [cond_true] at h
        cases hia : in1B (fun i => memB i L) vargs with
        | false => rw [hia] at h; simp at h
        | true =>
        rw [hia] at h; simp only [cond_true] at h
        cases hio : inOB (fun i => memB i L) os with
        | false => rw [hio] at h; simp at h
        | true =>
        rw [hio] at h; simp only [cond_true] at h
        split at h
        · rename_i r hr
          unfold backC at h
          cases hT : okTurn os r.turn with
          | false => rw [hT] at h; simp at h
          | true =>
          rw [hT] at h; simp only [cond_true] at h
          cases hN : okNew r.new with
          | false => rw [hN] at h; simp at h
          | true =>
          rw [hN] at h; simp only [cond_true] at h
          simp only [Option.some.injEq] at h
          rw [lenL_eq] at h
          subst h
          intro s a w K hv hs hK
          obtain ⟨ν, hs⟩ := hs
          have hfoot : ∀ p o, p < L.length → os[p]? = some o → s.hp (nth L p) = some o := fun p o hp ho => hv.2.1 (nth L p, o) (by simp only [Eff.toR]; exact zipO_mem hp ho)
          obtain ⟨hosl, hosp⟩ := objsAt_spec hos
          have hos' : objsAt s.hp L = some os := by
            have : ∀ (L : List Nat) (os : List MObj), os.length = L.length → (∀ p o, p < L.length → os[p]? = some o → s.hp (nth L p) = some o) → objsAt s.hp L = some os := by
              intro L
              induction L with
              | nil => intro os hl _; cases os with
                | nil => rfl
                | cons _ _ => simp at hl
              | cons i L ih =>
                intro os hl hh
                cases os with
                | nil => simp at hl
                | cons o os =>
                  have h0 := hh 0 o (by simp) (by simp)
                  simp only [nth] at h0
                  have := ih os (by simpa using hl) (fun p o hp ho => by have := hh (p + 1) o (by simpa using hp) (by simpa using ho); simpa [nth] using this)
                  simp only [objsAt, h0, this]
            exact this L os hosl hfoot
          have hfr : ∀ k, n ≤ k → k < n + r.new.length → s.hp k = none := fun k h1 h2 => hv.2.2 k (by simp only [Eff.toR]; exact rangeN_mem h1 h2)
          have hino := inOB_spec hio
          have hina := in1B_spec hia
          -- the arguments
          have R1 : ∀ {x : Operand} {c : V1}, ov g x = .v c → x ∈ fv :: args → a.eval x = c.den ν ∧ c.ok (dom s.hp) := fun {x c} hx hm => by
            have h1 := hsl s hv x (by simpa [Op.operands, Call.operands] using hm)
            have := ov_rel hs x
            rw [h1, hx] at this; exact this
          have lits' : ∀ {l : List Operand} {xs : List V1}, (∀ x ∈ l, x ∈ fv :: args) → v1s (l.map (ov g)) = some xs → l.map a.eval = xs.map (V1.den ν) ∧ ∀ x ∈ xs, x.ok (dom s.hp) := by
            intro l
            induction l with
            | nil => intro xs _ h; simp [v1s] at h; subst h; simp
            | cons y l ih =>
              intro xs hm h
              simp only [List.map_cons] at h
              cases hy : ov g y with
              | any => rw [hy] at h; simp [v1s] at h
              | tup _ => rw [hy] at h; simp [v1s] at h
              | v c =>
                rw [hy] at h
                simp only [v1s] at h
                split at h
                · rename_i r' hr'
                  simp at h; subst h
                  obtain ⟨h1, h2⟩ := ih (fun x hx => hm x (List.mem_cons_of_mem _ hx)) hr'
                  obtain ⟨g1, g2⟩ := R1 hy (hm y (by simp))
                  refine ⟨by simp [g1, h1], fun x hx => ?_⟩
                  rcases List.mem_cons.1 hx with rfl | hx
                  · exact g2
                  · exact h2 x hx
                · cases h
          obtain ⟨vf, first, cap, hfv, hargs, hargok⟩ : ∃ (first cap : List Value) (_ : Unit), a.eval fv = .func (.func fn) first.toArray cap.toArray ∧ first ++ args.map a.eval ++ cap = vargs.map (V1.den ν) ∧ ∀ x ∈ vargs, x.ok (dom s.hp) := by
            unfold calleeOf at hcallee
            split at hcallee
            · rename_i f0 rest hl
              simp only [List.cons.injEq] at hl
              obtain ⟨hl1, hl2⟩ := hl
              split at hcallee
              · rename_i xs hxs
                simp at hcallee; obtain ⟨rfl, rfl⟩ := hcallee
                rw [← hl2] at hxs
                obtain ⟨h1, h2⟩ := lits' (fun x hx => List.mem_cons_of_mem _ hx) hxs
                refine ⟨[], [], (), ?_, by simpa using h1, h2⟩
                exact (R1 hl1 (by simp)).1
              · cases hcallee
            · rename_i f0 i off rest hl
              simp only [List.cons.injEq] at hl
              obtain ⟨hl1, hl2⟩ := hl
              split at hcallee
              · rename_i xs hxs
                simp at hcallee; obtain ⟨rfl, rfl⟩ := hcallee
                rw [← hl2] at hxs
                obtain ⟨h1, h2⟩ := lits' (fun x hx => List.mem_cons_of_mem _ hx) hxs
                obtain ⟨k1, k2⟩ := R1 hl1 (by simp)
                refine ⟨[], [(C.ptr i off).den ν], (), k1, by simp [h1]; rfl, fun x hx => ?_⟩
                rcases List.mem_append.1 hx with hx | hx
                · exact h2 x hx
                · simp at hx; subst hx; exact k2
              · cases hcallee
            · rename_i f0 i off rest hl
              simp only [List.cons.injEq] at hl
              obtain ⟨hl1, hl2⟩ := hl
              split at hcallee
              · rename_i xs hxs
                simp at hcallee; obtain ⟨rfl, rfl⟩ := hcallee
                rw [← hl2] at hxs
                obtain ⟨h1, h2⟩ := lits' (fun x hx => List.mem_cons_of_mem _ hx) hxs
                obtain ⟨k1, k2⟩ := R1 hl1 (by simp)
                refine ⟨[(C.ptr i off).den ν], [], (), k1, by simp [h1]; rfl, fun x hx => ?_⟩
                rcases List.mem_cons.1 hx with rfl | hx
                · exact k2
                · exact h2 x hx
              · cases hcallee
            · cases hcallee
          -- into the callee's numbers
          have hcl : (renO (idx L) os).length = L.length := by rw [renO_map, List.length_map, hosl]
          have hca : ∀ p, (renO (idx L) os)[p]? = (os[p]?).map (MObj.ren (idx L)) := fun p => by rw [renO_map, List.getElem?_map]
          have hids : ∀ i, memB i L = true → nth L (idx L i) = i ∧ dom (hpL (renO (idx L) os)) (idx L i) := fun i hi => by
            obtain ⟨h1, h2⟩ := nth_idx (memB_iff.1 hi)
            exact ⟨h1, dom_hpL.2 (by rw [hcl]; exact h2)⟩
          have hat : ∀ p o, (hpL (renO (idx L) os)) p = some o → p < L.length ∧ ∃ o', os[p]? = some o' ∧ o = o'.ren (idx L) ∧ s.hp (nth L p) = some o' ∧ Same (fun p => ν (nth L p)) ν o o' := fun p o hp => by
            have hpl : p < L.length := by rw [← hcl]; exact (List.getElem?_eq_some_iff.1 hp).1
            unfold hpL at hp
            rw [hca] at hp
            obtain ⟨o', ho', rfl⟩ := Option.map_eq_some_iff.1 hp
            have hso := hfoot p o' hpl ho'
            refine ⟨hpl, o', ho', rfl, hso, ?_⟩
            exact Same.ren (hs.fit.ok _ _ hso) (insS_mono (fun i hi => by rw [(hids i hi).1]) (hino o' (List.mem_of_getElem? ho')))
          have F : FitH (fun p => ν (nth L p)) (hpL (renO (idx L) os)) w := by
            refine ⟨fun p o hp => ?_, fun p o hp => ?_, fun p q o o' hpq hp hq ho ho' => ?_⟩
            · obtain ⟨h1, o', h2, rfl, h4, h5⟩ := hat p o hp
              exact h5.fit (hs.fit.fit _ _ h4)
            · obtain ⟨h1, o', h2, rfl, h4, h5⟩ := hat p o hp
              exact MObj.ok_ren (hs.fit.ok _ _ h4) (insS_mono (fun i hi => (hids i hi).2) (hino o' (List.mem_of_getElem? h2)))
            · obtain ⟨h1, o1, h2, _, h4, h5⟩ := hat p o hp
              obtain ⟨k1, o2, k2, _, k4, k5⟩ := hat q o' hq
              refine hs.fit.apart (nth L p) (nth L q) o1 o2 (fun e => hpq ?_) h4 k4 (h5.owns.1 ho) (k5.holds.1 ho')
              have := congrArg (idx L) e
              rwa [idx_nth hnd h1, idx_nth hnd k1] at this
          have hargs2 : (ren1s (idx L) vargs).map (V1.den fun p => ν (nth L p)) = vargs.map (V1.den ν) := map_ren hargok (ins1s_mono (fun i hi => by rw [(hids i hi).1]) hina)
          have hargs3 : ∀ x ∈ ren1s (idx L) vargs, x.ok (dom (hpL (renO (idx L) os))) := oks_ren hargok (ins1s_mono (fun i hi => (hids i hi).2) hina)
          have hcall := hmeets _ _ r hr hc _ w F hargs3
          rw [hargs2, ← hargs] at hcall
          -- the step
          unfold Oper.wp
          have hrun : (execOp a.eval ⟨dst, .call ⟨.value fv, ⟨args⟩, ts⟩, ty, pos, aft, gd⟩).run X.P w = .ok (.enter fn (vf ++ args.map a.eval ++ first).toArray) w := by
            simp only [execOp, resolve, invoke, Sem.run_bind, Result.andThen_ok, hfv, Deferred.ofValue, Sem.run_pure]
            have := hcf ((vf.toArray ++ (⟨args⟩ : Array Operand).map a.eval) ++ first.toArray) w
            rw [this]
            congr 2
            simp
          rw [hrun]
          simp only [Oper.upon]
          refine hcall.mono (fun e w' hpost => ?_)
          obtain ⟨y, ν', rfl, hν, F', hrel, hrok, hfrm, hM⟩ := hpost
          obtain ⟨c1, c2, c3, c4, c5, c6⟩ := callFit hs.fit hos' hnd hT hN hfr hino (fun p hp => hν p (by rw [hcl]; exact hp)) F' hfrm hM _ rfl _ rfl
          simp only
          refine hK _ _ ⟨fun i => if n ≤ i ∧ i < n + r.new.length then ν' (L.length + (i - n)) else ν i, ?_⟩
          simp only [Rec.app, Eff.toR]
          refine hs.next c2 c3 hdt ?_ ?_ c1 hfrm.os hfrm.tape hfrm.output hfrm.size ?_ ?_
          · exact V.rel_ren hrok (V.ins_mono (fun p hp => (c4 p hp).1) (V.ins_ok hrok)) hrel
          · exact V.ok_ren hrok (V.ins_mono (fun p hp => (c4 p hp).2) (V.ins_ok hrok))
          · intro b hb hnM
            rcases c5 b with ⟨i, oi, h1, h2, h3, _⟩ | h' | h'
            · rcases hs.inM i oi h1 h2 with h' | h'
              · rw [h3] at h'; exact absurd h' hnM
              · omega
            · exact h'
            · have := hs.fr.size; omega
          · intro i oi hi hoi
            rcases c6 i oi hi hoi with ⟨j, oj, k1, k2, k3⟩ | h'
            · rw [← k3]; exact hs.inM j oj k1 k2
            · have := hs.fr.size
              exact .inr (by omega)
        · cases h
      · cases h
    · cases h
  · cases h
end Go.Mx
