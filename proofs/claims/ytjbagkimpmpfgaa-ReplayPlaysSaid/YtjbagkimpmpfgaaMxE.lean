/- The engine, part E: all operations that yield a value and leave the world alone, in one. Conditions: those that each lists. -/
import Derived.Test.YtjbagkimpmpfgaaMxS
namespace Go.Mx

def lenC (Γ : Tab) (T : Nat) (x : V1) : Option V :=
  match Γ T, x with
  | some ⟨.str, _, _, _⟩, .one (.str s) => some (uint .i64 (s.size : Int))
  | some ⟨.slice _, _, _, _⟩, .one (.sl _ _ len _) => some (uint .i64 (len : Int))
  | some ⟨.slice _, _, _, _⟩, .one (.sx _ _ _ _ len _ _) => some (uint .i64 (len : Int))
  | some ⟨.slice _, _, _, _⟩, .one (.clip _ len) => some (uint .i64 (len : Int))
  | some ⟨.slice _, _, _, _⟩, .one .nils => some (uint .i64 0)
  | some ⟨.arr n _, _, _, _⟩, _ => some (uint .i64 (n : Int))
  | _, _ => none

theorem run_lenC {P : Program} {Γ : Tab} (hΓ : Γ.Ok P) (w : World) {T : Nat} {x : V1} {v : V} (h : lenC Γ T x = some v) (ν : Pl) (ty : TypeId) :
    (∃ z, (Builtin.len_ #[T] ty #[x.den ν]).run P w = .ok z w ∧ v.rel ν z) ∧ ∀ D, v.ok D := by
  unfold lenC at h
  split at h
  all_goals first
    | (cases h; done)
    | (rename_i hT
       simp at h; subst h
       obtain ⟨d, hd, hk⟩ := (hΓ T _ hT).und
       simp only [TK.Is] at hk; subst hk
       refine ⟨⟨_, ?_, rfl⟩, fun _ => trivial⟩
       simp [Builtin.len_, run_underlying hd, V1.den, C.den, goInt])

def castP (x : C) : Option V :=
  match x with
  | .ptr _ _ | .pel _ _ _ _ _ | .fn _ | .fn1 _ _ _ | .fnm _ _ _ => some (.v (.one x))
  | _ => none

def funcV (g : Fn) (first cap : Nat) (vs : List V) : Option V :=
  match g, first, cap, vs with
  | .func f, 0, 0, [] => some (.v (.one (.fn f)))
  | .func f, 0, 1, [.v (.one (.ptr i off))] => some (.v (.one (.fn1 f i off)))
  | .func f, 1, 0, [.v (.one (.ptr i off))] => some (.v (.one (.fnm f i off)))
  | _, _, _, _ => none

def toArr (Γ : Tab) (T : Nat) (x : C) : Option (List Prop × V) :=
  match Γ T, x with
  | some ⟨.arr n _, _, _, _⟩, .sx i _ _ _ len _ adr => some ([n ≤ len], .v (.one (.ptr i adr)))
  | _, _ => none

def ok0 (x : Option V) : Option (List Prop × V) := match x with | some v => some ([], v) | none => none
abbrev Res1 := Option (List Prop × V)
def on1 (vs : List V) (f : V → Res1) : Res1 := match vs with | [x] => f x | _ => none
def on2 (vs : List V) (f : V → V → Res1) : Res1 := match vs with | [x, y] => f x y | _ => none
def on3 (vs : List V) (f : V → V → V → Res1) : Res1 := match vs with | [x, y, z] => f x y z | _ => none
def onC (x : V) (f : C → Res1) : Res1 := match x with | .v (.one c) => f c | _ => none
def onI (x : V) (f : IntKind → Int → Res1) : Res1 := match x with | .v (.one (.int k n)) => f k n | _ => none
def onB (x : V) (f : Bool → Res1) : Res1 := match x with | .v (.one (.bool true b)) => f b | _ => none
def bin2 (Γ : Tab) (op : BinOp) (T : Nat) (x y : V) : Res1 :=
  match x, y with
  | .v (.one x), .v (.one y) => binC op (Γ T) x y
  | .v (.agg x), .v (.agg y) => aggEq Γ op T x y
  | _, _ => none
def extr (x : V) (j : Nat) : Res1 := match x with | .tup l => (match l[j]? with | some x => some ([], .v x) | none => none) | _ => none
def pick2 (b : Bool) (x y : V) : V := match b with | true => x | false => y
def lenV (Γ : Tab) (ts : List Nat) (x : V) : Res1 := match ts, x with | [T], .v x => ok0 (lenC Γ T x) | _, _ => none
def buildV (Γ : Tab) (T : Nat) (ps : List Nat) (vs : List V) : Res1 := match v1s vs with | some xs => buildC Γ T ps xs | none => none
def callB (Γ : Tab) (b : Builtin) (ts : List Nat) (vs : List V) : Res1 :=
  match b with
  | .len => on1 vs fun x => lenV Γ ts x
  | .max => on2 vs fun x y => onI x fun k m => onI y fun _ n => some ([], uint k (imax m n))
  | .min => on2 vs fun x y => onI x fun k m => onI y fun _ n => some ([], uint k (imin m n))
  | _ => none

def sliceV (Γ : Tab) (T : Nat) (lo hi mx : Bool) (vs : List V) (ob : Option MObj) : Res1 :=
  match lo, hi, mx with
  | false, false, false => on1 vs fun x => onC x fun c => sliceC Γ T c none none none ob
  | true, false, false => on2 vs fun x l => onC x fun c => onC l fun l => sliceC Γ T c (some l) none none ob
  | false, true, false => on2 vs fun x h => onC x fun c => onC h fun h => sliceC Γ T c none (some h) none ob
  | true, true, false => on3 vs fun x l h => onC x fun c => onC l fun l => onC h fun h => sliceC Γ T c (some l) (some h) none ob
  | false, true, true => on3 vs fun x h m => onC x fun c => onC h fun h => onC m fun m => sliceC Γ T c none (some h) (some m) ob
  | _, _, _ => none

def exec1 (Γ : Tab) (op : Op) (vs : List V) (ob : Option MObj) : Res1 :=
  match op with
  | .move _ => on1 vs fun x => some ([], x)
  | .assign _ => on1 vs fun x => some ([], x)
  | .pick _ _ _ => on3 vs fun c x y => onB c fun b => some ([], pick2 b x y)
  | .nilCheck _ => on1 vs fun x => onC x fun c => ok0 (castP c)
  | .binOp op T _ _ _ => on2 vs fun x y => bin2 Γ op T x y
  | .unOp op _ _ => on1 vs fun x => onC x fun c => ok0 (unC op c)
  | .convert s d _ => on1 vs fun x => onC x fun c => convC Γ s d c ob
  | .sliceToArrayPointer T _ => on1 vs fun x => onC x fun c => toArr Γ T c
  | .slice T _ lo hi mx => sliceV Γ T lo.isSome hi.isSome mx.isSome vs ob
  | .fieldAddr S _ f => on1 vs fun x => onC x fun c => ok0 (fieldC Γ S f c)
  | .indexAddr T _ _ => on2 vs fun x y => onC x fun c => onI y fun _ n => idxC Γ T c n ob
  | .index T _ _ => on2 vs fun x y => onC x fun c => onI y fun _ n => indexC Γ T c n
  | .load T _ => on1 vs fun x => onC x fun c => loadC Γ T c ob
  | .extract _ j => on1 vs fun x => extr x j
  | .build T parts => buildV Γ T (parts.toList.map (·.1)) vs
  | .makeFunc g first cap => ok0 (funcV g first.size cap.size vs)
  | .call ⟨.builtin b, _, ts⟩ => callB Γ b ts.toList vs
  | _ => none

/-- The object that is looked into. -/
def looks : Op → Bool
  | .load _ _ | .indexAddr _ _ _ | .convert _ _ _ | .slice _ _ _ _ _ => true
  | _ => false
def obj1 (vs : List V) : Option Nat := match vs with | .v (.one x) :: _ => x.obj | _ => none
def objOf (op : Op) (vs : List V) : Option Nat := bif looks op then obj1 vs else none

def vsOf (f : Nat → V) (op : Op) : List V := op.operands.toList.map (ov f)

theorem v1s_map : ∀ {l : List V} {xs : List V1}, v1s l = some xs → l = xs.map V.v
  | [], _, h => by simp [v1s] at h; subst h; rfl
  | .v x :: l, xs, h => by
    simp only [v1s] at h
    split at h
    · rename_i r hr
      simp at h; subst h
      rw [v1s_map hr]; rfl
    · cases h
  | .any :: l, _, h => by simp [v1s] at h
  | .tup _ :: l, _, h => by simp [v1s] at h

theorem onC_eq {x : V} {f : C → Res1} {r} (h : onC x f = some r) : ∃ c, x = .v (.one c) ∧ f c = some r := by
  unfold onC at h
  split at h
  · exact ⟨_, rfl, h⟩
  · cases h
theorem onI_eq {x : V} {f : IntKind → Int → Res1} {r} (h : onI x f = some r) : ∃ k n, x = .v (.one (.int k n)) ∧ f k n = some r := by
  unfold onI at h
  split at h
  · exact ⟨_, _, rfl, h⟩
  · cases h
theorem onB_eq {x : V} {f : Bool → Res1} {r} (h : onB x f = some r) : ∃ b, x = .v (.one (.bool true b)) ∧ f b = some r := by
  unfold onB at h
  split at h
  · exact ⟨_, rfl, h⟩
  · cases h
theorem ok0_eq {x : Option V} {cs v} (h : ok0 x = some (cs, v)) : x = some v := by
  unfold ok0 at h
  split at h
  · simp at h; rw [h.2]
  · cases h

theorem zip_parts {f : Nat → V} {e : Operand → Value} {ν : Pl} {D : Nat → Prop} (R1 : ∀ {x : Operand} {c : V1}, ov f x = .v c → e x = c.den ν ∧ c.ok D) :
    ∀ (ps : List (Nat × Operand)) (xs : List V1), (ps.map (·.2)).map (ov f) = xs.map V.v → (∀ x ∈ xs, x.ok D) ∧ (ps.map (·.1)).zip (xs.map (V1.den ν)) = ps.map (fun p => (p.1, e p.2))
  | [], xs, h => by
    have : xs = [] := by cases xs with
      | nil => rfl
      | cons x xs => simp at h
    subst this
    exact ⟨by simp, rfl⟩
  | p :: ps, [], h => by simp at h
  | p :: ps, x :: xs, h => by
    simp only [List.map_cons, List.cons.injEq] at h
    obtain ⟨h1, h2⟩ := zip_parts R1 ps xs h.2
    obtain ⟨g1, g2⟩ := R1 h.1
    refine ⟨fun y hy => ?_, ?_⟩
    · rcases List.mem_cons.1 hy with rfl | hy
      · exact g2
      · exact h1 y hy
    · simp only [List.map_cons, List.zip_cons_cons, h2, g1]

theorem exec1_ok {X : Ctx} {Γ : Tab} (hΓ : Γ.Ok X.P) {ν : Pl} {s : St} {a : Act} {w : World} (hs : SatAt X ν s a w) {o : Oper} {cs : List Prop} {v : V}
    (h : exec1 Γ o.op (vsOf s.tmp o.op) ((objOf o.op (vsOf s.tmp o.op)).bind s.hp) = some (cs, v)) (hc : AllP cs) :
    v.ok (dom s.hp) ∧ ∃ y, (execOp a.eval o).run X.P w = .ok (.value y) w ∧ v.rel ν y := by
  have R := ov_rel hs
  have R1 : ∀ {x : Operand} {c : V1}, ov s.tmp x = .v c → a.eval x = c.den ν ∧ c.ok (dom s.hp) := fun {x c} hx => by
    have := R x; rw [hx] at this; exact this
  have hob0 : ∀ {c : C}, ∀ i o', c.obj = some i → (c.obj.bind s.hp) = some o' → s.hp i = some o' := fun {c} i o' h1 h2 => by
    rw [h1] at h2; exact h2
  have hob1 : ∀ {c : C}, ∀ i o', c.obj = some i → (c.obj.bind s.hp) = some o' → o'.ok (dom s.hp) ∧ o'.fit (ν i) ν w := fun {c} i o' h1 h2 => by
    rw [h1] at h2; exact ⟨hs.fit.ok i o' h2, hs.fit.fit i o' h2⟩
  have lift : ∀ {m : Sem Value} {v : V}, (∃ z, m.run X.P w = .ok z w ∧ v.rel ν z) → ∃ y, (do pure (Next.value (← m)) : Sem Next).run X.P w = .ok (.value y) w ∧ v.rel ν y := by
    rintro m v ⟨z, hz, hr⟩
    exact ⟨z, by simp only [Sem.run_bind, hz, Result.andThen_ok, Sem.run_pure], hr⟩
  obtain ⟨dst, op, ty, pos, after, guard⟩ := o
  simp only at h ⊢
  cases op with
  | move x =>
    simp [exec1, on1, vsOf, Op.operands] at h; obtain ⟨_, rfl⟩ := h
    exact ⟨(R x).2, _, rfl, (R x).1⟩
  | assign x =>
    simp [exec1, on1, vsOf, Op.operands] at h; obtain ⟨_, rfl⟩ := h
    exact ⟨(R x).2, _, rfl, (R x).1⟩
  | pick c x y =>
    simp only [exec1, vsOf, Op.operands, List.map_cons, List.map_nil, on3] at h
    obtain ⟨b, hb, h⟩ := onB_eq h
    simp at h; obtain ⟨_, rfl⟩ := h
    have hcv := (R1 hb).1
    simp only [V1.den, C.den] at hcv
    cases b with
    | true =>
      refine ⟨(R x).2, a.eval x, ?_, (R x).1⟩
      simp only [execOp, Sem.run_bind, hcv, asBool, Sem.run_pure, Result.andThen_ok, if_true]
    | false =>
      refine ⟨(R y).2, a.eval y, ?_, (R y).1⟩
      simp only [execOp, Sem.run_bind, hcv, asBool, Sem.run_pure, Result.andThen_ok, Bool.false_eq_true, if_false]
  | nilCheck x =>
    simp only [exec1, vsOf, Op.operands, List.map_cons, List.map_nil, on1] at h
    obtain ⟨c, hx, h⟩ := onC_eq h
    have h := ok0_eq h
    obtain ⟨h1, h2⟩ := R1 hx
    unfold castP at h
    split at h
    all_goals first
      | (cases h; done)
      | (simp at h; subst h
         refine ⟨h2, _, ?_, rfl⟩
         simp only [execOp, h1, V1.den, C.den]
         rfl)
  | binOp op T x y yt =>
    simp only [exec1, vsOf, Op.operands, List.map_cons, List.map_nil, on2] at h
    unfold bin2 at h
    split at h
    · rename_i c d hx hy
      obtain ⟨g1, g2⟩ := R1 hx
      obtain ⟨g3, g4⟩ := R1 hy
      obtain ⟨k1, k2⟩ := run_binC hΓ w x y h hc ν
      refine ⟨k2 _, ?_⟩
      have := lift k1
      rw [show c.den ν = a.eval x from g1.symm, show d.den ν = a.eval y from g3.symm] at this
      exact this
    · rename_i c d hx hy
      obtain ⟨g1, g2⟩ := R1 hx
      obtain ⟨g3, g4⟩ := R1 hy
      obtain ⟨k1, k2⟩ := run_aggEq hΓ w x y h ν g2 g4
      refine ⟨k2 _, ?_⟩
      have := lift k1
      rw [show Value.agg (denS ν c).toArray = a.eval x from g1.symm, show Value.agg (denS ν d).toArray = a.eval y from g3.symm] at this
      exact this
    · cases h
  | unOp op t x =>
    simp only [exec1, vsOf, Op.operands, List.map_cons, List.map_nil, on1] at h
    obtain ⟨c, hx, h⟩ := onC_eq h
    obtain ⟨g1, g2⟩ := R1 hx
    obtain ⟨k1, k2⟩ := run_unC (P := X.P) w (ok0_eq h) ν
    refine ⟨k2 _, ?_⟩
    have := lift k1
    rw [show c.den ν = a.eval x from g1.symm] at this
    exact this
  | convert sT dT x =>
    simp only [exec1, objOf, looks, vsOf, Op.operands, List.map_cons, List.map_nil, on1, cond_true] at h
    obtain ⟨c, hx, h⟩ := onC_eq h
    rw [hx] at h
    obtain ⟨g1, g2⟩ := R1 hx
    obtain ⟨k1, k2⟩ := run_convC hΓ w h hc ν hs.fit g2 hob0
    refine ⟨k2, ?_⟩
    have := lift k1
    rw [show c.den ν = a.eval x from g1.symm] at this
    exact this
  | sliceToArrayPointer T x =>
    simp only [exec1, vsOf, Op.operands, List.map_cons, List.map_nil, on1] at h
    obtain ⟨c, hx, h⟩ := onC_eq h
    obtain ⟨g1, g2⟩ := R1 hx
    unfold toArr at h
    split at h
    · rename_i n e _ _ _ i off w' lo len cap adr hT
      simp at h; obtain ⟨rfl, rfl⟩ := h
      obtain ⟨d, hd, hk⟩ := (hΓ T _ hT).und
      simp only [TK.Is] at hk; subst hk
      have hle : n ≤ len := hc.1
      refine ⟨g2.1, _, ?_, rfl⟩
      simp only [execOp, g1, V1.den, C.den, Instr.arrayAt, Sem.run_bind, run_underlying hd, Result.andThen_ok, if_neg (show ¬ len < n by omega), Sem.run_pure]
    · cases h
  | slice T x lo hi mx =>
    have key : ∀ {c : C} {lo' hi' mx' : Option C}, ov s.tmp x = .v (.one c) → (lo.map a.eval = bden ν lo') → (hi.map a.eval = bden ν hi') → (mx.map a.eval = bden ν mx') → sliceC Γ T c lo' hi' mx' (c.obj.bind s.hp) = some (cs, v) →
        v.ok (dom s.hp) ∧ ∃ y, (execOp a.eval ⟨dst, .slice T x lo hi mx, ty, pos, after, guard⟩).run X.P w = .ok (.value y) w ∧ v.rel ν y := by
      intro c lo' hi' mx' hx e1 e2 e3 hh
      obtain ⟨g1, g2⟩ := R1 hx
      obtain ⟨k1, k2⟩ := run_sliceC hΓ w hh hc ν g2 hob1
      refine ⟨k2, ?_⟩
      have := lift k1
      rw [show c.den ν = a.eval x from g1.symm, ← e1, ← e2, ← e3] at this
      exact this
    have e1 : ∀ {y : Operand} {c : C}, ov s.tmp y = .v (.one c) → (some y).map a.eval = bden ν (some c) := fun hy => by
      simp only [Option.map_some, bden]; rw [(R1 hy).1]; rfl
    simp only [exec1, objOf, looks, vsOf, Op.operands, cond_true] at h
    rcases lo with _ | lo <;> rcases hi with _ | hi <;> rcases mx with _ | mx <;>
      simp only [Option.isSome_none, Option.isSome_some, Option.toArray_none, Option.toArray_some, List.map_cons, List.map_nil, Array.toList_append, List.append_nil, List.cons_append, List.nil_append, sliceV, on1, on2, on3] at h <;> (try (cases h; done))
    · obtain ⟨c, hx, h⟩ := onC_eq h
      rw [hx] at h
      exact key hx rfl rfl rfl h
    · obtain ⟨c, hx, h⟩ := onC_eq h
      obtain ⟨y, hy, h⟩ := onC_eq h
      rw [hx] at h
      exact key hx rfl (e1 hy) rfl h
    · obtain ⟨c, hx, h⟩ := onC_eq h
      obtain ⟨y, hy, h⟩ := onC_eq h
      obtain ⟨z, hz, h⟩ := onC_eq h
      rw [hx] at h
      exact key hx rfl (e1 hy) (e1 hz) h
    · obtain ⟨c, hx, h⟩ := onC_eq h
      obtain ⟨y, hy, h⟩ := onC_eq h
      rw [hx] at h
      exact key hx (e1 hy) rfl rfl h
    · obtain ⟨c, hx, h⟩ := onC_eq h
      obtain ⟨y, hy, h⟩ := onC_eq h
      obtain ⟨z, hz, h⟩ := onC_eq h
      rw [hx] at h
      exact key hx (e1 hy) (e1 hz) rfl h
  | fieldAddr S x f =>
    simp only [exec1, vsOf, Op.operands, List.map_cons, List.map_nil, on1] at h
    obtain ⟨c, hx, h⟩ := onC_eq h
    obtain ⟨g1, g2⟩ := R1 hx
    obtain ⟨k1, k2⟩ := run_fieldC hΓ w (ok0_eq h) ν g2
    refine ⟨k2, ?_⟩
    have := lift k1
    rw [show c.den ν = a.eval x from g1.symm] at this
    exact this
  | indexAddr T x n =>
    simp only [exec1, objOf, looks, vsOf, Op.operands, List.map_cons, List.map_nil, on2, cond_true] at h
    obtain ⟨c, hx, h⟩ := onC_eq h
    obtain ⟨k, m, hn, h⟩ := onI_eq h
    rw [hx] at h
    obtain ⟨g1, g2⟩ := R1 hx
    obtain ⟨g3, g4⟩ := R1 hn
    obtain ⟨k1, k2⟩ := run_idxC (k := k) hΓ w h hc ν g2 hob1
    refine ⟨k2, ?_⟩
    have := lift k1
    rw [show c.den ν = a.eval x from g1.symm, show Value.int k m = a.eval n from g3.symm] at this
    exact this
  | index T x n =>
    simp only [exec1, vsOf, Op.operands, List.map_cons, List.map_nil, on2] at h
    obtain ⟨c, hx, h⟩ := onC_eq h
    obtain ⟨k, m, hn, h⟩ := onI_eq h
    obtain ⟨g1, g2⟩ := R1 hx
    obtain ⟨g3, g4⟩ := R1 hn
    obtain ⟨k1, k2⟩ := run_indexC (k := k) hΓ w h hc ν
    refine ⟨k2 _, ?_⟩
    have := lift k1
    rw [show c.den ν = a.eval x from g1.symm, show Value.int k m = a.eval n from g3.symm] at this
    exact this
  | load T x =>
    simp only [exec1, objOf, looks, vsOf, Op.operands, List.map_cons, List.map_nil, on1, cond_true] at h
    obtain ⟨c, hx, h⟩ := onC_eq h
    rw [hx] at h
    obtain ⟨g1, g2⟩ := R1 hx
    obtain ⟨k1, k2⟩ := run_loadC hΓ w h hc ν hs.fit hob0
    refine ⟨k2, ?_⟩
    have := lift k1
    rw [show c.den ν = a.eval x from g1.symm] at this
    exact this
  | extract x j =>
    simp only [exec1, vsOf, Op.operands, List.map_cons, List.map_nil, on1] at h
    unfold extr at h
    split at h
    · rename_i l hx
      split at h
      · rename_i y hy
        simp at h; obtain ⟨_, rfl⟩ := h
        have := R x
        rw [hx] at this
        obtain ⟨r1, r2⟩ := this
        simp only [V.rel] at r1
        refine ⟨r2 y (List.mem_of_getElem? hy), y.den ν, ?_, rfl⟩
        refine (show ∀ {z : Value}, (Instr.extract (a.eval x) j).run X.P w = .ok z w → (execOp a.eval ⟨dst, .extract x j, ty, pos, after, guard⟩).run X.P w = .ok (.value z) w from fun hz => by
          simp only [execOp, Sem.run_bind, hz, Result.andThen_ok, Sem.run_pure]) ?_
        rw [r1]
        simp only [Instr.extract]
        rw [List.getElem?_toArray, List.getElem?_map, hy]
        rfl
      · cases h
    · cases h
  | build T parts =>
    simp only [exec1, buildV] at h
    split at h
    · rename_i xs hxs
      have hm := v1s_map hxs
      obtain ⟨hok, hz⟩ := zip_parts R1 parts.toList xs (by rw [← hm]; simp [vsOf, Op.operands])
      obtain ⟨k1, k2⟩ := run_buildC hΓ w h hc ν hok
      refine ⟨k2, ?_⟩
      have := lift k1
      rw [hz] at this
      have e : (parts.toList.map fun p => (p.1, a.eval p.2)).toArray = parts.map fun (i, x) => (i, a.eval x) := by
        rw [← List.map_toArray]
      rw [e] at this
      exact this
    · cases h
  | makeFunc g first cap =>
    simp only [exec1, vsOf, Op.operands] at h
    replace h := ok0_eq h
    obtain ⟨first⟩ := first
    obtain ⟨cap⟩ := cap
    unfold funcV at h
    split at h
    · rename_i fn hf hc' hv
      simp at hf hc'
      subst hf; subst hc'
      simp at h; subst h
      exact ⟨trivial, .func (.func fn) #[] #[], by simp [execOp, Instr.makeFunc], rfl⟩
    · rename_i fn i off hf hc' hv
      simp at hf hc'
      subst hf
      match cap, hc' with
      | [x], _ =>
        simp at hv h; subst h
        obtain ⟨g1, g2⟩ := R1 hv
        refine ⟨g2, _, rfl, ?_⟩
        simp [V.rel, V1.den, C.den, g1]
    · rename_i fn i off hf hc' hv
      simp at hf hc'
      subst hc'
      match first, hf with
      | [x], _ =>
        simp at hv h; subst h
        obtain ⟨g1, g2⟩ := R1 hv
        refine ⟨g2, _, rfl, ?_⟩
        simp [V.rel, V1.den, C.den, g1]
    · cases h
  | call c =>
    obtain ⟨callee, args, ts⟩ := c
    cases callee with
    | builtin b =>
      simp only [exec1, vsOf, Op.operands, Call.operands] at h
      obtain ⟨args⟩ := args
      obtain ⟨ts⟩ := ts
      simp only [Array.toList_append, List.nil_append] at h
      unfold callB at h
      split at h
      · unfold on1 at h
        split at h
        · rename_i x hl
          dsimp only [lenV] at h
          split at h
          · rename_i T y
            obtain ⟨z, rfl⟩ : ∃ z, args = [z] := by
              match args, hl with
              | [z], _ => exact ⟨z, rfl⟩
              | [], hl => simp at hl
              | _ :: _ :: _, hl => simp at hl
            simp at hl
            obtain ⟨g1, g2⟩ := R1 hl
            obtain ⟨⟨y', k1, k1'⟩, k2⟩ := run_lenC hΓ w (ok0_eq h) ν ty
            refine ⟨k2 _, y', ?_, k1'⟩
            rw [← g1] at k1
            simp only [execOp, resolve, invoke, builtin, Sem.run_bind, Sem.run_pure, Result.andThen_ok, List.map_toArray, List.map_cons, List.map_nil, k1]
          · cases h
        · cases h
      · unfold on2 at h
        split at h
        · rename_i x y hl
          obtain ⟨k, m, hx, h⟩ := onI_eq h
          obtain ⟨k', n, hy, h⟩ := onI_eq h
          simp at h; obtain ⟨_, rfl⟩ := h
          obtain ⟨z1, z2, rfl⟩ : ∃ z1 z2, args = [z1, z2] := by
            match args, hl with
            | [z1, z2], _ => exact ⟨z1, z2, rfl⟩
            | [], hl => simp at hl
            | [_], hl => simp at hl
            | _ :: _ :: _ :: _, hl => simp at hl
          · simp at hl
            obtain ⟨g1, g2⟩ := R1 (hl.1.trans hx)
            obtain ⟨g3, g4⟩ := R1 (hl.2.trans hy)
            refine ⟨trivial, .int k (imax m n), ?_, rfl⟩
            simp only [V1.den, C.den] at g1 g3
            simp [execOp, resolve, invoke, builtin, Builtin.max_, g1, g3, Builtin.max2, imax]
        · cases h
      · unfold on2 at h
        split at h
        · rename_i x y hl
          obtain ⟨k, m, hx, h⟩ := onI_eq h
          obtain ⟨k', n, hy, h⟩ := onI_eq h
          simp at h; obtain ⟨_, rfl⟩ := h
          obtain ⟨z1, z2, rfl⟩ : ∃ z1 z2, args = [z1, z2] := by
            match args, hl with
            | [z1, z2], _ => exact ⟨z1, z2, rfl⟩
            | [], hl => simp at hl
            | [_], hl => simp at hl
            | _ :: _ :: _ :: _, hl => simp at hl
          · simp at hl
            obtain ⟨g1, g2⟩ := R1 (hl.1.trans hx)
            obtain ⟨g3, g4⟩ := R1 (hl.2.trans hy)
            refine ⟨trivial, .int k (imin m n), ?_, rfl⟩
            simp only [V1.den, C.den] at g1 g3
            simp [execOp, resolve, invoke, builtin, Builtin.min_, g1, g3, Builtin.min2, imin]
        · cases h
      · cases h
    | value f => simp [exec1] at h
    | invoke r m => simp [exec1] at h
  | _ => simp [exec1] at h
end Go.Mx
