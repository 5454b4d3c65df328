/- The engine, part B: every operation but the calls, in one. Conditions: those that each lists. -/
import Derived.Test.YtjbagkimpmpfgaaMxK
namespace Go.Mx

def slotsOf (g : Nat → V) : List Operand → List (Nat × V)
  | [] => []
  | .tmp t :: l => (t, g t) :: slotsOf g l
  | _ :: l => slotsOf g l

theorem slotsOf_spec {g h : Nat → V} : ∀ {l : List Operand}, (∀ p ∈ slotsOf g l, h p.1 = p.2) → ∀ x ∈ l, ov h x = ov g x
  | [], _, x, hx => by cases hx
  | y :: l, hp, x, hx => by
    have hl : ∀ p ∈ slotsOf g l, h p.1 = p.2 := fun p hq => hp p (by cases y <;> simp [slotsOf, hq])
    rcases List.mem_cons.1 hx with rfl | hx
    · cases x with
      | tmp t => exact hp (t, g t) (by simp [slotsOf])
      | _ => rfl
    · exact slotsOf_spec hl x hx

def pure1 (Γ : Tab) (op : Op) (vs : List V) (hp : Hp) : Option Eff :=
  match objOf op vs with
  | none => (match exec1 Γ op vs none with | some (cs, v) => some ⟨cs, v, [], [], []⟩ | none => none)
  | some i => (match hp i with
    | some o => (match exec1 Γ op vs (some o) with | some (cs, v) => some ⟨cs, v, [(i, o)], [], []⟩ | none => none)
    | none => none)

def onO (hp : Hp) (x : C) (f : Option MObj → Option Eff) : Option Eff :=
  match x.obj with
  | none => f none
  | some i => (match hp i with | some o => f (some o) | none => none)

def isRowT (Γ : Tab) (T : Nat) : Bool := match Γ T with | some ⟨.str, _, _, _⟩ => true | some ⟨.slice _, _, _, _⟩ => true | _ => false
def isSliceT (Γ : Tab) (T : Nat) : Bool := match Γ T with | some ⟨.slice _, _, _, _⟩ => true | _ => false
def oneT (Γ : Tab) (T : Nat) : Bool := match Γ T with | some ⟨.slice e, _, _, _⟩ => (match Γ e with | some te => Nat.beq te.size 1 | none => false) | _ => false
def ifB (b : Bool) (x : Option Eff) : Option Eff := match b with | true => x | false => none

def exec2 (Γ : Tab) (op : Op) (vs : List V) (n : Nat) (hp : Hp) : Option Eff :=
  match op with
  | .alloc T => allocC Γ T n
  | .box _ _ => (match vs with | [x] => boxC n x | _ => none)
  | .buildSlice T len parts => buildSliceC Γ T len n (parts.toList.map (·.1)) vs
  | .makeSlice T _ _ => (match vs with | [.v (.one (.int _ l)), .v (.one (.int _ c))] => makeC Γ T n l c | _ => none)
  | .store T _ _ => (match vs with | [.v (.one c), x] => onO hp c fun ob => storeC Γ T c x ob | _ => none)
  | .call ⟨.builtin .append, _, ts⟩ => (match ts.toList, vs with
    | [T, T'], [.v (.one c), .v (.one d)] => ifB (isRowT Γ T') (onO hp c fun oc => onO hp d fun od => appendC Γ T n c d oc od)
    | _, _ => none)
  | .call ⟨.builtin .copy, _, ts⟩ => (match ts.toList, vs with
    | [T, _], [.v (.one c), .v (.one d)] => ifB (oneT Γ T) (onO hp c fun oc => onO hp d fun od => copyC c d oc od)
    | _, _ => none)
  | .call ⟨.builtin .clear, _, ts⟩ => (match ts.toList, vs with
    | [T], [.v (.one c)] => onO hp c fun oc => clearC Γ T c oc
    | _, _ => none)
  | .convert s d x => (match vs with
    | [.v (.one (.str b))] => (match isSliceT Γ d with | true => toBytesC Γ s d n (.str b) | false => pure1 Γ (.convert s d x) vs hp)
    | [.v (.one (.sl i lo len w))] => (match isSliceT Γ d with | true => onO hp (.sl i lo len w) fun ob => markC Γ s d (.sl i lo len w) ob | false => pure1 Γ (.convert s d x) vs hp)
    | _ => pure1 Γ (.convert s d x) vs hp)
  | op => pure1 Γ op vs hp

theorem onO_eq {hp : Hp} {x : C} {f : Option MObj → Option Eff} {r : Eff} (h : onO hp x f = some r) : f (x.obj.bind hp) = some r := by
  unfold onO at h
  split at h
  · rename_i hx; rw [hx]; exact h
  · rename_i i hx
    split at h
    · rename_i o ho; rw [hx]; simpa [ho] using h
    · cases h
theorem ifB_eq {b : Bool} {x : Option Eff} {r : Eff} (h : ifB b x = some r) : b = true ∧ x = some r := by
  cases b with
  | true => exact ⟨rfl, h⟩
  | false => cases h

theorem lit_two {l : List Operand} {g : Nat → V} {a b : V} (h : l.map (ov g) = [a, b]) : ∃ x y, l = [x, y] ∧ ov g x = a ∧ ov g y = b := by
  match l, h with
  | [x, y], h => simp at h; exact ⟨x, y, rfl, h.1, h.2⟩
  | [], h => simp at h
  | [_], h => simp at h
  | _ :: _ :: _ :: _, h => simp at h
theorem lit_one {l : List Operand} {g : Nat → V} {a : V} (h : l.map (ov g) = [a]) : ∃ x, l = [x] ∧ ov g x = a := by
  match l, h with
  | [x], h => simp at h; exact ⟨x, rfl, h⟩
  | [], h => simp at h
  | _ :: _ :: _, h => simp at h

section
variable {X : Ctx} {Q : Exit → Act → World → Prop} {Γ : Tab} (hΓ : Γ.Ok X.P)
include hΓ

theorem pure1_ok {o : Oper} {g : Nat → V} {hp : Hp} {f : Eff} {slots : List (Nat × V)} (h : pure1 Γ o.op (vsOf g o.op) hp = some f) (hc : AllP f.cs) (hdt : ∀ x, o.dst = some x → x < X.nt)
    (hsl : ∀ s : St, (f.toR o.dst slots).valid s → ∀ x ∈ o.op.operands.toList, ov s.tmp x = ov g x) : WpOk X Q o (f.toR o.dst slots) := by
  have hvs : ∀ s : St, (f.toR o.dst slots).valid s → vsOf s.tmp o.op = vsOf g o.op := fun s hv => List.map_congr_left (hsl s hv)
  unfold pure1 at h
  split at h
  · rename_i hob
    split at h
    · rename_i cs v he
      simp at h; subst h
      refine wpOk_pure rfl rfl hdt (fun ν s a w hv hs => ?_)
      have e := hvs s hv
      exact exec1_ok hΓ hs (cs := cs) (v := v) (by rw [e, hob]; exact he) hc
    · cases h
  · rename_i i hob
    split at h
    · rename_i ob hi
      split at h
      · rename_i cs v he
        simp at h; subst h
        refine wpOk_pure rfl rfl hdt (fun ν s a w hv hs => ?_)
        have e := hvs s hv
        have hi' : s.hp i = some ob := hv.2.1 (i, ob) (by simp [Eff.toR])
        exact exec1_ok hΓ hs (cs := cs) (v := v) (by rw [e, hob]; simpa [hi'] using he) hc
      · cases h
    · cases h

theorem exec2_ok {o : Oper} {g : Nat → V} {hp : Hp} {n : Nat} {f : Eff} {slots : List (Nat × V)} (h : exec2 Γ o.op (vsOf g o.op) n hp = some f) (hc : AllP f.cs) (hdt : ∀ x, o.dst = some x → x < X.nt)
    (hsl : ∀ s : St, (f.toR o.dst slots).valid s → ∀ x ∈ o.op.operands.toList, ov s.tmp x = ov g x) : WpOk X Q o (f.toR o.dst slots) := by
  have dflt : pure1 Γ o.op (vsOf g o.op) hp = some f → WpOk X Q o (f.toR o.dst slots) := fun h => pure1_ok hΓ h hc hdt hsl
  obtain ⟨dst, op, ty, pos, aft, gd⟩ := o
  simp only at h hdt hsl dflt ⊢
  have s1 : ∀ {x : Operand}, x ∈ op.operands.toList → ∀ s : St, (f.toR dst slots).valid s → ov s.tmp x = ov g x := fun hx s hv => hsl s hv _ hx
  unfold exec2 at h
  split at h
  · exact alloc_ok hΓ hdt h
  · rename_i T x
    split at h
    · rename_i y hy
      simp [vsOf, Op.operands] at hy
      subst hy
      exact box_ok hdt h (s1 (by simp [Op.operands]))
    · cases h
  · rename_i T len parts
    have e : vsOf g (Op.buildSlice T len parts) = parts.toList.map (fun p => ov g p.2) := by simp [vsOf, Op.operands]
    rw [e] at h
    refine buildSlice_ok hΓ hdt (g := g) h hc (fun s hv p hp => hsl s hv p.2 ?_)
    simp [Op.operands]
    exact ⟨p.1, by simpa using hp⟩
  · rename_i T x y
    split at h
    · rename_i k l k' c hy
      simp [vsOf, Op.operands] at hy
      exact make_ok hΓ hdt h hc hy.1 hy.2 (fun s hv => ⟨s1 (by simp [Op.operands]) s hv, s1 (by simp [Op.operands]) s hv⟩)
    · cases h
  · rename_i T p x
    split at h
    · rename_i c y hy
      simp [vsOf, Op.operands] at hy
      obtain ⟨h1, rfl⟩ := hy
      exact store_ok hΓ hdt (onO_eq h) hc h1 (fun s hv => ⟨s1 (by simp [Op.operands]) s hv, s1 (by simp [Op.operands]) s hv⟩)
    · cases h
  · rename_i args ts
    split at h
    · rename_i T T' c d hts hy
      obtain ⟨args⟩ := args
      obtain ⟨ts⟩ := ts
      simp only at hts; subst hts
      simp only [vsOf, Op.operands, Call.operands, Array.toList_append, List.nil_append] at hy
      obtain ⟨x, y, rfl, hx, hy⟩ := lit_two hy
      obtain ⟨hb, h⟩ := ifB_eq h
      have h := onO_eq (onO_eq h)
      have hT' : AppT X.P T' := by
        unfold isRowT at hb
        split at hb
        · rename_i hT
          obtain ⟨d, hd, hk⟩ := (hΓ _ _ hT).und
          simp only [TK.Is] at hk; subst hk
          exact .inl hd
        · rename_i hT
          obtain ⟨d, hd, hk⟩ := (hΓ _ _ hT).und
          simp only [TK.Is] at hk; subst hk
          exact .inr ⟨_, hd⟩
        · cases hb
      exact append_ok hdt hΓ hT' h hc hx hy (fun s hv => ⟨s1 (by simp [Op.operands, Call.operands]) s hv, s1 (by simp [Op.operands, Call.operands]) s hv⟩)
    · cases h
  · rename_i args ts
    split at h
    · rename_i T T' c d hts hy
      obtain ⟨args⟩ := args
      obtain ⟨ts⟩ := ts
      simp only at hts; subst hts
      simp only [vsOf, Op.operands, Call.operands, Array.toList_append, List.nil_append] at hy
      obtain ⟨x, y, rfl, hx, hy⟩ := lit_two hy
      obtain ⟨hb, h⟩ := ifB_eq h
      have h := onO_eq (onO_eq h)
      unfold oneT at hb
      split at hb
      · rename_i e _ _ _ hT
        split at hb
        · rename_i te hte
          obtain ⟨d1, hd1, hk1⟩ := (hΓ _ _ hT).und
          simp only [TK.Is] at hk1; subst hk1
          refine copy_ok hdt ⟨_, rfl⟩ hd1 (fun w => ?_) h hc hx hy (fun s hv => ⟨s1 (by simp [Op.operands, Call.operands]) s hv, s1 (by simp [Op.operands, Call.operands]) s hv⟩)
          rw [(hΓ _ _ hte).sizeOf w, Nat.eq_of_beq_eq_true hb]
        · cases hb
      · cases hb
    · cases h
  · rename_i args ts
    split at h
    · rename_i T c hts hy
      obtain ⟨args⟩ := args
      obtain ⟨ts⟩ := ts
      simp only at hts; subst hts
      simp only [vsOf, Op.operands, Call.operands, Array.toList_append, List.nil_append] at hy
      obtain ⟨x, rfl, hx⟩ := lit_one hy
      exact clear_ok hdt hΓ (onO_eq h) hc hx (fun s hv => s1 (by simp [Op.operands, Call.operands]) s hv)
    · cases h
  · rename_i sT dT x
    split at h
    · rename_i b hy
      split at h
      · simp [vsOf, Op.operands] at hy
        exact toBytes_ok hΓ hdt h hy (s1 (by simp [Op.operands]))
      · exact dflt h
    · rename_i hy
      split at h
      · simp [vsOf, Op.operands] at hy
        exact mark_ok hΓ hdt (onO_eq h) hc hy (s1 (by simp [Op.operands]))
      · exact dflt h
    · exact dflt h
  · exact dflt h
end
end Go.Mx
