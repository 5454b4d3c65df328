/- The engine, part H: states as lists; what an operation looks at lies in its state. Conditions: those that each lists. -/
import Derived.Test.YtjbagkimpmpfgaaMxF
namespace Go.Mx

structure LS where
  tmp : List V
  hp : List MObj
def gV : List V → Nat → V
  | [], _ => .any
  | x :: _, 0 => x
  | _ :: l, n + 1 => gV l n
def gH : List MObj → Nat → Option MObj
  | [], _ => none
  | x :: _, 0 => some x
  | _ :: l, n + 1 => gH l n
def LS.as (s : LS) : St := ⟨gV s.tmp, gH s.hp⟩

theorem gH_eq : ∀ (l : List MObj) (i : Nat), gH l i = l[i]?
  | [], _ => by simp [gH]
  | _ :: _, 0 => by simp [gH]
  | _ :: l, n + 1 => by simp [gH, gH_eq l n]
theorem gH_hpL (l : List MObj) : gH l = hpL l := funext (gH_eq l)
theorem gV_eq : ∀ (l : List V) (i : Nat), gV l i = l.getD i .any
  | [], _ => by simp [gV]
  | _ :: _, 0 => by simp [gV]
  | _ :: l, n + 1 => by simp [gV, gV_eq l n]

/-! ### Steps with what follows in hand -/
def setK {α : Type} : List α → Nat → α → (List α → Prop) → Prop
  | [], _, _, _ => False
  | _ :: l, 0, v, k => k (v :: l)
  | x :: l, n + 1, v, k => setK l n v fun l' => k (x :: l')
theorem setK_spec {α : Type} : ∀ {l : List α} {n : Nat} {v : α} {k : List α → Prop}, setK l n v k → n < l.length ∧ k (l.set n v)
  | [], _, _, _, h => h.elim
  | _ :: l, 0, v, k, h => ⟨by simp, h⟩
  | x :: l, n + 1, v, k, h => by
    obtain ⟨h1, h2⟩ := setK_spec (l := l) h
    exact ⟨by simp; omega, h2⟩
def setDK (l : List V) (d : Option Nat) (v : V) (k : List V → Prop) : Prop := match d with | none => k l | some d => setK l d v k
theorem gV_set {l : List V} {n : Nat} {v : V} (h : n < l.length) : gV (l.set n v) = putF (some n) v (gV l) := by
  funext t
  rw [gV_eq]
  simp only [putF, List.getD, List.getElem?_set]
  by_cases hnt : n = t
  · subst hnt; simp [h]
  · rw [if_neg hnt, if_neg (by simpa using hnt)]
    exact (gV_eq l t).symm
theorem setDK_spec {l : List V} {d : Option Nat} {v : V} {k : List V → Prop} (h : setDK l d v k) : ∃ l', l'.length = l.length ∧ gV l' = putF d v (gV l) ∧ (∀ x, d = some x → x < l.length) ∧ k l' := by
  cases d with
  | none => exact ⟨l, rfl, rfl, (fun _ hx => nomatch hx), h⟩
  | some d =>
    obtain ⟨h1, h2⟩ := setK_spec h
    exact ⟨_, by simp, gV_set h1, fun x hx => by cases hx; exact h1, h2⟩

def litK : Nat → (Nat → Prop) → Prop
  | 0, k => k 0
  | n + 1, k => litK n fun m => k (m + 1)
theorem litK_eq : ∀ (n : Nat) (k : Nat → Prop), litK n k = k n
  | 0, _ => rfl
  | n + 1, _ => litK_eq n _
def fC (x : C) (k : C → Prop) : Prop :=
  match x with
  | .int a b => k (.int a b)
  | .bool a b => k (.bool a b)
  | .str s => k (.str s)
  | .ptr i off => litK i fun i => k (.ptr i off)
  | .pel i off row w f => litK i fun i => k (.pel i off row w f)
  | .nilp => k .nilp
  | .sl i lo len w => litK i fun i => k (.sl i lo len w)
  | .clip i len => litK i fun i => k (.clip i len)
  | .sx i off w lo len cap adr => litK i fun i => k (.sx i off w lo len cap adr)
  | .nils => k .nils
  | .fn f => k (.fn f)
  | .fn1 f i off => litK i fun i => k (.fn1 f i off)
  | .fnm f i off => litK i fun i => k (.fnm f i off)
  | .raw v => k (.raw v)
theorem fC_eq (x : C) (k : C → Prop) : fC x k = k x := by cases x <;> simp only [fC, litK_eq]
def fS : List Seg → (List Seg → Prop) → Prop
  | [], k => k []
  | .c x :: l, k => fC x fun x => fS l fun l => k (.c x :: l)
  | .ints a b n :: l, k => fS l fun l => k (.ints a b n :: l)
  | .strs b n :: l, k => fS l fun l => k (.strs b n :: l)
  | .rows w n f :: l, k => fS l fun l => k (.rows w n f :: l)
theorem fS_eq : ∀ (l : List Seg) (k : List Seg → Prop), fS l k = k l
  | [], _ => rfl
  | .c x :: l, k => by simp only [fS, fC_eq]; rw [fS_eq l]
  | .ints _ _ _ :: l, k => by simp only [fS]; rw [fS_eq l]
  | .strs _ _ :: l, k => by simp only [fS]; rw [fS_eq l]
  | .rows _ _ _ :: l, k => by simp only [fS]; rw [fS_eq l]
def f1 (x : V1) (k : V1 → Prop) : Prop := match x with | .one x => fC x fun x => k (.one x) | .agg b => fS b fun b => k (.agg b)
theorem f1_eq (x : V1) (k : V1 → Prop) : f1 x k = k x := by cases x <;> simp [f1, fC_eq, fS_eq]
def f1s : List V1 → (List V1 → Prop) → Prop
  | [], k => k []
  | x :: l, k => f1 x fun x => f1s l fun l => k (x :: l)
theorem f1s_eq : ∀ (l : List V1) (k : List V1 → Prop), f1s l k = k l
  | [], _ => rfl
  | x :: l, k => by simp only [f1s, f1_eq]; rw [f1s_eq l]
def fV (x : V) (k : V → Prop) : Prop := match x with | .any => k .any | .v x => f1 x fun x => k (.v x) | .tup l => f1s l fun l => k (.tup l)
theorem fV_eq (x : V) (k : V → Prop) : fV x k = k x := by cases x <;> simp [fV, f1_eq, f1s_eq]
def fO (x : MObj) (k : MObj → Prop) : Prop := match x with | .own e b => fS b fun b => k (.own e b) | .view e b => fS b fun b => k (.view e b) | .gone => k .gone
theorem fO_eq (x : MObj) (k : MObj → Prop) : fO x k = k x := by cases x <;> simp [fO, fS_eq]

def putK : List MObj → Nat → MObj → (List MObj → Prop) → Prop
  | [], 0, o, k => k [o]
  | [], _ + 1, _, _ => False
  | _ :: l, 0, o, k => k (o :: l)
  | x :: l, n + 1, o, k => putK l n o fun l => k (x :: l)
theorem putK_spec : ∀ {l : List MObj} {n : Nat} {o : MObj} {k : List MObj → Prop}, putK l n o k → ∃ l', gH l' = updF [(n, o)] (gH l) ∧ k l'
  | [], 0, o, k, h => ⟨[o], by funext i; rw [updF_one]; cases i <;> simp [gH], h⟩
  | [], _ + 1, _, _, h => h.elim
  | x :: l, 0, o, k, h => ⟨o :: l, by funext i; rw [updF_one]; cases i <;> simp [gH], h⟩
  | x :: l, n + 1, o, k, h => by
    obtain ⟨l', h1, h2⟩ := putK_spec (l := l) h
    refine ⟨x :: l', ?_, h2⟩
    funext i
    rw [updF_one]
    cases i with
    | zero => simp [gH]
    | succ i => simp only [gH]; rw [h1, updF_one]; simp
def updK : List (Nat × MObj) → List MObj → (List MObj → Prop) → Prop
  | [], l, k => k l
  | (n, o) :: r, l, k => updK r l fun l => fO o fun o => putK l n o k
theorem updF_cons {n : Nat} {o : MObj} {r : List (Nat × MObj)} {h : Hp} : updF ((n, o) :: r) h = updF [(n, o)] (updF r h) := updF_app (a := [(n, o)]) (b := r)
theorem updK_spec : ∀ {r : List (Nat × MObj)} {l : List MObj} {k : List MObj → Prop}, updK r l k → ∃ l', gH l' = updF r (gH l) ∧ k l'
  | [], l, k, h => ⟨l, rfl, h⟩
  | (n, o) :: r, l, k, h => by
    obtain ⟨l1, h1, h2⟩ := updK_spec (r := r) h
    rw [fO_eq] at h2
    obtain ⟨l2, h3, h4⟩ := putK_spec h2
    exact ⟨l2, (by rw [h3, h1]; exact updF_cons.symm), h4⟩

def addC : List Prop → Prop → (Prop → Prop) → Prop
  | [], c, k => k c
  | p :: l, c, k => addC l (p ∧ c) k
theorem addC_spec : ∀ {l : List Prop} {c : Prop} {k : Prop → Prop}, addC l c k → ∃ c', k c' ∧ (c' → AllP l ∧ c)
  | [], c, k, h => ⟨c, h, fun h => ⟨trivial, h⟩⟩
  | p :: l, c, k, h => by
    obtain ⟨c', h1, h2⟩ := addC_spec (l := l) h
    exact ⟨c', h1, fun hc => ⟨⟨(h2 hc).2.1, (h2 hc).1⟩, (h2 hc).2.2⟩⟩

/-! ### What is looked at -/
def Foot (hp : Hp) (f : Eff) : Prop := ∀ p ∈ f.foot, hp p.1 = some p.2
theorem footOf_spec {hp : Hp} {x : Option Nat} : ∀ p ∈ footOf x (x.bind hp), hp p.1 = some p.2 := by
  intro p hp'
  unfold footOf at hp'
  cases x with
  | none => simp at hp'
  | some i =>
    simp only [Option.bind_some] at hp'
    cases h : hp i with
    | none => rw [h] at hp'; simp at hp'
    | some o => rw [h] at hp'; simp at hp'; subst hp'; exact h
theorem foot_cons {hp : Hp} {x : C} {i : Nat} {o : MObj} {r : List (Nat × MObj)} (h1 : x.obj = some i) (h2 : x.obj.bind hp = some o) (hr : ∀ p ∈ r, hp p.1 = some p.2) : ∀ p ∈ (i, o) :: r, hp p.1 = some p.2 := by
  intro p hp'
  rcases List.mem_cons.1 hp' with rfl | hp'
  · rw [h1] at h2; exact h2
  · exact hr p hp'

theorem storeC_foot {Γ : Tab} {T : Nat} {p : C} {x : V} {hp : Hp} {f : Eff} (h : storeC Γ T p x (p.obj.bind hp) = some f) : Foot hp f := by
  unfold storeC at h
  split at h
  · rename_i ti e b i _ hb hi
    have core : ∀ {cs : List Prop} {r : List Seg}, some (Eff.mk cs .any [(i, .own e b)] [(i, .own e r)] []) = some f → Foot hp f := fun h => by
      simp at h; subst h
      exact foot_cons hi hb (fun _ h => by cases h)
    cases hk : knownT ti.k with
    | false => rw [hk] at h; simp at h
    | true =>
      rw [hk] at h; simp only [cond_true] at h
      cases ha : isAggT ti.k with
      | true =>
        rw [ha] at h; simp only [cond_true] at h
        split at h
        · cases hz : Nat.blt 0 ti.size with
          | false => rw [hz] at h; simp at h
          | true => rw [hz] at h; simp only [cond_true] at h; split at h; exact core h; cases h
        · cases hz : Nat.blt 0 ti.size with
          | false => rw [hz] at h; simp at h
          | true => rw [hz] at h; simp only [cond_true] at h; split at h; exact core h; cases h
        · cases h
      | false =>
        rw [ha] at h; simp only [cond_false] at h
        cases hz : Nat.beq ti.size 1 with
        | false => rw [hz] at h; simp at h
        | true =>
          rw [hz] at h; simp only [cond_true] at h
          split at h
          · split at h; exact core h; cases h
          · split at h; exact core h; cases h
          · cases h
  · cases h
theorem copyC_foot {x y : C} {hp : Hp} {f : Eff} (h : copyC x y (x.obj.bind hp) (y.obj.bind hp) = some f) : Foot hp f := by
  unfold copyC at h
  split at h
  · rename_i i e b hi hb
    split at h
    · split at h
      · rename_i q D hq hD _ k d mm hb'
        cases hk : kindB q.k k with
        | false => rw [hk] at h; simp at h
        | true =>
          rw [hk] at h; simp only [cond_true] at h
          split at h
          · simp at h; subst h; exact foot_cons hi hb footOf_spec
          · cases h
      · cases h
    · cases h
  · cases h
theorem clearC_foot {Γ : Tab} {T : Nat} {x : C} {hp : Hp} {f : Eff} (h : clearC Γ T x (x.obj.bind hp) = some f) : Foot hp f := by
  unfold clearC at h
  split at h
  · split at h
    · rename_i k z i e' b _ hi hb
      split at h
      · rename_i q _
        cases hk : kindB q.k k with
        | false => rw [hk] at h; simp at h
        | true =>
          rw [hk] at h; simp only [cond_true] at h
          split at h
          · simp at h; subst h; exact foot_cons hi hb (fun _ h => by cases h)
          · cases h
      · cases h
    · cases h
  · cases h
theorem appendC_foot {Γ : Tab} {T n : Nat} {x y : C} {hp : Hp} {f : Eff} (h : appendC Γ T n x y (x.obj.bind hp) (y.obj.bind hp) = some f) : Foot hp f := by
  unfold appendC at h
  split at h
  · split at h
    · rename_i te _
      split at h
      · cases hz : Nat.blt 0 te.size with
        | false => rw [hz] at h; simp at h
        | true =>
          rw [hz] at h; simp only [cond_true] at h
          split at h
          · simp at h; subst h; exact footOf_spec
          · rename_i i lo len w e' b hb
            cases hbb : (Nat.beq lo 0 && (Nat.beq w te.size && (Nat.beq e' w && otherObj y i))) with
            | false => rw [hbb] at h; simp at h
            | true =>
              rw [hbb] at h; simp only [cond_true] at h
              simp at h; subst h
              exact foot_cons (x := .sl i lo len w) rfl hb footOf_spec
          · cases h
      · cases h
    · cases h
  · cases h
theorem pure1_foot {Γ : Tab} {op : Op} {vs : List V} {hp : Hp} {f : Eff} (h : pure1 Γ op vs hp = some f) : Foot hp f := by
  unfold pure1 at h
  split at h
  · split at h
    · simp at h; subst h; intro p hp; cases hp
    · cases h
  · rename_i i _
    split at h
    · rename_i o ho
      split at h
      · simp at h; subst h; intro p hp; simp at hp; subst hp; exact ho
      · cases h
    · cases h
theorem nil_foot {hp : Hp} {f : Eff} (h : f.foot = []) : Foot hp f := fun p hp => by rw [h] at hp; cases hp
theorem exec2_foot {Γ : Tab} {op : Op} {vs : List V} {n : Nat} {hp : Hp} {f : Eff} (h : exec2 Γ op vs n hp = some f) : Foot hp f := by
  have bs : ∀ {T len : Nat} {ps : List Nat} {f : Eff}, buildSliceC Γ T len n ps vs = some f → f.foot = [] := fun {T len ps f} h => by
    unfold buildSliceC at h
    split at h
    · split at h
      · split at h
        · rename_i te _ _ _ _ _ _ _
          cases hb : (Nat.ble (len * te.size) 16777216 && Nat.blt 0 te.size) with
          | false => rw [hb] at h; simp at h
          | true => rw [hb] at h; simp at h; subst h; rfl
        · cases h
      · cases h
    · cases h
  have mk : ∀ {T : Nat} {l c : Int} {f : Eff}, makeC Γ T n l c = some f → f.foot = [] := fun {T l c f} h => by
    unfold makeC at h
    split at h
    · split at h
      · rename_i te _
        cases hb : Nat.blt 0 te.size with
        | false => rw [hb] at h; simp at h
        | true => rw [hb] at h; simp at h; subst h; rfl
      · cases h
    · cases h
  have tb : ∀ {s d : Nat} {x : C} {f : Eff}, toBytesC Γ s d n x = some f → f.foot = [] := fun {s d x f} h => by
    unfold toBytesC at h
    split at h
    · split at h
      · simp at h; subst h; rfl
      · cases h
    · cases h
  unfold exec2 at h
  split at h
  · unfold allocC at h
    split at h
    · simp at h; subst h; exact nil_foot rfl
    · cases h
  · split at h
    · unfold boxC at h
      split at h
      · simp at h; subst h; exact nil_foot rfl
      · cases h
    · cases h
  · exact nil_foot (bs h)
  · split at h
    · exact nil_foot (mk h)
    · cases h
  · split at h
    · exact storeC_foot (onO_eq h)
    · cases h
  · split at h
    · exact appendC_foot (onO_eq (onO_eq (ifB_eq h).2))
    · cases h
  · split at h
    · exact copyC_foot (onO_eq (onO_eq (ifB_eq h).2))
    · cases h
  · split at h
    · exact clearC_foot (onO_eq h)
    · cases h
  · split at h
    · split at h
      · exact nil_foot (tb h)
      · exact pure1_foot h
    · split at h
      · have h := onO_eq h
        unfold markC at h
        split at h
        · rename_i hb
          split at h
          · rename_i i lo len w _ _ _ _ esz b _ _ _ _ _
            revert h
            cases Nat.beq _ _ with
            | false => intro h; simp at h
            | true =>
              intro h
              simp at h; subst h
              exact foot_cons (by simp_all [C.obj]) hb (fun _ h => by cases h)
          · cases h
        · cases h
      · exact pure1_foot h
    · exact pure1_foot h
  · exact pure1_foot h
theorem zipO_foot {hp : Hp} : ∀ {L : List Nat} {os : List MObj}, objsAt hp L = some os → ∀ p ∈ zipO L os, hp p.1 = some p.2
  | [], os, h, p, hp => by simp [objsAt] at h; subst h; cases hp
  | i :: L, os, h, p, hp => by
    simp only [objsAt] at h
    split at h
    · rename_i o ho
      split at h
      · rename_i r hr
        simp at h; subst h
        simp only [zipO] at hp
        rcases List.mem_cons.1 hp with rfl | hp
        · exact ho
        · exact zipO_foot hr p hp
      · cases h
    · cases h
theorem callC_foot {E : Env} {vs : List V} {n : Nat} {hp : Hp} {f : Eff} (h : callC E vs n hp = some f) : Foot hp f := by
  unfold callC at h
  split at h
  · split at h
    · dsimp only at h
      split at h
      · rename_i os hos
        unfold intoC at h
        rename_i f0 args _ _ ctr _ _
        generalize growL hp 100 0 (addAll [] (ptsV args)) = L at h hos
        cases h1 : nodupB L with
        | false => rw [h1] at h; simp at h
        | true =>
        rw [h1] at h; simp only [cond_true] at h
        cases h2 : in1B (fun i => memB i L) args with
        | false => rw [h2] at h; simp at h
        | true =>
        rw [h2] at h; simp only [cond_true] at h
        cases h3 : inOB (fun i => memB i L) os with
        | false => rw [h3] at h; simp at h
        | true =>
        rw [h3] at h; simp only [cond_true] at h
        split at h
        · rename_i r _
          unfold backC at h
          cases h4 : okTurn os r.turn with
          | false => rw [h4] at h; simp at h
          | true =>
          rw [h4] at h; simp only [cond_true] at h
          cases h5 : okNew r.new with
          | false => rw [h5] at h; simp at h
          | true =>
          rw [h5] at h; simp only [cond_true] at h
          simp only [Option.some.injEq] at h
          subst h
          exact zipO_foot hos
        · cases h
      · cases h
    · cases h
  · cases h
end Go.Mx
