/- The engine, part O: the operations that look and reckon alone: what each yields, by the numbers; and that the model's own run yields just that. Conditions: those that each lists. -/
import Derived.WalkLawsBesides
import Derived.Test.YtjbagkimpmpfgaaMxG
namespace Go.Mx

/-! ### Types by a table -/
inductive TK where
  | int (k : IntKind) | bool | str | ptr (e : Nat) | slice (e : Nat) | arr (n e : Nat) | struct (fs : List (Nat × Nat)) | other
structure TI where
  k : TK
  size : Nat
  bytes : Nat
  zero : List Seg

def TK.Is (d : TypeDesc) : TK → Prop
  | .int k => d = .int k
  | .bool => d = .bool
  | .str => d = .string
  | .ptr e => d = .pointer e
  | .slice e => d = .slice e
  | .arr n e => d = .array n e
  | .struct fs => ∃ fields, d = .struct fields ∧ fields.toList.map (fun f => (f.type, f.offset)) = fs
  | .other => True

structure TI.Ok (P : Program) (t : Nat) (ti : TI) : Prop where
  eqs : ∀ fs, ti.k = .struct fs → P.stoodInHeld t = false ∧ ∀ fields, P.underlying t = some (.struct fields) → ∀ f ∈ fields.toList, f.name ≠ "_"
  und : ∃ d, P.underlying t = some d ∧ ti.k.Is d
  info : ∃ i z, P.info? t = some i ∧ i.size = ti.size ∧ i.bytes = ti.bytes ∧ i.zero = some z ∧ (∀ ν, z.cells.toList = denS ν ti.zero) ∧ (∀ D, okS D ti.zero) ∧ sizeS ti.zero = ti.size

abbrev Tab := Nat → Option TI
def Tab.Ok (P : Program) (Γ : Tab) : Prop := ∀ t ti, Γ t = some ti → ti.Ok P t

theorem TI.Ok.sizeOf {P : Program} {t : Nat} {ti : TI} (h : ti.Ok P t) (w : World) : (sizeOf t).run P w = .ok ti.size w := by
  obtain ⟨i, z, h1, h2, _⟩ := h.info
  simp [Go.sizeOf, typeInfo, h1, h2]

/-! ### Operands -/
def cv : Value → V
  | .int k n => .v (.one (.int k n))
  | .bool b => .v (.one (.bool true b))
  | .string s => .v (.one (.str s))
  | .pointer none => .v (.one .nilp)
  | .slice none l c => bif Nat.beq l 0 && Nat.beq c 0 then .v (.one .nils) else .any
  | _ => .any
def ov (f : Nat → V) : Operand → V
  | .tmp t => f t
  | .const v => cv v
  | .func g => .v (.one (.fn g))
  | .global _ => .any

theorem cv_rel (ν : Pl) (D : Nat → Prop) (v : Value) : (cv v).rel ν v ∧ (cv v).ok D := by
  unfold cv
  split <;> try exact ⟨rfl, trivial⟩
  · rename_i l c
    cases h : (Nat.beq l 0 && Nat.beq c 0) with
    | false => exact ⟨trivial, trivial⟩
    | true =>
      simp only [Bool.and_eq_true] at h
      rw [Nat.eq_of_beq_eq_true h.1, Nat.eq_of_beq_eq_true h.2]
      exact ⟨rfl, trivial⟩
  · exact ⟨trivial, trivial⟩

theorem ov_rel {X : Ctx} {ν : Pl} {s : St} {a : Act} {w : World} (h : SatAt X ν s a w) (x : Operand) : (ov s.tmp x).rel ν (a.eval x) ∧ (ov s.tmp x).ok (dom s.hp) := by
  cases x with
  | tmp t => exact ⟨h.tmp t, h.tok t⟩
  | const v => exact cv_rel ν _ v
  | global g => exact ⟨trivial, trivial⟩
  | func f => exact ⟨rfl, trivial⟩

/-! ### Cells of objects -/
theorem cell_of_fit {ν : Pl} {h : Hp} {w : World} (F : FitH ν h w) {i : Nat} {o : MObj} (hi : h i = some o) {j : Nat} {v : Value} (hj : (denS ν o.segs)[j]? = some v) :
    w.cell? (at_ ν i j) = some v ∧ (ν i).nil = false := by
  have hf := F.fit i o hi
  have hok := F.ok i o hi
  have hlt := (List.getElem?_eq_some_iff.1 hj).1
  rw [denS_len hok] at hlt
  cases o with
  | own e b =>
    simp only [MObj.fit] at hf
    cases hn : (ν i).nil with
    | true => simp only [hn, if_true] at hf; simp only [MObj.segs] at hlt; omega
    | false =>
      simp only [hn, Bool.false_eq_true, if_false] at hf
      obtain ⟨hb, spare, t, fz, hh, _⟩ := hf
      refine ⟨?_, rfl⟩
      unfold World.cell? at_
      simp only [hh, hb, Option.isSome_none, Bool.false_eq_true, if_false, Nat.zero_add]
      simp only [MObj.segs] at hj
      rw [List.getElem?_toArray, List.getElem?_append_left (List.getElem?_eq_some_iff.1 hj).1]
      exact hj
  | view e b =>
    simp only [MObj.fit] at hf
    cases hn : (ν i).nil with
    | true => simp only [hn, if_true] at hf; simp only [MObj.segs] at hlt; omega
    | false =>
      simp only [hn, Bool.false_eq_true, if_false] at hf
      exact ⟨hf.2.2 j v hj, rfl⟩
  | gone => simp [MObj.segs, denS] at hj

theorem at_add (ν : Pl) (i off n : Nat) : (at_ ν i off).add n = at_ ν i (off + n) := by
  unfold Addr.add at_
  split
  · subst_vars; rfl
  · simp [Nat.add_assoc]

/-! ### Reckoning -/
def bandI (k : IntKind) (x y : Int) : Int := k.wrap ((BitVec.ofInt k.bits x &&& BitVec.ofInt k.bits y).toNat : Int)
def borI (k : IntKind) (x y : Int) : Int := k.wrap ((BitVec.ofInt k.bits x ||| BitVec.ofInt k.bits y).toNat : Int)
def bxorI (k : IntKind) (x y : Int) : Int := k.wrap ((BitVec.ofInt k.bits x ^^^ BitVec.ofInt k.bits y).toNat : Int)
def bclrI (k : IntKind) (x y : Int) : Int := k.wrap ((BitVec.ofInt k.bits x &&& ~~~(BitVec.ofInt k.bits y)).toNat : Int)
def shlI (k : IntKind) (x y : Int) : Int := k.wrap (x * 2 ^ (min y.toNat k.bits))
def shrI (k : IntKind) (x y : Int) : Int := x.fdiv (2 ^ (min y.toNat k.bits))
def isum (k : IntKind) (x y : Int) : Int := k.wrap (x + y)
def idif (k : IntKind) (x y : Int) : Int := k.wrap (x - y)
def imul (k : IntKind) (x y : Int) : Int := k.wrap (x * y)
def iquo (k : IntKind) (x y : Int) : Int := k.wrap (x.tdiv y)
def conv (k : IntKind) (x : Int) : Int := k.wrap x

def ubool (b : Bool) : V := .v (.one (.bool false b))
def uint (k : IntKind) (n : Int) : V := .v (.one (.int k n))

def binI (op : BinOp) (k : IntKind) (x y : Int) : Option (List Prop × V) :=
  match op with
  | .add => some ([], uint k (isum k x y))
  | .sub => some ([], uint k (idif k x y))
  | .mul => some ([], uint k (imul k x y))
  | .quo => some ([y ≠ 0], uint k (iquo k x y))
  | .rem => some ([y ≠ 0], uint k (x.tmod y))
  | .and => some ([], uint k (bandI k x y))
  | .or => some ([], uint k (borI k x y))
  | .xor => some ([], uint k (bxorI k x y))
  | .andNot => some ([], uint k (bclrI k x y))
  | .eql => some ([], ubool (x == y))
  | .neq => some ([], ubool (x != y))
  | .lss => some ([], ubool (decide (x < y)))
  | .leq => some ([], ubool (decide (x ≤ y)))
  | .gtr => some ([], ubool (decide (x > y)))
  | .geq => some ([], ubool (decide (x ≥ y)))
  | .shl => some ([0 ≤ y], uint k (shlI k x y))
  | .shr => some ([0 ≤ y], uint k (shrI k x y))

def binS (op : BinOp) (x y : ByteArray) : Option (List Prop × V) :=
  match op with
  | .add => some ([x.size + y.size ≤ 9223372036854775807], .v (.one (.str (x ++ y))))
  | .eql => some ([], ubool (x.toList == y.toList))
  | .neq => some ([], ubool (!(x.toList == y.toList)))
  | _ => none

/-- Is a value of a cell a pointer, and is it nil? -/
def C.nilPtr : C → Option Bool
  | .ptr _ _ | .pel _ _ _ _ _ => some false
  | .nilp => some true
  | _ => none

def isShift : BinOp → Bool
  | .shl | .shr => true
  | _ => false

/-- A slice held against nil. -/
def nilSlC (x y : C) : Option (List Prop × V) :=
  match x, y with
  | .nils, .nils => some ([], .v (.one (.bool true true)))
  | .sx _ _ _ _ _ _ _, .nils => some ([], .v (.one (.bool true false)))
  | _, _ => none
theorem nilSlC_raw (u : Value) (y : C) : nilSlC (.raw u) y = none := by cases y <;> rfl
def binC (op : BinOp) (t : Option TI) (x y : C) : Option (List Prop × V) :=
  match x, y with
  | .int k a, .int k' b => bif isShift op || kindB k k' then binI op k a b else none
  | .str a, .str b => binS op a b
  | .bool _ a, .bool _ b => match t, op with
    | some ⟨.bool, _, _, _⟩, .eql => some ([], ubool (a == b))
    | some ⟨.bool, _, _, _⟩, .neq => some ([], ubool (!(a == b)))
    | _, _ => none
  | x, y => match t, op, x.nilPtr, y.nilPtr with
    | some ⟨.ptr _, _, _, _⟩, .eql, some true, some b => some ([], .v (.one (.bool true b)))
    | some ⟨.ptr _, _, _, _⟩, .neq, some true, some b => some ([], .v (.one (.bool true (!b))))
    | some ⟨.ptr _, _, _, _⟩, .eql, some false, some true => some ([], .v (.one (.bool true false)))
    | some ⟨.ptr _, _, _, _⟩, .neq, some false, some true => some ([], .v (.one (.bool true true)))
    | some ⟨.slice _, _, _, _⟩, .eql, _, _ => nilSlC x y
    | _, _, _, _ => none

theorem run_binOp_int {P : Program} (w : World) {op : BinOp} (T : Nat) {k k' : IntKind} {x y : Int} {cs : List Prop} {v : V} (hk : isShift op = true ∨ k = k') (h : binI op k x y = some (cs, v)) (hc : AllP cs) (ν : Pl) :
    ∃ z, (binOp op T (.int k x) (.int k' y)).run P w = .ok z w ∧ v.rel ν z := by
  cases op <;> simp only [binI, Option.some.injEq, Prod.mk.injEq] at h <;> obtain ⟨rfl, rfl⟩ := h
  case shl =>
    have h0 : ¬ y < 0 := by have := hc.1; omega
    exact ⟨_, by simp [binOp, Op.shift, h0]; rfl, rfl⟩
  case shr =>
    have h0 : ¬ y < 0 := by have := hc.1; omega
    exact ⟨_, by simp [binOp, Op.shift, h0]; rfl, rfl⟩
  case quo =>
    have hk : k = k' := by simpa [isShift] using hk
    have h0 : y ≠ 0 := hc.1
    subst hk
    exact ⟨_, by simp [binOp, Op.intDiv, h0]; rfl, rfl⟩
  case rem =>
    have hk : k = k' := by simpa [isShift] using hk
    have h0 : y ≠ 0 := hc.1
    subst hk
    exact ⟨_, by simp [binOp, Op.intDiv, h0]; rfl, rfl⟩
  all_goals
    have hk : k = k' := by simpa [isShift] using hk
    subst hk
    refine ⟨_, ?_, rfl⟩
    simp only [binOp, ne_eq, not_true_eq_false, if_false]
    rfl

theorem run_binOp_str {P : Program} (w : World) {op : BinOp} (T : Nat) {x y : ByteArray} {cs : List Prop} {v : V} (h : binS op x y = some (cs, v)) (hc : AllP cs) (ν : Pl) :
    ∃ z, (binOp op T (.string x) (.string y)).run P w = .ok z w ∧ v.rel ν z := by
  cases op <;> simp only [binS, Option.some.injEq, Prod.mk.injEq] at h <;> first | (obtain ⟨rfl, rfl⟩ := h) | (cases h; done)
  case add =>
    have h0 : ¬ ((x.size + y.size : Nat) : Int) > IntKind.i64.max := by
      have h1 : x.size + y.size ≤ 9223372036854775807 := hc.1
      simp only [IntKind.max, IntKind.signed, IntKind.bits]
      simp
      omega
    refine ⟨_, ?_, rfl⟩
    simp only [binOp, Op.stringOp]
    rw [if_neg h0]
    rfl
  all_goals exact ⟨_, by simp [binOp, Op.stringOp]; rfl, rfl⟩

theorem nilPtr_den {ν : Pl} {x : C} {b : Bool} (h : x.nilPtr = some b) : ∃ o, x.den ν = .pointer o ∧ o.isNone = b := by
  cases x <;> simp [C.nilPtr] at h <;> subst h <;> exact ⟨_, rfl, rfl⟩

theorem run_equalIn_ptr {P : Program} (w : World) (d T e : Nat) (hT : P.underlying T = some (.pointer e)) (o o' : Option Addr) (h : o.isNone = true ∨ o'.isNone = true) :
    (Op.equalIn (d + 1) T (.pointer o) (.pointer o')).run P w = .ok (o.isNone && o'.isNone) w := by
  rcases o with _ | a <;> rcases o' with _ | b
  · simp [Op.equalIn, run_underlying hT]
  · simp [Op.equalIn, run_underlying hT]
  · simp [Op.equalIn, run_underlying hT]
  · simp at h
theorem run_equalIn_bool {P : Program} (w : World) (d T : Nat) (hT : P.underlying T = some .bool) (a b : Bool) :
    (Op.equalIn (d + 1) T (.bool a) (.bool b)).run P w = .ok (a == b) w := by
  simp [Op.equalIn, run_underlying hT]

theorem run_eql_ptr {P : Program} (w : World) (op : BinOp) (T e : Nat) (hT : P.underlying T = some (.pointer e)) (o o' : Option Addr) (h : o.isNone = true ∨ o'.isNone = true) (hop : op = .eql ∨ op = .neq) :
    (binOp op T (.pointer o) (.pointer o')).run P w = .ok (.bool (if op = .eql then (o.isNone && o'.isNone) else !(o.isNone && o'.isNone))) w := by
  have key : (Op.equal T (.pointer o) (.pointer o')).run P w = .ok (o.isNone && o'.isNone) w := run_equalIn_ptr w 9999 T e hT o o' h
  generalize (o.isNone && o'.isNone) = q at *
  rcases hop with rfl | rfl
  · simp only [binOp, Sem.run_bind, key]; simp only [Result.andThen_ok, Sem.run_pure, if_true]
  · simp only [binOp, Sem.run_bind, key]; simp only [Result.andThen_ok, Sem.run_pure, reduceCtorEq, if_false]

theorem run_eql_bool {P : Program} (w : World) (op : BinOp) (T : Nat) (hT : P.underlying T = some .bool) (a b : Bool) (hop : op = .eql ∨ op = .neq) :
    (binOp op T (.bool a) (.bool b)).run P w = .ok (.bool (if op = .eql then a == b else !(a == b))) w := by
  have key : (Op.equal T (.bool a) (.bool b)).run P w = .ok (a == b) w := run_equalIn_bool w 9999 T hT a b
  generalize (a == b) = q at *
  rcases hop with rfl | rfl
  · simp only [binOp, Sem.run_bind, key]; simp only [Result.andThen_ok, Sem.run_pure, if_true]
  · simp only [binOp, Sem.run_bind, key]; simp only [Result.andThen_ok, Sem.run_pure, reduceCtorEq, if_false]

theorem eqGuard_plain {P : Program} (w : World) (op : BinOp) (T : Nat) (x y : Operand) (a b : Value) (ha : a.oneCell' = true) (ha' : a ≠ .nilIface) : (eqGuard op T x y a b).run P w = .ok () w := by
  unfold eqGuard
  cases a <;> simp [Value.oneCell'] at ha ha'
  all_goals (split <;> rfl)

theorem den_ne_nilIface {ν : Pl} {x : C} (h : ∀ v, x ≠ .raw v) : x.den ν ≠ .nilIface := by
  cases x <;> simp [C.den] at h ⊢

theorem run_equalIn_slice {P : Program} (w : World) (d T e : Nat) (hT : P.underlying T = some (.slice e)) (o : Option Addr) (l c l' c' : Nat) :
    (Op.equalIn (d + 1) T (.slice o l c) (.slice none l' c')).run P w = .ok o.isNone w := by
  cases o <;> simp [Op.equalIn, run_underlying hT]
theorem run_eql_slice {P : Program} (w : World) (T e : Nat) (hT : P.underlying T = some (.slice e)) (o : Option Addr) (l c l' c' : Nat) :
    (binOp .eql T (.slice o l c) (.slice none l' c')).run P w = .ok (.bool o.isNone) w := by
  have key : (Op.equal T (.slice o l c) (.slice none l' c')).run P w = .ok o.isNone w := run_equalIn_slice w 9999 T e hT o l c l' c'
  simp only [binOp, Sem.run_bind, key]
  simp only [Result.andThen_ok, Sem.run_pure]

/-- Two cells held against each other, added and so on. -/
theorem run_binC {P : Program} {Γ : Tab} (hΓ : Γ.Ok P) (w : World) {op : BinOp} {T : Nat} (X Y : Operand) {x y : C} {cs : List Prop} {v : V} (h : binC op (Γ T) x y = some (cs, v)) (hc : AllP cs) (ν : Pl) :
    (∃ z, (do eqGuard op T X Y (x.den ν) (y.den ν); binOp op T (x.den ν) (y.den ν) : Sem Value).run P w = .ok z w ∧ v.rel ν z) ∧ (∀ D, v.ok D) := by
  have hraw : ∀ u, x ≠ .raw u := by
    intro u hu; subst hu
    simp only [binC, C.nilPtr, nilSlC_raw] at h
    split at h <;> simp_all
  have hone : (x.den ν).oneCell' = true := by
    cases x <;> first | rfl | exact absurd rfl (hraw _)
  have hg := eqGuard_plain (P := P) w op T X Y (x.den ν) (y.den ν) hone (den_ne_nilIface hraw)
  simp only [Sem.run_bind, hg, Result.andThen_ok]
  unfold binC at h
  split at h
  · rename_i k a k' b
    cases hb : (isShift op || kindB k k') with
    | false => rw [hb] at h; simp at h
    | true =>
      rw [hb] at h; simp only [cond_true] at h
      simp only [Bool.or_eq_true] at hb
      refine ⟨run_binOp_int w T (hb.imp id kindB_eq) h hc ν, ?_⟩
      intro D
      cases op <;> simp only [binI, Option.some.injEq, Prod.mk.injEq] at h <;> obtain ⟨_, rfl⟩ := h <;> trivial
  · refine ⟨run_binOp_str w T h hc ν, ?_⟩
    intro D
    cases op <;> simp only [binS, Option.some.injEq, Prod.mk.injEq] at h <;> first | (obtain ⟨_, rfl⟩ := h; trivial) | (cases h; done)
  · rename_i k1 a k2 b
    split at h
    · rename_i sz by_ ze hT
      simp at h; obtain ⟨_, rfl⟩ := h
      obtain ⟨d, hd, hk⟩ := (hΓ T _ hT).und
      simp only [TK.Is] at hk; subst hk
      exact ⟨⟨_, run_eql_bool w .eql T hd a b (.inl rfl), rfl⟩, fun _ => trivial⟩
    · rename_i sz by_ ze hT
      simp at h; obtain ⟨_, rfl⟩ := h
      obtain ⟨d, hd, hk⟩ := (hΓ T _ hT).und
      simp only [TK.Is] at hk; subst hk
      exact ⟨⟨_, run_eql_bool w .neq T hd a b (.inr rfl), rfl⟩, fun _ => trivial⟩
    · cases h
  · split at h
    all_goals first
      | (cases h; done)
      | (rename_i hT
         obtain ⟨d, hd, hk⟩ := (hΓ T _ hT).und
         simp only [TK.Is] at hk; subst hk
         unfold nilSlC at h
         split at h
         · simp at h; obtain ⟨_, rfl⟩ := h
           exact ⟨⟨_, run_eql_slice w T _ hd none _ _ _ _, rfl⟩, fun _ => trivial⟩
         · simp at h; obtain ⟨_, rfl⟩ := h
           exact ⟨⟨_, run_eql_slice w T _ hd (some _) _ _ _ _, rfl⟩, fun _ => trivial⟩
         · cases h)
      | (rename_i hT hx hy
         simp at h; obtain ⟨_, rfl⟩ := h
         obtain ⟨d, hd, hk⟩ := (hΓ T _ hT).und
         simp only [TK.Is] at hk; subst hk
         obtain ⟨o, ho, hob⟩ := nilPtr_den (ν := ν) hx
         obtain ⟨o', ho', hob'⟩ := nilPtr_den (ν := ν) hy
         rw [ho, ho']
         refine ⟨?_, fun _ => trivial⟩
         first
           | (refine ⟨_, run_eql_ptr w .eql T _ hd o o' (by simp [hob, hob']) (.inl rfl), ?_⟩; simp [V.rel, V1.den, C.den, hob, hob'])
           | (refine ⟨_, run_eql_ptr w .neq T _ hd o o' (by simp [hob, hob']) (.inr rfl), ?_⟩; simp [V.rel, V1.den, C.den, hob, hob']))
end Go.Mx
