/- The engine, part V: values, objects and states by their numbers, what they stand for in a world of the model, and what that hangs on. -/
import Derived.WalkKit
import Derived.Test.YtjbagkimpmpfgaaMxT
namespace Go.Mx

/-- Where an object lies. -/
structure Place where
  blk : Nat
  base : Nat
  cap : Nat
  nil : Bool

/-- The value of one cell. 'i' is always an object's number. -/
inductive C where
  | int (k : IntKind) (n : Int)
  | bool (kn b : Bool)
  | str (s : ByteArray)
  | ptr (i off : Nat)
  | pel (i off row w f : Nat)
  | nilp
  | sl (i lo len w : Nat)
  | clip (i len : Nat)
  | sx (i off w lo len cap adr : Nat)
  | nils
  | fn (f : Nat)
  | fn1 (f i off : Nat)
  | fnm (f i off : Nat)
  | raw (v : Value)

abbrev Pl := Nat → Place

def at_ (ν : Pl) (i off : Nat) : Addr := ⟨(ν i).blk, (ν i).base + off, none⟩

def C.den (ν : Pl) : C → Value
  | .int k n => .int k n
  | .bool _ b => .bool b
  | .str s => .string s
  | .ptr i off => .pointer (some (at_ ν i off))
  | .pel i off row w f => .pointer (some (at_ ν i (off + row * w + f)))
  | .nilp => .pointer none
  | .sl i lo len w => .slice (if (ν i).nil then none else some (at_ ν i (if (ν i).cap = lo then 0 else lo * w))) len ((ν i).cap - lo)
  | .clip i len => .slice (if (ν i).nil then none else some (at_ ν i 0)) len len
  | .sx i _ _ _ len cap adr => .slice (some (at_ ν i adr)) len cap
  | .nils => .slice none 0 0
  | .fn f => .func (.func f) #[] #[]
  | .fn1 f i off => .func (.func f) #[] #[.pointer (some (at_ ν i off))]
  | .fnm f i off => .func (.func f) #[.pointer (some (at_ ν i off))] #[]
  | .raw v => v

/-- What a cell's value leans on is there. -/
def C.ok (D : Nat → Prop) : C → Prop
  | .ptr i _ | .pel i _ _ _ _ | .sl i _ _ _ | .clip i _ | .fn1 _ i _ | .fnm _ i _ => D i
  | .sx i off w lo len cap adr => D i ∧ len ≤ cap ∧ (cap ≠ 0 → adr = off + lo * w)
  | .raw v => v.oneCell' = true
  | _ => True

/-- A cell's value that leans on no object. -/
def C.flat : C → Bool
  | .int _ _ | .bool _ _ | .str _ | .nilp | .nils => true
  | _ => false

theorem C.ok_flat {D : Nat → Prop} {x : C} (h : x.flat = true) : x.ok D := by cases x <;> simp [C.flat] at h <;> trivial
theorem C.den_flat {ν ν' : Pl} {x : C} (h : x.flat = true) : x.den ν = x.den ν' := by cases x <;> simp [C.flat] at h <;> rfl
theorem C.ok_mono {D D' : Nat → Prop} (hd : ∀ i, D i → D' i) {x : C} (h : x.ok D) : x.ok D' := by
  cases x <;> simp only [C.ok] at h ⊢ <;> first | exact hd _ h | exact ⟨hd _ h.1, h.2⟩ | exact h
theorem C.den_congr {D : Nat → Prop} {ν ν' : Pl} (hd : ∀ i, D i → ν i = ν' i) {x : C} (h : x.ok D) : x.den ν = x.den ν' := by
  cases x <;> simp only [C.ok] at h <;> simp only [C.den, at_] <;> first | rfl | rw [hd _ h] | rw [hd _ h.1]
theorem C.one {ν : Pl} {D : Nat → Prop} {x : C} (h : x.ok D) : (x.den ν).oneCell' = true := by
  cases x <;> first | exact h | rfl

/-- A stretch of cells. -/
inductive Seg where
  | c (x : C)
  | ints (k : IntKind) (l : List Int) (n : Nat)
  | strs (l : List ByteArray) (n : Nat)
  | rows (w n : Nat) (f : Nat → List C)

def Seg.size : Seg → Nat
  | .c _ => 1
  | .ints _ _ n => n
  | .strs _ n => n
  | .rows w n _ => n * w

def Seg.den (ν : Pl) : Seg → List Value
  | .c x => [x.den ν]
  | .ints k l _ => l.map (.int k)
  | .strs l _ => l.map .string
  | .rows _ n f => (List.range n).flatMap fun j => (f j).map (C.den ν)

def Seg.ok (D : Nat → Prop) : Seg → Prop
  | .c x => x.ok D
  | .ints _ l n => l.length = n
  | .strs l n => l.length = n
  | .rows w n f => ∀ j, j < n → (f j).length = w ∧ ∀ x ∈ f j, x.flat = true

def denS (ν : Pl) : List Seg → List Value
  | [] => []
  | s :: l => s.den ν ++ denS ν l
def sizeS : List Seg → Nat
  | [] => 0
  | s :: l => s.size + sizeS l
def okS (D : Nat → Prop) : List Seg → Prop
  | [] => True
  | s :: l => s.ok D ∧ okS D l

theorem flatMap_range_length (w : Nat) (f : Nat → List C) (g : C → Value) : ∀ (n : Nat), (∀ j, j < n → (f j).length = w) → ((List.range n).flatMap fun j => (f j).map g).length = n * w
  | 0, _ => by simp
  | n + 1, h => by
    rw [List.range_succ, List.flatMap_append, List.length_append, flatMap_range_length w f g n (fun j hj => h j (by omega))]
    simp [h n (by omega), Nat.add_mul]

theorem Seg.len {D : Nat → Prop} {ν : Pl} {s : Seg} (h : s.ok D) : (s.den ν).length = s.size := by
  cases s with
  | c x => rfl
  | ints k l n => simpa [Seg.den, Seg.size, Seg.ok] using h
  | strs l n => simpa [Seg.den, Seg.size, Seg.ok] using h
  | rows w n f => exact flatMap_range_length w f _ n (fun j hj => (h j hj).1)

theorem denS_len {D : Nat → Prop} {ν : Pl} : ∀ {l : List Seg}, okS D l → (denS ν l).length = sizeS l
  | [], _ => rfl
  | s :: l, h => by simp only [denS, sizeS, List.length_append]; rw [Seg.len h.1, denS_len h.2]

theorem Seg.ok_mono {D D' : Nat → Prop} (hd : ∀ i, D i → D' i) {s : Seg} (h : s.ok D) : s.ok D' := by
  cases s <;> first | exact C.ok_mono hd h | exact h
theorem okS_mono {D D' : Nat → Prop} (hd : ∀ i, D i → D' i) : ∀ {l : List Seg}, okS D l → okS D' l
  | [], _ => trivial
  | _ :: _, h => ⟨Seg.ok_mono hd h.1, okS_mono hd h.2⟩

theorem flatMap_congr' {ν ν' : Pl} (f : Nat → List C) : ∀ (n : Nat), (∀ j, j < n → ∀ x ∈ f j, x.flat = true) →
    ((List.range n).flatMap fun j => (f j).map (C.den ν)) = ((List.range n).flatMap fun j => (f j).map (C.den ν'))
  | 0, _ => rfl
  | n + 1, h => by
    rw [List.range_succ, List.flatMap_append, List.flatMap_append, flatMap_congr' f n (fun j hj => h j (by omega))]
    congr 1
    simp only [List.flatMap_cons, List.flatMap_nil, List.append_nil]
    exact List.map_congr_left (fun x hx => C.den_flat (h n (by omega) x hx))
theorem Seg.den_congr {D : Nat → Prop} {ν ν' : Pl} (hd : ∀ i, D i → ν i = ν' i) {s : Seg} (h : s.ok D) : s.den ν = s.den ν' := by
  cases s with
  | c x => simp only [Seg.den]; rw [C.den_congr hd h]
  | ints k l n => rfl
  | strs l n => rfl
  | rows w n f => exact flatMap_congr' f n (fun j hj => (h j hj).2)
theorem denS_congr {D : Nat → Prop} {ν ν' : Pl} (hd : ∀ i, D i → ν i = ν' i) : ∀ {l : List Seg}, okS D l → denS ν l = denS ν' l
  | [], _ => rfl
  | s :: l, h => by simp only [denS]; rw [Seg.den_congr hd h.1, denS_congr hd h.2]

theorem Seg.ones {D : Nat → Prop} {ν : Pl} {s : Seg} (h : s.ok D) : ∀ v ∈ s.den ν, v.oneCell' = true := by
  cases s with
  | c x => intro v hv; simp [Seg.den] at hv; subst hv; exact C.one h
  | ints k l n => intro v hv; simp [Seg.den] at hv; obtain ⟨a, _, rfl⟩ := hv; rfl
  | strs l n => intro v hv; simp [Seg.den] at hv; obtain ⟨a, _, rfl⟩ := hv; rfl
  | rows w n f =>
    intro v hv
    simp only [Seg.den, List.mem_flatMap, List.mem_range, List.mem_map] at hv
    obtain ⟨j, hj, x, hx, rfl⟩ := hv
    exact C.one (D := fun _ => True) (C.ok_flat ((h j hj).2 x hx))
theorem denS_ones {D : Nat → Prop} {ν : Pl} : ∀ {l : List Seg}, okS D l → ∀ v ∈ denS ν l, v.oneCell' = true
  | [], _, v, hv => by cases hv
  | s :: l, h, v, hv => by
    rcases List.mem_append.1 hv with h1 | h1
    · exact Seg.ones h.1 v h1
    · exact denS_ones h.2 v h1

theorem denS_append (ν : Pl) : ∀ (l m : List Seg), denS ν (l ++ m) = denS ν l ++ denS ν m
  | [], _ => rfl
  | s :: l, m => by simp [denS, denS_append ν l m]
theorem sizeS_append : ∀ (l m : List Seg), sizeS (l ++ m) = sizeS l + sizeS m
  | [], _ => by simp [sizeS]
  | s :: l, m => by simp [sizeS, sizeS_append l m]; omega
theorem okS_append {D : Nat → Prop} : ∀ {l m : List Seg}, okS D (l ++ m) ↔ okS D l ∧ okS D m
  | [], _ => by simp [okS]
  | s :: l, m => by simp [okS, okS_append (l := l), and_assoc]

/-- A value of one cell, or of several. -/
inductive V1 where
  | one (x : C)
  | agg (b : List Seg)
def V1.den (ν : Pl) : V1 → Value
  | .one x => x.den ν
  | .agg b => .agg (denS ν b).toArray
def V1.ok (D : Nat → Prop) : V1 → Prop
  | .one x => x.ok D
  | .agg b => okS D b
def V1.segs : V1 → List Seg
  | .one x => [.c x]
  | .agg b => b
theorem V1.ok_mono {D D' : Nat → Prop} (hd : ∀ i, D i → D' i) {x : V1} (h : x.ok D) : x.ok D' := by
  cases x <;> first | exact C.ok_mono hd h | exact okS_mono hd h
theorem V1.den_congr {D : Nat → Prop} {ν ν' : Pl} (hd : ∀ i, D i → ν i = ν' i) {x : V1} (h : x.ok D) : x.den ν = x.den ν' := by
  cases x with
  | one x => exact C.den_congr hd h
  | agg b => simp only [V1.den]; rw [denS_congr hd h]
theorem V1.cells {D : Nat → Prop} {ν : Pl} {x : V1} (h : x.ok D) : (x.den ν).cells.toList = denS ν x.segs := by
  cases x with
  | one x =>
    have := C.one (ν := ν) h
    simp only [V1.den, V1.segs, denS, Seg.den, List.append_nil]
    generalize x.den ν = v at *
    cases v <;> first | rfl | (simp [Value.oneCell'] at this)
  | agg b => simp [V1.den, V1.segs, Value.cells]
theorem V1.segs_ok {D : Nat → Prop} {x : V1} (h : x.ok D) : okS D x.segs := by
  cases x with
  | one x => exact ⟨h, trivial⟩
  | agg b => exact h

/-- What a slot holds: anything, a value, several results. -/
inductive V where
  | any
  | v (x : V1)
  | tup (l : List V1)
def V.rel (ν : Pl) : V → Value → Prop
  | .any, _ => True
  | .v x, y => y = x.den ν
  | .tup l, y => y = .tuple (l.map (V1.den ν)).toArray
def V.ok (D : Nat → Prop) : V → Prop
  | .any => True
  | .v x => x.ok D
  | .tup l => ∀ x ∈ l, x.ok D
theorem V.ok_mono {D D' : Nat → Prop} (hd : ∀ i, D i → D' i) {x : V} (h : x.ok D) : x.ok D' := by
  cases x with
  | any => trivial
  | v x => exact V1.ok_mono hd h
  | tup l => exact fun y hy => V1.ok_mono hd (h y hy)
theorem V.rel_congr {D : Nat → Prop} {ν ν' : Pl} (hd : ∀ i, D i → ν i = ν' i) {x : V} (h : x.ok D) {y : Value} (hr : x.rel ν y) : x.rel ν' y := by
  cases x with
  | any => trivial
  | v x => simp only [V.rel] at hr ⊢; rw [hr, V1.den_congr hd h]
  | tup l =>
    simp only [V.rel] at hr ⊢
    rw [hr]
    congr 2
    exact List.map_congr_left (fun x hx => V1.den_congr hd (h x hx))

/-- An object: a block of the call's own or handed in to be written ('esz': the cells of an element, where it backs a slice that may grow; else 0); a stretch that is only looked at; one of which nothing is known any more. -/
inductive MObj where
  | own (esz : Nat) (b : List Seg)
  | view (esz : Nat) (b : List Seg)
  | gone

def MObj.segs : MObj → List Seg
  | .own _ b => b
  | .view _ b => b
  | .gone => []
def MObj.ok (D : Nat → Prop) (o : MObj) : Prop := okS D o.segs

def MObj.fit (p : Place) (ν : Pl) (w : World) : MObj → Prop
  | .own e b =>
    if p.nil then sizeS b = 0 ∧ p.cap = 0
    else p.base = 0 ∧ ∃ spare t fz, w.heap[p.blk]? = some (.cells (denS ν b ++ spare).toArray t fz) ∧
      (fz = (0, 0) ∨ fz = ((denS ν b).length + spare.length, (denS ν b).length + spare.length + 1)) ∧ (e ≠ 0 → p.cap * e = (denS ν b).length + spare.length)
  | .view e b =>
    if p.nil then sizeS b = 0 ∧ p.cap = 0
    else p.blk < w.heap.size ∧ (e ≠ 0 → sizeS b ≤ p.cap * e) ∧ ∀ j v, (denS ν b)[j]? = some v → w.cell? ⟨p.blk, p.base + j, none⟩ = some v
  | .gone => True

def MObj.owns (p : Place) : MObj → Prop
  | .own _ _ => p.nil = false
  | _ => False
def MObj.holds (p : Place) : MObj → Prop
  | .own _ _ => p.nil = false
  | .view _ _ => p.nil = false
  | .gone => False

theorem MObj.fit_congr {D : Nat → Prop} {ν ν' : Pl} (hd : ∀ i, D i → ν i = ν' i) {o : MObj} (h : o.ok D) {p : Place} {w : World} (hf : o.fit p ν w) : o.fit p ν' w := by
  cases o with
  | own e b => have e1 : denS ν b = denS ν' b := denS_congr hd h; simp only [MObj.fit] at hf ⊢; rw [← e1]; exact hf
  | view e b => have e1 : denS ν b = denS ν' b := denS_congr hd h; simp only [MObj.fit] at hf ⊢; rw [← e1]; exact hf
  | gone => trivial

theorem MObj.fit_block {ν : Pl} {o : MObj} {p : Place} {w w' : World} (hl : w.heap.size ≤ w'.heap.size) (hb : o.holds p → w'.heap[p.blk]? = w.heap[p.blk]?) (hf : o.fit p ν w) : o.fit p ν w' := by
  cases o with
  | own e b =>
    simp only [MObj.fit, MObj.holds] at *
    cases hn : p.nil with
    | true => simpa [hn] using hf
    | false => simp only [hn, Bool.false_eq_true, if_false] at hf ⊢; rw [hb hn]; exact hf
  | view e b =>
    simp only [MObj.fit, MObj.holds] at *
    cases hn : p.nil with
    | true => simpa [hn] using hf
    | false =>
      simp only [hn, Bool.false_eq_true, if_false] at hf ⊢
      exact ⟨Nat.lt_of_lt_of_le hf.1 hl, hf.2.1, fun j v hv => by rw [World.cell?_of_block (w := w) (hb hn)]; exact hf.2.2 j v hv⟩
  | gone => trivial

theorem MObj.holds_lt {ν : Pl} {o : MObj} {p : Place} {w : World} (hf : o.fit p ν w) (h : o.holds p) : p.blk < w.heap.size := by
  cases o with
  | own e b =>
    simp only [MObj.fit, MObj.holds] at hf h
    rw [h] at hf
    simp only [Bool.false_eq_true, if_false] at hf
    obtain ⟨_, spare, t, fz, hh, _⟩ := hf
    exact (Array.getElem?_eq_some_iff.1 hh).1
  | view e b =>
    simp only [MObj.fit, MObj.holds] at hf h
    rw [h] at hf
    simp only [Bool.false_eq_true, if_false] at hf
    exact hf.1
  | gone => exact h.elim

abbrev Hp := Nat → Option MObj
def dom (h : Hp) (k : Nat) : Prop := h k ≠ none

structure FitH (ν : Pl) (h : Hp) (w : World) : Prop where
  fit : ∀ i o, h i = some o → o.fit (ν i) ν w
  ok : ∀ i o, h i = some o → o.ok (dom h)
  apart : ∀ i j o o', i ≠ j → h i = some o → h j = some o' → o.owns (ν i) → o'.holds (ν j) → (ν i).blk ≠ (ν j).blk

/-- What a call may have turned: the blocks of 'M' alone, of those that there were. -/
structure Fr (M : Nat → Prop) (w0 w : World) : Prop where
  os : w.os = w0.os
  tape : w.tape = w0.tape
  output : w.output = w0.output
  size : w0.heap.size ≤ w.heap.size
  block : ∀ b, b < w0.heap.size → ¬ M b → w.heap[b]? = w0.heap[b]?

theorem Fr.refl (M : Nat → Prop) (w : World) : Fr M w w := ⟨rfl, rfl, rfl, Nat.le_refl _, fun _ _ _ => rfl⟩

structure Ctx where
  P : Program
  w0 : World
  M : Nat → Prop
  m : Nat
  νm : Pl
  nt : Nat

abbrev St := AS V MObj

structure SatAt (X : Ctx) (ν : Pl) (s : St) (a : Act) (w : World) : Prop where
  old : ∀ i, i < X.m → ν i = X.νm i
  hdef : a.defers = []
  size : a.tmps.size = X.nt
  tmp : ∀ t, (s.tmp t).rel ν (a.tmps.getD t undef)
  tok : ∀ t, (s.tmp t).ok (dom s.hp)
  fit : FitH ν s.hp w
  fr : Fr X.M X.w0 w
  inM : ∀ i o, s.hp i = some o → o.owns (ν i) → X.M (ν i).blk ∨ X.w0.heap.size ≤ (ν i).blk
  mdom : ∀ i, i < X.m → dom s.hp i

def Sat (X : Ctx) (s : St) (a : Act) (w : World) : Prop := ∃ ν, SatAt X ν s a w

theorem SatAt.drew {X : Ctx} {ν : Pl} {s : St} {a : Act} {w : World} (h : SatAt X ν s a w) : SatAt X ν s a w.drew :=
  ⟨h.old, h.hdef, h.size, h.tmp, h.tok, ⟨fun i o hi => MObj.fit_block (Nat.le_refl _) (fun _ => rfl) (h.fit.fit i o hi), h.fit.ok, h.fit.apart⟩,
    ⟨h.fr.os, h.fr.tape, h.fr.output, h.fr.size, h.fr.block⟩, h.inM, h.mdom⟩

theorem getD_put {a : Act} {d t : Nat} {y : Value} (hd : d < a.tmps.size) : (a.put (some d) y).tmps.getD t undef = if d = t then y else a.tmps.getD t undef := by
  simp only [Act.put]
  by_cases h : d = t
  · subst h; simp [hd]
  · simp [h, Array.getD_eq_getD_getElem?]

/-- Behind an operation that only yields a value. -/
theorem SatAt.pure {X : Ctx} {ν : Pl} {s : St} {a : Act} {w : World} (h : SatAt X ν s a w) {d : Option Nat} {v : V} {y : Value} (hd : ∀ x, d = some x → x < X.nt)
    (hr : v.rel ν y) (hok : v.ok (dom s.hp)) : SatAt X ν ⟨putF d v s.tmp, s.hp⟩ (a.put d y) w := by
  refine ⟨h.old, ?_, ?_, fun t => ?_, fun t => ?_, h.fit, h.fr, h.inM, h.mdom⟩
  · cases d <;> exact h.hdef
  · cases d with
    | none => exact h.size
    | some d => simp [Act.put, h.size]
  · cases d with
    | none => exact h.tmp t
    | some d =>
      rw [getD_put (by rw [h.size]; exact hd d rfl)]
      simp only [putF]
      by_cases hdt : d = t
      · simp [hdt, hr]
      · rw [if_neg hdt, if_neg (by simpa using hdt)]; exact h.tmp t
  · simp only [putF]
    split
    · exact hok
    · exact h.tok t

theorem updF_nil {O : Type} (h : Nat → Option O) : updF [] h = h := rfl

/-- The step of an operation that is carried out. -/
def WpOk (X : Ctx) (Q : Exit → Act → World → Prop) (o : Oper) (r : Rec V MObj) : Prop :=
  ∀ s a w K, r.valid s → Sat X s a w → (∀ a' w', Sat X (r.app s) a' w' → K a' w') → o.wp X.P a w K Q

theorem stepOk_plain {X : Ctx} {ops : Array Oper} {Q : Exit → Act → World → Prop} {o : Oper} {r : Rec V MObj} (hg : o.guard = none) (h : WpOk X Q o r) : StepOk X.P ops (Sat X) Q o r :=
  fun s a w K hv hs hK => by rw [if_pos (by simp [Region.wanted, hg])]; exact h s a w K hv hs hK

/-- What a guard sees. -/
theorem yielded_known {X : Ctx} {ν : Pl} {s : St} {a : Act} {w : World} (h : SatAt X ν s a w) {ops : Array Oper} {j d : Nat} {b kn : Bool} (hj : (ops[j]?).bind (·.dst) = some d)
    (hs : s.tmp d = .v (.one (.bool kn b))) : yielded ops a.tmps j = some b := by
  have h1 := h.tmp d
  rw [hs] at h1
  simp only [V.rel, V1.den, C.den] at h1
  unfold yielded
  rw [hj]
  rcases Nat.lt_or_ge d a.tmps.size with h' | h'
  · simp [h'] at h1 ⊢; rw [h1]
  · simp [Array.getD_eq_getD_getElem?, Array.getElem?_eq_none h', undef] at h1

theorem stepOk_wanted {X : Ctx} {ops : Array Oper} {Q : Exit → Act → World → Prop} {o : Oper} {r : Rec V MObj} {j d : Nat} {b kn : Bool} (hg : o.guard = some (j, b)) (hj : (ops[j]?).bind (·.dst) = some d)
    (hs : (d, V.v (.one (.bool kn b))) ∈ r.slots) (h : WpOk X Q o r) : StepOk X.P ops (Sat X) Q o r :=
  fun s a w K hv hst hK => by
    obtain ⟨ν, hst'⟩ := hst
    have hy := yielded_known hst' hj (hv.1 _ hs)
    rw [if_pos (by simp [Region.wanted, hg, hy])]
    exact h s a w K hv ⟨ν, hst'⟩ hK

theorem yielded_skipped {X : Ctx} {ν : Pl} {s : St} {a : Act} {w : World} (h : SatAt X ν s a w) {ops : Array Oper} {j d : Nat} (hj : (ops[j]?).bind (·.dst) = some d) (hs : s.tmp d = .tup []) : yielded ops a.tmps j = none := by
  have h1 := h.tmp d
  rw [hs] at h1
  simp only [V.rel, List.map_nil] at h1
  unfold yielded
  rw [hj]
  rcases Nat.lt_or_ge d a.tmps.size with h' | h'
  · simp [h'] at h1 ⊢; rw [h1]
  · simp [Array.getElem?_eq_none h']
/-- What a guard sees where it does not want the operation. -/
def NotWanted (c : Bool) (v : V) : Prop := (∃ kn b, v = .v (.one (.bool kn b)) ∧ b ≠ c) ∨ v = .tup []
theorem stepOk_unwanted {X : Ctx} {ops : Array Oper} {Q : Exit → Act → World → Prop} {o : Oper} {r : Rec V MObj} {j d : Nat} {c : Bool} {v : V} (hg : o.guard = some (j, c)) (hj : (ops[j]?).bind (·.dst) = some d)
    (hs : (d, v) ∈ r.slots) (hbc : NotWanted c v) (hd : r.dst = o.dst) (hdt : ∀ x, o.dst = some x → x < X.nt) (hv0 : r.v = .tup []) (hu : r.upd = []) : StepOk X.P ops (Sat X) Q o r :=
  fun s a w K hv hst hK => by
    obtain ⟨ν, hst'⟩ := hst
    have hy : ¬ Region.wanted o (yielded ops a.tmps) = true := by
      rcases hbc with ⟨kn, b, rfl, hb⟩ | rfl
      · have hy := yielded_known hst' hj (hv.1 _ hs)
        simp [Region.wanted, hg, hy, hb]
      · have hy := yielded_skipped hst' hj (hv.1 _ hs)
        simp [Region.wanted, hg, hy]
    rw [if_neg hy]
    refine hK _ _ ⟨ν, ?_⟩
    simp only [Rec.app, hu, updF_nil, hd, hv0]
    exact hst'.pure (v := .tup []) hdt rfl (fun x hx => by cases hx)

/-- An operation that yields a value and leaves the world alone. -/
theorem wpOk_pure {X : Ctx} {Q : Exit → Act → World → Prop} {o : Oper} {r : Rec V MObj}
    (hu : r.upd = []) (hd : r.dst = o.dst) (hdt : ∀ x, o.dst = some x → x < X.nt)
    (hrun : ∀ ν s a w, r.valid s → SatAt X ν s a w → (r.v.ok (dom s.hp)) ∧ ∃ y, (execOp a.eval o).run X.P w = .ok (.value y) w ∧ r.v.rel ν y) : WpOk X Q o r := by
  intro s a w K hv hs hK
  obtain ⟨ν, hs⟩ := hs
  obtain ⟨hok, y, hy, hr⟩ := hrun ν s a w hv hs
  unfold Oper.wp
  rw [hy]
  simp only [Oper.upon]
  refine hK _ _ ⟨ν, ?_⟩
  simp only [Rec.app, hu, updF_nil, hd]
  exact hs.pure hdt hr hok
end Go.Mx
