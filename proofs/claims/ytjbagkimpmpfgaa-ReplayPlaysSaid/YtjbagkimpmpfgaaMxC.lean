/- The engine, part C: objects under other numbers; calls by their summaries. Conditions: those that each lists. -/
import Derived.Test.YtjbagkimpmpfgaaMxB
namespace Go.Mx

/-! ### Renaming -/
def C.pt : C → Option Nat
  | .ptr i _ | .pel i _ _ _ _ | .sl i _ _ _ | .clip i _ | .sx i _ _ _ _ _ _ | .fn1 _ i _ | .fnm _ i _ => some i
  | _ => none
def C.ren (τ : Nat → Nat) : C → C
  | .ptr i off => .ptr (τ i) off
  | .pel i off row w f => .pel (τ i) off row w f
  | .sl i lo len w => .sl (τ i) lo len w
  | .clip i len => .clip (τ i) len
  | .sx i off w lo len cap adr => .sx (τ i) off w lo len cap adr
  | .fn1 f i off => .fn1 f (τ i) off
  | .fnm f i off => .fnm f (τ i) off
  | x => x
def Seg.ren (τ : Nat → Nat) : Seg → Seg
  | .c x => .c (x.ren τ)
  | s => s
def renS (τ : Nat → Nat) : List Seg → List Seg
  | [] => []
  | s :: l => s.ren τ :: renS τ l
def V1.ren (τ : Nat → Nat) : V1 → V1
  | .one x => .one (x.ren τ)
  | .agg b => .agg (renS τ b)
def ren1s (τ : Nat → Nat) : List V1 → List V1
  | [] => []
  | x :: l => x.ren τ :: ren1s τ l
def V.ren (τ : Nat → Nat) : V → V
  | .any => .any
  | .v x => .v (x.ren τ)
  | .tup l => .tup (ren1s τ l)
def MObj.ren (τ : Nat → Nat) : MObj → MObj
  | .own e b => .own e (renS τ b)
  | .view e b => .view e (renS τ b)
  | .gone => .gone

/-- All numbers that a value leans on have a property. -/
def C.ins (D : Nat → Prop) (x : C) : Prop := ∀ i, x.pt = some i → D i
def Seg.ins (D : Nat → Prop) : Seg → Prop
  | .c x => x.ins D
  | _ => True
def insS (D : Nat → Prop) : List Seg → Prop
  | [] => True
  | s :: l => s.ins D ∧ insS D l
def V1.ins (D : Nat → Prop) : V1 → Prop
  | .one x => x.ins D
  | .agg b => insS D b
def ins1s (D : Nat → Prop) : List V1 → Prop
  | [] => True
  | x :: l => x.ins D ∧ ins1s D l
def V.ins (D : Nat → Prop) : V → Prop
  | .any => True
  | .v x => x.ins D
  | .tup l => ins1s D l

theorem C.ins_ok {D : Nat → Prop} {x : C} (h : x.ok D) : x.ins D := by
  intro i hi
  cases x <;> simp [C.pt] at hi <;> subst hi <;> first | exact h | exact h.1
theorem insS_ok {D : Nat → Prop} : ∀ {l : List Seg}, okS D l → insS D l
  | [], _ => trivial
  | .c _ :: _, h => ⟨C.ins_ok h.1, insS_ok h.2⟩
  | .ints _ _ _ :: _, h => ⟨trivial, insS_ok h.2⟩
  | .strs _ _ :: _, h => ⟨trivial, insS_ok h.2⟩
  | .rows _ _ _ :: _, h => ⟨trivial, insS_ok h.2⟩
theorem V1.ins_ok {D : Nat → Prop} {x : V1} (h : x.ok D) : x.ins D := by
  cases x with
  | one x => exact C.ins_ok h
  | agg b => exact insS_ok h
theorem ins1s_ok {D : Nat → Prop} : ∀ {l : List V1}, (∀ x ∈ l, x.ok D) → ins1s D l
  | [], _ => trivial
  | x :: l, h => ⟨V1.ins_ok (h x (by simp)), ins1s_ok (fun y hy => h y (by simp [hy]))⟩
theorem V.ins_ok {D : Nat → Prop} {x : V} (h : x.ok D) : x.ins D := by
  cases x with
  | any => trivial
  | v x => exact V1.ins_ok h
  | tup l => exact ins1s_ok h

section
variable {τ : Nat → Nat} {ν ν' : Pl} {D D' : Nat → Prop}

theorem C.den_ren {x : C} (h : x.ins fun i => ν' (τ i) = ν i) : (x.ren τ).den ν' = x.den ν := by
  cases x <;> first | rfl | (have := h _ rfl; simp only [C.ren, C.den, at_, this])
theorem C.ok_ren {x : C} (h : x.ok D) (hi : x.ins fun i => D' (τ i)) : (x.ren τ).ok D' := by
  cases x <;> first | exact h | exact hi _ rfl | exact ⟨hi _ rfl, h.2⟩
theorem C.ok_ren' {x : C} (h : (x.ren τ).ok D) (hi : x.ins D') : x.ok D' := by
  cases x <;> first | exact h | exact hi _ rfl | exact ⟨hi _ rfl, h.2⟩

theorem Seg.den_ren {s : Seg} (hok : s.ok D) (h : s.ins fun i => ν' (τ i) = ν i) : (s.ren τ).den ν' = s.den ν := by
  cases s with
  | c x => simp only [Seg.ren, Seg.den, C.den_ren h]
  | rows w n f => exact flatMap_congr' f n (fun j hj => (hok j hj).2)
  | _ => rfl
theorem Seg.ok_ren {s : Seg} (h : s.ok D) (hi : s.ins fun i => D' (τ i)) : (s.ren τ).ok D' := by
  cases s with
  | c x => exact C.ok_ren h hi
  | _ => exact h
theorem Seg.ok_ren' {s : Seg} (h : (s.ren τ).ok D) (hi : s.ins D') : s.ok D' := by
  cases s with
  | c x => exact C.ok_ren' h hi
  | _ => exact h
theorem Seg.size_ren {s : Seg} : (s.ren τ).size = s.size := by cases s <;> rfl
theorem denS_ren : ∀ {l : List Seg}, okS D l → insS (fun i => ν' (τ i) = ν i) l → denS ν' (renS τ l) = denS ν l
  | [], _, _ => rfl
  | s :: l, h, hi => by simp only [renS, denS]; rw [Seg.den_ren h.1 hi.1, denS_ren h.2 hi.2]
theorem okS_ren : ∀ {l : List Seg}, okS D l → insS (fun i => D' (τ i)) l → okS D' (renS τ l)
  | [], _, _ => trivial
  | _ :: _, h, hi => ⟨Seg.ok_ren h.1 hi.1, okS_ren h.2 hi.2⟩
theorem okS_ren' : ∀ {l : List Seg}, okS D (renS τ l) → insS D' l → okS D' l
  | [], _, _ => trivial
  | _ :: _, h, hi => ⟨Seg.ok_ren' h.1 hi.1, okS_ren' h.2 hi.2⟩
theorem sizeS_ren : ∀ {l : List Seg}, sizeS (renS τ l) = sizeS l
  | [] => rfl
  | s :: l => by simp only [renS, sizeS, Seg.size_ren, sizeS_ren (l := l)]
theorem V1.den_ren {x : V1} (hok : x.ok D) (h : x.ins fun i => ν' (τ i) = ν i) : (x.ren τ).den ν' = x.den ν := by
  cases x with
  | one x => exact C.den_ren h
  | agg b => simp only [V1.ren, V1.den]; rw [denS_ren hok h]
theorem V1.ok_ren {x : V1} (h : x.ok D) (hi : x.ins fun i => D' (τ i)) : (x.ren τ).ok D' := by
  cases x with
  | one x => exact C.ok_ren h hi
  | agg b => exact okS_ren h hi
theorem V1.ok_ren' {x : V1} (h : (x.ren τ).ok D) (hi : x.ins D') : x.ok D' := by
  cases x with
  | one x => exact C.ok_ren' h hi
  | agg b => exact okS_ren' h hi
theorem map_ren : ∀ {l : List V1}, (∀ x ∈ l, x.ok D) → ins1s (fun i => ν' (τ i) = ν i) l → (ren1s τ l).map (V1.den ν') = l.map (V1.den ν)
  | [], _, _ => rfl
  | x :: l, h, hi => by
    simp only [ren1s, List.map_cons]
    rw [V1.den_ren (h x (by simp)) hi.1, map_ren (fun y hy => h y (by simp [hy])) hi.2]
theorem oks_ren : ∀ {l : List V1}, (∀ x ∈ l, x.ok D) → ins1s (fun i => D' (τ i)) l → ∀ x ∈ ren1s τ l, x.ok D'
  | [], _, _, x, hx => by cases hx
  | y :: l, h, hi, x, hx => by
    simp only [ren1s] at hx
    rcases List.mem_cons.1 hx with rfl | hx
    · exact V1.ok_ren (h y (by simp)) hi.1
    · exact oks_ren (fun z hz => h z (by simp [hz])) hi.2 x hx
theorem oks_ren' : ∀ {l : List V1}, (∀ x ∈ ren1s τ l, x.ok D) → ins1s D' l → ∀ x ∈ l, x.ok D'
  | [], _, _, x, hx => by cases hx
  | y :: l, h, hi, x, hx => by
    rcases List.mem_cons.1 hx with rfl | hx
    · exact V1.ok_ren' (τ := τ) (h _ (by simp [ren1s])) hi.1
    · exact oks_ren' (fun z hz => h z (by simp [ren1s, hz])) hi.2 x hx
theorem V.rel_ren {x : V} (hok : x.ok D) (h : x.ins fun i => ν' (τ i) = ν i) {y : Value} (hr : x.rel ν y) : (x.ren τ).rel ν' y := by
  cases x with
  | any => trivial
  | v x => simp only [V.rel, V.ren] at hr ⊢; rw [hr, V1.den_ren hok h]
  | tup l => simp only [V.rel, V.ren] at hr ⊢; rw [hr, map_ren hok h]
theorem V.rel_ren' {x : V} (hok : x.ok D) (h : x.ins fun i => ν' (τ i) = ν i) {y : Value} (hr : (x.ren τ).rel ν' y) : x.rel ν y := by
  cases x with
  | any => trivial
  | v x => simp only [V.rel, V.ren] at hr ⊢; rw [hr, V1.den_ren hok h]
  | tup l => simp only [V.rel, V.ren] at hr ⊢; rw [hr, map_ren hok h]
theorem V.ok_ren {x : V} (h : x.ok D) (hi : x.ins fun i => D' (τ i)) : (x.ren τ).ok D' := by
  cases x with
  | any => trivial
  | v x => exact V1.ok_ren h hi
  | tup l => exact oks_ren h hi
theorem V.ok_ren' {x : V} (h : (x.ren τ).ok D) (hi : x.ins D') : x.ok D' := by
  cases x with
  | any => trivial
  | v x => exact V1.ok_ren' h hi
  | tup l => exact oks_ren' h hi
end

theorem C.ins_mono {D D' : Nat → Prop} {x : C} (h : x.ins D) (hd : ∀ i, D i → D' i) : x.ins D' := fun i hi => hd i (h i hi)
theorem insS_mono {D D' : Nat → Prop} (hd : ∀ i, D i → D' i) : ∀ {l : List Seg}, insS D l → insS D' l
  | [], _ => trivial
  | .c _ :: _, h => ⟨C.ins_mono h.1 hd, insS_mono hd h.2⟩
  | .ints _ _ _ :: _, h => ⟨trivial, insS_mono hd h.2⟩
  | .strs _ _ :: _, h => ⟨trivial, insS_mono hd h.2⟩
  | .rows _ _ _ :: _, h => ⟨trivial, insS_mono hd h.2⟩
theorem V1.ins_mono {D D' : Nat → Prop} (hd : ∀ i, D i → D' i) {x : V1} (h : x.ins D) : x.ins D' := by
  cases x with
  | one x => exact C.ins_mono h hd
  | agg b => exact insS_mono hd h
theorem ins1s_mono {D D' : Nat → Prop} (hd : ∀ i, D i → D' i) : ∀ {l : List V1}, ins1s D l → ins1s D' l
  | [], _ => trivial
  | _ :: _, h => ⟨V1.ins_mono hd h.1, ins1s_mono hd h.2⟩
theorem V.ins_mono {D D' : Nat → Prop} (hd : ∀ i, D i → D' i) {x : V} (h : x.ins D) : x.ins D' := by
  cases x with
  | any => trivial
  | v x => exact V1.ins_mono hd h
  | tup l => exact ins1s_mono hd h

/-- Two objects that stand for the same, under different names. -/
inductive Same (ν ν' : Pl) : MObj → MObj → Prop
  | own {e : Nat} {b b' : List Seg} (h : denS ν b = denS ν' b') (hs : sizeS b = sizeS b') : Same ν ν' (.own e b) (.own e b')
  | view {e : Nat} {b b' : List Seg} (h : denS ν b = denS ν' b') (hs : sizeS b = sizeS b') : Same ν ν' (.view e b) (.view e b')
  | gone : Same ν ν' .gone .gone

theorem Same.fit {ν ν' : Pl} {o o' : MObj} (h : Same ν ν' o o') {p : Place} {w : World} (hf : o'.fit p ν' w) : o.fit p ν w := by
  cases h with
  | own h hs => simp only [MObj.fit] at hf ⊢; rw [h, hs]; exact hf
  | view h hs => simp only [MObj.fit] at hf ⊢; rw [h, hs]; exact hf
  | gone => trivial
theorem Same.symm {ν ν' : Pl} {o o' : MObj} (h : Same ν ν' o o') : Same ν' ν o' o := by
  cases h with
  | own h hs => exact .own h.symm hs.symm
  | view h hs => exact .view h.symm hs.symm
  | gone => exact .gone
theorem Same.owns {ν ν' : Pl} {o o' : MObj} (h : Same ν ν' o o') {p : Place} : o.owns p ↔ o'.owns p := by cases h <;> rfl
theorem Same.holds {ν ν' : Pl} {o o' : MObj} (h : Same ν ν' o o') {p : Place} : o.holds p ↔ o'.holds p := by cases h <;> rfl
theorem Same.ren {ν ν' : Pl} {τ : Nat → Nat} {D : Nat → Prop} {o : MObj} (hok : o.ok D) (h : insS (fun i => ν' (τ i) = ν i) o.segs) : Same ν' ν (o.ren τ) o := by
  cases o with
  | own e b => exact .own (denS_ren hok h) sizeS_ren
  | view e b => exact .view (denS_ren hok h) sizeS_ren
  | gone => exact .gone
theorem MObj.ok_ren {τ : Nat → Nat} {D D' : Nat → Prop} {o : MObj} (hok : o.ok D) (h : insS (fun i => D' (τ i)) o.segs) : (o.ren τ).ok D' := by
  cases o with
  | own e b => exact okS_ren (l := b) hok h
  | view e b => exact okS_ren (l := b) hok h
  | gone => exact hok

/-! ### Summaries of functions -/
structure CR where
  cs : List Prop
  ret : V
  turn : List (Nat × MObj)
  new : List MObj
abbrev Ctr := List V1 → List MObj → Option CR

def hpL (l : List MObj) : Hp := fun i => l[i]?
def outH (objs : List MObj) (r : CR) : Hp := updF r.turn (hpL (objs ++ r.new))
def ownedBlk (ν : Pl) (h : Hp) (b : Nat) : Prop := ∃ i o, h i = some o ∧ o.owns (ν i) ∧ (ν i).blk = b

def Meets (P : Program) (f : Nat) (c : Ctr) : Prop :=
  (∀ args w, (callFunc f args).run P w = .ok (.enter f args) w) ∧
  ∀ (args : List V1) (objs : List MObj) (r : CR), c args objs = some r → AllP r.cs → ∀ ν w, FitH ν (hpL objs) w → (∀ x ∈ args, x.ok (dom (hpL objs))) →
    Calls P f (args.map (V1.den ν)).toArray w fun e w' => ∃ y ν', e = .returned y ∧ (∀ i, i < objs.length → ν' i = ν i) ∧ FitH ν' (outH objs r) w' ∧ r.ret.rel ν' y ∧ r.ret.ok (dom (outH objs r)) ∧
      Fr (ownedBlk ν (hpL objs)) w w' ∧ ∀ i o, outH objs r i = some o → o.owns (ν' i) → ownedBlk ν (hpL objs) (ν' i).blk ∨ w.heap.size ≤ (ν' i).blk

theorem dom_hpL {l : List MObj} {i : Nat} : dom (hpL l) i ↔ i < l.length := by
  unfold dom hpL
  simp
end Go.Mx
