/- The engine, part I: a state that says less, under other numbers. Conditions: those that each lists. -/
import Derived.Test.YtjbagkimpmpfgaaMxH
namespace Go.Mx

def wkC (N : Nat) (x y : C) : Prop :=
  match x, y with
  | .bool _ b, .bool _ b' => b = b'
  | .int k n, .int k' n' => k = k' ∧ n = n'
  | .str s, .str s' => s = s'
  | .nils, .sl i lo len _ => lo = 0 ∧ len = 0 ∧ N ≤ i
  | .nils, .clip i len => len = 0 ∧ N ≤ i
  | x, y => x = y
def wkS (N : Nat) : List Seg → List Seg → Prop
  | [], [] => True
  | .c x :: l, .c y :: l' => wkC N x y ∧ wkS N l l'
  | .ints k a n :: l, .ints k' a' n' :: l' => k = k' ∧ a = a' ∧ n = n' ∧ wkS N l l'
  | .strs a n :: l, .strs a' n' :: l' => a = a' ∧ n = n' ∧ wkS N l l'
  | .rows w n f :: l, .rows w' n' f' :: l' => w = w' ∧ n = n' ∧ (∀ j, j < n → f j = f' j) ∧ wkS N l l'
  | _, _ => False
def wk1 (N : Nat) (x y : V1) : Prop :=
  match x, y with
  | .one x, .one y => wkC N x y
  | .agg b, .agg b' => wkS N b b'
  | _, _ => False
def wk1s (N : Nat) : List V1 → List V1 → Prop
  | [], [] => True
  | x :: l, y :: l' => wk1 N x y ∧ wk1s N l l'
  | _, _ => False
def wkV (N : Nat) (x y : V) : Prop :=
  match y with
  | .any => True
  | .v y => (match x with | .v x => wk1 N x y | _ => False)
  | .tup l' => (match x with | .tup l => wk1s N l l' | _ => False)
def wkT (N : Nat) (τ : Nat → Nat) : List V → List V → Prop
  | [], [] => True
  | x :: l, y :: l' => wkV N x (y.ren τ) ∧ wkT N τ l l'
  | _, _ => False
def wkO (N : Nat) (o : Option MObj) (o' : MObj) : Prop :=
  match o' with
  | .gone => True
  | .own e' b' => (match o with | some (.own e b) => e = e' ∧ wkS N b b' | _ => False)
  | .view e' b' => (match o with | some (.view e b) => e = e' ∧ wkS N b b' | _ => False)
def wkH (N : Nat) (τ : Nat → Nat) (hp : List MObj) : List Nat → List MObj → Prop
  | [], [] => True
  | i :: σ, o :: l => wkO N (gH hp i) (o.ren τ) ∧ wkH N τ hp σ l
  | _, _ => False

def zeroB : List Seg → Bool
  | [] => true
  | .ints _ [] 0 :: l => zeroB l
  | .strs [] 0 :: l => zeroB l
  | .rows _ 0 _ :: l => zeroB l
  | _ => false
def zerosB : List (Nat × List Seg) → Bool
  | [] => true
  | (_, b) :: l => bif zeroB b then zerosB l else false
def nilO : List (Nat × List Seg) → List MObj
  | [] => []
  | (e, b) :: l => .own e b :: nilO l
def appO : List MObj → List MObj → List MObj
  | [], m => m
  | o :: l, m => o :: appO l m
def firstB : Nat → Nat → List Nat → Bool
  | 0, _, _ => true
  | m + 1, k, i :: σ => bif Nat.beq i k then firstB m (k + 1) σ else false
  | _ + 1, _, [] => false
def V.inB (q : Nat → Bool) : V → Bool
  | .any => true
  | .v x => x.inB q
  | .tup l => in1B q l
def inTB (q : Nat → Bool) : List V → Bool
  | [] => true
  | x :: l => bif x.inB q then inTB q l else false
/-- Is a number among those of the objects that are not gone? -/
def memG (i : Nat) : List MObj → List Nat → Bool
  | .gone :: l, _ :: σ => memG i l σ
  | _ :: l, j :: σ => bif Nat.beq i j then true else memG i l σ
  | _, _ => false
def nodupG : List MObj → List Nat → Bool
  | .gone :: l, _ :: σ => nodupG l σ
  | _ :: l, i :: σ => bif memG i l σ then false else nodupG l σ
  | _, _ => true
def wkB (m : Nat) (s' : LS) (σ : List Nat) (es : List (Nat × List Seg)) : Bool :=
  bif firstB m 0 σ then (bif nodupG s'.hp σ then (bif zerosB es then (bif inOB (fun i => Nat.blt i (lenL s'.hp)) s'.hp then inTB (fun i => Nat.blt i (lenL s'.hp)) s'.tmp else false) else false) else false) else false

def Wk (m : Nat) (s s' : LS) : Prop :=
  ∃ (σ : List Nat) (es : List (Nat × List Seg)), wkB m s' σ es = true ∧ wkT (lenL s.hp) (nth σ) s.tmp s'.tmp ∧ wkH (lenL s.hp) (nth σ) (appO s.hp (nilO es)) σ s'.hp

/-! ### What it means -/
section
variable {N : Nat} {ν : Pl} {D : Nat → Prop}

theorem wkC_spec (hν : ∀ i, N ≤ i → (ν i).nil = true ∧ (ν i).cap = 0) {x y : C} (h : wkC N x y) (hx : x.ok D) : y.den ν = x.den ν ∧ y.ok fun _ => True := by
  unfold wkC at h
  split at h
  · subst h; exact ⟨rfl, trivial⟩
  · obtain ⟨rfl, rfl⟩ := h; exact ⟨rfl, trivial⟩
  · subst h; exact ⟨rfl, trivial⟩
  · obtain ⟨rfl, rfl, h⟩ := h
    obtain ⟨h1, h2⟩ := hν _ h
    refine ⟨?_, trivial⟩
    simp [C.den, h1, h2]
  · obtain ⟨rfl, h⟩ := h
    obtain ⟨h1, h2⟩ := hν _ h
    refine ⟨?_, trivial⟩
    simp [C.den, h1]
  · subst h; exact ⟨rfl, C.ok_mono (fun _ _ => trivial) hx⟩
theorem wkS_spec (hν : ∀ i, N ≤ i → (ν i).nil = true ∧ (ν i).cap = 0) : ∀ {b b' : List Seg}, wkS N b b' → okS D b → denS ν b' = denS ν b ∧ (okS (fun _ => True) b') ∧ sizeS b' = sizeS b
  | [], [], _, _ => ⟨rfl, trivial, rfl⟩
  | .c x :: l, .c y :: l', h, hb => by
    obtain ⟨h1, h2⟩ := wkC_spec hν h.1 hb.1
    obtain ⟨g1, g2, g3⟩ := wkS_spec hν h.2 hb.2
    exact ⟨by simp only [denS, Seg.den, h1, g1], ⟨h2, g2⟩, by simp only [sizeS, Seg.size, g3]⟩
  | .ints k a n :: l, .ints k' a' n' :: l', h, hb => by
    obtain ⟨rfl, rfl, rfl, h⟩ := h
    obtain ⟨g1, g2, g3⟩ := wkS_spec hν h hb.2
    exact ⟨by simp only [denS, g1], ⟨hb.1, g2⟩, by simp only [sizeS, Seg.size, g3]⟩
  | .strs a n :: l, .strs a' n' :: l', h, hb => by
    obtain ⟨rfl, rfl, h⟩ := h
    obtain ⟨g1, g2, g3⟩ := wkS_spec hν h hb.2
    exact ⟨by simp only [denS, g1], ⟨hb.1, g2⟩, by simp only [sizeS, Seg.size, g3]⟩
  | .rows w n f :: l, .rows w' n' f' :: l', h, hb => by
    obtain ⟨rfl, rfl, hf, h⟩ := h
    obtain ⟨g1, g2, g3⟩ := wkS_spec hν h hb.2
    refine ⟨?_, ⟨fun j hj => by rw [← hf j hj]; exact hb.1 j hj, g2⟩, by simp only [sizeS, Seg.size, g3]⟩
    simp only [denS, g1]
    congr 1
    simp only [Seg.den]
    have : ∀ m, m ≤ n → (List.range m).flatMap (fun j => (f' j).map (C.den ν)) = (List.range m).flatMap (fun j => (f j).map (C.den ν)) := by
      intro m
      induction m with
      | zero => intro _; rfl
      | succ m ih =>
        intro hm
        rw [List.range_succ, List.flatMap_append, List.flatMap_append, ih (by omega)]
        simp [hf m (by omega)]
    exact this n (Nat.le_refl _)
  | [], _ :: _, h, _ => by simp [wkS] at h
  | .c _ :: _, [], h, _ | .ints _ _ _ :: _, [], h, _ | .strs _ _ :: _, [], h, _ | .rows _ _ _ :: _, [], h, _ => by simp [wkS] at h
  | .c _ :: _, .ints _ _ _ :: _, h, _ | .c _ :: _, .strs _ _ :: _, h, _ | .c _ :: _, .rows _ _ _ :: _, h, _ => by simp [wkS] at h
  | .ints _ _ _ :: _, .c _ :: _, h, _ | .ints _ _ _ :: _, .strs _ _ :: _, h, _ | .ints _ _ _ :: _, .rows _ _ _ :: _, h, _ => by simp [wkS] at h
  | .strs _ _ :: _, .ints _ _ _ :: _, h, _ | .strs _ _ :: _, .c _ :: _, h, _ | .strs _ _ :: _, .rows _ _ _ :: _, h, _ => by simp [wkS] at h
  | .rows _ _ _ :: _, .ints _ _ _ :: _, h, _ | .rows _ _ _ :: _, .strs _ _ :: _, h, _ | .rows _ _ _ :: _, .c _ :: _, h, _ => by simp [wkS] at h
theorem wk1_spec (hν : ∀ i, N ≤ i → (ν i).nil = true ∧ (ν i).cap = 0) {x y : V1} (h : wk1 N x y) (hx : x.ok D) : y.den ν = x.den ν ∧ y.ok fun _ => True := by
  unfold wk1 at h
  split at h
  · exact wkC_spec hν h hx
  · obtain ⟨h1, h2, _⟩ := wkS_spec hν h hx
    exact ⟨by simp only [V1.den, h1], h2⟩
  · cases h
theorem wk1s_spec (hν : ∀ i, N ≤ i → (ν i).nil = true ∧ (ν i).cap = 0) : ∀ {l l' : List V1}, wk1s N l l' → (∀ x ∈ l, x.ok D) → l'.map (V1.den ν) = l.map (V1.den ν) ∧ ∀ x ∈ l', x.ok fun _ => True
  | [], [], _, _ => ⟨rfl, by simp⟩
  | x :: l, y :: l', h, hx => by
    obtain ⟨h1, h2⟩ := wk1_spec hν h.1 (hx x (by simp))
    obtain ⟨g1, g2⟩ := wk1s_spec hν h.2 (fun z hz => hx z (by simp [hz]))
    refine ⟨by simp only [List.map_cons, h1, g1], fun z hz => ?_⟩
    rcases List.mem_cons.1 hz with rfl | hz
    · exact h2
    · exact g2 z hz
  | [], _ :: _, h, _ => h.elim
  | _ :: _, [], h, _ => h.elim
theorem wkV_spec (hν : ∀ i, N ≤ i → (ν i).nil = true ∧ (ν i).cap = 0) {x y : V} (h : wkV N x y) (hx : x.ok D) {v : Value} (hr : x.rel ν v) : y.rel ν v ∧ y.ok fun _ => True := by
  unfold wkV at h
  split at h
  · exact ⟨trivial, trivial⟩
  · split at h
    · obtain ⟨h1, h2⟩ := wk1_spec hν h hx
      exact ⟨by simp only [V.rel] at hr ⊢; rw [hr, h1], h2⟩
    · cases h
  · split at h
    · obtain ⟨h1, h2⟩ := wk1s_spec hν h hx
      exact ⟨by simp only [V.rel] at hr ⊢; rw [hr, h1], h2⟩
    · cases h
end

theorem wkT_spec {N : Nat} {τ : Nat → Nat} : ∀ {l l' : List V}, wkT N τ l l' → l.length = l'.length ∧ ∀ t, wkV N (gV l t) ((gV l' t).ren τ)
  | [], [], _ => ⟨rfl, fun _ => by simp [gV, V.ren, wkV]⟩
  | x :: l, y :: l', h => by
    obtain ⟨h1, h2⟩ := wkT_spec h.2
    refine ⟨by simp [h1], fun t => ?_⟩
    cases t with
    | zero => exact h.1
    | succ t => exact h2 t
  | [], _ :: _, h => h.elim
  | _ :: _, [], h => h.elim
theorem wkH_spec {N : Nat} {τ : Nat → Nat} {hp : List MObj} : ∀ {σ : List Nat} {l : List MObj}, wkH N τ hp σ l → σ.length = l.length ∧ ∀ p o, l[p]? = some o → wkO N (gH hp (nth σ p)) (o.ren τ)
  | [], [], _ => ⟨rfl, fun _ _ h => by simp at h⟩
  | i :: σ, o :: l, h => by
    obtain ⟨h1, h2⟩ := wkH_spec h.2
    refine ⟨by simp [h1], fun p o' hp => ?_⟩
    cases p with
    | zero => simp at hp; subst hp; exact h.1
    | succ p => exact h2 p o' (by simpa using hp)
  | [], _ :: _, h => h.elim
  | _ :: _, [], h => h.elim
theorem zeroB_spec {ν : Pl} {D : Nat → Prop} : ∀ {b : List Seg}, zeroB b = true → sizeS b = 0 ∧ okS D b
  | [], _ => ⟨rfl, trivial⟩
  | .ints _ [] 0 :: l, h => by
    obtain ⟨h1, h2⟩ := zeroB_spec (ν := ν) (D := D) (b := l) h
    exact ⟨by simp [sizeS, Seg.size, h1], ⟨rfl, h2⟩⟩
  | .strs [] 0 :: l, h => by
    obtain ⟨h1, h2⟩ := zeroB_spec (ν := ν) (D := D) (b := l) h
    exact ⟨by simp [sizeS, Seg.size, h1], ⟨rfl, h2⟩⟩
  | .rows _ 0 _ :: l, h => by
    obtain ⟨h1, h2⟩ := zeroB_spec (ν := ν) (D := D) (b := l) h
    exact ⟨by simp [sizeS, Seg.size, h1], ⟨fun j hj => by omega, h2⟩⟩
  | .c _ :: _, h => by simp [zeroB] at h
  | .ints _ (_ :: _) _ :: _, h => by simp [zeroB] at h
  | .ints _ [] (_ + 1) :: _, h => by simp [zeroB] at h
  | .strs (_ :: _) _ :: _, h => by simp [zeroB] at h
  | .strs [] (_ + 1) :: _, h => by simp [zeroB] at h
  | .rows _ (_ + 1) _ :: _, h => by simp [zeroB] at h
theorem nilO_spec : ∀ {es : List (Nat × List Seg)}, zerosB es = true → ∀ o ∈ nilO es, ∃ e b, o = .own e b ∧ zeroB b = true
  | [], _, o, ho => by cases ho
  | (e, b) :: l, h, o, ho => by
    obtain ⟨h1, h2⟩ := bif_and h
    rcases List.mem_cons.1 ho with rfl | ho
    · exact ⟨e, b, rfl, h1⟩
    · exact nilO_spec h2 o ho
theorem appO_eq : ∀ (l m : List MObj), appO l m = l ++ m
  | [], _ => rfl
  | o :: l, m => by simp [appO, appO_eq l m]
theorem firstB_spec : ∀ {m k : Nat} {σ : List Nat}, firstB m k σ = true → m ≤ σ.length ∧ ∀ i, i < m → nth σ i = k + i
  | 0, _, _, _ => ⟨by omega, fun i h => by omega⟩
  | m + 1, k, i :: σ, h => by
    obtain ⟨h1, h2⟩ := bif_and h
    obtain ⟨g1, g2⟩ := firstB_spec h2
    refine ⟨by simp; omega, fun j hj => ?_⟩
    cases j with
    | zero => exact Nat.eq_of_beq_eq_true h1
    | succ j => simp only [nth]; rw [g2 j (by omega)]; omega
  | _ + 1, _, [], h => by simp [firstB] at h
theorem inTB_spec {q : Nat → Bool} : ∀ {l : List V}, inTB q l = true → ∀ t, (gV l t).ins fun i => q i = true
  | [], _, t => by simp [gV, V.ins]
  | x :: l, h, t => by
    obtain ⟨h1, h2⟩ := bif_and h
    cases t with
    | zero =>
      simp only [gV]
      cases x with
      | any => trivial
      | v x => exact V1.inB_spec h1
      | tup l => exact in1B_spec h1
    | succ t => exact inTB_spec h2 t

theorem memG_spec {i : Nat} : ∀ {l : List MObj} {σ : List Nat}, memG i l σ = false → ∀ (q : Nat) (o : MObj), l[q]? = some o → o ≠ .gone → q < σ.length → nth σ q ≠ i
  | [], _, _, q, o, h, _, _ => by simp at h
  | _ :: _, [], _, q, o, _, _, hq => by simp at hq
  | x :: l, j :: σ, h, q, o, hq, ho, hl => by
    have step : memG i l σ = false ∧ (x ≠ .gone → j ≠ i) := by
      cases x with
      | gone => exact ⟨h, fun e => absurd rfl e⟩
      | own e b =>
        simp only [memG] at h
        cases hb : Nat.beq i j with
        | true => rw [hb] at h; simp at h
        | false => rw [hb] at h; exact ⟨h, fun _ e => by subst e; rw [Nat.beq_refl] at hb; cases hb⟩
      | view e b =>
        simp only [memG] at h
        cases hb : Nat.beq i j with
        | true => rw [hb] at h; simp at h
        | false => rw [hb] at h; exact ⟨h, fun _ e => by subst e; rw [Nat.beq_refl] at hb; cases hb⟩
    cases q with
    | zero => simp at hq; subst hq; exact step.2 ho
    | succ q => exact memG_spec step.1 q o (by simpa using hq) ho (by simpa using hl)
theorem nodupG_spec : ∀ {l : List MObj} {σ : List Nat}, nodupG l σ = true → ∀ (p q : Nat) (o o' : MObj), l[p]? = some o → l[q]? = some o' → o ≠ .gone → o' ≠ .gone → p < σ.length → q < σ.length → p < q → nth σ p ≠ nth σ q
  | [], _, _, p, q, o, o', h, _, _, _, _, _, _ => by simp at h
  | _ :: _, [], _, p, q, o, o', _, _, _, _, hp, _, _ => by simp at hp
  | x :: l, i :: σ, h, p, q, o, o', hp, hq, ho, ho', lp, lq, hpq => by
    have step : nodupG l σ = true ∧ (x ≠ .gone → memG i l σ = false) := by
      cases x with
      | gone => exact ⟨h, fun e => absurd rfl e⟩
      | own e b =>
        simp only [nodupG] at h
        cases hb : memG i l σ with
        | true => rw [hb] at h; simp at h
        | false => rw [hb] at h; exact ⟨h, fun _ => rfl⟩
      | view e b =>
        simp only [nodupG] at h
        cases hb : memG i l σ with
        | true => rw [hb] at h; simp at h
        | false => rw [hb] at h; exact ⟨h, fun _ => rfl⟩
    cases q with
    | zero => omega
    | succ q =>
      cases p with
      | zero =>
        simp at hp; subst hp
        exact fun e => memG_spec (step.2 ho) q o' (by simpa using hq) ho' (by simpa using lq) e.symm
      | succ p => exact nodupG_spec step.1 p q o o' (by simpa using hp) (by simpa using hq) ho ho' (by simpa using lp) (by simpa using lq) (by omega)

theorem Wk.sat {X : Ctx} {s s' : LS} (hW : Wk X.m s s') {a : Act} {w : World} (hs : Sat X s.as a w) : Sat X s'.as a w ∧ s'.tmp.length = s.tmp.length := by
  obtain ⟨σ, es, hB, hT, hH⟩ := hW
  obtain ⟨b1, hB⟩ := bif_and hB
  obtain ⟨b2, hB⟩ := bif_and hB
  obtain ⟨b3, hB⟩ := bif_and hB
  obtain ⟨b4, b5⟩ := bif_and hB
  obtain ⟨ν, hs⟩ := hs
  obtain ⟨hlen, hTs⟩ := wkT_spec hT
  obtain ⟨hσl, hHs⟩ := wkH_spec hH
  obtain ⟨f1, f2⟩ := firstB_spec b1
  rw [lenL_eq] at hTs hHs b4 b5
  rw [appO_eq] at hHs
  refine ⟨?_, hlen.symm⟩
  have hdom : ∀ i, dom (gH s.hp) i ↔ i < s.hp.length := fun i => by rw [gH_hpL]; exact dom_hpL
  have hdom' : ∀ i, dom (gH s'.hp) i ↔ i < s'.hp.length := fun i => by rw [gH_hpL]; exact dom_hpL
  -- with the nil rows
  let ν1 : Pl := fun i => if s.hp.length ≤ i then ⟨0, 0, 0, true⟩ else ν i
  have hν1 : ∀ i, s.hp.length ≤ i → (ν1 i).nil = true ∧ (ν1 i).cap = 0 := fun i hi => by simp only [ν1]; rw [if_pos hi]; exact ⟨rfl, rfl⟩
  have hν1o : ∀ i, dom (gH s.hp) i → ν1 i = ν i := fun i hi => by
    have := (hdom i).1 hi
    simp only [ν1]; rw [if_neg (by omega)]
  have at1 : ∀ i o, gH (s.hp ++ nilO es) i = some o → (i < s.hp.length ∧ gH s.hp i = some o) ∨ (s.hp.length ≤ i ∧ ∃ e b, o = .own e b ∧ zeroB b = true) := fun i o hi => by
    rw [gH_eq] at hi
    by_cases h : i < s.hp.length
    · rw [List.getElem?_append_left h] at hi
      exact .inl ⟨h, by rw [gH_eq]; exact hi⟩
    · rw [List.getElem?_append_right (by omega)] at hi
      exact .inr ⟨by omega, nilO_spec b3 o (List.mem_of_getElem? hi)⟩
  have fit1 : ∀ i o, gH (s.hp ++ nilO es) i = some o → o.fit (ν1 i) ν1 w ∧ (∃ D, o.ok D) ∧ (o.owns (ν1 i) → dom (gH s.hp) i ∧ gH s.hp i = some o ∧ ν1 i = ν i) ∧ (o.holds (ν1 i) → dom (gH s.hp) i ∧ gH s.hp i = some o ∧ ν1 i = ν i) := fun i o hi => by
    rcases at1 i o hi with ⟨h1, h2⟩ | ⟨h1, e, b, rfl, hz⟩
    · have hd : dom (gH s.hp) i := (hdom i).2 h1
      refine ⟨?_, ⟨_, hs.fit.ok i o h2⟩, fun _ => ⟨hd, h2, hν1o i hd⟩, fun _ => ⟨hd, h2, hν1o i hd⟩⟩
      rw [hν1o i hd]
      exact MObj.fit_congr (fun k hk => (hν1o k hk).symm) (hs.fit.ok i o h2) (hs.fit.fit i o h2)
    · obtain ⟨z1, z2⟩ := zeroB_spec (ν := ν) (D := fun _ => True) hz
      obtain ⟨n1, n2⟩ := hν1 i h1
      refine ⟨?_, ⟨_, z2⟩, fun ho => ?_, fun ho => ?_⟩
      · simp only [MObj.fit, n1, if_true]; exact ⟨z1, n2⟩
      · simp [MObj.owns, n1] at ho
      · simp [MObj.holds, n1] at ho
  have kind : ∀ p o', gH s'.hp p = some o' → o' = .gone ∨ ∃ o, gH (s.hp ++ nilO es) (nth σ p) = some o ∧ Same (fun p => ν1 (nth σ p)) ν1 o' o ∧ o'.ok (dom (gH s'.hp)) := by
    intro p o' hp
    have hp' : s'.hp[p]? = some o' := by rw [← gH_eq]; exact hp
    have hw := hHs p o' hp'
    have hins := inOB_spec b4 o' (List.mem_of_getElem? hp')
    have fin : ∀ {b b' : List Seg}, wkS s.hp.length b (renS (nth σ) b') → (∃ D, okS D b) → insS (fun i => Nat.blt i s'.hp.length = true) b' → denS (fun p => ν1 (nth σ p)) b' = denS ν1 b ∧ sizeS b' = sizeS b ∧ okS (dom (gH s'.hp)) b' := by
      intro b b' hwk hok hin
      obtain ⟨D, hok⟩ := hok
      obtain ⟨w1, w2, w3⟩ := wkS_spec hν1 hwk hok
      have hok' : okS (dom (gH s'.hp)) b' := okS_ren' w2 (insS_mono (fun i hi => (hdom' i).2 (by rw [Nat.blt_eq] at hi; exact hi)) hin)
      refine ⟨?_, ?_, hok'⟩
      · rw [← w1]
        exact (denS_ren (τ := nth σ) (ν' := ν1) (ν := fun p => ν1 (nth σ p)) hok' (insS_mono (fun i _ => rfl) (insS_ok hok'))).symm
      · rw [← w3, sizeS_ren]
    cases o' with
    | gone => exact .inl rfl
    | own e b' =>
      right
      simp only [MObj.ren, wkO] at hw
      split at hw
      · rename_i e2 b hg
        obtain ⟨rfl, hw⟩ := hw
        obtain ⟨g1, g2, g3⟩ := fin hw (fit1 _ _ hg).2.1 hins
        exact ⟨_, hg, .own g1 g2, g3⟩
      · cases hw
    | view e b' =>
      right
      simp only [MObj.ren, wkO] at hw
      split at hw
      · rename_i e2 b hg
        obtain ⟨rfl, hw⟩ := hw
        obtain ⟨g1, g2, g3⟩ := fin hw (fit1 _ _ hg).2.1 hins
        exact ⟨_, hg, .view g1 g2, g3⟩
      · cases hw
  refine ⟨fun p => ν1 (nth σ p), fun i hi => ?_, hs.hdef, hs.size, fun t => ?_, fun t => ?_, ⟨fun p o' hp => ?_, fun p o' hp => ?_, fun p q o o' hpq hp hq ho ho' => ?_⟩, hs.fr, fun p o' hp ho => ?_, fun i hi => ?_⟩
  · have hd := hs.mdom i hi
    show ν1 (nth σ i) = X.νm i
    rw [f2 i hi, Nat.zero_add, hν1o i hd]
    exact hs.old i hi
  · have h1 := V.rel_congr (fun i hi => (hν1o i hi).symm) (hs.tok t) (hs.tmp t)
    obtain ⟨h2, h3⟩ := wkV_spec hν1 (hTs t) (hs.tok t) h1
    have hok : (gV s'.tmp t).ok (dom (gH s'.hp)) := V.ok_ren' h3 (V.ins_mono (fun i hi => (hdom' i).2 (by rw [Nat.blt_eq] at hi; exact hi)) (inTB_spec b5 t))
    exact V.rel_ren' (τ := nth σ) (ν' := ν1) (ν := fun p => ν1 (nth σ p)) hok (V.ins_mono (fun i _ => rfl) (V.ins_ok hok)) h2
  · obtain ⟨_, h3⟩ := wkV_spec hν1 (hTs t) (hs.tok t) (V.rel_congr (fun i hi => (hν1o i hi).symm) (hs.tok t) (hs.tmp t))
    exact V.ok_ren' h3 (V.ins_mono (fun i hi => (hdom' i).2 (by rw [Nat.blt_eq] at hi; exact hi)) (inTB_spec b5 t))
  · rcases kind p o' hp with rfl | ⟨o, h1, h2, h3⟩
    · trivial
    · exact h2.fit (fit1 _ o h1).1
  · rcases kind p o' hp with rfl | ⟨o, h1, h2, h3⟩
    · trivial
    · exact h3
  · rcases kind p o hp with rfl | ⟨o1, h1, h2, h3⟩
    · exact ho.elim
    · rcases kind q o' hq with rfl | ⟨o2, k1, k2, k3⟩
      · exact ho'.elim
      · obtain ⟨_, g1, g2⟩ := (fit1 _ o1 h1).2.2.1 (h2.owns.1 ho)
        obtain ⟨_, g3, g4⟩ := (fit1 _ o2 k1).2.2.2 (k2.holds.1 ho')
        simp only [g2, g4] at ho ho' ⊢
        refine hs.fit.apart _ _ o1 o2 (fun e => hpq ?_) g1 g3 (h2.owns.1 ho) (k2.holds.1 ho')
        have hpl : p < σ.length := by rw [hσl]; exact (hdom' p).1 (fun e => by have := hp; rw [show s'.as.hp p = none from e] at this; cases this)
        have hql : q < σ.length := by rw [hσl]; exact (hdom' q).1 (fun e => by have := hq; rw [show s'.as.hp q = none from e] at this; cases this)
        have np : o ≠ .gone := fun e => by rw [e] at ho; exact ho
        have nq : o' ≠ .gone := fun e => by rw [e] at ho'; exact ho'
        rcases Nat.lt_trichotomy p q with h | h | h
        · exact absurd e (nodupG_spec b2 p q o o' (by rw [← gH_eq]; exact hp) (by rw [← gH_eq]; exact hq) np nq hpl hql h)
        · exact h
        · exact absurd e.symm (nodupG_spec b2 q p o' o (by rw [← gH_eq]; exact hq) (by rw [← gH_eq]; exact hp) nq np hql hpl h)
  · rcases kind p o' hp with rfl | ⟨o, h1, h2, h3⟩
    · exact ho.elim
    · obtain ⟨_, g1, g2⟩ := (fit1 _ o h1).2.2.1 (h2.owns.1 ho)
      simp only [g2] at ho ⊢
      exact hs.inM _ o g1 (h2.owns.1 ho)
  · exact (hdom' i).2 (by rw [← hσl]; omega)
end Go.Mx
