/- The engine, part T: whatever order a region's draw picks, its end is the end of the order of the text, if operations that no edge holds apart do not touch one another's slots and objects. Conditions: the edges go back; a Bool over the region. -/
import Derived.Orders
import Derived.Tactics2
namespace Go.Mx

/-- An abstract state: what the slots hold, what the objects are. -/
structure AS (V O : Type) where
  tmp : Nat → V
  hp : Nat → Option O

/-- What one operation does to it: what it looks at, what it writes. -/
structure Rec (V O : Type) where
  dst : Option Nat
  slots : List (Nat × V)
  foot : List (Nat × O)
  fresh : List Nat
  v : V
  upd : List (Nat × O)

section
variable {V O : Type}

def putF (d : Option Nat) (v : V) (f : Nat → V) : Nat → V := fun t => if d = some t then v else f t
def updF (u : List (Nat × O)) (h : Nat → Option O) : Nat → Option O := fun k =>
  match u.find? (fun p => p.1 == k) with
  | some p => some p.2
  | none => h k

def Rec.valid (r : Rec V O) (s : AS V O) : Prop :=
  (∀ p ∈ r.slots, s.tmp p.1 = p.2) ∧ (∀ p ∈ r.foot, s.hp p.1 = some p.2) ∧ (∀ k ∈ r.fresh, s.hp k = none)

def Rec.app (r : Rec V O) (s : AS V O) : AS V O := ⟨putF r.dst r.v s.tmp, updF r.upd s.hp⟩

structure Indep (r q : Rec V O) : Prop where
  d1 : ∀ d, r.dst = some d → (∀ p ∈ q.slots, p.1 ≠ d) ∧ q.dst ≠ some d
  d2 : ∀ d, q.dst = some d → ∀ p ∈ r.slots, p.1 ≠ d
  u1 : ∀ p ∈ r.upd, (∀ x ∈ q.foot, x.1 ≠ p.1) ∧ (∀ x ∈ q.upd, x.1 ≠ p.1) ∧ (∀ k ∈ q.fresh, k ≠ p.1)
  u2 : ∀ p ∈ q.upd, (∀ x ∈ r.foot, x.1 ≠ p.1) ∧ (∀ k ∈ r.fresh, k ≠ p.1)

theorem updF_ne {u : List (Nat × O)} {h : Nat → Option O} {k : Nat} (hk : ∀ p ∈ u, k ≠ p.1) : updF u h k = h k := by
  unfold updF
  have : u.find? (fun p => p.1 == k) = none := by
    rw [List.find?_eq_none]
    intro p hp
    simpa using fun e => hk p hp e.symm
  rw [this]

theorem putF_ne {d : Option Nat} {v : V} {f : Nat → V} {t : Nat} (h : ∀ x, d = some x → t ≠ x) : putF d v f t = f t := by
  unfold putF
  rw [if_neg (fun e => h t e rfl)]

theorem Indep.valid_left {r q : Rec V O} {s : AS V O} (h : Indep r q) (hq : q.valid (r.app s)) : q.valid s := by
  obtain ⟨h1, h2, h3⟩ := hq
  refine ⟨fun p hp => ?_, fun p hp => ?_, fun k hk => ?_⟩
  · rw [← h1 p hp]; exact (putF_ne (fun x hx e => (h.d1 x hx).1 p hp e)).symm
  · rw [← h2 p hp]; exact (updF_ne (fun u hu e => (h.u1 u hu).1 p hp e)).symm
  · rw [← h3 k hk]; exact (updF_ne (fun u hu e => (h.u1 u hu).2.2 k hk e)).symm

theorem Indep.valid_right {r q : Rec V O} {s : AS V O} (h : Indep r q) (hr : r.valid s) : r.valid (q.app s) := by
  obtain ⟨h1, h2, h3⟩ := hr
  refine ⟨fun p hp => ?_, fun p hp => ?_, fun k hk => ?_⟩
  · rw [← h1 p hp]; exact putF_ne (fun x hx e => h.d2 x hx p hp e)
  · rw [← h2 p hp]; exact updF_ne (fun u hu e => (h.u2 u hu).1 p hp e)
  · rw [← h3 k hk]; exact updF_ne (fun u hu e => (h.u2 u hu).2 k hk e)

theorem Indep.comm {r q : Rec V O} (h : Indep r q) (s : AS V O) : q.app (r.app s) = r.app (q.app s) := by
  unfold Rec.app
  congr 1
  · funext t
    unfold putF
    by_cases h1 : r.dst = some t
    · by_cases h2 : q.dst = some t
      · exact absurd h2 (h.d1 t h1).2
      · simp [h1, h2]
    · simp [h1]
  · funext k
    simp only [updF]
    cases h1 : r.upd.find? (fun p => p.1 == k) with
    | none => simp
    | some p =>
      have hp := List.mem_of_find?_eq_some h1
      have hk : p.1 = k := by simpa using List.find?_some h1
      have : q.upd.find? (fun p => p.1 == k) = none := by
        rw [List.find?_eq_none]
        intro x hx
        simpa using fun e => (h.u1 p hp).2.1 x hx (e.trans hk.symm)
      simp [this]

def vals : List (Nat × Rec V O) → AS V O → Prop
  | [], _ => True
  | p :: l, s => p.2.valid s ∧ vals l (p.2.app s)
def fin : List (Nat × Rec V O) → AS V O → AS V O
  | [], s => s
  | p :: l, s => fin l (p.2.app s)

theorem front : ∀ (A : List (Nat × Rec V O)) (j : Nat) (q : Rec V O) (B : List (Nat × Rec V O)) (s : AS V O), vals (A ++ (j, q) :: B) s → (∀ p ∈ A, Indep p.2 q) →
    q.valid s ∧ vals (A ++ B) (q.app s) ∧ fin (A ++ (j, q) :: B) s = fin (A ++ B) (q.app s)
  | [], _, _, _, _, h, _ => ⟨h.1, h.2, rfl⟩
  | p :: A, j, q, B, s, h, hi => by
    obtain ⟨h1, h2⟩ := h
    obtain ⟨g1, g2, g3⟩ := front A j q B (p.2.app s) h2 (fun x hx => hi x (List.mem_cons_of_mem _ hx))
    have hpq := hi p (List.mem_cons_self ..)
    have hc := hpq.comm s
    refine ⟨hpq.valid_left g1, ⟨hpq.valid_right h1, ?_⟩, ?_⟩
    · show vals (A ++ B) (p.2.app (q.app s))
      rw [← hc]; exact g2
    · show fin (A ++ (j, q) :: B) (p.2.app s) = fin (A ++ B) (p.2.app (q.app s))
      rw [g3, hc]

/-- The masks of what must have come ahead of each operation. -/
def maskOf (acc : List Nat) (o : Oper) : Nat :=
  o.after.toList.foldl (fun m e => if Region.binds .any e then m ||| (2 ^ e.on ||| acc.getD e.on 0) else m) 0
def masks : List Oper → List Nat → List Nat
  | [], acc => acc
  | o :: l, acc => masks l (acc ++ [maskOf acc o])

theorem fold_bit (acc : List Nat) (i : Nat) : ∀ (l : List Edge) (m : Nat),
    (l.foldl (fun m e => if Region.binds .any e then m ||| (2 ^ e.on ||| acc.getD e.on 0) else m) m).testBit i = true →
    m.testBit i = true ∨ ∃ e ∈ l, Region.binds .any e = true ∧ (e.on = i ∨ (acc.getD e.on 0).testBit i = true)
  | [], m, h => .inl h
  | e :: l, m, h => by
    rcases fold_bit acc i l _ h with h1 | ⟨e', he', h2⟩
    · dsimp only at h1
      split at h1
      · rename_i hb
        simp only [Nat.testBit_or, Bool.or_eq_true] at h1
        rcases h1 with h1 | h1 | h1
        · exact .inl h1
        · right; exact ⟨e, List.mem_cons_self .., hb, .inl (by
            by_cases he : e.on = i
            · exact he
            · rw [Nat.testBit_two_pow_of_ne he] at h1; cases h1)⟩
        · right; exact ⟨e, List.mem_cons_self .., hb, .inr h1⟩
      · exact .inl h1
    · right; exact ⟨e', List.mem_cons_of_mem _ he', h2⟩

/-- The masks' sense: what a mask holds was listed, if what is listed is closed. -/
def MaskOk (ops : List Oper) (acc : List Nat) : Prop :=
  ∀ j i, (acc.getD j 0).testBit i = true → ∃ o, ops[j]? = some o ∧ ∃ e ∈ o.after.toList, Region.binds .any e = true ∧ (e.on = i ∨ (e.on < j ∧ (acc.getD e.on 0).testBit i = true))

theorem masks_ok (ops : List Oper) : ∀ (l : List Oper) (acc : List Nat), (∀ j, l[j]? = ops[acc.length + j]?) → MaskOk ops acc → MaskOk ops (masks l acc)
  | [], _, _, h => h
  | o :: l, acc, hl, h => by
    refine masks_ok ops l (acc ++ [maskOf acc o]) (fun j => ?_) (fun j i hb => ?_)
    · have := hl (j + 1)
      simpa [Nat.add_assoc, Nat.add_comm 1 j] using this
    · have keep : ∀ k, k < acc.length → (acc ++ [maskOf acc o]).getD k 0 = acc.getD k 0 := fun k hk => by
        simp [List.getD, List.getElem?_append_left hk]
      rcases Nat.lt_trichotomy j acc.length with hj | hj | hj
      · rw [keep j hj] at hb
        obtain ⟨o', ho', e, he, hbn, hh⟩ := h j i hb
        refine ⟨o', ho', e, he, hbn, hh.imp id (fun ⟨h1, h2⟩ => ⟨h1, ?_⟩)⟩
        rw [keep e.on (by omega)]; exact h2
      · subst hj
        have hm : (acc ++ [maskOf acc o]).getD acc.length 0 = maskOf acc o := by simp [List.getD]
        rw [hm] at hb
        have h0 := hl 0
        simp at h0
        rcases fold_bit acc i _ _ hb with h1 | ⟨e, he, hbn, h2⟩
        · simp at h1
        · refine ⟨o, h0.symm, e, he, hbn, h2.imp id (fun h3 => ?_)⟩
          have hlt : e.on < acc.length := by
            rcases Nat.lt_or_ge e.on acc.length with h' | h'
            · exact h'
            · rw [List.getD, List.getElem?_eq_none h'] at h3; simp at h3
          exact ⟨hlt, by rw [keep _ hlt]; exact h3⟩
      · have : (acc ++ [maskOf acc o]).getD j 0 = 0 := by
          rw [List.getD, List.getElem?_eq_none (by simp; omega)]; rfl
        rw [this] at hb; simp at hb

/-- The marks of an operation alone, without its values. -/
structure Sum where
  dst : Option Nat
  slots : List Nat
  foot : List Nat
  fresh : List Nat
  upd : List Nat
def Rec.sum (r : Rec V O) : Sum := ⟨r.dst, r.slots.map (·.1), r.foot.map (·.1), r.fresh, r.upd.map (·.1)⟩
def offB (x : Nat) : List Nat → Bool
  | [] => true
  | y :: l => !(Nat.beq y x) && offB x l
def offAll : List Nat → List Nat → Bool
  | [], _ => true
  | x :: l, m => offB x m && offAll l m
def indepB (r q : Sum) : Bool :=
  (match r.dst with | none => true | some d => offB d q.slots && (match q.dst with | none => true | some e => !(Nat.beq e d))) &&
  (match q.dst with | none => true | some d => offB d r.slots) &&
  offAll r.upd q.foot && offAll r.upd q.upd && offAll r.upd q.fresh && offAll q.upd r.foot && offAll q.upd r.fresh

theorem offB_spec {x : Nat} : ∀ {l : List Nat}, offB x l = true → ∀ y ∈ l, y ≠ x
  | [], _, _, h => by cases h
  | z :: l, h, y, hy => by
    simp only [offB, Bool.and_eq_true, Bool.not_eq_true'] at h
    rcases List.mem_cons.1 hy with rfl | hy
    · intro e; rw [e, Nat.beq_refl] at h; cases h.1
    · exact offB_spec h.2 y hy
theorem offAll_spec : ∀ {l m : List Nat}, offAll l m = true → ∀ x ∈ l, ∀ y ∈ m, y ≠ x
  | [], _, _, _, h => by cases h
  | z :: l, m, h, x, hx => by
    simp only [offAll, Bool.and_eq_true] at h
    rcases List.mem_cons.1 hx with rfl | hx
    · exact offB_spec h.1
    · exact offAll_spec h.2 x hx

theorem indep_of {r q : Rec V O} (h : indepB r.sum q.sum = true) : Indep r q := by
  simp only [indepB, Rec.sum, Bool.and_eq_true] at h
  obtain ⟨⟨⟨⟨⟨⟨h1, h2⟩, h3⟩, h4⟩, h5⟩, h6⟩, h7⟩ := h
  refine ⟨fun d hd => ?_, fun d hd => ?_, fun p hp => ⟨?_, ?_, ?_⟩, fun p hp => ⟨?_, ?_⟩⟩
  · rw [hd] at h1
    simp only [Bool.and_eq_true] at h1
    refine ⟨fun p hp => offB_spec h1.1 p.1 (List.mem_map_of_mem hp), fun hq => ?_⟩
    rw [hq] at h1
    simp at h1
  · rw [hd] at h2
    exact fun p hp => offB_spec h2 p.1 (List.mem_map_of_mem hp)
  · exact fun x hx => offAll_spec h3 p.1 (List.mem_map_of_mem hp) x.1 (List.mem_map_of_mem hx)
  · exact fun x hx => offAll_spec h4 p.1 (List.mem_map_of_mem hp) x.1 (List.mem_map_of_mem hx)
  · exact fun k hk => offAll_spec h5 p.1 (List.mem_map_of_mem hp) k hk
  · exact fun x hx => offAll_spec h6 p.1 (List.mem_map_of_mem hp) x.1 (List.mem_map_of_mem hx)
  · exact fun k hk => offAll_spec h7 p.1 (List.mem_map_of_mem hp) k hk

/-- Of operation q, whose mask is m: all that stand ahead of it, from number i on, must come ahead of it or be apart from it. -/
def aheadB (m : Nat) (q : Sum) : Nat → List Sum → Bool
  | _, [] => true
  | i, r :: l => (m.testBit i || indepB r q) && aheadB m q (i + 1) l
def pairsB (all : List Sum) : Nat → List Nat → List Sum → Bool
  | _, [], _ => true
  | _, _, [] => true
  | j, m :: ms, q :: qs => aheadB m q 0 (all.take j) && pairsB all (j + 1) ms qs
def backB : Nat → List Oper → Bool
  | _, [] => true
  | j, o :: l => o.after.toList.all (fun e => !Region.binds .any e || Nat.blt e.on j) && backB (j + 1) l
def traceB (ops : List Oper) (sums : List Sum) : Bool :=
  backB 0 ops && pairsB sums 0 (masks ops []) sums

theorem aheadB_spec {m : Nat} {q : Sum} : ∀ (l : List Sum) (i : Nat), aheadB m q i l = true → ∀ k r, l[k]? = some r → m.testBit (i + k) = true ∨ indepB r q = true
  | [], _, _, _, _, h => by simp at h
  | x :: l, i, h, 0, r, hk => by
    simp only [aheadB, Bool.and_eq_true, Bool.or_eq_true] at h
    simp at hk; subst hk; exact h.1
  | x :: l, i, h, k + 1, r, hk => by
    simp only [aheadB, Bool.and_eq_true, Bool.or_eq_true] at h
    have := aheadB_spec l (i + 1) h.2 k r (by simpa using hk)
    rwa [show i + 1 + k = i + (k + 1) by omega] at this

theorem pairsB_spec {all : List Sum} : ∀ (ms : List Nat) (qs : List Sum) (j : Nat), pairsB all j ms qs = true → ∀ k m q, ms[k]? = some m → qs[k]? = some q → aheadB m q 0 (all.take (j + k)) = true
  | [], _, _, _, _, _, _, h, _ => by simp at h
  | _ :: _, [], _, _, _, _, _, _, h => by simp at h
  | m :: ms, q :: qs, j, h, 0, m', q', hm, hq => by
    simp only [pairsB, Bool.and_eq_true] at h
    simp at hm hq; subst hm; subst hq; exact h.1
  | m :: ms, q :: qs, j, h, k + 1, m', q', hm, hq => by
    simp only [pairsB, Bool.and_eq_true] at h
    have := pairsB_spec ms qs (j + 1) h.2 k m' q' (by simpa using hm) (by simpa using hq)
    rwa [show j + 1 + k = j + (k + 1) by omega] at this

theorem backB_spec : ∀ (l : List Oper) (j : Nat), backB j l = true → ∀ k o, l[k]? = some o → ∀ e ∈ o.after.toList, Region.binds .any e = true → e.on < j + k
  | [], _, _, _, _, h => by simp at h
  | x :: l, j, h, 0, o, hk => by
    simp only [backB, Bool.and_eq_true, List.all_eq_true] at h
    simp at hk; subst hk
    intro e he hb
    have := h.1 e he
    simp only [hb, Bool.not_true, Bool.false_or] at this
    rw [Nat.blt_eq] at this
    omega
  | x :: l, j, h, k + 1, o, hk => by
    simp only [backB, Bool.and_eq_true] at h
    have := backB_spec l (j + 1) h.2 k o (by simpa using hk)
    rwa [show j + 1 + k = j + (k + 1) by omega] at this

theorem masks_length : ∀ (l : List Oper) (acc : List Nat), (masks l acc).length = acc.length + l.length
  | [], acc => by simp [masks]
  | o :: l, acc => by rw [masks, masks_length l]; simp; omega

/-- One step of an operation, wherever it comes up in a state in which what it looks at is as it was. -/
def StepOk (P : Program) (ops : Array Oper) (Sat : AS V O → Act → World → Prop) (Q : Exit → Act → World → Prop) (o : Oper) (r : Rec V O) : Prop :=
  ∀ s a w K, r.valid s → Sat s a w → (∀ a' w', Sat (r.app s) a' w' → K a' w') →
    if Region.wanted o (yielded ops a.tmps) then o.wp P a w K Q else K (a.put o.dst undef) w

structure TInv (ops : Array Oper) (ms : List Nat) (listed : Array Bool) (L : List (Nat × Rec V O)) : Prop where
  size : listed.size = ops.size
  mem : ∀ j, j < ops.size → (listed.getD j true = false ↔ j ∈ L.map (·.1))
  inb : ∀ p ∈ L, p.1 < ops.size
  sorted : L.Pairwise (fun p q => p.1 < q.1)
  closed : ∀ j oj, ops[j]? = some oj → listed.getD j false = true → ∀ e ∈ oj.after, Region.binds .any e = true → listed.getD e.on false = true

theorem getD_of_false {listed : Array Bool} {i : Nat} (h : listed.getD i true = false) : listed.getD i false = false := by
  rcases Nat.lt_or_ge i listed.size with h' | h'
  · simp [h'] at h ⊢; exact h
  · simp [Array.getElem?_eq_none h'] at h

theorem getD_of_true {listed : Array Bool} {i : Nat} (h : listed.getD i false = true) : listed.getD i true = true := by
  rcases Nat.lt_or_ge i listed.size with h' | h'
  · simp [h'] at h ⊢; exact h
  · simp [Array.getElem?_eq_none h'] at h

/-- What a mask holds is listed, where what the operation itself waits for is. -/
theorem mask_listed {ops : Array Oper} {ms : List Nat} {listed : Array Bool}
    (hok : MaskOk ops.toList ms) (hc : ∀ j oj, ops[j]? = some oj → listed.getD j false = true → ∀ e ∈ oj.after, Region.binds .any e = true → listed.getD e.on false = true) :
    ∀ (j i : Nat) (oj : Oper), ops[j]? = some oj → (∀ e ∈ oj.after, Region.binds .any e = true → listed.getD e.on false = true) → (ms.getD j 0).testBit i = true → listed.getD i false = true := by
  intro j
  induction j using Nat.strongRecOn with
  | _ j ih =>
    intro i oj hj hw hb
    obtain ⟨o, ho, e, he, hbn, h⟩ := hok j i hb
    have : o = oj := Option.some.inj (ho.symm.trans (by simpa using hj))
    subst this
    have hl := hw e (by simpa using he) hbn
    rcases h with rfl | ⟨hlt, h2⟩
    · exact hl
    · have hoe : ∃ oe, ops[e.on]? = some oe := by
        obtain ⟨oe, h3, _⟩ := hok e.on i h2
        exact ⟨oe, by simpa using h3⟩
      obtain ⟨oe, hoe⟩ := hoe
      exact ih e.on hlt i oe hoe (hc e.on oe hoe hl) h2

theorem wpAny_of_trace {P : Program} {ops : Array Oper} {Q : Exit → Act → World → Prop} {Sat : AS V O → Act → World → Prop} {ms : List Nat}
    (hok : MaskOk ops.toList ms) (hback : ∀ j o, ops[j]? = some o → ∀ e ∈ o.after, Region.binds .any e = true → e.on < j) (goal : AS V O)
    (hQ : ∀ a w, Sat goal a w → Q .normal a w) :
    ∀ (n : Nat) (L : List (Nat × Rec V O)) (listed : Array Bool) (s : AS V O) (a : Act) (w : World), L.length = n → TInv ops ms listed L →
      (∀ p ∈ L, ∃ o, ops[p.1]? = some o ∧ StepOk P ops Sat Q o p.2) →
      (∀ p ∈ L, ∀ q ∈ L, p.1 < q.1 → (ms.getD q.1 0).testBit p.1 = true ∨ Indep p.2 q.2) →
      vals L s → fin L s = goal → Sat s a w → wpAny P .any ops Q n listed a w := by
  intro n
  induction n with
  | zero =>
    intro L listed s a w hn inv _ _ _ hf hs
    have : L = [] := List.length_eq_zero_iff.1 hn
    subst this
    refine ⟨?_, hQ a w (by rw [← hf]; exact hs)⟩
    cases hr : Region.ready .any ops listed with
    | nil => rfl
    | cons x xs =>
      have hx : x ∈ Region.ready .any ops listed := by rw [hr]; exact List.mem_cons_self ..
      obtain ⟨h1, o, ho, _⟩ := mem_ready.1 hx
      have hlt : x < ops.size := (Array.getElem?_eq_some_iff.1 ho).1
      have := (inv.mem x hlt).1 h1
      simp at this
  | succ n ih =>
    intro L listed s a w hn inv hstep hind hv hf hs
    constructor
    · intro hr
      exfalso
      cases hL : L with
      | nil => rw [hL] at hn; simp at hn
      | cons p L' =>
        have hp : p ∈ L := by rw [hL]; exact List.mem_cons_self ..
        obtain ⟨o, ho, _⟩ := hstep p hp
        have hpm : p.1 ∈ Region.ready .any ops listed := by
          refine mem_ready.2 ⟨(inv.mem p.1 (inv.inb p hp)).2 (List.mem_map_of_mem hp), o, ho, fun e he hb => ?_⟩
          have hlt := hback p.1 o ho e he hb
          have hes : e.on < ops.size := by have := inv.inb p hp; omega
          cases hc : listed.getD e.on true with
          | true =>
            have : e.on < listed.size := by rw [inv.size]; exact hes
            simp [this] at hc ⊢; exact hc
          | false =>
            exfalso
            have hm := (inv.mem e.on hes).1 hc
            obtain ⟨q, hq, hqe⟩ := List.mem_map.1 hm
            have hsrt := inv.sorted
            rw [hL] at hsrt hq
            rcases List.mem_cons.1 hq with rfl | hq'
            · omega
            · have := (List.pairwise_cons.1 hsrt).1 q hq'
              omega
        rw [hr] at hpm; cases hpm
    · intro j hj
      obtain ⟨hun, oj, hoj, hall⟩ := mem_ready.1 hj
      have hlt : j < ops.size := (Array.getElem?_eq_some_iff.1 hoj).1
      have hm := (inv.mem j hlt).1 hun
      obtain ⟨⟨j', q⟩, hq, hqj⟩ := List.mem_map.1 hm
      simp only at hqj
      subst hqj
      obtain ⟨A, B, hAB⟩ := List.append_of_mem hq
      have hsrt := inv.sorted
      rw [hAB] at hsrt
      have hA : ∀ p ∈ A, p.1 < j' := fun p hp => (List.pairwise_append.1 hsrt).2.2 p hp (j', q) (List.mem_cons_self ..)
      have hB : ∀ p ∈ B, j' < p.1 := fun p hp => (List.pairwise_cons.1 (List.pairwise_append.1 hsrt).2.1).1 p hp
      have hiA : ∀ p ∈ A, Indep p.2 q := fun p hp => by
        have hpL : p ∈ L := by rw [hAB]; exact List.mem_append_left _ hp
        rcases hind p hpL (j', q) hq (hA p hp) with h | h
        · exfalso
          have h1 := mask_listed hok inv.closed j' p.1 oj hoj hall h
          have h2 := (inv.mem p.1 (inv.inb p hpL)).2 (List.mem_map_of_mem hpL)
          rw [getD_of_false h2] at h1; cases h1
        · exact h
      rw [hAB] at hv hf hn
      obtain ⟨g1, g2, g3⟩ := front A j' q B s hv hiA
      obtain ⟨o, ho, hso⟩ := hstep (j', q) hq
      have : o = oj := Option.some.inj (ho.symm.trans hoj)
      subst this
      have hsub : ∀ p ∈ A ++ B, p ∈ L := fun p hp => by
        rw [hAB]
        rcases List.mem_append.1 hp with h | h
        · exact List.mem_append_left _ h
        · exact List.mem_append_right _ (List.mem_cons_of_mem _ h)
      have inv' : TInv ops ms (listed.setIfInBounds j' true) (A ++ B) := by
        refine ⟨by simp [inv.size], fun k hk => ?_, fun p hp => inv.inb p (hsub p hp), ?_, fun k ok hk hl e he hb => ?_⟩
        · by_cases hkj : j' = k
          · subst hkj
            have h1 : (listed.setIfInBounds j' true).getD j' true = true := by
              have : j' < listed.size := by rw [inv.size]; exact hk
              simp [this]
            rw [h1]
            refine ⟨fun h => (by cases h), fun h => ?_⟩
            obtain ⟨p, hp, hpe⟩ := List.mem_map.1 h
            rcases List.mem_append.1 hp with h' | h'
            · have := hA p h'; omega
            · have := hB p h'; omega
          · rw [getD_set_ne true hkj, inv.mem k hk, hAB]
            simp only [List.map_append, List.map_cons, List.mem_append, List.mem_cons]
            constructor
            · rintro (h | h | h)
              · exact .inl h
              · exact absurd h.symm hkj
              · exact .inr h
            · rintro (h | h)
              · exact .inl h
              · exact .inr (.inr h)
        · obtain ⟨p1, p2, p3⟩ := List.pairwise_append.1 hsrt
          exact List.pairwise_append.2 ⟨p1, (List.pairwise_cons.1 p2).2, fun x hx y hy => p3 x hx y (List.mem_cons_of_mem _ hy)⟩
        · by_cases hkj : j' = k
          · subst hkj
            have : ok = o := Option.some.inj (hk.symm.trans hoj)
            subst this
            exact getD_set_true (hall e he hb)
          · rw [getD_set_ne false hkj] at hl
            exact getD_set_true (inv.closed k ok hk hl e he hb)
      have hK := hso s a w (wpAny P .any ops Q n (listed.setIfInBounds j' true)) g1 hs (fun a' w' hs' =>
        ih (A ++ B) _ (q.app s) a' w' (by simp at hn ⊢; omega) inv' (fun p hp => hstep p (hsub p hp))
          (fun p hp r hr => hind p (hsub p hp) r (hsub r hr)) g2 (g3 ▸ hf) hs')
      unfold wpOp
      rw [hoj]
      simp only
      split
      · rename_i hw; rw [if_pos hw] at hK; exact .inl hK
      · rename_i hw; rw [if_neg hw] at hK; exact hK

/-- The list of all records, numbered. -/
def nums : Nat → List (Rec V O) → List (Nat × Rec V O)
  | _, [] => []
  | i, r :: l => (i, r) :: nums (i + 1) l
theorem nums_map : ∀ (l : List (Rec V O)) (i : Nat), (nums i l).map (·.1) = List.range' i l.length
  | [], _ => rfl
  | r :: l, i => by simp [nums, nums_map l (i + 1), List.range'_succ]
theorem nums_mem : ∀ (l : List (Rec V O)) (i : Nat) (p : Nat × Rec V O), p ∈ nums i l → i ≤ p.1 ∧ l[p.1 - i]? = some p.2
  | [], _, _, h => by cases h
  | r :: l, i, p, h => by
    rcases List.mem_cons.1 h with rfl | h
    · simp
    · obtain ⟨h1, h2⟩ := nums_mem l (i + 1) p h
      refine ⟨by omega, ?_⟩
      rw [show p.1 - i = (p.1 - (i + 1)) + 1 by omega]
      simpa using h2
theorem nums_length : ∀ (l : List (Rec V O)) (i : Nat), (nums i l).length = l.length
  | [], _ => rfl
  | r :: l, i => by simp [nums, nums_length l (i + 1)]
theorem nums_sorted : ∀ (l : List (Rec V O)) (i : Nat), (nums i l).Pairwise (fun p q => p.1 < q.1)
  | [], _ => .nil
  | r :: l, i => List.pairwise_cons.2 ⟨fun p hp => by have := (nums_mem l (i + 1) p hp).1; simp; omega, nums_sorted l (i + 1)⟩

/-- A REGION THAT DRAWS ITS ORDER: the records of the order of the text serve every order. -/
theorem wp_region_trace {P : Program} {l : List Oper} {id : Nat} {Q : Exit → Act → World → Prop} {Sat : AS V O → Act → World → Prop} (hm : P.follows .mixedOrders = true)
    (recs : List (Rec V O)) (hlen : recs.length = l.length) (hB : traceB l (recs.map Rec.sum) = true)
    (hstep : ∀ (j : Nat) (o : Oper) r, l[j]? = some o → recs[j]? = some r → StepOk P l.toArray Sat Q o r)
    (s : AS V O) (a : Act) (w : World) (hs : Sat s a w.drew) (hv : vals (nums 0 recs) s)
    (hQ : ∀ a w, Sat (fin (nums 0 recs) s) a w → Q .normal a w) : (Code.region id l.toArray true).wp P Q a w := by
  simp only [traceB, Bool.and_eq_true] at hB
  obtain ⟨hb, hp⟩ := hB
  have hok : MaskOk l (masks l []) := masks_ok l l [] (by simp) (fun j i h => by simp at h)
  refine wp_region_any hm ?_
  refine wpAny_of_trace (ms := masks l []) (Sat := Sat) (by simpa using hok) (fun j o ho e he hbn => ?_) (fin (nums 0 recs) s) hQ _ (nums 0 recs) _ s a _ ?_ ?_ ?_ ?_ hv rfl hs
  · have := backB_spec l 0 hb j o (by simpa using ho) e (by simpa using he) hbn
    omega
  · rw [nums_length, hlen]; simp
  · refine ⟨by simp, fun j hj => ?_, fun p hp => ?_, nums_sorted _ _, fun j oj _ hl => ?_⟩
    · rw [nums_map, hlen]
      have hj' : j < l.length := by simpa using hj
      simp [hj']
    · obtain ⟨_, h2⟩ := nums_mem recs 0 p hp
      have h3 := (List.getElem?_eq_some_iff.1 h2).1
      simp; omega
    · rcases Nat.lt_or_ge j l.length with h | h
      · simp [h] at hl
      · simp [h] at hl
  · intro p hp
    obtain ⟨_, h2⟩ := nums_mem recs 0 p hp
    simp at h2
    have h3 := (List.getElem?_eq_some_iff.1 h2).1
    obtain ⟨o, ho⟩ : ∃ o, l[p.1]? = some o := ⟨l[p.1]'(by omega), by simp⟩
    exact ⟨o, by simpa using ho, hstep p.1 o p.2 ho h2⟩
  · intro p hp1 q hq1 hpq
    obtain ⟨_, h2⟩ := nums_mem recs 0 p hp1
    obtain ⟨_, h3⟩ := nums_mem recs 0 q hq1
    simp at h2 h3
    have hlt := (List.getElem?_eq_some_iff.1 h3).1
    have hml : q.1 < (masks l []).length := by rw [masks_length]; simp; omega
    have hsp := pairsB_spec (masks l []) (recs.map Rec.sum) 0 hp q.1 ((masks l [])[q.1]'hml) q.2.sum (by simp) (by simp [h3])
    rw [Nat.zero_add] at hsp
    have := aheadB_spec _ 0 hsp p.1 p.2.sum (by rw [List.getElem?_take]; simp [hpq, h2])
    rw [Nat.zero_add] at this
    refine this.imp (fun h => ?_) indep_of
    simpa [List.getD, hml] using h
end
end Go.Mx
