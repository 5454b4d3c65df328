/- The engine, part D: the step of a call whose function has a summary. Conditions: those that each lists. -/
import Derived.Test.YtjbagkimpmpfgaaMxC
namespace Go.Mx

def memB (i : Nat) : List Nat → Bool
  | [] => false
  | j :: l => bif Nat.beq j i then true else memB i l
def idx : List Nat → Nat → Nat
  | [], _ => 0
  | j :: l, i => bif Nat.beq j i then 0 else idx l i + 1
def nth : List Nat → Nat → Nat
  | [], _ => 0
  | j :: _, 0 => j
  | _ :: l, p + 1 => nth l p
def nth? : List Nat → Nat → Option Nat
  | [], _ => none
  | j :: _, 0 => some j
  | _ :: l, p + 1 => nth? l p
def nodupB : List Nat → Bool
  | [] => true
  | j :: l => bif memB j l then false else nodupB l
def lenL {α : Type} : List α → Nat
  | [] => 0
  | _ :: l => lenL l + 1
theorem lenL_eq {α : Type} : ∀ l : List α, lenL l = l.length
  | [] => rfl
  | _ :: l => by simp [lenL, lenL_eq l]

theorem memB_iff {i : Nat} : ∀ {l : List Nat}, memB i l = true ↔ i ∈ l
  | [] => by simp [memB]
  | j :: l => by
    simp only [memB, List.mem_cons]
    cases h : Nat.beq j i with
    | true => simp [Nat.eq_of_beq_eq_true h]
    | false =>
      simp only [cond_false, memB_iff (l := l)]
      constructor
      · exact .inr
      · rintro (rfl | h')
        · rw [Nat.beq_refl] at h; cases h
        · exact h'
theorem nth_idx {i : Nat} : ∀ {l : List Nat}, i ∈ l → nth l (idx l i) = i ∧ idx l i < l.length
  | [], h => by cases h
  | j :: l, h => by
    simp only [idx]
    cases hb : Nat.beq j i with
    | true => simp [nth, Nat.eq_of_beq_eq_true hb]
    | false =>
      have : i ∈ l := by
        rcases List.mem_cons.1 h with rfl | h
        · rw [Nat.beq_refl] at hb; cases hb
        · exact h
      obtain ⟨h1, h2⟩ := nth_idx this
      simp only [cond_false, nth, List.length_cons]
      exact ⟨h1, by omega⟩
theorem nth_mem : ∀ {l : List Nat} {p : Nat}, p < l.length → nth l p ∈ l
  | [], _, h => by simp at h
  | j :: l, 0, _ => by simp [nth]
  | j :: l, p + 1, h => by simp only [nth]; exact List.mem_cons_of_mem _ (nth_mem (by simpa using h))
theorem idx_nth : ∀ {l : List Nat} {p : Nat}, nodupB l = true → p < l.length → idx l (nth l p) = p
  | [], _, _, h => by simp at h
  | j :: l, 0, _, _ => by simp [nth, idx, Nat.beq_refl]
  | j :: l, p + 1, hn, h => by
    simp only [nodupB] at hn
    cases hm : memB j l with
    | true => rw [hm] at hn; simp at hn
    | false =>
      rw [hm] at hn; simp only [cond_false] at hn
      have hp : p < l.length := by simpa using h
      simp only [nth, idx]
      cases hb : Nat.beq j (nth l p) with
      | true =>
        exfalso
        have := Nat.eq_of_beq_eq_true hb
        have h2 := nth_mem hp
        rw [← this, ← memB_iff, hm] at h2
        cases h2
      | false => simp only [cond_false]; rw [idx_nth hn hp]

def C.inB (q : Nat → Bool) (x : C) : Bool := match x.pt with | none => true | some i => q i
def inSB (q : Nat → Bool) : List Seg → Bool
  | [] => true
  | .c x :: l => bif x.inB q then inSB q l else false
  | _ :: l => inSB q l
def V1.inB (q : Nat → Bool) : V1 → Bool
  | .one x => x.inB q
  | .agg b => inSB q b
def in1B (q : Nat → Bool) : List V1 → Bool
  | [] => true
  | x :: l => bif x.inB q then in1B q l else false
def inOB (q : Nat → Bool) : List MObj → Bool
  | [] => true
  | o :: l => bif inSB q o.segs then inOB q l else false
theorem bif_and {b c : Bool} (h : (bif b then c else false) = true) : b = true ∧ c = true := by cases b <;> simp at h ⊢; exact h
theorem C.inB_spec {q : Nat → Bool} {x : C} (h : x.inB q = true) : x.ins fun i => q i = true := by
  intro i hi
  unfold C.inB at h
  rw [hi] at h; exact h
theorem inSB_spec {q : Nat → Bool} : ∀ {l : List Seg}, inSB q l = true → insS (fun i => q i = true) l
  | [], _ => trivial
  | .c _ :: _, h => ⟨C.inB_spec (bif_and h).1, inSB_spec (bif_and h).2⟩
  | .ints _ _ _ :: l, h => ⟨trivial, inSB_spec (l := l) h⟩
  | .strs _ _ :: l, h => ⟨trivial, inSB_spec (l := l) h⟩
  | .rows _ _ _ :: l, h => ⟨trivial, inSB_spec (l := l) h⟩
theorem V1.inB_spec {q : Nat → Bool} {x : V1} (h : x.inB q = true) : x.ins fun i => q i = true := by
  cases x with
  | one x => exact C.inB_spec h
  | agg b => exact inSB_spec h
theorem in1B_spec {q : Nat → Bool} : ∀ {l : List V1}, in1B q l = true → ins1s (fun i => q i = true) l
  | [], _ => trivial
  | _ :: _, h => ⟨V1.inB_spec (bif_and h).1, in1B_spec (bif_and h).2⟩
theorem inOB_spec {q : Nat → Bool} : ∀ {l : List MObj}, inOB q l = true → ∀ o ∈ l, insS (fun i => q i = true) o.segs
  | [], _, o, ho => by cases ho
  | y :: l, h, o, ho => by
    rcases List.mem_cons.1 ho with rfl | ho
    · exact inSB_spec (bif_and h).1
    · exact inOB_spec (bif_and h).2 o ho

/-! ### What a call reaches -/
def addL (L : List Nat) (i : Nat) : List Nat := bif memB i L then L else L ++ [i]
def addAll : List Nat → List Nat → List Nat
  | L, [] => L
  | L, i :: l => addAll (addL L i) l
def ptC (x : C) : List Nat := match x.pt with | some i => [i] | none => []
def ptsS : List Seg → List Nat
  | [] => []
  | .c x :: l => ptC x ++ ptsS l
  | _ :: l => ptsS l
def ptsV : List V1 → List Nat
  | [] => []
  | x :: l => ptsS x.segs ++ ptsV l
def growL (hp : Hp) : Nat → Nat → List Nat → List Nat
  | 0, _, L => L
  | f + 1, p, L => (match nth? L p with
    | none => L
    | some i => (match hp i with | some o => growL hp f (p + 1) (addAll L (ptsS o.segs)) | none => L))
def objsAt (hp : Hp) : List Nat → Option (List MObj)
  | [] => some []
  | i :: l => (match hp i with
    | some o => (match objsAt hp l with | some r => some (o :: r) | none => none)
    | none => none)
def renO (τ : Nat → Nat) : List MObj → List MObj
  | [] => []
  | o :: l => o.ren τ :: renO τ l
def calleeOf (vs : List V) : Option (Nat × List V1) :=
  match vs with
  | .v (.one (.fn f)) :: r => (match v1s r with | some xs => some (f, xs) | none => none)
  | .v (.one (.fn1 f i off)) :: r => (match v1s r with | some xs => some (f, xs ++ [.one (.ptr i off)]) | none => none)
  | .v (.one (.fnm f i off)) :: r => (match v1s r with | some xs => some (f, .one (.ptr i off) :: xs) | none => none)
  | _ => none
def isOwn : MObj → Bool | .own _ _ => true | _ => false
def notView : MObj → Bool | .view _ _ => false | _ => true
def ownAt : List MObj → Nat → Bool
  | [], _ => false
  | o :: _, 0 => isOwn o
  | _ :: l, p + 1 => ownAt l p
def okTurn (os : List MObj) : List (Nat × MObj) → Bool
  | [] => true
  | (p, o) :: l => bif ownAt os p then (bif notView o then okTurn os l else false) else false
def okNew : List MObj → Bool
  | [] => true
  | o :: l => bif notView o then okNew l else false
def rho (L : List Nat) (k n p : Nat) : Nat := bif Nat.blt p k then nth L p else n + (p - k)
def turnR (L : List Nat) (ρ : Nat → Nat) : List (Nat × MObj) → List (Nat × MObj)
  | [] => []
  | (p, o) :: l => (nth L p, o.ren ρ) :: turnR L ρ l
def numb : Nat → List MObj → List (Nat × MObj)
  | _, [] => []
  | n, o :: l => numb (n + 1) l ++ [(n, o)]
def rangeN : Nat → List MObj → List Nat
  | _, [] => []
  | n, _ :: l => n :: rangeN (n + 1) l
def zipO : List Nat → List MObj → List (Nat × MObj)
  | i :: l, o :: m => (i, o) :: zipO l m
  | _, _ => []

abbrev Env := Nat → Option Ctr
def backC (r : CR) (L : List Nat) (os : List MObj) (n : Nat) : Option Eff :=
  bif okTurn os r.turn then (bif okNew r.new then
    some ⟨r.cs, r.ret.ren (rho L (lenL L) n), zipO L os, turnR L (rho L (lenL L) n) r.turn ++ numb n (renO (rho L (lenL L) n) r.new), rangeN n r.new⟩ else none) else none
def intoC (ctr : Ctr) (args : List V1) (L : List Nat) (os : List MObj) (n : Nat) : Option Eff :=
  bif nodupB L then (bif in1B (fun i => memB i L) args then (bif inOB (fun i => memB i L) os then
    (match ctr (ren1s (idx L) args) (renO (idx L) os) with
    | some r => backC r L os n
    | none => none) else none) else none) else none
def callC (E : Env) (vs : List V) (n : Nat) (hp : Hp) : Option Eff :=
  match calleeOf vs with
  | some (f, args) => (match E f with
    | some ctr => (fun L => match objsAt hp L with
      | some os => intoC ctr args L os n
      | none => none) (growL hp 100 0 (addAll [] (ptsV args)))
    | none => none)
  | none => none

theorem objsAt_spec {hp : Hp} : ∀ {L : List Nat} {os : List MObj}, objsAt hp L = some os → os.length = L.length ∧ ∀ p, p < L.length → os[p]? = hp (nth L p) ∧ (hp (nth L p)).isSome
  | [], os, h => by simp [objsAt] at h; subst h; simp
  | i :: L, os, h => by
    simp only [objsAt] at h
    split at h
    · rename_i o ho
      split at h
      · rename_i r hr
        simp at h; subst h
        obtain ⟨h1, h2⟩ := objsAt_spec hr
        refine ⟨by simp [h1], fun p hp => ?_⟩
        cases p with
        | zero => simp [nth, ho]
        | succ p => simp only [nth, List.getElem?_cons_succ]; exact h2 p (by simpa using hp)
      · cases h
    · cases h
theorem renO_map (τ : Nat → Nat) : ∀ l : List MObj, renO τ l = l.map (MObj.ren τ)
  | [] => rfl
  | o :: l => by simp [renO, renO_map τ l]
theorem zipO_mem : ∀ {L : List Nat} {os : List MObj} {p : Nat} {o : MObj}, p < L.length → os[p]? = some o → (nth L p, o) ∈ zipO L os
  | [], _, _, _, h, _ => by simp at h
  | i :: L, [], p, o, _, h => by simp at h
  | i :: L, x :: os, 0, o, _, h => by simp at h; subst h; simp [zipO, nth]
  | i :: L, x :: os, p + 1, o, h, h2 => by
    simp only [zipO, nth]
    exact List.mem_cons_of_mem _ (zipO_mem (by simpa using h) (by simpa using h2))
theorem rangeN_mem : ∀ {l : List MObj} {n k : Nat}, n ≤ k → k < n + l.length → k ∈ rangeN n l
  | [], n, k, h1, h2 => by simp at h2; omega
  | _ :: l, n, k, h1, h2 => by
    simp only [rangeN, List.mem_cons]
    by_cases h : k = n
    · exact .inl h
    · exact .inr (rangeN_mem (by omega) (by simp at h2; omega))
theorem updF_app {a b : List (Nat × MObj)} {h : Hp} : updF (a ++ b) h = updF a (updF b h) := by
  funext k
  unfold updF
  rw [List.find?_append]
  cases a.find? (fun p => p.1 == k) <;> simp
theorem updF_numb : ∀ {l : List MObj} {n k : Nat} {h : Hp}, updF (numb n l) h k = if n ≤ k ∧ k < n + l.length then l[k - n]? else h k
  | [], n, k, h => by
    rw [if_neg (by simp)]
    rfl
  | o :: l, n, k, h => by
    rw [numb, updF_app, updF_numb]
    by_cases h2 : n + 1 ≤ k ∧ k < n + 1 + l.length
    · rw [if_pos h2, if_pos (by simp; omega), show k - n = (k - (n + 1)) + 1 by omega]
      simp
    · rw [if_neg h2]
      have e : updF [(n, o)] h k = if k = n then some o else h k := by
        unfold updF
        by_cases hk : k = n
        · subst hk; simp
        · have : (n == k) = false := by simpa using fun e => hk e.symm
          simp [List.find?, this, hk]
      rw [e]
      by_cases hk : k = n
      · subst hk; simp
      · rw [if_neg hk, if_neg (by simp; omega)]
theorem ownAt_spec : ∀ {os : List MObj} {p : Nat}, ownAt os p = true → ∃ e b, os[p]? = some (.own e b)
  | [], _, h => by simp [ownAt] at h
  | o :: _, 0, h => by
    simp only [ownAt, isOwn] at h
    split at h
    · exact ⟨_, _, rfl⟩
    · cases h
  | _ :: l, p + 1, h => by
    obtain ⟨e, b, h'⟩ := ownAt_spec (os := l) (p := p) h
    exact ⟨e, b, by simpa using h'⟩
theorem okTurn_spec {os : List MObj} : ∀ {l : List (Nat × MObj)}, okTurn os l = true → ∀ q ∈ l, (∃ e b, os[q.1]? = some (.own e b)) ∧ notView q.2 = true
  | [], _, q, hq => by cases hq
  | (p, o) :: l, h, q, hq => by
    obtain ⟨h1, h2⟩ := bif_and h
    obtain ⟨h3, h4⟩ := bif_and h2
    rcases List.mem_cons.1 hq with rfl | hq
    · exact ⟨ownAt_spec h1, h3⟩
    · exact okTurn_spec h4 q hq
theorem okNew_spec : ∀ {l : List MObj}, okNew l = true → ∀ o ∈ l, notView o = true
  | [], _, o, ho => by cases ho
  | y :: l, h, o, ho => by
    obtain ⟨h1, h2⟩ := bif_and h
    rcases List.mem_cons.1 ho with rfl | ho
    · exact h1
    · exact okNew_spec h2 o ho
theorem turnR_find {L : List Nat} {ρ : Nat → Nat} (hn : nodupB L = true) : ∀ {l : List (Nat × MObj)}, (∀ q ∈ l, q.1 < L.length) → ∀ {p : Nat}, p < L.length →
    (turnR L ρ l).find? (fun q => q.1 == nth L p) = (l.find? (fun q => q.1 == p)).map fun q => (nth L q.1, q.2.ren ρ)
  | [], _, _, _ => rfl
  | (q, o) :: l, hl, p, hp => by
    have ih := turnR_find hn (fun q hq => hl q (List.mem_cons_of_mem _ hq)) hp (l := l) (ρ := ρ)
    have hq : q < L.length := hl (q, o) (by simp)
    simp only [turnR, List.find?_cons]
    by_cases hqp : q = p
    · subst hqp; simp
    · have h1 : (q == p) = false := by simpa using hqp
      have h2 : (nth L q == nth L p) = false := by
        simp only [beq_eq_false_iff_ne, ne_eq]
        intro e
        have := congrArg (idx L) e
        rw [idx_nth hn hq, idx_nth hn hp] at this
        exact hqp this
      rw [h1, h2]; exact ih
theorem turnR_key {L : List Nat} {ρ : Nat → Nat} : ∀ {l : List (Nat × MObj)}, (∀ q ∈ l, q.1 < L.length) → ∀ q ∈ turnR L ρ l, q.1 ∈ L
  | [], _, q, hq => by cases hq
  | (p, o) :: l, hl, q, hq => by
    simp only [turnR] at hq
    rcases List.mem_cons.1 hq with rfl | hq
    · exact nth_mem (hl (p, o) (by simp))
    · exact turnR_key (fun q hq => hl q (List.mem_cons_of_mem _ hq)) q hq

/-- What stands behind a call, object by object. -/
theorem callFit {ν ν' : Pl} {h : Hp} {w w' : World} {L : List Nat} {os : List MObj} {r : CR} {n : Nat} (F : FitH ν h w) (hos : objsAt h L = some os) (hnd : nodupB L = true)
    (hok : okTurn os r.turn = true) (hnew : okNew r.new = true) (hfr : ∀ k, n ≤ k → k < n + r.new.length → h k = none)
    (hin : ∀ o ∈ os, insS (fun i => memB i L = true) o.segs)
    (hν : ∀ p, p < L.length → ν' p = ν (nth L p)) (F' : FitH ν' (outH (renO (idx L) os) r) w')
    (hfrm : Fr (ownedBlk (fun p => ν (nth L p)) (hpL (renO (idx L) os))) w w')
    (hM : ∀ i o, outH (renO (idx L) os) r i = some o → o.owns (ν' i) → ownedBlk (fun p => ν (nth L p)) (hpL (renO (idx L) os)) (ν' i).blk ∨ w.heap.size ≤ (ν' i).blk)
    (ν2 : Pl) (hν2 : ν2 = fun i => if n ≤ i ∧ i < n + r.new.length then ν' (L.length + (i - n)) else ν i) (h2 : Hp) (hh2 : h2 = updF (turnR L (rho L L.length n) r.turn ++ numb n (renO (rho L L.length n) r.new)) h) :
    FitH ν2 h2 w' ∧ (∀ i, dom h i → ν2 i = ν i) ∧ (∀ i, dom h i → dom h2 i) ∧ (∀ p, dom (outH (renO (idx L) os) r) p → ν2 (rho L L.length n p) = ν' p ∧ dom h2 (rho L L.length n p)) ∧
      (∀ b, (∃ i o, h i = some o ∧ o.owns (ν i) ∧ (ν i).blk = b ∧ i ∈ L) ∨ w'.heap[b]? = w.heap[b]? ∨ w.heap.size ≤ b) ∧
      (∀ i o, h2 i = some o → o.owns (ν2 i) → (∃ j oj, h j = some oj ∧ oj.owns (ν j) ∧ (ν j).blk = (ν2 i).blk) ∨ w.heap.size ≤ (ν2 i).blk) := by
  obtain ⟨hosl, hosp⟩ := objsAt_spec hos
  have hcl : (renO (idx L) os).length = L.length := by rw [renO_map, List.length_map, hosl]
  have hca : ∀ p, (renO (idx L) os)[p]? = (os[p]?).map (MObj.ren (idx L)) := fun p => by rw [renO_map, List.getElem?_map]
  have hT := okTurn_spec hok
  have hkey : ∀ q ∈ r.turn, q.1 < L.length := fun q hq => by
    obtain ⟨⟨e, b, h1⟩, _⟩ := hT q hq
    rw [← hosl]; exact (List.getElem?_eq_some_iff.1 h1).1
  -- the callee's side
  have hout : ∀ p, outH (renO (idx L) os) r p = match r.turn.find? (fun q => q.1 == p) with | some q => some q.2 | none => if p < L.length then (os[p]?).map (MObj.ren (idx L)) else r.new[p - L.length]? := fun p => by
    unfold outH updF hpL
    split
    · rename_i q hq; rw [hq]
    · rename_i hq; rw [hq]
      simp only
      by_cases hp : p < L.length
      · rw [if_pos hp, List.getElem?_append_left (by rw [hcl]; exact hp), hca]
      · rw [if_neg hp, List.getElem?_append_right (by rw [hcl]; omega), hcl]
  have hod : ∀ p, dom (outH (renO (idx L) os) r) p ↔ p < L.length + r.new.length := fun p => by
    unfold dom; rw [hout]
    split
    · rename_i q hq
      have h1 := List.mem_of_find?_eq_some hq
      have h2 : q.1 = p := by simpa using List.find?_some hq
      have := hkey q h1
      simp; omega
    · by_cases hp : p < L.length
      · rw [if_pos hp, List.getElem?_eq_getElem (by omega)]; simp; omega
      · rw [if_neg hp]; simp; omega
  -- the caller's side
  have hLdom : ∀ i, i ∈ L → dom h i := fun i hi => by
    obtain ⟨h1, h2⟩ := nth_idx hi
    have := (hosp _ h2).2
    rw [h1] at this
    intro e; rw [e] at this; cases this
  have hLfr : ∀ i, i ∈ L → ¬ (n ≤ i ∧ i < n + r.new.length) := fun i hi hh => hLdom i hi (hfr i hh.1 hh.2)
  have hnl : (renO (rho L L.length n) r.new).length = r.new.length := by rw [renO_map, List.length_map]
  have hh : ∀ i, h2 i = if n ≤ i ∧ i < n + r.new.length then (r.new[i - n]?).map (MObj.ren (rho L L.length n)) else if i ∈ L then (match r.turn.find? (fun q => q.1 == idx L i) with | some q => some (q.2.ren (rho L L.length n)) | none => h i) else h i := fun i => by
    rw [hh2, updF_app]
    by_cases hi : n ≤ i ∧ i < n + r.new.length
    · rw [if_pos hi, updF_ne (fun q hq e => hLfr i (by rw [e]; exact turnR_key hkey q hq) hi), updF_numb, if_pos (by rw [hnl]; exact hi), renO_map, List.getElem?_map]
    · rw [if_neg hi]
      by_cases hiL : i ∈ L
      · rw [if_pos hiL]
        obtain ⟨h1, h2'⟩ := nth_idx hiL
        have := turnR_find (ρ := rho L L.length n) hnd hkey h2'
        rw [h1] at this
        unfold updF at *
        rw [this]
        cases r.turn.find? (fun q => q.1 == idx L i) with
        | some q => rfl
        | none =>
          simp only [Option.map_none]
          have := updF_numb (l := renO (rho L L.length n) r.new) (n := n) (k := i) (h := h)
          rw [if_neg (by rw [hnl]; exact hi)] at this
          exact this
      · rw [if_neg hiL, updF_ne (fun q hq e => hiL (by rw [e]; exact turnR_key hkey q hq)), updF_numb, if_neg (by rw [hnl]; exact hi)]
  have hν2d : ∀ i, dom h i → ν2 i = ν i := fun i hi => by
    rw [hν2]; simp only
    rw [if_neg]
    exact fun hh => hi (hfr i hh.1 hh.2)
  have hdom : ∀ i, dom h i → dom h2 i := fun i hi => by
    unfold dom; rw [hh, if_neg (fun hh => hi (hfr i hh.1 hh.2))]
    split
    · split
      · simp
      · exact hi
    · exact hi
  have hrho : ∀ p, p < L.length + r.new.length → ν2 (rho L L.length n p) = ν' p ∧ dom h2 (rho L L.length n p) := fun p hp => by
    unfold rho
    cases hb : Nat.blt p L.length with
    | true =>
      rw [Nat.blt_eq] at hb
      simp only [cond_true]
      have hm := nth_mem hb
      exact ⟨by rw [hν2d _ (hLdom _ hm), hν p hb], hdom _ (hLdom _ hm)⟩
    | false =>
      have hb' := blt_false hb
      simp only [cond_false]
      refine ⟨?_, ?_⟩
      · rw [hν2]; simp only
        rw [if_pos (by omega)]
        congr 1; omega
      · unfold dom; rw [hh, if_pos (by omega)]
        rw [List.getElem?_eq_getElem (by omega)]; simp
  -- what an object of the new state is
  have kind : ∀ i o, h2 i = some o → (∃ p oc, outH (renO (idx L) os) r p = some oc ∧ ν2 i = ν' p ∧ Same ν2 ν' o oc ∧ ((p < L.length ∧ nth L p = i) ∨ (L.length ≤ p ∧ p - L.length = i - n ∧ n ≤ i ∧ i < n + r.new.length ∧ notView oc = true))) ∨ (h i = some o ∧ i ∉ L) := by
    intro i o hi
    rw [hh] at hi
    have viaρ : ∀ p oc, outH (renO (idx L) os) r p = some oc → Same ν2 ν' (oc.ren (rho L L.length n)) oc := fun p oc hp => by
      have hoc := F'.ok p oc hp
      exact Same.ren hoc (insS_mono (fun i hi => (hrho i ((hod i).1 hi)).1) (insS_ok hoc))
    by_cases hfi : n ≤ i ∧ i < n + r.new.length
    · rw [if_pos hfi] at hi
      have hlt : i - n < r.new.length := by omega
      rw [List.getElem?_eq_getElem hlt] at hi
      simp at hi; subst hi
      have ho : outH (renO (idx L) os) r (L.length + (i - n)) = some r.new[i - n] := by
        rw [hout]
        have : r.turn.find? (fun q => q.1 == L.length + (i - n)) = none := by
          rw [List.find?_eq_none]
          intro q hq
          have := hkey q hq
          simp; omega
        rw [this]
        simp only
        rw [if_neg (by omega)]
        rw [show L.length + (i - n) - L.length = i - n by omega, List.getElem?_eq_getElem hlt]
      refine .inl ⟨_, _, ho, ?_, viaρ _ _ ho, .inr ⟨by omega, by omega, hfi.1, hfi.2, okNew_spec hnew _ (List.getElem_mem _)⟩⟩
      rw [hν2]; simp only; rw [if_pos hfi]
    · rw [if_neg hfi] at hi
      by_cases hiL : i ∈ L
      · rw [if_pos hiL] at hi
        obtain ⟨g1, g2⟩ := nth_idx hiL
        left
        cases hf : r.turn.find? (fun q => q.1 == idx L i) with
        | some q =>
          rw [hf] at hi
          simp at hi; subst hi
          have ho : outH (renO (idx L) os) r (idx L i) = some q.2 := by rw [hout, hf]
          exact ⟨_, _, ho, by rw [hν2d i (hLdom i hiL), hν _ g2, g1], viaρ _ _ ho, .inl ⟨g2, g1⟩⟩
        | none =>
          rw [hf] at hi
          simp only at hi
          have hoi : os[idx L i]? = some o := by rw [(hosp _ g2).1, g1]; exact hi
          have ho : outH (renO (idx L) os) r (idx L i) = some (o.ren (idx L)) := by
            rw [hout, hf]; simp only; rw [if_pos g2, hoi]; rfl
          refine ⟨_, _, ho, by rw [hν2d i (hLdom i hiL), hν _ g2, g1], ?_, .inl ⟨g2, g1⟩⟩
          have hoo := F.ok i o hi
          have hino := hin o (List.mem_of_getElem? hoi)
          refine (Same.ren (ν := ν2) (ν' := ν') (D := dom h) hoo ?_).symm
          exact insS_mono (fun j hj => by
            have hjL := memB_iff.1 hj
            obtain ⟨k1, k2⟩ := nth_idx hjL
            rw [hν _ k2, k1, hν2d j (hLdom j hjL)]) hino
      · rw [if_neg hiL] at hi
        exact .inr ⟨hi, hiL⟩
  have hblk : ∀ b, (∃ i o, h i = some o ∧ o.owns (ν i) ∧ (ν i).blk = b ∧ i ∈ L) ∨ w'.heap[b]? = w.heap[b]? ∨ w.heap.size ≤ b := fun b => by
    by_cases hb : b < w.heap.size
    · by_cases ho : ownedBlk (fun p => ν (nth L p)) (hpL (renO (idx L) os)) b
      · obtain ⟨p, o, h1, h2', h3⟩ := ho
        have hp : p < L.length := by rw [← hcl]; exact (List.getElem?_eq_some_iff.1 h1).1
        unfold hpL at h1
        rw [hca] at h1
        obtain ⟨o', ho', rfl⟩ := Option.map_eq_some_iff.1 h1
        refine .inl ⟨nth L p, o', (hosp p hp).1.symm.trans ho', ?_, h3, nth_mem hp⟩
        cases o' <;> exact h2'
      · exact .inr (.inl (hfrm.block b hb ho))
    · exact .inr (.inr (by omega))
  have hown : ∀ i o, h2 i = some o → o.owns (ν2 i) → (∃ j oj, h j = some oj ∧ oj.owns (ν j) ∧ (ν j).blk = (ν2 i).blk ∧ (j ∈ L ∨ j = i)) ∨ w.heap.size ≤ (ν2 i).blk := by
    intro i o hi ho
    rcases kind i o hi with ⟨p, oc, h1, h2', h3, _⟩ | ⟨h1, h2'⟩
    · rw [h3.owns, h2'] at ho
      rcases hM p oc h1 ho with ⟨q, oq, k1, k2, k3⟩ | h'
      · have hq : q < L.length := by rw [← hcl]; exact (List.getElem?_eq_some_iff.1 k1).1
        unfold hpL at k1
        rw [hca] at k1
        obtain ⟨o', ho', rfl⟩ := Option.map_eq_some_iff.1 k1
        refine .inl ⟨nth L q, o', (hosp q hq).1.symm.trans ho', ?_, by rw [h2']; exact k3, .inl (nth_mem hq)⟩
        cases o' <;> exact k2
      · exact .inr (by rw [h2']; exact h')
    · have hd : dom h i := by unfold dom; rw [h1]; simp
      exact .inl ⟨i, o, h1, by rw [← hν2d i hd]; exact ho, by rw [hν2d i hd], .inr rfl⟩
  have hold : ∀ i o, h2 i = some o → o.holds (ν2 i) → (∃ j oj, h j = some oj ∧ oj.holds (ν j) ∧ (ν j).blk = (ν2 i).blk ∧ (j ∈ L ∨ j = i)) ∨ w.heap.size ≤ (ν2 i).blk := by
    intro i o hi ho
    have viaown : o.owns (ν2 i) → (∃ j oj, h j = some oj ∧ oj.holds (ν j) ∧ (ν j).blk = (ν2 i).blk ∧ (j ∈ L ∨ j = i)) ∨ w.heap.size ≤ (ν2 i).blk := fun h1 => by
      rcases hown i o hi h1 with ⟨j, oj, k1, k2, k3⟩ | h'
      · exact .inl ⟨j, oj, k1, MObj.holds_of_owns k2, k3⟩
      · exact .inr h'
    cases o with
    | own e b => exact viaown ho
    | gone => exact ho.elim
    | view e b =>
      rcases kind i _ hi with ⟨p, oc, h1, h2', h3, h4⟩ | ⟨h1, h2'⟩
      · have hocv : notView oc = false := by cases h3 <;> rfl
        rcases h4 with ⟨hp, hpi⟩ | ⟨_, _, _, _, hv⟩
        · rw [hout] at h1
          cases hf : r.turn.find? (fun q => q.1 == p) with
          | some q =>
            rw [hf] at h1; simp at h1; subst h1
            have := (hT q (List.mem_of_find?_eq_some hf)).2
            rw [hocv] at this; cases this
          | none =>
            rw [hf] at h1; simp only at h1
            rw [if_pos hp] at h1
            obtain ⟨o', ho', hoc⟩ := Option.map_eq_some_iff.1 h1
            have hiL : i ∈ L := by rw [← hpi]; exact nth_mem hp
            refine .inl ⟨i, o', ?_, ?_, by rw [hν2d i (hLdom i hiL)], .inl hiL⟩
            · rw [← ho', (hosp p hp).1, hpi]
            · rw [h3.holds, h2', hν p hp, hpi, ← hoc] at ho
              cases o' <;> exact ho
        · rw [hocv] at hv; cases hv
      · have hd : dom h i := by unfold dom; rw [h1]; simp
        exact .inl ⟨i, _, h1, by rw [← hν2d i hd]; exact ho, by rw [hν2d i hd], .inr rfl⟩
  have hblk' : ∀ i o, h i = some o → i ∉ L → o.holds (ν i) → w'.heap[(ν i).blk]? = w.heap[(ν i).blk]? := fun i o hi hiL hho => by
    rcases hblk (ν i).blk with ⟨j, oj, k1, k2, k3, k4⟩ | h' | h'
    · exact absurd k3 (F.apart j i oj o (fun e => hiL (by rw [← e]; exact k4)) k1 hi k2 hho)
    · exact h'
    · have := MObj.holds_lt (F.fit i o hi) hho; omega
  refine ⟨⟨fun i o hi => ?_, fun i o hi => ?_, fun i j o o' hij hi hj ho ho' => ?_⟩, hν2d, hdom, fun p hp => hrho p ((hod p).1 hp), hblk, fun i o hi ho => ?_⟩
  · rcases kind i o hi with ⟨p, oc, h1, h2', h3, _⟩ | ⟨h1, h2'⟩
    · rw [h2']
      exact h3.fit (F'.fit p oc h1)
    · have hd : dom h i := by unfold dom; rw [h1]; simp
      rw [hν2d i hd]
      exact MObj.fit_congr (fun k hk => (hν2d k hk).symm) (F.ok i o h1) (MObj.fit_block hfrm.size (hblk' i o h1 h2') (F.fit i o h1))
  · rw [hh] at hi
    have viaρ : ∀ p oc, outH (renO (idx L) os) r p = some oc → (oc.ren (rho L L.length n)).ok (dom h2) := fun p oc hp => by
      have hoc := F'.ok p oc hp
      exact MObj.ok_ren hoc (insS_mono (fun i hi => (hrho i ((hod i).1 hi)).2) (insS_ok hoc))
    by_cases hfi : n ≤ i ∧ i < n + r.new.length
    · rw [if_pos hfi] at hi
      obtain ⟨oc, hoc, rfl⟩ := Option.map_eq_some_iff.1 hi
      refine viaρ (L.length + (i - n)) oc ?_
      rw [hout]
      have : r.turn.find? (fun q => q.1 == L.length + (i - n)) = none := by
        rw [List.find?_eq_none]
        intro q hq
        have := hkey q hq
        simp; omega
      rw [this]
      simp only
      rw [if_neg (by omega), show L.length + (i - n) - L.length = i - n by omega]
      exact hoc
    · rw [if_neg hfi] at hi
      by_cases hiL : i ∈ L
      · rw [if_pos hiL] at hi
        cases hf : r.turn.find? (fun q => q.1 == idx L i) with
        | some q =>
          rw [hf] at hi
          simp at hi; subst hi
          exact viaρ (idx L i) q.2 (by rw [hout, hf])
        | none =>
          rw [hf] at hi
          exact okS_mono hdom (F.ok i o hi)
      · rw [if_neg hiL] at hi
        exact okS_mono hdom (F.ok i o hi)
  · -- apart
    have both : ∀ {i j : Nat} {o o' : MObj}, i ≠ j → h2 i = some o → h2 j = some o' → (i ∈ L ∨ (n ≤ i ∧ i < n + r.new.length)) → (j ∈ L ∨ (n ≤ j ∧ j < n + r.new.length)) → o.owns (ν2 i) → o'.holds (ν2 j) → (ν2 i).blk ≠ (ν2 j).blk := by
      intro i j o o' hij hi hj hiK hjK ho ho'
      rcases kind i o hi with ⟨p, oc, h1, h2', h3, h4⟩ | ⟨h1, h2'⟩
      · rcases kind j o' hj with ⟨q, oq, k1, k2, k3, k4⟩ | ⟨k1, k2⟩
        · rw [h3.owns, h2'] at ho
          rw [k3.holds, k2] at ho'
          rw [h2', k2]
          refine F'.apart p q oc oq (fun e => hij ?_) h1 k1 ho ho'
          rcases h4 with ⟨a1, a2⟩ | ⟨a1, a2, a3, _⟩ <;> rcases k4 with ⟨b1, b2⟩ | ⟨b1, b2, b3, _⟩
          · rw [← a2, ← b2, e]
          · omega
          · omega
          · omega
        · rcases hjK with h' | ⟨a, b⟩
          · exact absurd h' k2
          · rw [hfr j a b] at k1; cases k1
      · rcases hiK with h' | ⟨a, b⟩
        · exact absurd h' h2'
        · rw [hfr i a b] at h1; cases h1
    have out : ∀ {i : Nat} {o : MObj}, h2 i = some o → ¬ (i ∈ L ∨ (n ≤ i ∧ i < n + r.new.length)) → h i = some o ∧ i ∉ L := by
      intro i o hi hn'
      rcases kind i o hi with ⟨p, oc, h1, h2', h3, h4⟩ | h'
      · exfalso
        rcases h4 with ⟨a1, a2⟩ | ⟨a1, a2, a3, a4, _⟩
        · exact hn' (.inl (by rw [← a2]; exact nth_mem a1))
        · exact hn' (.inr ⟨a3, a4⟩)
      · exact h'
    by_cases hiK : i ∈ L ∨ (n ≤ i ∧ i < n + r.new.length)
    · by_cases hjK : j ∈ L ∨ (n ≤ j ∧ j < n + r.new.length)
      · exact both hij hi hj hiK hjK ho ho'
      · obtain ⟨k1, k2⟩ := out hj hjK
        have hd : dom h j := by unfold dom; rw [k1]; simp
        rw [hν2d j hd] at ho' ⊢
        rcases hown i o hi ho with ⟨x, ox, g1, g2, g3, g4⟩ | h'
        · rw [← g3]
          refine F.apart x j ox o' (fun e => ?_) g1 k1 g2 ho'
          rcases g4 with g4 | g4
          · exact k2 (by rw [← e]; exact g4)
          · exact hij (g4.symm.trans e)
        · have := MObj.holds_lt (F.fit j o' k1) ho'; omega
    · obtain ⟨k1, k2⟩ := out hi hiK
      have hd : dom h i := by unfold dom; rw [k1]; simp
      rw [hν2d i hd] at ho ⊢
      rcases hold j o' hj ho' with ⟨x, ox, g1, g2, g3, g4⟩ | h'
      · rw [← g3]
        refine F.apart i x o ox (fun e => ?_) k1 g1 ho g2
        rcases g4 with g4 | g4
        · exact k2 (by rw [e]; exact g4)
        · exact hij (e.trans g4)
      · have := MObj.holds_lt (F.fit i o k1) (MObj.holds_of_owns ho); omega
  · rcases hown i o hi ho with ⟨j, oj, k1, k2, k3, _⟩ | h'
    · exact .inl ⟨j, oj, k1, k2, k3⟩
    · exact .inr h'
end Go.Mx
