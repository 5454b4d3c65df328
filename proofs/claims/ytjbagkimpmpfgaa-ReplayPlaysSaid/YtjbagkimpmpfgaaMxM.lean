/- The engine, part M: from the run to the summary, from the summary to the call. Conditions: those that each lists. -/
import Derived.Test.YtjbagkimpmpfgaaMxR
namespace Go.Mx

def startT : List V1 → Nat → List V
  | [], n => List.replicate n .any
  | x :: l, n + 1 => .v x :: startT l n
  | _ :: _, 0 => []
def gVs (t : List V) : List Nat → List V
  | [] => []
  | i :: l => gV t i :: gVs t l
def tupV (l : List V) : V := match v1s l with | some xs => .tup xs | none => .any
def retV (rs : List Nat) (t : List V) : V := match rs with | [i] => gV t i | rs => tupV (gVs t rs)
def resV (rs : List Nat) (tmps : Array Value) : Value := match rs with | [i] => tmps.getD i undef | rs => .tuple (rs.map fun i => tmps.getD i undef).toArray
def setO : List MObj → Nat → MObj → List MObj
  | [], _, _ => []
  | _ :: l, 0, o => o :: l
  | x :: l, n + 1, o => x :: setO l n o
def updO : List (Nat × MObj) → List MObj → List MObj
  | [], l => l
  | (n, o) :: r, l => setO (updO r l) n o
def keysB (n : Nat) : List (Nat × MObj) → Bool
  | [] => true
  | (k, _) :: l => bif Nat.blt k n then keysB n l else false
def finW (rs : List Nat) (objs : List MObj) (r : CR) (s : LS) : Prop := keysB (lenL objs) r.turn = true ∧ Wk (lenL objs) ⟨[retV rs s.tmp], s.hp⟩ ⟨[r.ret], updO r.turn (appO objs r.new)⟩
def retK (rs : List Nat) (objs : List MObj) (r : CR) : KK := ⟨fun s c => c ∧ finW rs objs r s, fun _ _ _ => False, fun s c => c ∧ finW rs objs r s⟩

theorem startT_spec : ∀ {l : List V1} {n : Nat}, l.length ≤ n → (startT l n).length = n ∧ ∀ t, gV (startT l n) t = if h : t < l.length then .v l[t] else .any
  | [], n, _ => ⟨by simp [startT], fun t => by
      simp only [startT, gV_eq]
      rw [dif_neg (by simp)]
      simp [List.getD, List.getElem?_replicate]
      split <;> rfl⟩
  | x :: l, 0, h => by simp at h
  | x :: l, n + 1, h => by
    obtain ⟨h1, h2⟩ := startT_spec (l := l) (n := n) (by simpa using h)
    refine ⟨by simp [startT, h1], fun t => ?_⟩
    cases t with
    | zero => simp [startT, gV]
    | succ t => simp only [startT, gV]; rw [h2]; simp
theorem setO_len : ∀ {l : List MObj} {n : Nat} {o : MObj}, (setO l n o).length = l.length
  | [], _, _ => rfl
  | _ :: _, 0, _ => rfl
  | _ :: l, n + 1, o => by simp [setO, setO_len (l := l)]
theorem setO_gH : ∀ {l : List MObj} {n : Nat} {o : MObj}, n < l.length → gH (setO l n o) = updF [(n, o)] (gH l)
  | [], n, o, h => by simp at h
  | x :: l, 0, o, _ => by funext i; rw [updF_one]; cases i <;> simp [setO, gH]
  | x :: l, n + 1, o, h => by
    funext i
    rw [updF_one]
    cases i with
    | zero => simp [setO, gH]
    | succ i => simp only [setO, gH]; rw [setO_gH (by simpa using h), updF_one]; simp
theorem updO_spec {n : Nat} : ∀ {r : List (Nat × MObj)} {l : List MObj}, keysB n r = true → n ≤ l.length → (updO r l).length = l.length ∧ gH (updO r l) = updF r (gH l)
  | [], l, _, _ => ⟨rfl, rfl⟩
  | (k, o) :: r, l, h, hn => by
    obtain ⟨h1, h2⟩ := bif_and h
    obtain ⟨g1, g2⟩ := updO_spec (r := r) (l := l) h2 hn
    rw [Nat.blt_eq] at h1
    refine ⟨by simp [updO, setO_len, g1], ?_⟩
    simp only [updO]
    rw [setO_gH (by omega), g2]
    exact updF_cons.symm
theorem gVs_eq (t : List V) : ∀ l : List Nat, gVs t l = l.map (gV t)
  | [] => rfl
  | i :: l => by simp [gVs, gVs_eq t l]

theorem retV_rel {X : Ctx} {ν : Pl} {s : LS} {a : Act} {w : World} (h : SatAt X ν s.as a w) (rs : List Nat) : (retV rs s.tmp).rel ν (resV rs a.tmps) ∧ (retV rs s.tmp).ok (dom s.as.hp) := by
  have tup : (tupV (gVs s.tmp rs)).rel ν (.tuple (rs.map fun i => a.tmps.getD i undef).toArray) ∧ (tupV (gVs s.tmp rs)).ok (dom s.as.hp) := by
    unfold tupV
    split
    · rename_i xs hxs
      rw [gVs_eq] at hxs
      have key : ∀ (l : List Nat) (xs : List V1), v1s (l.map (gV s.tmp)) = some xs → (l.map fun i => a.tmps.getD i undef) = xs.map (V1.den ν) ∧ ∀ x ∈ xs, x.ok (dom s.as.hp) := by
        intro l
        induction l with
        | nil => intro xs h; simp [v1s] at h; subst h; simp
        | cons i l ih =>
          intro xs hx
          have hi := h.tmp i
          have hk := h.tok i
          change (gV s.tmp i).rel ν _ at hi
          change (gV s.tmp i).ok _ at hk
          simp only [List.map_cons] at hx
          cases hy : gV s.tmp i with
          | any => rw [hy] at hx; simp [v1s] at hx
          | tup _ => rw [hy] at hx; simp [v1s] at hx
          | v c =>
            rw [hy] at hx hi hk
            simp only [v1s] at hx
            split at hx
            · rename_i r hr
              simp at hx; subst hx
              obtain ⟨h1, h2⟩ := ih r hr
              refine ⟨?_, fun x hx => ?_⟩
              · simp only [List.map_cons, h1]
                congr 1
              · rcases List.mem_cons.1 hx with rfl | hx
                · exact hk
                · exact h2 x hx
            · cases hx
      obtain ⟨h1, h2⟩ := key rs xs hxs
      exact ⟨by simp only [V.rel]; rw [h1], h2⟩
    · exact ⟨trivial, trivial⟩
  unfold retV resV
  match rs, tup with
  | [i], _ => exact ⟨h.tmp i, h.tok i⟩
  | [], tup => exact tup
  | _ :: _ :: _, tup => exact tup

theorem meets_of_run {P : Program} {Γ : Tab} {E : Env} (hΓ : Γ.Ok P) (hE : EnvOk P E) (hm : P.follows .mixedOrders = true) {f : Nat} {fn : Func} {code : Code} {nt : Nat} (rs : List Nat) {ctr : Ctr} (hfn : P.funcs[f]? = some fn) (hb : fn.body = some code) (hnt : fn.ntmps = nt)
    (hcall : ∀ args w, (callFunc f args).run P w = .ok (.enter f args) w) (hres : ∀ tmps w, (results fn tmps).run P w = .ok (resV rs tmps) w)
    (h : ∀ args objs r, ctr args objs = some r → AllP r.cs → Nat.ble (lenL args) nt = true ∧ run Γ E (lenL objs) code ⟨startT args nt, objs⟩ True (retK rs objs r)) : Meets P f ctr := by
  refine ⟨hcall, fun args objs r hr hcs ν w F hargs => ?_⟩
  obtain ⟨hle, hrun⟩ := h args objs r hr hcs
  rw [Nat.ble_eq, lenL_eq] at hle
  rw [lenL_eq] at hrun
  obtain ⟨hT1, hT2⟩ := startT_spec hle
  refine calls_of_wp hfn hb ?_
  let X : Ctx := ⟨P, w, ownedBlk ν (hpL objs), objs.length, ν, nt⟩
  have fin : ∀ (s : LS) (a : Act) (w' : World), finW rs objs r s → Sat X s.as a w' → ∃ y ν', (results fn a.tmps).run P w' = .ok y w' ∧ a.defers = [] ∧ (∀ i, i < objs.length → ν' i = ν i) ∧ FitH ν' (outH objs r) w' ∧ r.ret.rel ν' y ∧ r.ret.ok (dom (outH objs r)) ∧
      Fr (ownedBlk ν (hpL objs)) w w' ∧ ∀ i o, outH objs r i = some o → o.owns (ν' i) → ownedBlk ν (hpL objs) (ν' i).blk ∨ w.heap.size ≤ (ν' i).blk := by
    intro s a w' hf hs
    obtain ⟨hk, hW⟩ := hf
    rw [lenL_eq] at hk hW
    obtain ⟨ν1, hs⟩ := hs
    obtain ⟨r1, r2⟩ := retV_rel hs rs
    have hout : gH (updO r.turn (appO objs r.new)) = outH objs r := by
      rw [appO_eq]
      obtain ⟨_, h2⟩ := updO_spec (l := objs ++ r.new) hk (by simp)
      rw [h2, gH_hpL]; rfl
    let X' : Ctx := { X with nt := 1 }
    have hs' : Sat X' (LS.mk [retV rs s.tmp] s.hp).as ⟨#[resV rs a.tmps], []⟩ w' := by
      refine ⟨ν1, hs.old, rfl, rfl, fun t => ?_, fun t => ?_, hs.fit, hs.fr, hs.inM, hs.mdom⟩
      · cases t with
        | zero => exact r1
        | succ t => simp [LS.as, gV, V.rel]
      · cases t with
        | zero => exact r2
        | succ t => simp [LS.as, gV, V.ok]
    obtain ⟨⟨ν2, hs2⟩, _⟩ := hW.sat (X := X') hs'
    have hfit := hs2.fit
    have htmp := hs2.tmp 0
    have htok := hs2.tok 0
    have hinM := hs2.inM
    change FitH ν2 (gH (updO r.turn (appO objs r.new))) w' at hfit
    change r.ret.rel ν2 (resV rs a.tmps) at htmp
    change r.ret.ok (dom (gH (updO r.turn (appO objs r.new)))) at htok
    change ∀ i o, gH (updO r.turn (appO objs r.new)) i = some o → _ at hinM
    rw [hout] at hfit htok hinM
    exact ⟨_, ν2, hres _ _, hs.hdef, hs2.old, hfit, htmp, htok, hs.fr, hinM⟩
  have hK : KOk X (retK rs objs r) (bodyPost P fn fun e w' => ∃ y ν', e = .returned y ∧ (∀ i, i < objs.length → ν' i = ν i) ∧ FitH ν' (outH objs r) w' ∧ r.ret.rel ν' y ∧ r.ret.ok (dom (outH objs r)) ∧
      Fr (ownedBlk ν (hpL objs)) w w' ∧ ∀ i o, outH objs r i = some o → o.owns (ν' i) → ownedBlk ν (hpL objs) (ν' i).blk ∨ w.heap.size ≤ (ν' i).blk) := by
    refine ⟨fun s c _ h => ⟨h.1, fun a w' hs => ?_⟩, fun _ _ _ _ h => h.elim, fun s c _ h => ⟨h.1, fun a w' hs => ?_⟩⟩
    · obtain ⟨y, ν', h1, h2, h3⟩ := fin s a w' h.2 hs
      exact ⟨h2, y, h1, y, ν', rfl, h3⟩
    · obtain ⟨y, ν', h1, h2, h3⟩ := fin s a w' h.2 hs
      exact ⟨h2, y, h1, y, ν', rfl, h3⟩
  refine (run_ok (X := X) hΓ hE hm code _ True _ _ hT1 hrun hK).2 _ w ⟨ν, fun _ _ => rfl, rfl, ?_, fun t => ?_, fun t => ?_, ?_, Fr.refl _ _, fun i o hi ho => ?_, fun i hi => ?_⟩
  · simp [hnt, X]; omega
  · show (gV (startT args nt) t).rel ν _
    rw [hT2]
    split
    · rename_i ht
      simp only [V.rel]
      rw [Array.getD_eq_getD_getElem?, Array.getElem?_append_left (by simpa using ht)]
      simp [ht]
    · trivial
  · show (gV (startT args nt) t).ok _
    rw [hT2]
    split
    · rename_i ht
      show V1.ok (dom (gH objs)) _
      rw [gH_hpL]
      exact hargs _ (List.getElem_mem _)
    · trivial
  · show FitH ν (gH objs) w
    rw [gH_hpL]; exact F
  · change gH objs i = some o at hi
    rw [gH_hpL] at hi
    exact .inl ⟨i, o, hi, ho, rfl⟩
  · show dom (gH objs) i
    rw [gH_hpL]; exact dom_hpL.2 hi
end Go.Mx
