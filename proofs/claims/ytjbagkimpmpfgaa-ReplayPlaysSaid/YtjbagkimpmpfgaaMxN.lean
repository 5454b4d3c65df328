/- The engine, part N: summaries of functions whose results lie in memory. Conditions: those that each lists. -/
import Derived.Test.YtjbagkimpmpfgaaMxM
namespace Go.Mx

inductive RV where
  | tmp (i : Nat)
  | cell (a T : Nat)

def rv1 (tmps : Array Value) : RV → Sem Value
  | .tmp i => pure (tmps.getD i undef)
  | .cell a T => do loadVar T (← asAddr (tmps.getD a undef))
def rvs (tmps : Array Value) : List RV → Sem (List Value)
  | [] => pure []
  | r :: l => do
    let v ← rv1 tmps r
    let vs ← rvs tmps l
    pure (v :: vs)
def resS (rs : List RV) (tmps : Array Value) : Sem Value :=
  match rs with
  | [r] => rv1 tmps r
  | rs => do
    let vs ← rvs tmps rs
    pure (.tuple vs.toArray)

def one2 (Γ : Tab) (t : List V) (h : List MObj) : RV → Option V
  | .tmp i => some (gV t i)
  | .cell a T => (match gV t a with
    | .v (.one c) => (match c.obj with
      | some i => (match gH h i with
        | some o => (match loadC Γ T c (some o) with
          | some ([], v) => some v
          | _ => none)
        | none => none)
      | none => none)
    | _ => none)
def ones2 (Γ : Tab) (t : List V) (h : List MObj) : List RV → Option (List V)
  | [] => some []
  | r :: l => (match one2 Γ t h r with
    | some v => (match ones2 Γ t h l with | some r => some (v :: r) | none => none)
    | none => none)
def ret2 (Γ : Tab) (rs : List RV) (t : List V) (h : List MObj) : Option V :=
  match rs with
  | [r] => one2 Γ t h r
  | rs => (match ones2 Γ t h rs with | some l => some (tupV l) | none => none)
def fin2 (Γ : Tab) (rs : List RV) (objs : List MObj) (r : CR) (s : LS) : Prop :=
  match s with
  | ⟨t, h⟩ => (match ret2 Γ rs t h with
    | some v => fV v fun v => keysB (lenL objs) r.turn = true ∧ Wk (lenL objs) ⟨[v], h⟩ ⟨[r.ret], updO r.turn (appO objs r.new)⟩
    | none => False)
def retK2 (Γ : Tab) (rs : List RV) (objs : List MObj) (r : CR) : KK := ⟨fun s c => c ∧ fin2 Γ rs objs r s, fun _ _ _ => False, fun s c => c ∧ fin2 Γ rs objs r s⟩

section
variable {X : Ctx} {Γ : Tab} (hΓ : Γ.Ok X.P) {ν : Pl} {t : List V} {h : List MObj} {a : Act} {w : World} (hs : SatAt X ν (LS.mk t h).as a w)
include hΓ hs

theorem one2_spec {r : RV} {v : V} (hv : one2 Γ t h r = some v) : ∃ y, (rv1 a.tmps r).run X.P w = .ok y w ∧ v.rel ν y ∧ v.ok (dom (gH h)) := by
  cases r with
  | tmp i =>
    simp [one2] at hv; subst hv
    exact ⟨_, rfl, hs.tmp i, hs.tok i⟩
  | cell i T =>
    simp only [one2] at hv
    split at hv
    · rename_i c hc
      split at hv
      · rename_i k hk
        split at hv
        · rename_i o ho
          split at hv
          · rename_i v' hl
            simp at hv; subst hv
            have hci := hs.tmp i
            change (gV t i).rel ν _ at hci
            rw [hc] at hci
            obtain ⟨⟨y, hy, hr⟩, hok⟩ := run_loadC hΓ w hl trivial ν hs.fit (fun j o' h1 h2 => by rw [hk] at h1; simp at h1 h2; subst h1; subst h2; exact ho)
            refine ⟨y, ?_, hr, hok⟩
            have hp : ∃ ad, c.den ν = .pointer (some ad) := by
              unfold loadC at hl
              cases c <;> first | exact ⟨_, rfl⟩ | (exfalso; simp [C.obj] at hk; done) | (exfalso; revert hl; split <;> (try split) <;> simp <;> (try split) <;> (intros; simp_all; done))
            obtain ⟨ad, had⟩ := hp
            simp only [rv1]
            rw [hci]
            simp only [V1.den, had] at hy ⊢
            simp only [asAddr, Sem.run_bind, Sem.run_pure, Result.andThen_ok]
            simpa [Instr.loadAt, Instr.sureAddr] using hy
          · cases hv
        · cases hv
      · cases hv
    · cases hv

theorem ones2_spec : ∀ {rs : List RV} {l : List V}, ones2 Γ t h rs = some l → ∃ ys, (rvs a.tmps rs).run X.P w = .ok ys w ∧ ys.length = l.length ∧ ∀ (i : Nat) (v : V), l[i]? = some v → ∃ y, ys[i]? = some y ∧ v.rel ν y ∧ v.ok (dom (gH h))
  | [], l, hl => by simp [ones2] at hl; subst hl; exact ⟨[], rfl, rfl, fun i v hi => by simp at hi⟩
  | r :: rs, l, hl => by
    simp only [ones2] at hl
    split at hl
    · rename_i v hv
      split at hl
      · rename_i l' hl'
        simp at hl; subst hl
        obtain ⟨y, h1, h2, h3⟩ := one2_spec hΓ hs hv
        obtain ⟨ys, g1, g2, g3⟩ := ones2_spec hl'
        refine ⟨y :: ys, ?_, by simp [g2], fun i v' hi => ?_⟩
        · simp only [rvs, Sem.run_bind, h1, Result.andThen_ok, g1, Sem.run_pure]
        · cases i with
          | zero => simp at hi; subst hi; exact ⟨y, rfl, h2, h3⟩
          | succ i => exact g3 i v' (by simpa using hi)
      · cases hl
    · cases hl
omit hΓ hs in
theorem tupV_spec {D : Nat → Prop} {l : List V} {ys : List Value} (hlen : ys.length = l.length) (h : ∀ (i : Nat) (v : V), l[i]? = some v → ∃ y, ys[i]? = some y ∧ v.rel ν y ∧ v.ok D) : (tupV l).rel ν (.tuple ys.toArray) ∧ (tupV l).ok D := by
  unfold tupV
  split
  · rename_i xs hxs
    have hm := v1s_map hxs
    subst hm
    have hy : ys = xs.map (V1.den ν) := by
      apply List.ext_getElem?
      intro i
      rcases Nat.lt_or_ge i xs.length with hi | hi
      · obtain ⟨y, h1, h2, _⟩ := h i (.v xs[i]) (by simp [hi])
        rw [h1]
        simp only [V.rel] at h2
        simp [hi, h2]
      · simp at hlen
        rw [List.getElem?_eq_none (by omega), List.getElem?_eq_none (by simpa using hi)]
    refine ⟨by simp only [V.rel]; rw [hy], fun x hx => ?_⟩
    obtain ⟨i, hi, rfl⟩ := List.mem_iff_getElem.1 hx
    obtain ⟨_, _, _, h3⟩ := h i (.v xs[i]) (by simp [hi])
    exact h3
  · exact ⟨trivial, trivial⟩
theorem ret2_spec {rs : List RV} {v : V} (hv : ret2 Γ rs t h = some v) : ∃ y, (resS rs a.tmps).run X.P w = .ok y w ∧ v.rel ν y ∧ v.ok (dom (gH h)) := by
  have many : ∀ {rs : List RV}, (match ones2 Γ t h rs with | some l => some (tupV l) | none => none) = some v → ∃ y, (do let vs ← rvs a.tmps rs; pure (Value.tuple vs.toArray) : Sem Value).run X.P w = .ok y w ∧ v.rel ν y ∧ v.ok (dom (gH h)) := by
    intro rs hv
    split at hv
    · rename_i l hl
      simp at hv; subst hv
      obtain ⟨ys, g1, g2, g3⟩ := ones2_spec hΓ hs hl
      obtain ⟨k1, k2⟩ := tupV_spec g2 g3
      exact ⟨_, by simp only [Sem.run_bind, g1, Result.andThen_ok, Sem.run_pure], k1, k2⟩
    · cases hv
  unfold ret2 at hv
  unfold resS
  match rs, hv with
  | [r], hv => exact one2_spec hΓ hs hv
  | [], hv => exact many hv
  | _ :: _ :: _, hv => exact many hv
end

theorem meets_of_run2 {P : Program} {Γ : Tab} {E : Env} (hΓ : Γ.Ok P) (hE : EnvOk P E) (hm : P.follows .mixedOrders = true) {f : Nat} {fn : Func} {code : Code} {nt : Nat} (rs : List RV) {ctr : Ctr} (hfn : P.funcs[f]? = some fn) (hb : fn.body = some code) (hnt : fn.ntmps = nt)
    (hcall : ∀ args w, (callFunc f args).run P w = .ok (.enter f args) w) (hres : ∀ tmps w, (results fn tmps).run P w = (resS rs tmps).run P w)
    (h : ∀ args objs r, ctr args objs = some r → AllP r.cs → Nat.ble (lenL args) nt = true ∧ run Γ E (lenL objs) code ⟨startT args nt, objs⟩ True (retK2 Γ rs objs r)) : Meets P f ctr := by
  refine ⟨hcall, fun args objs r hr hcs ν w F hargs => ?_⟩
  obtain ⟨hle, hrun⟩ := h args objs r hr hcs
  rw [Nat.ble_eq, lenL_eq] at hle
  rw [lenL_eq] at hrun
  obtain ⟨hT1, hT2⟩ := startT_spec hle
  refine calls_of_wp hfn hb ?_
  let X : Ctx := ⟨P, w, ownedBlk ν (hpL objs), objs.length, ν, nt⟩
  have fin : ∀ (s : LS) (a : Act) (w' : World), fin2 Γ rs objs r s → Sat X s.as a w' → ∃ y ν', (results fn a.tmps).run P w' = .ok y w' ∧ a.defers = [] ∧ (∀ i, i < objs.length → ν' i = ν i) ∧ FitH ν' (outH objs r) w' ∧ r.ret.rel ν' y ∧ r.ret.ok (dom (outH objs r)) ∧
      Fr (ownedBlk ν (hpL objs)) w w' ∧ ∀ i o, outH objs r i = some o → o.owns (ν' i) → ownedBlk ν (hpL objs) (ν' i).blk ∨ w.heap.size ≤ (ν' i).blk := by
    intro s a w' hf hs
    obtain ⟨t, hh⟩ := s
    unfold fin2 at hf
    dsimp only at hf
    split at hf
    · rename_i v hv
      rw [fV_eq] at hf
      obtain ⟨hk, hW⟩ := hf
      rw [lenL_eq] at hk hW
      obtain ⟨ν1, hs⟩ := hs
      obtain ⟨y, hy, r1, r2⟩ := ret2_spec (X := X) hΓ hs hv
      have hout : gH (updO r.turn (appO objs r.new)) = outH objs r := by
        rw [appO_eq]
        obtain ⟨_, h2⟩ := updO_spec (l := objs ++ r.new) hk (by simp)
        rw [h2, gH_hpL]; rfl
      let X' : Ctx := { X with nt := 1 }
      have hs' : Sat X' (LS.mk [v] hh).as ⟨#[y], []⟩ w' := by
        refine ⟨ν1, hs.old, rfl, rfl, fun t => ?_, fun t => ?_, hs.fit, hs.fr, hs.inM, hs.mdom⟩
        · cases t with
          | zero => exact r1
          | succ t => simp [LS.as, gV, V.rel]
        · cases t with
          | zero => exact r2
          | succ t => simp [LS.as, gV, V.ok]
      obtain ⟨⟨ν2, hs2⟩, _⟩ := hW.sat (X := X') hs'
      have hfit := hs2.fit
      have htmp := hs2.tmp 0
      have htok := hs2.tok 0
      have hinM := hs2.inM
      change FitH ν2 (gH (updO r.turn (appO objs r.new))) w' at hfit
      change r.ret.rel ν2 y at htmp
      change r.ret.ok (dom (gH (updO r.turn (appO objs r.new)))) at htok
      change ∀ i o, gH (updO r.turn (appO objs r.new)) i = some o → _ at hinM
      rw [hout] at hfit htok hinM
      exact ⟨_, ν2, (hres _ _).trans hy, hs.hdef, hs2.old, hfit, htmp, htok, hs.fr, hinM⟩
    · cases hf
  have hK : KOk X (retK2 Γ rs objs r) (bodyPost P fn fun e w' => ∃ y ν', e = .returned y ∧ (∀ i, i < objs.length → ν' i = ν i) ∧ FitH ν' (outH objs r) w' ∧ r.ret.rel ν' y ∧ r.ret.ok (dom (outH objs r)) ∧
      Fr (ownedBlk ν (hpL objs)) w w' ∧ ∀ i o, outH objs r i = some o → o.owns (ν' i) → ownedBlk ν (hpL objs) (ν' i).blk ∨ w.heap.size ≤ (ν' i).blk) := by
    refine ⟨fun s c _ h => ⟨h.1, fun a w' hs => ?_⟩, fun _ _ _ _ h => h.elim, fun s c _ h => ⟨h.1, fun a w' hs => ?_⟩⟩
    · obtain ⟨y, ν', h1, h2, h3⟩ := fin s a w' h.2 hs
      exact ⟨h2, y, h1, y, ν', rfl, h3⟩
    · obtain ⟨y, ν', h1, h2, h3⟩ := fin s a w' h.2 hs
      exact ⟨h2, y, h1, y, ν', rfl, h3⟩
  refine (run_ok (X := X) hΓ hE hm code _ True _ _ hT1 hrun hK).2 _ w ⟨ν, fun _ _ => rfl, rfl, ?_, fun t => ?_, fun t => ?_, ?_, Fr.refl _ _, fun i o hi ho => ?_, fun i hi => ?_⟩
  · simp [hnt, X]; omega
  · show (gV (startT args nt) t).rel ν _
    rw [hT2]
    split
    · rename_i ht
      simp only [V.rel]
      rw [Array.getD_eq_getD_getElem?, Array.getElem?_append_left (by simpa using ht)]
      simp [ht]
    · trivial
  · show (gV (startT args nt) t).ok _
    rw [hT2]
    split
    · rename_i ht
      show V1.ok (dom (gH objs)) _
      rw [gH_hpL]
      exact hargs _ (List.getElem_mem _)
    · trivial
  · show FitH ν (gH objs) w
    rw [gH_hpL]; exact F
  · change gH objs i = some o at hi
    rw [gH_hpL] at hi
    exact .inl ⟨i, o, hi, ho, rfl⟩
  · show dom (gH objs) i
    rw [gH_hpL]; exact dom_hpL.2 hi
end Go.Mx
