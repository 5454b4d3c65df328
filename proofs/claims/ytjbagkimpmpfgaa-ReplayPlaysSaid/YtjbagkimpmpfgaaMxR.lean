/- The engine, part R: the run of a function's code, and what follows from it. Conditions: those that each lists. -/
import Derived.Test.YtjbagkimpmpfgaaMxI
import Derived.Deep.LoopGhost
namespace Go.Mx

def effK (f : Option Eff) (k : List Prop → V → List (Nat × MObj) → List (Nat × MObj) → List Nat → Prop) : Prop :=
  match f with
  | none => False
  | some ⟨a, b, c, d, e⟩ => k a b c d e
def geAll (n : Nat) : List Nat → Bool
  | [] => true
  | k :: l => bif Nat.ble n k then geAll n l else false
def splitK (nk : Bool) (v : V) (c : Prop) (k : V → Prop → Prop) : Prop :=
  match v with
  | .v (.one (.bool false b)) => (match nk with
    | true => c ∧ (b = true → k (.v (.one (.bool true true))) True) ∧ (b = false → k (.v (.one (.bool true false))) True)
    | false => k (.v (.one (.bool false b))) c)
  | v => k v c
def natK (n : Nat) (k : Nat → Prop) : Prop := match n with | 0 => k 0 | m + 1 => k (m + 1)
def natsK : List Nat → (List Nat → Prop) → Prop
  | [], k => k []
  | n :: l, k => natK n fun n => natsK l fun l => k (n :: l)
def keys {α : Type} : List (Nat × α) → List Nat
  | [] => []
  | p :: l => p.1 :: keys l
def sumK (draw : Bool) (d : Option Nat) (slots : List (Nat × V)) (foot : List (Nat × MObj)) (fresh : List Nat) (upd : List (Nat × MObj)) (acc : List Sum) (k : List Sum → Prop) : Prop :=
  match draw with
  | false => k acc
  | true => natsK (keys slots) fun a => natsK (keys foot) fun b => natsK fresh fun e => natsK (keys upd) fun u => k (⟨d, a, b, e, u⟩ :: acc)
def dstAt : List Oper → Nat → Option Nat
  | [], _ => none
  | o :: _, 0 => o.dst
  | _ :: l, n + 1 => dstAt l n
def guardK (all : List Oper) (g : Option (Nat × Bool)) (t : List V) (kT kF : List (Nat × V) → Prop) : Prop :=
  match g with
  | none => kT []
  | some (j, b) => (match dstAt all j with
    | none => False
    | some d => (match gV t d with
      | .v (.one (.bool true x)) => (match x, b with
        | true, true => kT [(d, .v (.one (.bool true true)))]
        | false, false => kT [(d, .v (.one (.bool true false)))]
        | true, false => kF [(d, .v (.one (.bool true true)))]
        | false, true => kF [(d, .v (.one (.bool true false)))])
      | .tup [] => kF [(d, .tup [])]
      | _ => False))
def onGuard (all : List Oper) (d : Nat) (g : Option (Nat × Bool)) : Bool := match g with | none => false | some (j, _) => (match dstAt all j with | none => false | some e => Nat.beq e d)
def onPick (d : Nat) (o : Op) : Bool := match o with | .pick (.tmp t) _ _ => Nat.beq t d | _ => false
def needL (all : List Oper) (d : Nat) : List Oper → Bool
  | [] => false
  | o :: l => bif onGuard all d o.guard then true else (bif onPick d o.op then true else needL all d l)
def needK (all rest : List Oper) (d : Option Nat) : Bool := match d with | none => false | some d => needL all d rest

section
variable (Γ : Tab) (E : Env)

def opE (op : Op) (vs : List V) (n : Nat) (hp : Hp) : Option Eff :=
  match op with
  | .call ⟨.value _, _, _⟩ => callC E vs n hp
  | op => exec2 Γ op vs n hp

def opK (draw : Bool) (o : Oper) (slots : List (Nat × V)) (nk : Bool) (s : LS) (c : Prop) (acc : List Sum) (k : LS → Prop → List Sum → Prop) : Prop :=
  match s with
  | ⟨t0, h0⟩ => litK (lenL h0) fun n0 => effK (opE Γ E o.op (vsOf (gV t0) o.op) n0 (gH h0)) fun cs v foot upd fresh =>
    match geAll n0 fresh with
    | false => False
    | true => addC cs c fun c => fV v fun v => splitK nk v c fun v c => setDK t0 o.dst v fun t => updK upd h0 fun h => sumK draw o.dst slots foot fresh upd acc fun acc => k ⟨t, h⟩ c acc

def runOps (draw : Bool) (all : List Oper) : List Oper → LS → Prop → List Sum → (LS → Prop → List Sum → Prop) → Prop
  | [], s, c, acc, k => k s c acc
  | o :: rest, ⟨t0, h0⟩, c, acc, k => guardK all o.guard t0
      (fun sl => opK Γ E draw o (slotsOf (gV t0) o.op.operands.toList ++ sl) (needK all rest o.dst) ⟨t0, h0⟩ c acc fun s c acc => runOps draw all rest s c acc k)
      (fun sl => setDK t0 o.dst (.tup []) fun t => sumK draw o.dst sl [] [] [] acc fun acc => runOps draw all rest ⟨t, h0⟩ c acc k)

structure KK where
  kn : LS → Prop → Prop
  ke : Nat → LS → Prop → Prop
  kr : LS → Prop → Prop

def condK (t : List V) (h : List MObj) (x : Operand) (c : Prop) (kT kF : LS → Prop → Prop) : Prop :=
  match x with
  | .tmp i => (match gV t i with
    | .v (.one (.bool true q)) => (match q with | true => kT ⟨t, h⟩ c | false => kF ⟨t, h⟩ c)
    | .v (.one (.bool false q)) => c ∧ (q = true → setK t i (.v (.one (.bool true true))) fun t => kT ⟨t, h⟩ True) ∧ (q = false → setK t i (.v (.one (.bool true false))) fun t => kF ⟨t, h⟩ True)
    | _ => False)
  | .const (.bool true) => kT ⟨t, h⟩ c
  | .const (.bool false) => kF ⟨t, h⟩ c
  | _ => False

def loopOk (m : Nat) (body : LS → Prop → KK → Prop) (s : LS) (K : KK) : Prop :=
  ∃ (ι : Type) (I : ι → LS) (μ : ι → Nat) (j : ι), Wk m s (I j) ∧ (∀ j, (I j).tmp.length = s.tmp.length) ∧ ∀ j, body (I j) True ⟨fun s c => c ∧ ∃ j', μ j' < μ j ∧ Wk m s (I j'), K.ke, K.kr⟩

def run (m : Nat) : Code → LS → Prop → KK → Prop
  | .skip, s, c, K => K.kn s c
  | .region _ ops draw, s, c, K => (match draw with
    | true => runOps Γ E true ops.toList ops.toList s c [] fun s c acc => K.kn s (traceB ops.toList acc.reverse = true ∧ c)
    | false => runOps Γ E false ops.toList ops.toList s c [] fun s c _ => K.kn s c)
  | .seq a b, s, c, K => run m a s c ⟨fun s c => run m b s c K, K.ke, K.kr⟩
  | .cond x a b, ⟨t, h⟩, c, K => condK t h x c (fun s c => run m a s c K) (fun s c => run m b s c K)
  | .block id b, s, c, K => run m b s c ⟨K.kn, fun i s c => (match Nat.beq i id with | true => K.kn s c | false => K.ke i s c), K.kr⟩
  | .loop b, s, c, K => c ∧ loopOk m (run m b) s K
  | .exit id, s, c, K => K.ke id s c
  | .ret, s, c, K => K.kr s c
  | _, _, _, _ => False
end

theorem effK_spec {f : Option Eff} {k} (h : effK f k) : ∃ e, f = some e ∧ k e.cs e.v e.foot e.upd e.fresh := by
  unfold effK at h
  split at h
  · cases h
  · exact ⟨_, rfl, h⟩
theorem geAll_spec {n : Nat} : ∀ {l : List Nat}, geAll n l = true → ∀ k ∈ l, n ≤ k
  | [], _, k, hk => by cases hk
  | j :: l, h, k, hk => by
    obtain ⟨h1, h2⟩ := bif_and h
    rcases List.mem_cons.1 hk with rfl | hk
    · rwa [Nat.ble_eq] at h1
    · exact geAll_spec h2 k hk
theorem natK_eq (n : Nat) (k : Nat → Prop) : natK n k = k n := by cases n <;> rfl
theorem natsK_eq : ∀ (l : List Nat) (k : List Nat → Prop), natsK l k = k l
  | [], _ => rfl
  | n :: l, k => by simp only [natsK, natK_eq]; rw [natsK_eq l]
theorem keys_eq {α : Type} : ∀ l : List (Nat × α), keys l = l.map (·.1)
  | [] => rfl
  | p :: l => by simp [keys, keys_eq l]
theorem sumK_spec {draw : Bool} {d : Option Nat} {slots : List (Nat × V)} {foot : List (Nat × MObj)} {fresh : List Nat} {upd : List (Nat × MObj)} {acc : List Sum} {k : List Sum → Prop} (v : V) (h : sumK draw d slots foot fresh upd acc k) :
    ∃ acc', k acc' ∧ (draw = true → acc' = (Rec.mk (V := V) (O := MObj) d slots foot fresh v upd).sum :: acc) := by
  cases draw with
  | false => exact ⟨acc, h, fun h => by cases h⟩
  | true =>
    simp only [sumK, natsK_eq, keys_eq] at h
    exact ⟨_, h, fun _ => rfl⟩
theorem dstAt_eq : ∀ {l : List Oper} {j : Nat}, dstAt l j = (l[j]?).bind (·.dst)
  | [], _ => by simp [dstAt]
  | o :: l, 0 => by simp [dstAt]
  | o :: l, j + 1 => by simp [dstAt, dstAt_eq (l := l)]

section
variable {X : Ctx} {Q : Exit → Act → World → Prop} {Γ : Tab} {E : Env} (hΓ : Γ.Ok X.P) (hE : EnvOk X.P E)

theorem Sat.weak {s s' : St} {a : Act} {w : World} (h : Sat X s a w) (hhp : s'.hp = s.hp) (ht : ∀ t ν y, (s.tmp t).rel ν y → (s'.tmp t).rel ν y) (hok : ∀ t D, (s.tmp t).ok D → (s'.tmp t).ok D) : Sat X s' a w := by
  obtain ⟨ν, h⟩ := h
  obtain ⟨tmp, hp⟩ := s'
  simp only at hhp; subst hhp
  exact ⟨ν, h.old, h.hdef, h.size, fun t => ht t _ _ (h.tmp t), fun t => hok t _ (h.tok t), h.fit, h.fr, h.inM, h.mdom⟩

theorem wpOk_val {o : Oper} {r : Rec V MObj} {v' : V} (h : WpOk X Q o r) (hr : ∀ ν y, r.v.rel ν y → v'.rel ν y) (hok : ∀ D, r.v.ok D → v'.ok D) : WpOk X Q o { r with v := v' } := by
  intro s a w K hv hs hK
  refine h s a w K hv hs (fun a' w' hs' => hK a' w' (Sat.weak hs' rfl (fun t ν y => ?_) (fun t D => ?_)))
  · simp only [Rec.app, putF]
    split
    · exact hr ν y
    · exact id
  · simp only [Rec.app, putF]
    split
    · exact hok D
    · exact id

theorem splitK_spec {nk : Bool} {v : V} {c : Prop} {k : V → Prop → Prop} (h : splitK nk v c k) : ∃ v' c', k v' c' ∧ (c' → c) ∧ (∀ ν y, v.rel ν y → v'.rel ν y) ∧ ∀ D, v.ok D → v'.ok D := by
  unfold splitK at h
  split at h
  · rename_i b
    split at h
    · obtain ⟨h1, h2, h3⟩ := h
      cases b with
      | true => exact ⟨_, _, h2 rfl, fun _ => h1, fun _ _ h => h, fun _ h => h⟩
      | false => exact ⟨_, _, h3 rfl, fun _ => h1, fun _ _ h => h, fun _ h => h⟩
    · exact ⟨_, _, h, id, fun _ _ h => h, fun _ h => h⟩
  · exact ⟨_, _, h, id, fun _ _ h => h, fun _ h => h⟩

include hΓ hE in
theorem opE_ok {o : Oper} {g : Nat → V} {hp : Hp} {n : Nat} {f : Eff} {slots : List (Nat × V)} (h : opE Γ E o.op (vsOf g o.op) n hp = some f) (hc : AllP f.cs) (hdt : ∀ x, o.dst = some x → x < X.nt)
    (hsl : ∀ s : St, (f.toR o.dst slots).valid s → ∀ x ∈ o.op.operands.toList, ov s.tmp x = ov g x) : WpOk X Q o (f.toR o.dst slots) := by
  unfold opE at h
  split at h
  · rename_i fv a t ho
    exact call_ok hE ho rfl h hc hdt hsl
  · exact exec2_ok hΓ h hc hdt hsl
theorem opE_foot {op : Op} {vs : List V} {hp : Hp} {n : Nat} {f : Eff} (h : opE Γ E op vs n hp = some f) : Foot hp f := by
  unfold opE at h
  split at h
  · exact callC_foot h
  · exact exec2_foot h

include hΓ hE in
theorem opK_spec {draw : Bool} {o : Oper} {sl : List (Nat × V)} {nk : Bool} {s : LS} {c : Prop} {acc : List Sum} {k : LS → Prop → List Sum → Prop} (hn : s.tmp.length = X.nt) (hsl : ∀ p ∈ sl, gV s.tmp p.1 = p.2)
    (h : opK Γ E draw o (slotsOf (gV s.tmp) o.op.operands.toList ++ sl) nk s c acc k) :
    ∃ (r : Rec V MObj) (s' : LS) (c' : Prop) (acc' : List Sum), k s' c' acc' ∧ s'.tmp.length = X.nt ∧ r.valid s.as ∧ r.app s.as = s'.as ∧ (draw = true → acc' = r.sum :: acc) ∧ (∀ p ∈ sl, p ∈ r.slots) ∧ (c' → c ∧ WpOk X Q o r) := by
  obtain ⟨t0, h0⟩ := s
  unfold opK at h
  dsimp only at h
  rw [litK_eq] at h
  obtain ⟨f, hf, h⟩ := effK_spec h
  split at h
  · cases h
  · rename_i hge
    obtain ⟨c1, h, hc1⟩ := addC_spec h
    rw [fV_eq] at h
    obtain ⟨v', c2, h, hc2, hv1, hv2⟩ := splitK_spec h
    obtain ⟨t, ht1, ht2, ht3, h⟩ := setDK_spec h
    obtain ⟨hp, hh, h⟩ := updK_spec h
    obtain ⟨acc', h, hacc⟩ := sumK_spec v' h
    have hslots : ∀ p ∈ slotsOf (gV t0) o.op.operands.toList, gV t0 p.1 = p.2 := by
      have : ∀ (l : List Operand), ∀ p ∈ slotsOf (gV t0) l, gV t0 p.1 = p.2 := by
        intro l
        induction l with
        | nil => intro p hp; cases hp
        | cons x l ih =>
          intro p hp
          cases x with
          | tmp i =>
            rcases List.mem_cons.1 hp with rfl | hp
            · rfl
            · exact ih p hp
          | _ => exact ih p hp
      exact this _
    refine ⟨⟨o.dst, slotsOf (gV t0) o.op.operands.toList ++ sl, f.foot, f.fresh, v', f.upd⟩, ⟨t, hp⟩, c2, acc', h, ht1.trans hn, ⟨fun p hp => ?_, opE_foot hf, fun q hq => ?_⟩, ?_, hacc, fun p hp => List.mem_append_right _ hp, fun h2 => ?_⟩
    · rcases List.mem_append.1 hp with hp | hp
      · exact hslots p hp
      · exact hsl p hp
    · have := geAll_spec hge q hq
      rw [lenL_eq] at this
      show gH h0 q = none
      rw [gH_eq]; simpa using this
    · show (⟨putF o.dst v' (gV t0), updF f.upd (gH h0)⟩ : St) = ⟨gV t, gH hp⟩
      rw [ht2, hh]
    · obtain ⟨g1, g2⟩ := hc1 (hc2 h2)
      refine ⟨g2, ?_⟩
      have := opE_ok (Q := Q) hΓ hE (slots := slotsOf (gV t0) o.op.operands.toList ++ sl) hf g1 (fun x hx => by rw [← hn]; exact ht3 x hx) (fun s' hv x hx => slotsOf_spec (fun p hp => hv.1 p (by simp only [Eff.toR]; exact List.mem_append_left _ hp)) x hx)
      exact wpOk_val this hv1 hv2

theorem guardK_spec {all : List Oper} {g : Option (Nat × Bool)} {t : List V} {kT kF : List (Nat × V) → Prop} (h : guardK all g t kT kF) :
    (g = none ∧ kT []) ∨ ∃ j b d, g = some (j, b) ∧ (all[j]?).bind (·.dst) = some d ∧ ((∃ x, gV t d = .v (.one (.bool true x)) ∧ x = b ∧ kT [(d, .v (.one (.bool true x)))]) ∨ (∃ v, gV t d = v ∧ NotWanted b v ∧ kF [(d, v)])) := by
  unfold guardK at h
  split at h
  · exact .inl ⟨rfl, h⟩
  · rename_i j b
    split at h
    · cases h
    · rename_i d hd
      rw [dstAt_eq] at hd
      split at h
      · rename_i x hx
        right
        split at h
        · exact ⟨j, _, d, rfl, hd, .inl ⟨_, hx, rfl, h⟩⟩
        · exact ⟨j, _, d, rfl, hd, .inl ⟨_, hx, rfl, h⟩⟩
        · exact ⟨j, _, d, rfl, hd, .inr ⟨_, hx, .inl ⟨_, _, rfl, by simp⟩, h⟩⟩
        · exact ⟨j, _, d, rfl, hd, .inr ⟨_, hx, .inl ⟨_, _, rfl, by simp⟩, h⟩⟩
      · rename_i hx
        exact .inr ⟨j, _, d, rfl, hd, .inr ⟨_, hx, .inr rfl, h⟩⟩
      · cases h

include hΓ hE in
theorem runOps_spec {draw : Bool} {all : List Oper} {k : LS → Prop → List Sum → Prop} : ∀ (l : List Oper) (s : LS) (c : Prop) (acc : List Sum), s.tmp.length = X.nt → runOps Γ E draw all l s c acc k →
    ∃ (recs : List (Rec V MObj)) (s' : LS) (c' : Prop) (acc' : List Sum), recs.length = l.length ∧ s'.tmp.length = X.nt ∧ k s' c' acc' ∧ (draw = true → acc' = (recs.map Rec.sum).reverse ++ acc) ∧ (∀ i, vals (nums i recs) s.as) ∧
      (∀ i, fin (nums i recs) s.as = s'.as) ∧ (c' → c ∧ ∀ (j : Nat) (o : Oper) (r : Rec V MObj), l[j]? = some o → recs[j]? = some r → StepOk X.P all.toArray (Sat X) Q o r)
  | [], s, c, acc, hn, h => ⟨[], s, c, acc, rfl, hn, h, fun _ => rfl, fun _ => trivial, fun _ => rfl, fun h => ⟨h, fun j o r h => by simp at h⟩⟩
  | o :: l, ⟨t0, h0⟩, c, acc, hn, h => by
    let s : LS := ⟨t0, h0⟩
    have join : ∀ {r : Rec V MObj} {s1 : LS} {c1 : Prop} {acc1 : List Sum}, runOps Γ E draw all l s1 c1 acc1 k → s1.tmp.length = X.nt → r.valid s.as → r.app s.as = s1.as → (draw = true → acc1 = r.sum :: acc) → (c1 → c ∧ StepOk X.P all.toArray (Sat X) Q o r) →
        ∃ (recs : List (Rec V MObj)) (s' : LS) (c' : Prop) (acc' : List Sum), recs.length = (o :: l).length ∧ s'.tmp.length = X.nt ∧ k s' c' acc' ∧ (draw = true → acc' = (recs.map Rec.sum).reverse ++ acc) ∧ (∀ i, vals (nums i recs) s.as) ∧
          (∀ i, fin (nums i recs) s.as = s'.as) ∧ (c' → c ∧ ∀ (j : Nat) (o' : Oper) (r : Rec V MObj), (o :: l)[j]? = some o' → recs[j]? = some r → StepOk X.P all.toArray (Sat X) Q o' r) := by
      intro r s1 c1 acc1 hr hn1 hv ha hs hc
      obtain ⟨recs, s', c', acc', g1, g2, g3, g4, g5, g6, g7⟩ := runOps_spec l s1 c1 acc1 hn1 hr
      refine ⟨r :: recs, s', c', acc', by simp [g1], g2, g3, fun hd => ?_, fun i => ⟨hv, ?_⟩, fun i => ?_, fun h' => ?_⟩
      · rw [g4 hd, hs hd]; simp
      · rw [ha]; exact g5 (i + 1)
      · show fin (nums (i + 1) recs) (r.app s.as) = s'.as
        rw [ha]; exact g6 (i + 1)
      · obtain ⟨k1, k2⟩ := g7 h'
        obtain ⟨k3, k4⟩ := hc k1
        refine ⟨k3, fun j o' r' hj hr' => ?_⟩
        cases j with
        | zero => simp at hj hr'; subst hj; subst hr'; exact k4
        | succ j => exact k2 j o' r' (by simpa using hj) (by simpa using hr')
    simp only [runOps] at h
    rcases guardK_spec h with ⟨hg, h⟩ | ⟨j, b, d, hg, hd, ⟨x, hx, hxb, h⟩ | ⟨v, hx, hxb, h⟩⟩
    · obtain ⟨r, s1, c1, acc1, h, g1, g2, g3, g4, g5, g6⟩ := opK_spec (Q := Q) hΓ hE hn (fun p hp => by cases hp) h
      exact join h g1 g2 g3 g4 (fun hc => ⟨(g6 hc).1, stepOk_plain hg (g6 hc).2⟩)
    · obtain ⟨r, s1, c1, acc1, h, g1, g2, g3, g4, g5, g6⟩ := opK_spec (Q := Q) hΓ hE hn (fun p hp => by simp at hp; subst hp; exact hx) h
      refine join h g1 g2 g3 g4 (fun hc => ⟨(g6 hc).1, ?_⟩)
      subst hxb
      exact stepOk_wanted (kn := true) hg (by simpa using hd) (g5 _ (by simp)) (g6 hc).2
    · obtain ⟨t, ht1, ht2, ht3, h⟩ := setDK_spec h
      obtain ⟨acc', h, hacc⟩ := sumK_spec (.tup []) h
      refine join (r := ⟨o.dst, [(d, v)], [], [], .tup [], []⟩) h (ht1.trans hn) ⟨fun p hp => by simp at hp; subst hp; exact hx, fun p hp => by (cases hp), fun p hp => by (cases hp)⟩ ?_ hacc (fun hc => ⟨hc, ?_⟩)
      · show (⟨putF o.dst (.tup []) (gV s.tmp), updF [] (gH s.hp)⟩ : St) = ⟨gV t, gH s.hp⟩
        rw [ht2]; rfl
      · exact stepOk_unwanted hg (by simpa using hd) (by simp) hxb rfl (fun y hy => by rw [← hn]; exact ht3 y hy) rfl rfl

theorem wpOps_trace {P : Program} {ops : Array Oper} : ∀ (L : List (Nat × Rec V MObj)) (s : St) (a : Act) (w : World), (∀ p ∈ L, ∃ o, ops[p.1]? = some o ∧ StepOk P ops (Sat X) Q o p.2) → vals L s → Sat X s a w → (∀ a w, Sat X (fin L s) a w → Q .normal a w) →
    wpOps P ops Q (L.map (·.1)) a w
  | [], s, a, w, _, _, hs, hQ => hQ a w hs
  | p :: L, s, a, w, hL, hv, hs, hQ => by
    obtain ⟨o, ho, hst⟩ := hL p (by simp)
    have := hst s a w (wpOps P ops Q (L.map (·.1))) hv.1 hs (fun a' w' hs' => wpOps_trace L _ a' w' (fun q hq => hL q (List.mem_cons_of_mem _ hq)) hv.2 hs' hQ)
    simp only [List.map_cons, wpOps, ho]
    split
    · rename_i hw; rw [if_pos hw] at this; exact .inl this
    · rename_i hw; rw [if_neg hw] at this; exact this

structure KOk (X : Ctx) (K : KK) (Q : Exit → Act → World → Prop) : Prop where
  n : ∀ s c, s.tmp.length = X.nt → K.kn s c → c ∧ ∀ a w, Sat X s.as a w → Q .normal a w
  e : ∀ i s c, s.tmp.length = X.nt → K.ke i s c → c ∧ ∀ a w, Sat X s.as a w → Q (.exit i) a w
  r : ∀ s c, s.tmp.length = X.nt → K.kr s c → c ∧ ∀ a w, Sat X s.as a w → Q .ret a w

theorem condK_spec {t : List V} {h : List MObj} {x : Operand} {c : Prop} {kT kF : LS → Prop → Prop} (hn : t.length = X.nt) (hh : condK t h x c kT kF) :
    ∃ (s' : LS) (c' : Prop) (b : Bool), s'.tmp.length = X.nt ∧ (c' → c) ∧ (if b then kT s' c' else kF s' c') ∧ (∀ a w, Sat X (LS.mk t h).as a w → a.eval x = .bool b ∧ Sat X s'.as a w) ∧ ((if b then kT s' c' else kF s' c') → c ∨ c = c') := by
  unfold condK at hh
  split at hh
  · rename_i i
    split at hh
    · rename_i q hq
      have ev : ∀ a w, Sat X (LS.mk t h).as a w → a.eval (.tmp i) = .bool q := fun a w hs => by
        obtain ⟨ν, hs⟩ := hs
        have := hs.tmp i
        rw [show (LS.mk t h).as.tmp i = _ from hq] at this
        exact this
      split at hh
      · exact ⟨⟨t, h⟩, c, true, hn, id, by simpa using hh, fun a w hs => ⟨ev a w hs, hs⟩, fun _ => .inr rfl⟩
      · exact ⟨⟨t, h⟩, c, false, hn, id, by simpa using hh, fun a w hs => ⟨ev a w hs, hs⟩, fun _ => .inr rfl⟩
    · rename_i q hq
      obtain ⟨h1, h2, h3⟩ := hh
      have ev : ∀ a w, Sat X (LS.mk t h).as a w → a.eval (.tmp i) = .bool q := fun a w hs => by
        obtain ⟨ν, hs⟩ := hs
        have := hs.tmp i
        rw [show (LS.mk t h).as.tmp i = _ from hq] at this
        exact this
      have wk : ∀ (hi : i < t.length) a w, Sat X (LS.mk t h).as a w → Sat X (LS.mk (t.set i (.v (.one (.bool true q)))) h).as a w := fun hi a w hs => by
        refine Sat.weak hs rfl (fun k ν y hr => ?_) (fun k D hr => ?_)
        · simp only [LS.as] at hr ⊢
          rw [gV_set hi]
          unfold putF
          by_cases hk : (some i : Option Nat) = some k
          · rw [if_pos hk]
            have : i = k := by simpa using hk
            subst this
            rw [hq] at hr; exact hr
          · rw [if_neg hk]; exact hr
        · simp only [LS.as] at hr ⊢
          rw [gV_set hi]
          unfold putF
          by_cases hk : (some i : Option Nat) = some k
          · rw [if_pos hk]; trivial
          · rw [if_neg hk]; exact hr
      cases q with
      | true =>
        obtain ⟨g1, g2⟩ := setK_spec (h2 rfl)
        exact ⟨_, True, true, by simpa using hn, fun _ => h1, by simpa using g2, fun a w hs => ⟨ev a w hs, wk g1 a w hs⟩, fun _ => .inl h1⟩
      | false =>
        obtain ⟨g1, g2⟩ := setK_spec (h3 rfl)
        exact ⟨_, True, false, by simpa using hn, fun _ => h1, by simpa using g2, fun a w hs => ⟨ev a w hs, wk g1 a w hs⟩, fun _ => .inl h1⟩
    · cases hh
  · exact ⟨⟨t, h⟩, c, true, hn, id, by simpa using hh, fun a w hs => ⟨rfl, hs⟩, fun _ => .inr rfl⟩
  · exact ⟨⟨t, h⟩, c, false, hn, id, by simpa using hh, fun a w hs => ⟨rfl, hs⟩, fun _ => .inr rfl⟩
  · cases hh

include hΓ hE in
theorem run_ok (hm : X.P.follows .mixedOrders = true) : ∀ (code : Code) (s : LS) (c : Prop) (K : KK) (Q : Exit → Act → World → Prop), s.tmp.length = X.nt → run Γ E X.m code s c K → KOk X K Q → c ∧ ∀ a w, Sat X s.as a w → code.wp X.P Q a w := by
  intro code
  induction code with
  | skip =>
    intro s c K Q hn h hK
    obtain ⟨h1, h2⟩ := hK.n s c hn h
    exact ⟨h1, fun a w hs => wp_skip (h2 a w hs)⟩
  | region id ops draw =>
    intro s c K Q hn h hK
    obtain ⟨ops⟩ := ops
    cases draw with
    | true =>
      simp only [run] at h
      obtain ⟨recs, s', c', acc', g1, g2, g3, g4, g5, g6, g7⟩ := runOps_spec (Q := Q) hΓ hE ops s c [] hn h
      obtain ⟨⟨ht, hc'⟩, hq⟩ := hK.n s' _ g2 g3
      obtain ⟨k1, k2⟩ := g7 hc'
      refine ⟨k1, fun a w hs => ?_⟩
      have hs' : Sat X s.as a w.drew := by obtain ⟨ν, hs⟩ := hs; exact ⟨ν, hs.drew⟩
      refine wp_region_trace hm recs g1 (by rw [g4 rfl] at ht; simpa using ht) (fun j o r => k2 j o r) s.as a w hs' (g5 0) (fun a w hs => ?_)
      rw [g6] at hs
      exact hq a w hs
    | false =>
      simp only [run] at h
      obtain ⟨recs, s', c', acc', g1, g2, g3, g4, g5, g6, g7⟩ := runOps_spec (Q := Q) hΓ hE ops s c [] hn h
      obtain ⟨hc', hq⟩ := hK.n s' _ g2 g3
      obtain ⟨k1, k2⟩ := g7 hc'
      refine ⟨k1, fun a w hs => wp_region ?_⟩
      have := wpOps_trace (X := X) (Q := Q) (P := X.P) (ops := ops.toArray) (nums 0 recs) s.as a w (fun p hp => by
        obtain ⟨_, h2⟩ := nums_mem recs 0 p hp
        simp at h2
        have h3 := (List.getElem?_eq_some_iff.1 h2).1
        obtain ⟨o, ho⟩ : ∃ o, ops[p.1]? = some o := ⟨ops[p.1]'(by omega), by simp⟩
        exact ⟨o, by simpa using ho, k2 p.1 o p.2 ho h2⟩) (g5 0) hs (fun a w hs => by rw [g6] at hs; exact hq a w hs)
      rw [nums_map, g1, ← List.range_eq_range'] at this
      simpa using this
  | seq x y ihx ihy =>
    intro s c K Q hn h hK
    simp only [run] at h
    have := ihx s c _ (Exit.then (y.wp X.P Q) Q) hn h ⟨fun s c hn h => ihy s c K Q hn h hK, hK.e, hK.r⟩
    exact ⟨this.1, fun a w hs => wp_seq (this.2 a w hs)⟩
  | cond x a b iha ihb =>
    intro s c K Q hn h hK
    obtain ⟨t0, h0⟩ := s
    simp only [run] at h
    obtain ⟨s', c', q, g1, g2, g3, g4, g5⟩ := condK_spec hn h
    cases q with
    | true =>
      simp at g3
      obtain ⟨k1, k2⟩ := iha s' c' K Q g1 g3 hK
      refine ⟨g2 k1, fun a' w hs => ?_⟩
      obtain ⟨e1, e2⟩ := g4 a' w hs
      exact wp_cond_true e1 (k2 a' w e2)
    | false =>
      simp at g3
      obtain ⟨k1, k2⟩ := ihb s' c' K Q g1 g3 hK
      refine ⟨g2 k1, fun a' w hs => ?_⟩
      obtain ⟨e1, e2⟩ := g4 a' w hs
      exact wp_cond_false e1 (k2 a' w e2)
  | block id b ih =>
    intro s c K Q hn h hK
    simp only [run] at h
    have hk : ∀ i s c, s.tmp.length = X.nt → (match Nat.beq i id with | true => K.kn s c | false => K.ke i s c) → c ∧ ∀ a w, Sat X s.as a w → Exit.inBlock id Q (.exit i) a w := by
      intro i s2 c2 hn2 h2
      simp only [Exit.inBlock]
      cases hb : Nat.beq i id with
      | true =>
        rw [hb] at h2
        have := Nat.eq_of_beq_eq_true hb
        subst this
        simpa using hK.n s2 c2 hn2 h2
      | false =>
        rw [hb] at h2
        have hne : i ≠ id := fun e => by rw [e, Nat.beq_refl] at hb; cases hb
        simpa [hne] using hK.e i s2 c2 hn2 h2
    have := ih s c _ (Exit.inBlock id Q) hn h ⟨hK.n, hk, hK.r⟩
    exact ⟨this.1, fun a w hs => wp_block (this.2 a w hs)⟩
  | loop b ih =>
    intro s c K Q hn h hK
    simp only [run] at h
    obtain ⟨hc, ι, I, μ, j, hW, hlen, hround⟩ := h
    refine ⟨hc, fun a w hs => ?_⟩
    refine wp_loop_ghost (fun n a w => ∃ j, μ j = n ∧ Sat X (I j).as a w) (μ j) ⟨j, rfl, (hW.sat hs).1⟩ (fun n a w hI => ?_)
    obtain ⟨j, rfl, hsj⟩ := hI
    have hnj : (I j).tmp.length = X.nt := (hlen j).trans hn
    refine (ih (I j) True _ (Exit.then (fun a' w' => ∃ n', n' < μ j ∧ ∃ j, μ j = n' ∧ Sat X (I j).as a' w') Q) hnj (hround j) ⟨fun s c hn h => ⟨h.1, fun a w hs => ?_⟩, hK.e, hK.r⟩).2 a w hsj
    obtain ⟨_, j', hj', hW'⟩ := h
    exact ⟨μ j', hj', j', rfl, (hW'.sat hs).1⟩
  | exit id =>
    intro s c K Q hn h hK
    obtain ⟨h1, h2⟩ := hK.e id s c hn h
    exact ⟨h1, fun a w hs => wp_exit (h2 a w hs)⟩
  | ret =>
    intro s c K Q hn h hK
    obtain ⟨h1, h2⟩ := hK.r s c hn h
    exact ⟨h1, fun a w hs => wp_ret (h2 a w hs)⟩
  | _ => intro s c K Q hn h hK; exact h.elim
end
end Go.Mx
