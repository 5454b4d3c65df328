/- The engine, part S: built values, arrays and structs held against each other, lengths, function values. Conditions: those that each lists. -/
import Derived.Test.YtjbagkimpmpfgaaMxQ
namespace Go.Mx

/-! ### Built values -/
def laySegs (b : List Seg) (off size : Nat) (x : V1) : Option (List Prop × List Seg) :=
  match x with
  | .one y => bif Nat.beq size 1 then setP b off y else none
  | .agg q => match putS b off q size with
    | some r => some ([sizeS q = size], r)
    | none => none

theorem spl_get {l m : List Value} {off : Nat} (h : off + m.length ≤ l.length) (j : Nat) : (spl l off m)[j]? = if j < off then l[j]? else if j < off + m.length then m[j - off]? else l[j]? := by
  unfold spl
  have e1 : (l.take off).length = off := by rw [List.length_take]; omega
  rw [List.append_assoc]
  split
  · rw [List.getElem?_append_left (by omega), List.getElem?_take, if_pos (by assumption)]
  · rw [List.getElem?_append_right (by omega), e1]
    split
    · rw [List.getElem?_append_left (by omega)]
    · rw [List.getElem?_append_right (by omega), List.getElem?_drop]
      congr 1; omega
theorem spl_length {l m : List Value} {off : Nat} (h : off + m.length ≤ l.length) : (spl l off m).length = l.length := by
  unfold spl
  simp
  omega
theorem spl_cons {l vs : List Value} {v : Value} {off : Nat} (h : off + (vs.length + 1) ≤ l.length) : spl (l.set off v) (off + 1) vs = spl l off (v :: vs) := by
  apply List.ext_getElem?
  intro j
  rw [spl_get (by simp; omega), spl_get (by simpa using h)]
  simp only [List.length_cons]
  by_cases h1 : j < off
  · rw [if_pos (by omega), if_pos h1, List.getElem?_set_ne (by omega)]
  · rw [if_neg h1]
    by_cases h2 : j = off
    · subst h2
      rw [if_pos (by omega), if_pos (by omega), List.getElem?_set_self (by omega)]
      simp
    · rw [if_neg (by omega)]
      by_cases h3 : j < off + 1 + vs.length
      · rw [if_pos h3, if_pos (by omega), show j - off = (j - (off + 1)) + 1 by omega, List.getElem?_cons_succ]
      · rw [if_neg h3, if_neg (by omega), List.getElem?_set_ne (by omega)]

theorem zipIdx_fold : ∀ (vs : List Value) (off k : Nat) (cells : Array Value), off + k + vs.length ≤ cells.size →
    ((vs.zipIdx k).foldl (fun (cs : Array Value) (p : Value × Nat) => cs.setIfInBounds (off + p.2) p.1) cells).toList = spl cells.toList (off + k) vs
  | [], off, k, cells, h => by simp [spl]
  | v :: vs, off, k, cells, h => by
    simp only [List.length_cons] at h
    rw [List.zipIdx_cons, List.foldl_cons, zipIdx_fold vs off (k + 1) _ (by simp; omega)]
    simp only [Array.toList_setIfInBounds]
    exact spl_cons (by simp; omega)

theorem fill_step {place : Nat → Option (Nat × Nat)} {cells : Array Value} {i : Nat} {v : Value} {rest : List (Nat × Value)} {off size : Nat} (hp : place i = some (off, size)) (hv : v.cells.size = size) (hle : off + size ≤ cells.size) :
    ∃ cells', Instr.fill place cells ((i, v) :: rest) = Instr.fill place cells' rest ∧ cells'.toList = spl cells.toList off v.cells.toList ∧ cells'.size = cells.size := by
  refine ⟨v.cells.zipIdx.foldl (fun cs (c, j) => cs.setIfInBounds (off + j) c) cells, ?_, ?_⟩
  · simp only [Instr.fill, hp]
    rw [if_neg]
    simp only [Bool.or_eq_true, decide_eq_true_eq, not_or]
    omega
  · have h1 := zipIdx_fold v.cells.toList off 0 cells (by simp; omega)
    rw [Nat.add_zero] at h1
    have e : v.cells.zipIdx.foldl (fun cs (c, j) => cs.setIfInBounds (off + j) c) cells = (v.cells.toList.zipIdx 0).foldl (fun (cs : Array Value) (p : Value × Nat) => cs.setIfInBounds (off + p.2) p.1) cells := by
      rw [← Array.foldl_toList, Array.toList_zipIdx]
    rw [e]
    refine ⟨h1, ?_⟩
    have := congrArg List.length h1
    simp only [Array.length_toList] at this
    rw [this]
    unfold spl
    simp
    omega

/-- What a part laid leaves. -/
theorem laySegs_spec {D : Nat → Prop} {ν : Pl} {b q : List Seg} {off size : Nat} {x : V1} {cs : List Prop} (h : laySegs b off size x = some (cs, q)) (hc : AllP cs) (hok : okS D b) (hx : x.ok D) :
    denS ν q = spl (denS ν b) off (denS ν x.segs) ∧ okS D q ∧ off + size ≤ (denS ν b).length ∧ (denS ν x.segs).length = size ∧ sizeS q = sizeS b := by
  unfold laySegs at h
  split at h
  · rename_i y
    cases hb : Nat.beq size 1 with
    | false => rw [hb] at h; simp at h
    | true =>
      rw [hb] at h; simp only [cond_true] at h
      have e := Nat.eq_of_beq_eq_true hb
      subst e
      obtain ⟨h1, h2, h3, h4⟩ := setP_spec (ν := ν) h hc hok hx
      refine ⟨?_, h2, by omega, rfl, h4⟩
      rw [h1]
      simp only [V1.segs, denS, Seg.den, List.append_nil, spl, List.length_singleton]
      rw [List.set_eq_take_append_cons_drop]
      simp [h3]
  · rename_i p
    split at h
    · rename_i r hr
      simp at h; obtain ⟨rfl, rfl⟩ := h
      obtain ⟨h1, h2, h3, h4⟩ := putS_spec (ν := ν) hr hok hx hc.1
      exact ⟨h1, h2, h3, (denS_len (ν := ν) (l := p) hx).trans hc.1, h4⟩
    · cases h

def layAll (place : Nat → Option (Nat × Nat)) : List Seg → List (Nat × V1) → Option (List Prop × List Seg)
  | b, [] => some ([], b)
  | b, (i, x) :: rest =>
    match place i with
    | some (off, size) => match laySegs b off size x with
      | some (cs, q) => match layAll place q rest with
        | some (ds, r) => some (cs ++ ds, r)
        | none => none
      | none => none
    | none => none

theorem layAll_spec {D : Nat → Prop} {ν : Pl} {place : Nat → Option (Nat × Nat)} : ∀ (parts : List (Nat × V1)) (b q : List Seg) (cs : List Prop) (cells : Array Value), layAll place b parts = some (cs, q) → AllP cs → okS D b → (∀ p ∈ parts, p.2.ok D) →
    cells.toList = denS ν b → ∃ cells', Instr.fill place cells (parts.map fun p => (p.1, p.2.den ν)) = some cells' ∧ cells'.toList = denS ν q ∧ okS D q ∧ sizeS q = sizeS b
  | [], b, q, cs, cells, h, _, hok, _, hcl => by
    simp [layAll] at h; obtain ⟨_, rfl⟩ := h
    exact ⟨cells, rfl, hcl, hok, rfl⟩
  | (i, x) :: rest, b, q, cs, cells, h, hc, hok, hps, hcl => by
    simp only [layAll] at h
    split at h
    · rename_i off size hp
      split at h
      · rename_i cs1 q1 h1
        split at h
        · rename_i ds r h2
          simp at h; obtain ⟨rfl, rfl⟩ := h
          rw [AllP_append] at hc
          have hx := hps (i, x) (List.mem_cons_self ..)
          obtain ⟨g1, g2, g3, g4, g5⟩ := laySegs_spec (ν := ν) h1 hc.1 hok hx
          have hcells := V1.cells (ν := ν) hx
          have hcs : (x.den ν).cells.size = size := by rw [← Array.length_toList, hcells, g4]
          obtain ⟨cells1, f1, f2, f3⟩ := fill_step (place := place) (cells := cells) (i := i) (v := x.den ν) (rest := rest.map fun p => (p.1, p.2.den ν)) hp hcs (by rw [← Array.length_toList, hcl]; exact g3)
          obtain ⟨cells2, e1, e2, e3, e4⟩ := layAll_spec rest q1 _ ds cells1 h2 hc.2 g2 (fun p hp => hps p (List.mem_cons_of_mem _ hp)) (by rw [f2, hcl, hcells, g1])
          exact ⟨cells2, by rw [List.map_cons, f1, e1], e2, e3, by rw [e4, g5]⟩
        · cases h
      · cases h
    · cases h

/-- The places of a type's parts. -/
def placeOf (Γ : Tab) (k : TK) (i : Nat) : Option (Nat × Nat) :=
  match k with
  | .struct fs => match fs[i]? with
    | some (ft, fo) => match Γ ft with
      | some t => some (fo, t.size)
      | none => none
    | none => none
  | .arr _ e => match Γ e with
    | some te => some (i * te.size, te.size)
    | none => none
  | _ => none

def v1s : List V → Option (List V1)
  | [] => some []
  | .v x :: l => match v1s l with
    | some r => some (x :: r)
    | none => none
  | _ => none

/-- Every part's type has a size. -/
def fieldsB (Γ : Tab) : TK → Bool
  | .struct fs => fs.all fun f => (Γ f.1).isSome
  | .arr _ e => (Γ e).isSome
  | _ => false

def buildC (Γ : Tab) (T : Nat) (parts : List Nat) (vs : List V1) : Option (List Prop × V) :=
  match Γ T with
  | some ti => bif fieldsB Γ ti.k then (match layAll (placeOf Γ ti.k) ti.zero (parts.zip vs) with
    | some (cs, q) => some (cs, .v (.agg q))
    | none => none) else none
  | none => none

theorem run_mapM_places {P : Program} {Γ : Tab} (hΓ : Γ.Ok P) (w : World) : ∀ (fs : List Field), (∀ f ∈ fs, (∃ ti, Γ f.type = some ti) ∨ (∃ n, (sizeOf f.type).run P w = .ok n w)) →
    ∃ l, (fs.mapM (m := Sem) fun (f : Field) => do pure (f.offset, ← sizeOf f.type)).run P w = .ok l w ∧ ∀ (i : Nat) (f : Field) (ti : TI), fs[i]? = some f → Γ f.type = some ti → l[i]? = some (f.offset, ti.size)
  | [], _ => ⟨[], by simp, fun i f ti h => by simp at h⟩
  | f :: fs, h => by
    obtain ⟨l, h1, h2⟩ := run_mapM_places hΓ w fs (fun g hg => h g (List.mem_cons_of_mem _ hg))
    obtain ⟨n, hn⟩ : ∃ n, (sizeOf f.type).run P w = .ok n w := by
      rcases h f (List.mem_cons_self ..) with ⟨ti, ht⟩ | h'
      · exact ⟨_, (hΓ _ _ ht).sizeOf w⟩
      · exact h'
    refine ⟨(f.offset, n) :: l, ?_, fun i g ti hi ht => ?_⟩
    · rw [List.mapM_cons]
      simp only [Sem.run_bind, hn, Result.andThen_ok, Sem.run_pure, h1]
    · cases i with
      | zero =>
        simp at hi; subst hi
        have := (hΓ _ _ ht).sizeOf w
        rw [hn] at this
        simp at this
        simp [this]
      | succ i => simpa using h2 i g ti (by simpa using hi) ht

theorem fill_mono {p p' : Nat → Option (Nat × Nat)} (hp : ∀ i x, p i = some x → p' i = some x) : ∀ (parts : List (Nat × Value)) (cells cells' : Array Value), Instr.fill p cells parts = some cells' → Instr.fill p' cells parts = some cells'
  | [], _, _, h => h
  | (i, v) :: rest, cells, cells', h => by
    simp only [Instr.fill] at h ⊢
    cases hi : p i with
    | none => rw [hi] at h; simp at h
    | some x =>
      rw [hi] at h
      rw [hp i x hi]
      obtain ⟨off, size⟩ := x
      simp only at h ⊢
      split at h
      · cases h
      · rename_i hn
        rw [if_neg hn]
        exact fill_mono hp rest _ _ h

theorem run_zeroValue {P : Program} {t : Nat} {ti : TI} (h : ti.Ok P t) (w : World) : ∃ z, (zeroValue t).run P w = .ok z w ∧ ∀ ν, z.cells.toList = denS ν ti.zero := by
  obtain ⟨i, z, h1, _, _, h4, h5, _⟩ := h.info
  exact ⟨z, by simp [zeroValue, typeInfo, h1, h4], h5⟩

theorem run_buildC {P : Program} {Γ : Tab} (hΓ : Γ.Ok P) (w : World) {T : Nat} {parts : List Nat} {vs : List V1} {cs : List Prop} {v : V} (h : buildC Γ T parts vs = some (cs, v)) (hc : AllP cs) (ν : Pl) {D : Nat → Prop} (hvs : ∀ x ∈ vs, x.ok D)
:
    (∃ z, (Instr.build T (parts.zip (vs.map (V1.den ν))).toArray).run P w = .ok z w ∧ v.rel ν z) ∧ v.ok D := by
  unfold buildC at h
  split at h
  · rename_i ti hT
    cases hall : fieldsB Γ ti.k with
    | false => rw [hall] at h; simp at h
    | true =>
    rw [hall] at h; simp only [cond_true] at h
    split at h
    · rename_i cs' q hq
      simp at h; obtain ⟨rfl, rfl⟩ := h
      obtain ⟨z, hz1, hz2⟩ := run_zeroValue (hΓ T ti hT) w
      obtain ⟨i0, z0, _, _, _, _, _, hzok, _⟩ := (hΓ T ti hT).info
      have hmap : (parts.zip vs).map (fun p => (p.1, p.2.den ν)) = parts.zip (vs.map (V1.den ν)) := by
        rw [List.zip_map_right]
        rfl
      obtain ⟨cells', e1, e2, e3, e4⟩ := layAll_spec (ν := ν) (D := D) (parts.zip vs) ti.zero q cs' z.cells hq hc (hzok D) (fun p hp => hvs p.2 (List.of_mem_zip hp).2) (hz2 ν)
      rw [hmap] at e1
      refine ⟨⟨.agg cells', ?_, ?_⟩, e3⟩
      · obtain ⟨d, hd, hk⟩ := (hΓ T _ hT).und
        cases hti : ti.k with
        | struct fs =>
          rw [hti] at hk e1 hall
          obtain ⟨fields, rfl, hfs⟩ := hk
          simp only [fieldsB, List.all_eq_true] at hall
          obtain ⟨l, hl1, hl2⟩ := run_mapM_places hΓ w fields.toList (fun f hf => by
            left
            have : (f.type, f.offset) ∈ fs := by rw [← hfs]; exact List.mem_map_of_mem hf
            have := hall _ this
            exact Option.isSome_iff_exists.1 this)
          have hmono := fill_mono (p := placeOf Γ (.struct fs)) (p' := fun (i : Nat) => l.toArray[i]?) (fun i x hx => by
            rw [List.getElem?_toArray]
            simp only [placeOf] at hx
            split at hx
            · rename_i ft fo hf
              split at hx
              · rename_i t ht
                simp at hx; subst hx
                have h1 : (fields.toList.map (fun f => (f.type, f.offset)))[i]? = some (ft, fo) := by rw [hfs]; exact hf
                rw [List.getElem?_map] at h1
                cases h2 : fields.toList[i]? with
                | none => rw [h2] at h1; simp at h1
                | some fl =>
                  rw [h2] at h1; simp at h1
                  have := hl2 i fl t h2 (by rw [h1.1]; exact ht)
                  rw [this, h1.2]
              · cases hx
            · cases hx) _ _ _ e1
          have hm : (fields.mapM (m := Sem) fun (f : Field) => do pure (f.offset, ← sizeOf f.type)).run P w = .ok l.toArray w := by
            rw [Array.mapM_eq_mapM_toList]
            simp only [Sem.run_map, hl1, Result.andThen_ok]
          simp only [Instr.build, Sem.run_bind, hz1, Result.andThen_ok, run_underlying hd]
          rw [hm]
          simp only [Result.andThen_ok]
          erw [hmono]
          rfl
        | arr n e =>
          rw [hti] at hk e1 hall
          simp only [TK.Is] at hk; subst hk
          obtain ⟨te, hte⟩ := Option.isSome_iff_exists.1 (show (Γ e).isSome = true from hall)
          have hsz := (hΓ e te hte).sizeOf w
          have : placeOf Γ (.arr n e) = fun i => some (i * te.size, te.size) := by funext i; simp [placeOf, hte]
          rw [this] at e1
          simp only [Instr.build, Sem.run_bind, hz1, Result.andThen_ok, run_underlying hd, hsz]
          rw [e1]
          rfl
        | _ => rw [hti] at hall; simp [fieldsB] at hall
      · simp only [V.rel, V1.den]
        congr 1
        rw [← e2]
    · cases h
  · cases h
/-! ### Arrays and structs held against each other -/
theorem run_part_int {P : Program} (w : World) {e : Nat} {k : IntKind} (he : P.underlying e = some (.int k)) (l : List Value) (j : Nat) (v : Value) (hj : l[j]? = some v) :
    (part e l.toArray j).run P w = .ok v w := by
  have ha : (isAgg e).run P w = .ok false w := by simp [isAgg, run_underlying he]
  simp only [part, Sem.run_bind, ha, Result.andThen_ok, Bool.false_eq_true, if_false]
  rw [List.getElem?_toArray, hj]
  rfl

theorem eq_drop (l l' : List Int) (i : Nat) (h : i < l.length) (h' : i < l'.length) : (l.drop i == l'.drop i) = (l[i] == l'[i] && (l.drop (i + 1) == l'.drop (i + 1))) := by
  rw [List.drop_eq_getElem_cons h, List.drop_eq_getElem_cons h']
  rfl

theorem run_equalIn_ints {P : Program} (w : World) (d T e len : Nat) (kt k : IntKind) (hT : P.underlying T = some (.array len e)) (he : P.underlying e = some (.int kt)) (hs : (sizeOf e).run P w = .ok 1 w) (l l' : List Int) (hl : l.length = len) (hl' : l'.length = len) :
    (Op.equalIn (d + 2) T (.agg (l.map (Value.int k)).toArray) (.agg (l'.map (Value.int k)).toArray)).run P w = .ok (l == l') w := by
  rw [Op.equalIn]
  simp only [Sem.run_bind, run_underlying hT, Result.andThen_ok, hs, Nat.mul_one]
  have hd : ∀ a b : Int, (Op.equalIn (d + 1) e (.int k a) (.int k b)).run P w = .ok (a == b) w := fun a b => run_equalIn_int w d e k kt a b he
  rw [Std.Legacy.Range.forIn_eq_forIn_range']
  simp only [Std.Legacy.Range.size, Nat.sub_zero, Nat.add_sub_cancel, Nat.div_one]
  have key : ∀ (m i : Nat), i + m = len → (forIn (m := Sem) (List.range' i m) ((none, ()) : Option Bool × Unit) fun i _ => do
            let x ← part e (List.map (Value.int k) l).toArray i
            let y ← part e (List.map (Value.int k) l').toArray i
            let r ← Op.equalIn (d + 1) e x y
            if (!r) = true then pure (ForInStep.done (some false, ())) else pure (ForInStep.yield (none, ()))).run P w = .ok (if (l.drop i == l'.drop i) then none else some false, ()) w := by
    intro m
    induction m with
    | zero =>
      intro i hi
      rw [List.drop_of_length_le (by omega), List.drop_of_length_le (by omega)]
      rfl
    | succ m ih =>
      intro i hi
      have h1 : i < l.length := by omega
      have h2 : i < l'.length := by omega
      rw [List.range'_succ, List.forIn_cons]
      have p1 := run_part_int (P := P) w he (l.map (Value.int k)) i (.int k l[i]) (by simp)
      have p2 := run_part_int (P := P) w he (l'.map (Value.int k)) i (.int k l'[i]) (by simp)
      simp only [Sem.run_bind, p1, p2, Result.andThen_ok, hd, Sem.run_ite]
      rw [eq_drop l l' i h1 h2]
      cases hb : (l[i] == l'[i]) with
      | false => simp
      | true =>
        simp only [Bool.not_true, Bool.false_eq_true, if_false, Sem.run_pure, Result.andThen_ok, Bool.true_and]
        exact ih (i + 1) (by omega)
  have k0 := key len 0 (by omega)
  simp only [List.drop_zero] at k0
  rw [k0]
  simp only [Result.andThen_ok]
  cases (l == l') <;> rfl

theorem eqGuardType_arr {P : Program} (d T e len : Nat) (k : IntKind) (hT : P.underlying T = some (.array len e)) (he : P.underlying e = some (.int k)) : P.eqGuardType (d + 2) T = false := by
  simp [Program.eqGuardType, hT, he]

theorem run_eqGuard_agg' {P : Program} (w : World) (op : BinOp) (T : Nat) (x y : Operand) (xs ys : Array Value) (hm : P.eqGuardType P.depth T = false) : (eqGuard op T x y (.agg xs) (.agg ys)).run P w = .ok () w := run_eqGuard_agg w op T x y xs ys hm

/-- Two scalars held against each other. -/
def eqC : TK → C → C → Option Bool
  | .int _, .int k a, .int k' b => bif kindB k k' then some (a == b) else none
  | .bool, .bool _ a, .bool _ b => some (a == b)
  | .str, .str a, .str b => some (a.toList == b.toList)
  | _, _, _ => none
/-- Do the fields agree, one behind the other? -/
def eqFs (Γ : Tab) (b c : List Seg) : List (Nat × Nat) → Option Bool
  | [] => some true
  | (ft, fo) :: fs =>
    match Γ ft, getP b fo, getP c fo, eqFs Γ b c fs with
    | some ti, some ([], x), some ([], y), some r => match eqC ti.k x y with | some q => some (q && r) | none => none
    | _, _, _, _ => none

def aggEq (Γ : Tab) (op : BinOp) (T : Nat) (b c : List Seg) : Option (List Prop × V) :=
  match Γ T with
  | some ⟨.arr n e, _, _, _⟩ =>
    match Γ e, b, c with
    | some ⟨.int _, sz, _, _⟩, [.ints k l m], [.ints k' l' m'] =>
      bif Nat.beq sz 1 && (kindB k k' && (Nat.beq m n && Nat.beq m' n)) then
        (match op with
        | .eql => some ([], ubool (l == l'))
        | .neq => some ([], ubool (!(l == l')))
        | _ => none) else none
    | _, _, _ => none
  | some ⟨.struct fs, _, _, _⟩ =>
    match eqFs Γ b c fs, op with
    | some q, .eql => some ([], ubool q)
    | some q, .neq => some ([], ubool (!q))
    | _, _ => none
  | _ => none

theorem depth_two (P : Program) : ∃ d, P.depth = d + 2 := ⟨2 * (P.types.size + Made.depth), rfl⟩

theorem run_eqFs {P : Program} {Γ : Tab} (hΓ : Γ.Ok P) (w : World) (d : Nat) {D : Nat → Prop} {ν : Pl} {b c : List Seg} (hb : okS D b) (hc : okS D c) : ∀ (fl : List Field) (fs : List (Nat × Nat)) (q : Bool), fl.map (fun f => (f.type, f.offset)) = fs → (∀ f ∈ fl, f.name ≠ "_") →
    eqFs Γ b c fs = some q → (Op.eqFields (d + 1) (denS ν b).toArray (denS ν c).toArray fl).run P w = .ok q w ∧ ∀ dd, (fl.any fun f => f.name != "_" && P.eqGuardType (dd + 1) f.type) = false
  | [], fs, q, hfs, _, h => by
    simp at hfs; subst hfs
    simp [eqFs] at h; subst h
    exact ⟨rfl, fun _ => rfl⟩
  | f :: fl, fs, q, hfs, hn, h => by
    simp only [List.map_cons] at hfs
    subst hfs
    simp only [eqFs] at h
    split at h
    · rename_i ti x y r ht hx hy hr
      split at h
      · rename_i q' hq
        simp at h; subst h
        obtain ⟨g1, g2⟩ := run_eqFs hΓ w d (ν := ν) hb hc fl _ r rfl (fun g hg => hn g (List.mem_cons_of_mem _ hg)) hr
        obtain ⟨x1, x2⟩ := getP_spec (ν := ν) hx trivial hb
        obtain ⟨y1, y2⟩ := getP_spec (ν := ν) hy trivial hc
        obtain ⟨dt, hdt, hk⟩ := (hΓ _ _ ht).und
        have hag0 := run_isAgg hΓ ht (fun e => by rw [e] at hq; cases hq) w
        have main : (isAgg f.type).run P w = .ok false w ∧ (Op.equalIn (d + 1) f.type (x.den ν) (y.den ν)).run P w = .ok q' w ∧ ∀ dd, P.eqGuardType (dd + 1) f.type = false := by
          clear g1 g2
          generalize ti.k = K at hq hk hag0
          unfold eqC at hq
          split at hq
          · rename_i kt k1 a k2 b'
            simp only [TK.Is] at hk; subst hk
            cases hkb : kindB k1 k2 with
            | false => rw [hkb] at hq; simp at hq
            | true =>
              rw [hkb] at hq; simp at hq; subst hq
              have := kindB_eq hkb; subst this
              exact ⟨hag0, run_equalIn_int w d f.type k1 kt a b' hdt, fun dd => by simp [Program.eqGuardType, hdt]⟩
          · rename_i _ a _ b'
            simp only [TK.Is] at hk; subst hk
            simp at hq; subst hq
            exact ⟨hag0, run_equalIn_bool w d f.type hdt a b', fun dd => by simp [Program.eqGuardType, hdt]⟩
          · rename_i a b'
            simp only [TK.Is] at hk; subst hk
            simp at hq; subst hq
            exact ⟨hag0, run_equalIn_string w d f.type a b' hdt, fun dd => by simp [Program.eqGuardType, hdt]⟩
          · cases hq
        obtain ⟨hag, heq, hgt⟩ := main
        have part_ok : ∀ (l : List Value) (j : Nat) (v : Value), l[j]? = some v → (part f.type l.toArray j).run P w = .ok v w := by
          intro l j v hj
          simp only [part, Sem.run_bind, hag, Result.andThen_ok, Bool.false_eq_true, if_false]
          rw [List.getElem?_toArray, hj]
          rfl
        refine ⟨?_, fun dd => ?_⟩
        · rw [Op.eqFields, if_pos (hn f (List.mem_cons_self ..))]
          simp only [Sem.run_bind, part_ok _ _ _ x1, part_ok _ _ _ y1, Result.andThen_ok, heq, Sem.run_ite]
          cases q' with
          | false => simp
          | true => simpa using g1
        · rw [List.any_cons, g2 dd, hgt dd]
          simp
      · cases h
    · cases h

theorem run_aggEq {P : Program} {Γ : Tab} (hΓ : Γ.Ok P) (w : World) {op : BinOp} {T : Nat} (X Y : Operand) {b c : List Seg} {cs : List Prop} {v : V} (h : aggEq Γ op T b c = some (cs, v)) (ν : Pl) {D : Nat → Prop} (hb : okS D b) (hc : okS D c) :
    (∃ z, (do eqGuard op T X Y (.agg (denS ν b).toArray) (.agg (denS ν c).toArray); binOp op T (.agg (denS ν b).toArray) (.agg (denS ν c).toArray) : Sem Value).run P w = .ok z w ∧ v.rel ν z) ∧ ∀ D, v.ok D := by
  obtain ⟨dd, hdd⟩ := depth_two P
  unfold aggEq at h
  split at h
  · rename_i n e _ _ _ hT
    obtain ⟨dT, hdT, hkT⟩ := (hΓ T _ hT).und
    simp only [TK.Is] at hkT; subst hkT
    split at h
    · rename_i kt sz _ _ k l m k' l' m' he
      obtain ⟨de, hde, hke⟩ := (hΓ e _ he).und
      simp only [TK.Is] at hke; subst hke
      cases hbb : (Nat.beq sz 1 && (kindB k k' && (Nat.beq m n && Nat.beq m' n))) with
      | false => rw [hbb] at h; simp at h
      | true =>
        rw [hbb] at h; simp only [cond_true] at h
        simp only [Bool.and_eq_true] at hbb
        obtain ⟨b1, b2, b3, b4⟩ := hbb
        have := kindB_eq b2; subst this
        have e3 := Nat.eq_of_beq_eq_true b3
        have e4 := Nat.eq_of_beq_eq_true b4
        have e1 := Nat.eq_of_beq_eq_true b1
        subst e3; subst e4; subst e1
        have hs := (hΓ e _ he).sizeOf w
        have hl : l.length = m' := hb.1
        have hl' : l'.length = m' := hc.1
        have hg := run_eqGuard_agg' (P := P) w op T X Y (denS ν [.ints k l m']).toArray (denS ν [.ints k l' m']).toArray (by rw [hdd]; exact eqGuardType_arr dd T e m' kt hdT hde)
        have heq : (Op.equal T (.agg (denS ν [.ints k l m']).toArray) (.agg (denS ν [.ints k l' m']).toArray)).run P w = .ok (l == l') w := by
          have := run_equalIn_ints (P := P) w 9998 T e m' kt k hdT hde hs l l' hl hl'
          have ea : ∀ q : List Int, denS ν [.ints k q m'] = q.map (Value.int k) := fun q => by simp [denS, Seg.den]
          rw [ea, ea]
          exact this
        split at h
        · simp at h; obtain ⟨_, rfl⟩ := h
          refine ⟨⟨_, ?_, rfl⟩, fun _ => trivial⟩
          simp only [Sem.run_bind, hg, Result.andThen_ok, binOp, heq, Sem.run_pure]
          rfl
        · simp at h; obtain ⟨_, rfl⟩ := h
          refine ⟨⟨_, ?_, rfl⟩, fun _ => trivial⟩
          simp only [Sem.run_bind, hg, Result.andThen_ok, binOp, heq, Sem.run_pure]
          rfl
        · cases h
    · cases h
  · rename_i fs _ _ _ hT
    obtain ⟨dT, hdT, fields, rfl, hfs⟩ := (hΓ T _ hT).und
    obtain ⟨hst, hnm⟩ := (hΓ T _ hT).eqs fs rfl
    have hnm' := hnm fields hdT
    have hfo : P.fieldsOf T = fields := by unfold Program.fieldsOf; rw [hdT]
    have main : ∀ q, eqFs Γ b c fs = some q → (eqGuard op T X Y (.agg (denS ν b).toArray) (.agg (denS ν c).toArray)).run P w = .ok () w ∧ (Op.equal T (.agg (denS ν b).toArray) (.agg (denS ν c).toArray)).run P w = .ok q w := by
      intro q hq
      obtain ⟨g1, g2⟩ := run_eqFs hΓ w 9998 (ν := ν) hb hc fields.toList fs q hfs hnm' hq
      refine ⟨run_eqGuard_agg' w op T X Y _ _ ?_, ?_⟩
      · rw [hdd]
        simp only [Program.eqGuardType, hdT]
        rw [← Array.any_toList]
        exact g2 dd
      · have := run_equalIn_struct (P := P) w 9999 T (denS ν b).toArray (denS ν c).toArray (by rw [hfo]; exact hdT) hst
        rw [hfo, g1] at this
        exact this
    split at h
    · rename_i q hq
      simp at h; obtain ⟨_, rfl⟩ := h
      obtain ⟨m1, m2⟩ := main q hq
      refine ⟨⟨_, ?_, rfl⟩, fun _ => trivial⟩
      simp only [Sem.run_bind, m1, Result.andThen_ok, binOp, m2, Sem.run_pure]
      rfl
    · rename_i q hq
      simp at h; obtain ⟨_, rfl⟩ := h
      obtain ⟨m1, m2⟩ := main q hq
      refine ⟨⟨_, ?_, rfl⟩, fun _ => trivial⟩
      simp only [Sem.run_bind, m1, Result.andThen_ok, binOp, m2, Sem.run_pure]
      rfl
    · cases h
  · cases h
end Go.Mx
