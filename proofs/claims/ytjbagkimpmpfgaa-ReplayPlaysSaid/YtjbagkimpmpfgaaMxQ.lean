/- The engine, part Q: slices, conversions, built values, comparisons of arrays and structs: what each yields, and that the model's own run yields just that. Conditions: those that each lists. -/
import Derived.Test.YtjbagkimpmpfgaaMxP
namespace Go.Mx

/-! ### Slices -/
def natB (lo hi : Int) (top : Nat) : Prop := 0 ≤ lo ∧ lo ≤ hi ∧ hi ≤ top

theorem run_sliceBound {P : Program} (w : World) (k : IntKind) (i : Int) (y : Nat) (c : BoundsCode) (h : 0 ≤ i ∧ i ≤ y) : (Instr.sliceBound (.int k i) y c).run P w = .ok i.toNat w := by
  simp only [Instr.sliceBound, Sem.run_bind, asIntOf, Sem.run_pure, Result.andThen_ok, Sem.run_ite, if_pos h]

/-- The bound that is given, or the one that stands for it. -/
def bnd (x : Option C) (d : Int) : Option Int :=
  match x with
  | none => some d
  | some (.int _ n) => some n
  | _ => none
def bden (ν : Pl) (x : Option C) : Option Value := x.map (C.den ν)

theorem run_sliceBounds {P : Program} (w : World) (ν : Pl) (b : Bool) (len cap : Nat) (lo hi : Option C) {l h : Int} (hl : bnd lo 0 = some l) (hh : bnd hi len = some h) (h0 : 0 ≤ l) (h1 : l ≤ h) (h2 : hi ≠ none → h ≤ cap) :
    (Instr.sliceBounds b len cap (bden ν lo) (bden ν hi) none).run P w = .ok (l.toNat, h.toNat, cap) w := by
  unfold Instr.sliceBounds
  cases hi with
  | none =>
    simp [bnd] at hh; subst hh
    cases lo with
    | none => simp [bnd] at hl; subst hl; simp [bden]
    | some y =>
      cases y <;> simp [bnd] at hl
      subst hl
      simp only [bden, Option.map_some, Option.map_none, C.den, Sem.run_bind, Sem.run_pure, Result.andThen_ok]
      rw [run_sliceBound w _ _ _ _ ⟨h0, by omega⟩]
      rfl
  | some x =>
    cases x <;> simp [bnd] at hh
    subst hh
    have h3 := h2 (by simp)
    cases lo with
    | none =>
      simp [bnd] at hl; subst hl
      simp only [bden, Option.map_some, Option.map_none, C.den, Sem.run_bind, Sem.run_pure, Result.andThen_ok]
      rw [run_sliceBound w _ _ _ _ ⟨by omega, h3⟩]
      rfl
    | some y =>
      cases y <;> simp [bnd] at hl
      subst hl
      simp only [bden, Option.map_some, C.den, Sem.run_bind, Sem.run_pure, Result.andThen_ok]
      rw [run_sliceBound w _ _ _ _ ⟨by omega, h3⟩]
      simp only [Result.andThen_ok]
      rw [run_sliceBound w _ _ _ _ ⟨h0, by omega⟩]
      rfl

theorem run_sliceBounds3 {P : Program} (w : World) (b : Bool) (len cap : Nat) (kh km : IntKind) (h m : Int) (h0 : 0 ≤ h) (h1 : h ≤ m) (h2 : m ≤ cap) :
    (Instr.sliceBounds b len cap none (some (.int kh h)) (some (.int km m))).run P w = .ok (0, h.toNat, m.toNat) w := by
  unfold Instr.sliceBounds
  simp only [Sem.run_bind, Sem.run_pure, Result.andThen_ok, run_sliceBound w km m cap _ ⟨by omega, h2⟩, run_sliceBound w kh h m.toNat _ ⟨h0, by omega⟩]

theorem ok_pure {P : Program} {w : World} {x y : Value} (h : x = y) : (Pure.pure x : Sem Value).run P w = .ok y w := by rw [h]; rfl

def sliceC (Γ : Tab) (T : Nat) (x : C) (lo hi mx : Option C) (ob : Option MObj) : Option (List Prop × V) :=
  match Γ T with
  | some ⟨.str, _, _, _⟩ =>
    match x, mx with
    | .str s, none =>
      match bnd lo 0, bnd hi s.size with
      | some l, some h => some ([natB l h s.size], .v (.one (.str (s.extract l.toNat h.toNat))))
      | _, _ => none
    | _, _ => none
  | some ⟨.arr n e, _, _, _⟩ =>
    match Γ e, x, mx with
    | some te, .ptr i off, none =>
      match bnd lo 0, bnd hi n with
      | some l, some h => some ([natB l h n], .v (.one (.sx i off te.size l.toNat (h.toNat - l.toNat) (n - l.toNat) (if n = l.toNat then off else off + l.toNat * te.size))))
      | _, _ => none
    | _, _, _ => none
  | some ⟨.slice e, _, _, _⟩ =>
    match Γ e with
    | some te =>
      match x, mx with
      | .sl i lo0 len w, none =>
        match ob with
        | some o => match o.cnt w, bnd lo 0, bnd hi len with
          | some c, some l, some h => bif Nat.beq lo0 0 && Nat.beq te.size w then some ([natB l h c], .v (.one (.sl i l.toNat (h.toNat - l.toNat) w))) else none
          | _, _, _ => none
        | none => none
      | .sl i lo0 len w, some (.int _ m) =>
        match ob with
        | some o => match o.cnt w, lo, hi with
          | some c, none, some (.int _ h) => bif Nat.beq lo0 0 && Nat.beq te.size w then some ([0 ≤ h ∧ h = m ∧ m ≤ c ∧ h = len], .v (.one (.clip i h.toNat))) else none
          | _, _, _ => none
        | none => none
      | .sx i off w lo0 len cap adr, none =>
        match bnd lo 0, bnd hi len with
        | some l, some h => bif Nat.beq te.size w then some ([natB l h cap], .v (.one (.sx i off w (lo0 + l.toNat) (h.toNat - l.toNat) (cap - l.toNat) (if cap = l.toNat then adr else adr + l.toNat * w)))) else none
        | _, _ => none
      | .nils, none =>
        match bnd lo 0, bnd hi 0 with
        | some l, some h => some ([natB l h 0], .v (.one .nils))
        | _, _ => none
      | .nils, some (.int _ m) =>
        match lo, hi with
        | none, some (.int _ h) => some ([0 = h ∧ 0 = m], .v (.one .nils))
        | _, _ => none
      | _, _ => none
    | none => none
  | _ => none

theorem run_sliceC {P : Program} {Γ : Tab} (hΓ : Γ.Ok P) (w : World) {T : Nat} {x : C} {lo hi mx : Option C} {ob : Option MObj} {cs : List Prop} {v : V} (h : sliceC Γ T x lo hi mx ob = some (cs, v)) (hc : AllP cs) (ν : Pl) {D : Nat → Prop}
    (hok : x.ok D) (hob : ∀ i o, x.obj = some i → ob = some o → o.ok D ∧ o.fit (ν i) ν w) :
    (∃ z, (Instr.sliceAt T (x.den ν) (bden ν lo) (bden ν hi) (bden ν mx)).run P w = .ok z w ∧ v.rel ν z) ∧ v.ok D := by
  unfold sliceC at h
  split at h
  · rename_i _ _ _ hT
    obtain ⟨d, hd, hk⟩ := (hΓ T _ hT).und
    simp only [TK.Is] at hk; subst hk
    split at h
    · rename_i s
      split at h
      · rename_i l hh hl hhi
        simp at h; obtain ⟨rfl, rfl⟩ := h
        obtain ⟨a1, a2, a3⟩ : natB l hh s.size := hc.1
        refine ⟨⟨_, ?_, rfl⟩, trivial⟩
        simp only [Instr.sliceAt, Instr.slice, Sem.run_bind, run_underlying hd, Result.andThen_ok, C.den, bden, Option.map_none, Option.isSome_none, Bool.false_eq_true, if_false]
        have := run_sliceBounds (P := P) w ν false s.size s.size lo hi hl hhi a1 a2 (fun _ => a3)
        simp only [bden] at this
        rw [this]; rfl
      · cases h
    · cases h
  · rename_i n e _ _ _ hT
    obtain ⟨d, hd, hk⟩ := (hΓ T _ hT).und
    simp only [TK.Is] at hk; subst hk
    split at h
    · rename_i te i off hte
      split at h
      · rename_i l hh hl hhi
        simp at h; obtain ⟨rfl, rfl⟩ := h
        obtain ⟨a1, a2, a3⟩ : natB l hh n := hc.1
        have := run_sliceBounds (P := P) w ν false n n lo hi hl hhi a1 a2 (fun _ => a3)
        have hsz := (hΓ e te hte).sizeOf w
        refine ⟨⟨_, ?_, rfl⟩, hok, by omega, ?_⟩
        · simp only [Instr.sliceAt, Sem.run_bind, run_underlying hd, Result.andThen_ok, C.den, Instr.sureAddr, Sem.run_pure]
          rw [show bden ν none = (none : Option Value) from rfl, this]
          simp only [Result.andThen_ok, hsz]
          refine ok_pure (P := P) ?_
          simp only [V1.den, C.den, at_add]
          congr 2
          split <;> rfl
        · intro hne
          rw [if_neg (by omega)]
      · cases h
    · cases h
  · rename_i e _ _ _ hT
    obtain ⟨d, hd, hk⟩ := (hΓ T _ hT).und
    simp only [TK.Is] at hk; subst hk
    split at h
    · rename_i te hte
      have hsz := (hΓ e te hte).sizeOf w
      split at h
      · rename_i i lo0 len w'
        split at h
        · rename_i o
          split at h
          · rename_i c l hh hcn hl hhi
            cases hb : (Nat.beq lo0 0 && Nat.beq te.size w') with
            | false => rw [hb] at h; simp at h
            | true =>
              rw [hb] at h; simp at h; obtain ⟨rfl, rfl⟩ := h
              simp only [Bool.and_eq_true] at hb
              have e0 := Nat.eq_of_beq_eq_true hb.1
              have ew := Nat.eq_of_beq_eq_true hb.2
              subst e0
              obtain ⟨ho1, ho2⟩ := hob i o rfl rfl
              obtain ⟨g1, g2, g3⟩ := MObj.cnt_cap hcn ho1 ho2
              obtain ⟨a1, a2, a3⟩ : natB l hh c := hc.1
              have := run_sliceBounds (P := P) w ν true len ((ν i).cap - 0) lo hi hl hhi a1 a2 (fun _ => by omega)
              refine ⟨⟨_, ?_, rfl⟩, hok⟩
              simp only [Instr.sliceAt, Instr.slice, Sem.run_bind, run_underlying hd, Result.andThen_ok, C.den]
              rw [show bden ν none = (none : Option Value) from rfl, this]
              simp only [Result.andThen_ok, hsz, Nat.sub_zero, Nat.zero_mul, ite_self, ew]
              refine ok_pure (P := P) ?_
              simp only [V1.den, C.den]
              cases hn : (ν i).nil with
              | true => simp
              | false =>
                simp only [Bool.false_eq_true, if_false]
                congr 1
                split
                · rfl
                · simp only [Option.map_some, at_add, Nat.zero_add]
          · cases h
        · cases h
      · rename_i i lo0 len w' k m
        split at h
        · rename_i o
          split at h
          · rename_i c kh hh hcn
            cases hb : (Nat.beq lo0 0 && Nat.beq te.size w') with
            | false => rw [hb] at h; simp at h
            | true =>
              rw [hb] at h; simp at h; obtain ⟨rfl, rfl⟩ := h
              simp only [Bool.and_eq_true] at hb
              have e0 := Nat.eq_of_beq_eq_true hb.1
              subst e0
              obtain ⟨ho1, ho2⟩ := hob i o rfl rfl
              obtain ⟨g1, g2, g3⟩ := MObj.cnt_cap hcn ho1 ho2
              obtain ⟨a1, a2, a3, a4⟩ : 0 ≤ hh ∧ hh = m ∧ m ≤ c ∧ hh = len := hc.1
              have := run_sliceBounds3 (P := P) w true len ((ν i).cap - 0) kh k hh m a1 (by omega) (by omega)
              refine ⟨⟨_, ?_, rfl⟩, hok⟩
              simp only [Instr.sliceAt, Instr.slice, Sem.run_bind, run_underlying hd, Result.andThen_ok, C.den, bden, Option.map_some, Option.map_none]
              rw [this]
              simp only [Result.andThen_ok, hsz, Nat.sub_zero, Nat.zero_mul, ite_self]
              refine ok_pure (P := P) ?_
              simp only [V1.den, C.den, a2]
              congr 1
              cases hn : (ν i).nil with
              | true => simp
              | false =>
                simp only [Bool.false_eq_true, if_false]
                split
                · rfl
                · simp only [Option.map_some, at_add, Nat.zero_add]
          · cases h
        · cases h
      · rename_i i off w' lo0 len cap adr
        split at h
        · rename_i l hh hl hhi
          cases hb : Nat.beq te.size w' with
          | false => rw [hb] at h; simp at h
          | true =>
            rw [hb] at h; simp at h; obtain ⟨rfl, rfl⟩ := h
            have ew := Nat.eq_of_beq_eq_true hb
            obtain ⟨a1, a2, a3⟩ : natB l hh cap := hc.1
            have := run_sliceBounds (P := P) w ν true len cap lo hi hl hhi a1 a2 (fun _ => a3)
            refine ⟨⟨_, ?_, rfl⟩, hok.1, by omega, ?_⟩
            · simp only [Instr.sliceAt, Instr.slice, Sem.run_bind, run_underlying hd, Result.andThen_ok, C.den]
              rw [show bden ν none = (none : Option Value) from rfl, this]
              simp only [Result.andThen_ok, hsz, ew]
              refine ok_pure (P := P) ?_
              simp only [V1.den, C.den]
              congr 1
              split
              · rfl
              · simp only [Option.map_some, at_add]
            · intro hne
              have hcap : cap ≠ 0 := by omega
              rw [if_neg (by omega), hok.2.2 hcap, Nat.add_mul]; omega
        · cases h
      · split at h
        · rename_i l hh hl hhi
          simp at h; obtain ⟨rfl, rfl⟩ := h
          obtain ⟨a1, a2, a3⟩ : natB l hh 0 := hc.1
          have e1 : l = 0 := by omega
          have e2 : hh = 0 := by omega
          have := run_sliceBounds (P := P) w ν true 0 0 lo hi hl hhi a1 a2 (fun _ => a3)
          subst e1; subst e2
          refine ⟨⟨_, ?_, rfl⟩, trivial⟩
          simp only [Instr.sliceAt, Instr.slice, Sem.run_bind, run_underlying hd, Result.andThen_ok, C.den]
          rw [show bden ν none = (none : Option Value) from rfl, this]
          simp only [Result.andThen_ok, hsz]
          rfl
        · cases h
      · split at h
        · rename_i k m _ _ kh hh
          simp at h; obtain ⟨rfl, rfl⟩ := h
          obtain ⟨a1, a2⟩ : 0 = hh ∧ 0 = m := hc.1
          have := run_sliceBounds3 (P := P) w true 0 0 kh k hh m (by omega) (by omega) (by omega)
          subst a1; subst a2
          refine ⟨⟨_, ?_, rfl⟩, trivial⟩
          simp only [Instr.sliceAt, Instr.slice, Sem.run_bind, run_underlying hd, Result.andThen_ok, C.den, bden, Option.map_some, Option.map_none]
          rw [this]
          simp only [Result.andThen_ok, hsz]
          rfl
        · cases h
      · cases h
    · cases h
  · cases h

/-! ### A byte of a string -/
def indexC (Γ : Tab) (T : Nat) (x : C) (n : Int) : Option (List Prop × V) :=
  match Γ T, x with
  | some ⟨.str, _, _, _⟩, .str s => some ([0 ≤ n ∧ n < s.size], uint .u8 ((bl s).getD n.toNat 0))
  | _, _ => none
theorem run_indexC {P : Program} {Γ : Tab} (hΓ : Γ.Ok P) (w : World) {T : Nat} {x : C} {k : IntKind} {n : Int} {cs : List Prop} {v : V} (h : indexC Γ T x n = some (cs, v)) (hc : AllP cs) (ν : Pl) :
    (∃ z, (Instr.index T (x.den ν) (.int k n)).run P w = .ok z w ∧ v.rel ν z) ∧ ∀ D, v.ok D := by
  unfold indexC at h
  split at h
  · rename_i s hT
    simp at h; obtain ⟨rfl, rfl⟩ := h
    obtain ⟨d, hd, hk⟩ := (hΓ T _ hT).und
    simp only [TK.Is] at hk; subst hk
    obtain ⟨h0, h1⟩ : 0 ≤ n ∧ n < s.size := hc.1
    have hlt : n.toNat < s.size := by omega
    refine ⟨⟨_, ?_, rfl⟩, fun _ => trivial⟩
    have hlt' : n.toNat < s.data.size := hlt
    simp only [Instr.index, Sem.run_bind, asIntOf, Sem.run_pure, Result.andThen_ok, run_underlying hd, C.den, if_pos h0]
    rw [getElem?_pos s n.toNat hlt]
    simp only [Sem.run_pure, V1.den, C.den]
    congr 2
    simp only [bl, List.getElem?_map, Array.getElem?_toList]
    rw [Array.getElem?_eq_getElem hlt']
    rfl
  · cases h

/-! ### Conversions that leave the world alone -/
/-- The bytes of a slice. -/
def bytesC (x : C) (ob : Option MObj) : Option (List Prop × List Int) :=
  match x, ob with
  | .nils, _ => some ([], [])
  | .sl _ lo len w, some o =>
    match o.cnt w, rowAt o.segs 0 with
    | some c, some (.ints .u8 l n) => bif Nat.beq w 1 then some ([lo + len ≤ c, lo + len ≤ n], (l.drop lo).take len) else none
    | _, _ => none
  | .sx _ off w lo len _ _, some o =>
    match rowAt o.segs off with
    | some (.ints .u8 l n) => bif Nat.beq w 1 then some ([lo + len ≤ n], (l.drop lo).take len) else none
    | _ => none
  | _, _ => none

def convC (Γ : Tab) (s d : Nat) (x : C) (ob : Option MObj) : Option (List Prop × V) :=
  match Γ s, Γ d, x with
  | some _, some ⟨.int k, _, _, _⟩, .int _ n => some ([], uint k (conv k n))
  | some ⟨.str, _, _, _⟩, some ⟨.str, _, _, _⟩, .str b => some ([], .v (.one (.str b)))
  | some ⟨.slice e, _, _, _⟩, some ⟨.str, _, _, _⟩, x =>
    match Γ e with
    | some ⟨.int .u8, _, _, _⟩ => match bytesC x ob with
      | some (cs, l) => some (cs, .v (.one (.str (ofL l))))
      | none => none
    | _ => none
  | _, _, _ => none

theorem fold_ofL : ∀ (l acc : List Int), l.foldl (fun r n => r.push (UInt8.ofNat n.toNat)) (ofL acc) = ofL (acc ++ l)
  | [], acc => by simp
  | n :: l, acc => by
    simp only [List.foldl_cons]
    have : (ofL acc).push (UInt8.ofNat n.toNat) = ofL (acc ++ [n]) := by simp [ofL, ByteArray.push]
    rw [this, fold_ofL l (acc ++ [n])]
    simp

theorem bytes_of {P : Program} (w : World) (ν : Pl) {hp : Hp} (F : FitH ν hp w) {i : Nat} {o : MObj} (hi : hp i = some o) {off lo len cap adr : Nat} {l : List Int} {n : Nat} (hr : rowAt o.segs off = some (.ints .u8 l n)) (hle : lo + len ≤ n) (hadr : len = 0 ∨ adr = off + lo) :
    (Conv.bytesToString (.slice (some (at_ ν i adr)) len cap)).run P w = .ok (.string (ofL ((l.drop lo).take len))) w := by
  obtain ⟨h1, h2, h3⟩ := rowAt_spec (ν := ν) hr (F.ok i o hi)
  have hln : l.length = n := h1
  have hlen : ((l.drop lo).take len).length = len := by rw [List.length_take, List.length_drop]; omega
  have key : (loadCells (at_ ν i adr) len).run P w = .ok (((l.drop lo).take len).map (Value.int .u8)).toArray w := by
    have := run_loadCells_list (P := P) w (at_ ν i adr) (((l.drop lo).take len).map (Value.int .u8)) (fun j v hj => by
      have hjl := (List.getElem?_eq_some_iff.1 hj).1
      rw [List.length_map, hlen] at hjl
      have ha : adr = off + lo := by omega
      rw [at_add]
      refine (cell_of_fit F hi ?_).1
      rw [ha, Nat.add_assoc, h2 (lo + j) (by simp [Seg.size]; omega)]
      rw [List.getElem?_map, List.getElem?_take, if_pos hjl, List.getElem?_drop] at hj
      simp only [Seg.den, List.getElem?_map]
      exact hj)
    rwa [List.length_map, hlen] at this
  rw [run_bytesToString w _ len cap _ key]
  have := fold_ofL ((l.drop lo).take len) []
  simp only [List.nil_append] at this
  rw [← this]
  rfl

theorem bytesC_spec {P : Program} (w : World) {x : C} {ob : Option MObj} {cs : List Prop} {l : List Int} (h : bytesC x ob = some (cs, l)) (hc : AllP cs) (ν : Pl) {hp : Hp} (F : FitH ν hp w) (hok : x.ok (dom hp))
    (hob : ∀ i o, x.obj = some i → ob = some o → hp i = some o) : ∃ a n c, x.den ν = .slice a n c ∧ (Conv.bytesToString (x.den ν)).run P w = .ok (.string (ofL l)) w := by
  unfold bytesC at h
  split at h
  · simp at h; obtain ⟨_, rfl⟩ := h; exact ⟨_, _, _, rfl, rfl⟩
  · rename_i i lo len w' o
    split at h
    · rename_i c l' n hcn hr
      cases hb : Nat.beq w' 1 with
      | false => rw [hb] at h; simp at h
      | true =>
        rw [hb] at h; simp at h; obtain ⟨rfl, rfl⟩ := h
        have ew := Nat.eq_of_beq_eq_true hb
        subst ew
        have hi := hob i o rfl rfl
        have hle : lo + len ≤ c := hc.1
        have hle' : lo + len ≤ n := hc.2.1
        obtain ⟨g1, g2, g3⟩ := MObj.cnt_cap hcn (F.ok i o hi) (F.fit i o hi)
        refine ⟨_, _, _, rfl, ?_⟩
        cases hn : (ν i).nil with
        | true =>
          have := (g1 hn).1
          have e0 : len = 0 := by omega
          subst e0
          simp only [C.den, hn, if_true, List.take_zero]
          rfl
        | false =>
          simp only [C.den, hn, Bool.false_eq_true, if_false, Nat.mul_one]
          refine bytes_of w ν F hi hr hle' ?_
          by_cases h0 : len = 0
          · exact .inl h0
          · right; rw [if_neg (by omega)]; omega
    · cases h
  · rename_i i off w' lo len cap adr o
    split at h
    · rename_i l' n hr
      cases hb : Nat.beq w' 1 with
      | false => rw [hb] at h; simp at h
      | true =>
        rw [hb] at h; simp at h; obtain ⟨rfl, rfl⟩ := h
        have ew := Nat.eq_of_beq_eq_true hb
        subst ew
        have hi := hob i o rfl rfl
        refine ⟨_, _, _, rfl, bytes_of w ν F hi hr hc.1 ?_⟩
        by_cases h0 : len = 0
        · exact .inl h0
        · right
          have := hok.2.2 (by have := hok.2.1; omega)
          omega
    · cases h
  · cases h

theorem run_convC {P : Program} {Γ : Tab} (hΓ : Γ.Ok P) (w : World) {s d : Nat} {x : C} {ob : Option MObj} {cs : List Prop} {v : V} (h : convC Γ s d x ob = some (cs, v)) (hc : AllP cs) (ν : Pl) {hp : Hp} (F : FitH ν hp w) (hok : x.ok (dom hp))
    (hob : ∀ i o, x.obj = some i → ob = some o → hp i = some o) : (∃ z, (convert s d (x.den ν)).run P w = .ok z w ∧ v.rel ν z) ∧ v.ok (dom hp) := by
  unfold convC at h
  split at h
  · rename_i ts k _ _ _ _ n hs hd
    simp at h; obtain ⟨_, rfl⟩ := h
    obtain ⟨d', hd', hk⟩ := (hΓ d _ hd).und
    simp only [TK.Is] at hk; subst hk
    obtain ⟨ds, hds, _⟩ := (hΓ s _ hs).und
    refine ⟨⟨_, ?_, rfl⟩, trivial⟩
    simp only [convert, Sem.run_bind, run_underlying hds, run_underlying hd', Result.andThen_ok, C.den]
    cases ds <;> rfl
  · rename_i b hs hd
    simp at h; obtain ⟨_, rfl⟩ := h
    obtain ⟨d', hd', hk⟩ := (hΓ d _ hd).und
    simp only [TK.Is] at hk; subst hk
    obtain ⟨ds, hds, hks⟩ := (hΓ s _ hs).und
    simp only [TK.Is] at hks; subst hks
    refine ⟨⟨_, ?_, rfl⟩, trivial⟩
    simp only [convert, Sem.run_bind, run_underlying hds, run_underlying hd', Result.andThen_ok, C.den]
    rfl
  · rename_i e _ _ _ _ _ _ hs hd
    split at h
    · rename_i _ _ _ he
      split at h
      · rename_i cs' l hb
        simp at h; obtain ⟨rfl, rfl⟩ := h
        obtain ⟨d', hd', hk⟩ := (hΓ d _ hd).und
        simp only [TK.Is] at hk; subst hk
        obtain ⟨ds, hds, hks⟩ := (hΓ s _ hs).und
        simp only [TK.Is] at hks; subst hks
        obtain ⟨de, hde, hke⟩ := (hΓ e _ he).und
        simp only [TK.Is] at hke; subst hke
        obtain ⟨a, n, c, hx, hr⟩ := bytesC_spec (P := P) w hb hc ν F hok hob
        refine ⟨⟨_, ?_, rfl⟩, trivial⟩
        rw [hx] at hr ⊢
        rw [run_convert_bytes_string w s d e a n c hds hde hd', hr]
        rfl
      · cases h
    · cases h
  · cases h
end Go.Mx
