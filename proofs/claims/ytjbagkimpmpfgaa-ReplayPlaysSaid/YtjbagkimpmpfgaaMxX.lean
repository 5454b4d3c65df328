/- The engine, part X: the operations that make and write memory. Conditions: those that each lists. -/
import Derived.Test.YtjbagkimpmpfgaaMxW
namespace Go.Mx

/-! ### Rows of zeros -/
def elemZero (z : List Seg) (n : Nat) : List Seg :=
  match z with
  | [.c (.int k v)] => [.ints k (List.replicate n v) n]
  | [.c (.str v)] => [.strs (List.replicate n v) n]
  | z => (List.replicate n z).flatten
theorem denS_flatten (ν : Pl) (z : List Seg) : ∀ n, denS ν (List.replicate n z).flatten = (List.replicate n (denS ν z)).flatten
  | 0 => rfl
  | n + 1 => by simp [List.replicate_succ, denS_append, denS_flatten ν z n]
theorem sizeS_flatten (z : List Seg) : ∀ n, sizeS (List.replicate n z).flatten = n * sizeS z
  | 0 => by simp [sizeS]
  | n + 1 => by simp [List.replicate_succ, sizeS_append, sizeS_flatten z n, Nat.add_mul]; omega
theorem okS_flatten {D : Nat → Prop} {z : List Seg} (h : okS D z) : ∀ n, okS D (List.replicate n z).flatten
  | 0 => trivial
  | n + 1 => by
    rw [List.replicate_succ, List.flatten_cons]
    exact okS_append.2 ⟨h, okS_flatten h n⟩
theorem flat_one {α : Type} (v : α) : ∀ n, (List.replicate n [v]).flatten = List.replicate n v
  | 0 => rfl
  | n + 1 => by simp [List.replicate_succ, flat_one v n]
theorem elemZero_spec {D : Nat → Prop} {ν : Pl} {z : List Seg} (h : okS D z) (n : Nat) : denS ν (elemZero z n) = (List.replicate n (denS ν z)).flatten ∧ okS D (elemZero z n) ∧ sizeS (elemZero z n) = n * sizeS z := by
  unfold elemZero
  split
  · refine ⟨?_, ⟨by simp [Seg.ok], trivial⟩, by simp [sizeS, Seg.size]⟩
    simp [denS, Seg.den, C.den]
  · refine ⟨?_, ⟨by simp [Seg.ok], trivial⟩, by simp [sizeS, Seg.size]⟩
    simp [denS, Seg.den, C.den]
  · exact ⟨denS_flatten ν _ n, okS_flatten h n, sizeS_flatten _ n⟩

theorem flatten_get (l : List Value) (hl : l ≠ []) : ∀ n i, i < n * l.length → (List.replicate n l).flatten[i]? = l[i % l.length]?
  | 0, i, h => by simp at h
  | n + 1, i, h => by
    rw [List.replicate_succ, List.flatten_cons]
    rcases Nat.lt_or_ge i l.length with h1 | h1
    · rw [List.getElem?_append_left h1, Nat.mod_eq_of_lt h1]
    · rw [List.getElem?_append_right h1, flatten_get l hl n (i - l.length) (by rw [Nat.add_mul] at h; omega), ← Nat.mod_eq_sub_mod h1]
theorem madeCells_list (z : Array Value) (n : Nat) (hz : 0 < z.size) : (madeCells z (n * z.size)).toList = (List.replicate n z.toList).flatten := by
  have hlen : (List.replicate n z.toList).flatten.length = n * z.size := by simp
  apply List.ext_getElem?
  intro i
  rcases Nat.lt_or_ge i (n * z.size) with h | h
  · rw [flatten_get z.toList (by intro e; have := congrArg List.length e; simp at this; rw [this] at hz; simp at hz) n i (by simpa using h)]
    have hm : i % z.size < z.size := Nat.mod_lt _ hz
    simp [madeCells, h, hm]
  · rw [List.getElem?_eq_none (by simp [madeCells]; exact h), List.getElem?_eq_none (by rw [hlen]; exact h)]

/-! ### What an operation does -/
structure Eff where
  cs : List Prop
  v : V
  foot : List (Nat × MObj)
  upd : List (Nat × MObj)
  fresh : List Nat

def newE (n : Nat) (cs : List Prop) (x : C) (e : Nat) (b : List Seg) : Eff := ⟨cs, .v (.one x), [], [(n, .own e b)], [n]⟩

def allocC (Γ : Tab) (T n : Nat) : Option Eff :=
  match Γ T with
  | some ti => some (newE n [] (.ptr n 0) 0 ti.zero)
  | none => none
def boxC (n : Nat) (x : V) : Option Eff :=
  match x with
  | .v x => some (newE n [] (.ptr n 0) 0 x.segs)
  | _ => none
def buildSliceC (Γ : Tab) (T len n : Nat) (ps : List Nat) (vs : List V) : Option Eff :=
  match Γ T with
  | some ⟨.slice e, _, _, _⟩ =>
    match Γ e, v1s vs with
    | some te, some xs =>
      match layAll (fun i => some (i * te.size, te.size)) (elemZero te.zero len) (ps.zip xs) with
      | some (cs, b) => bif Nat.ble (len * te.size) 16777216 && Nat.blt 0 te.size then some (newE n cs (.sl n 0 len te.size) te.size b) else none
      | none => none
    | _, _ => none
  | _ => none
def makeC (Γ : Tab) (T n : Nat) (l c : Int) : Option Eff :=
  match Γ T with
  | some ⟨.slice e, _, _, _⟩ =>
    match Γ e with
    | some te => bif Nat.blt 0 te.size then some (newE n [l = c, 0 ≤ l, (te.bytes : Int) * l ≤ 281474976710656, l ≤ 9223372036854775807] (.sl n 0 l.toNat te.size) te.size (elemZero te.zero l.toNat)) else none
    | none => none
  | _ => none
def toBytesC (Γ : Tab) (s d n : Nat) (x : C) : Option Eff :=
  match Γ s, Γ d, x with
  | some ⟨.str, _, _, _⟩, some ⟨.slice e, _, _, _⟩, .str b =>
    match Γ e with
    | some ⟨.int .u8, _, _, _⟩ => some (newE n [] (.sl n 0 b.size 1) 1 [.ints .u8 (bl b) b.size])
    | _ => none
  | _, _, _ => none

/-- An operation that lays a new block, in whatever state. -/
theorem wpOk_new {X : Ctx} {Q : Exit → Act → World → Prop} {o : Oper} {r : Rec V MObj} {n e : Nat} {b : List Seg} (hu : r.upd = [(n, .own e b)]) (hf : n ∈ r.fresh) (hd : r.dst = o.dst) (hdt : ∀ x, o.dst = some x → x < X.nt)
    (hrun : ∀ ν s a w, r.valid s → SatAt X ν s a w → okS (dom s.hp) b ∧ r.v.ok (fun k => dom s.hp k ∨ k = n) ∧ ∃ (w1 : World) (arr : Array Value) (t : TypeId) (fz : Nat × Nat) (cap : Nat) (spare : List Value) (y : Value), (w1 = w ∨ w1 = w.drew) ∧
      (execOp a.eval o).run X.P w = .ok (.value y) (w1.alloc (.cells arr t fz)) ∧ arr.toList = denS ν b ++ spare ∧ (e ≠ 0 → cap * e = arr.size) ∧ (fz = (0, 0) ∨ fz = (arr.size, arr.size + 1)) ∧ r.v.rel (upd1 ν n ⟨w.heap.size, 0, cap, false⟩) y) : WpOk X Q o r := by
  intro s a w K hv hs hK
  obtain ⟨ν, hs⟩ := hs
  obtain ⟨hb, hvok, w1, arr, t, fz, cap, spare, y, hw1, hy, harr, hcap, hfz, hr⟩ := hrun ν s a w hv hs
  have hn := hv.2.2 n hf
  unfold Oper.wp
  rw [hy]
  simp only [Oper.upon]
  have hs1 : SatAt X ν s a w1 := by rcases hw1 with rfl | rfl; exact hs; exact hs.drew
  have hsz : w1.heap.size = w.heap.size := by rcases hw1 with rfl | rfl <;> rfl
  refine hK _ _ ⟨upd1 ν n ⟨w1.heap.size, 0, cap, false⟩, ?_⟩
  simp only [Rec.app, hu, hd]
  refine hs1.fresh hn hb harr hcap hfz hdt (by rw [hsz]; exact hr) (V.ok_mono (fun k hk => ?_) hvok)
  unfold dom
  rw [updF_one]
  split
  · simp
  · rename_i hne
    exact hk.resolve_right hne

/-- The record of an effect. -/
def Eff.toR (f : Eff) (dst : Option Nat) (slots : List (Nat × V)) : Rec V MObj := ⟨dst, slots, f.foot, f.fresh, f.v, f.upd⟩

theorem lift1 {P : Program} {w : World} {m : Sem Value} {y : Value} {w' : World} (h : m.run P w = .ok y w') : (do pure (Next.value (← m)) : Sem Next).run P w = .ok (.value y) w' := by
  simp only [Sem.run_bind, h, Result.andThen_ok, Sem.run_pure]

section
variable {X : Ctx} {Q : Exit → Act → World → Prop} {Γ : Tab} (hΓ : Γ.Ok X.P) {dst : Option Nat} {ty : TypeId} {pos : String} {aft : Array Edge} {gd : Option (Nat × Bool)} {slots : List (Nat × V)} (hdt : ∀ x, dst = some x → x < X.nt)
include hΓ hdt

theorem alloc_ok {T n : Nat} {f : Eff} (h : allocC Γ T n = some f) : WpOk X Q ⟨dst, .alloc T, ty, pos, aft, gd⟩ (f.toR dst slots) := by
  unfold allocC at h
  split at h
  · rename_i ti hT
    simp at h; subst h
    refine wpOk_new (n := n) (e := 0) (b := ti.zero) rfl (by simp [Eff.toR, newE]) rfl hdt (fun ν s a w hv hs => ?_)
    obtain ⟨z, hz1, hz2⟩ := run_zeroValue (hΓ T ti hT) w
    obtain ⟨_, _, _, _, _, _, _, hzok, _⟩ := (hΓ T ti hT).info
    refine ⟨hzok _, .inr rfl, w, z.cells, T, (0, 0), 0, [], .pointer (some ⟨w.heap.size, 0, none⟩), .inl rfl, ?_, by simpa using hz2 ν, fun h => absurd rfl h, .inl rfl, ?_⟩
    · refine lift1 ?_
      simp only [Instr.alloc, Sem.run_bind, hz1, Result.andThen_ok, newVar, newRow, run_newObj, Sem.run_pure]
      rfl
    · simp [V.rel, Eff.toR, newE, V1.den, C.den, at_, upd1_same]
  · cases h

omit hΓ in
theorem box_ok {T n : Nat} {x : Operand} {f : Eff} {g : Nat → V} (h : boxC n (ov g x) = some f) (hsl : ∀ s : St, (f.toR dst slots).valid s → ov s.tmp x = ov g x) : WpOk X Q ⟨dst, .box T x, ty, pos, aft, gd⟩ (f.toR dst slots) := by
  unfold boxC at h
  split at h
  · rename_i y hy
    simp at h; subst h
    refine wpOk_new (n := n) (e := 0) (b := y.segs) rfl (by simp [Eff.toR, newE]) rfl hdt (fun ν s a w hv hs => ?_)
    have hx := ov_rel hs x
    rw [hsl s hv, hy] at hx
    obtain ⟨h1, h2⟩ := hx
    refine ⟨V1.segs_ok h2, .inr rfl, w, (y.den ν).cells, T, (0, 0), 0, [], .pointer (some ⟨w.heap.size, 0, none⟩), .inl rfl, ?_, by simpa using V1.cells h2, fun h => absurd rfl h, .inl rfl, ?_⟩
    · refine lift1 ?_
      rw [h1]
      simp only [Instr.box, Sem.run_bind, newVar, newRow, run_newObj, Sem.run_pure, Result.andThen_ok]
      rfl
    · simp [V.rel, Eff.toR, newE, V1.den, C.den, at_, upd1_same]
  · cases h

omit hdt in
theorem zero_parts {e : Nat} {te : TI} (he : Γ e = some te) (w : World) : ∃ z, (zeroValue e).run X.P w = .ok z w ∧ z.cells.size = te.size ∧ ∀ ν, z.cells.toList = denS ν te.zero := by
  obtain ⟨z, hz1, hz2⟩ := run_zeroValue (hΓ e te he) w
  obtain ⟨_, _, _, _, _, _, _, hzok, hsz⟩ := (hΓ e te he).info
  refine ⟨z, hz1, ?_, hz2⟩
  rw [← Array.length_toList, hz2 (fun _ => ⟨0, 0, 0, false⟩), denS_len (hzok (fun _ => True)), hsz]

theorem buildSlice_ok {T len n : Nat} {parts : Array (Nat × Operand)} {f : Eff} {g : Nat → V} (h : buildSliceC Γ T len n (parts.toList.map (·.1)) (parts.toList.map fun p => ov g p.2) = some f) (hc : AllP f.cs)
    (hsl : ∀ s : St, (f.toR dst slots).valid s → ∀ p ∈ parts.toList, ov s.tmp p.2 = ov g p.2) : WpOk X Q ⟨dst, .buildSlice T len parts, ty, pos, aft, gd⟩ (f.toR dst slots) := by
  unfold buildSliceC at h
  split at h
  · rename_i e _ _ _ hT
    split at h
    · rename_i te xs hte hxs
      split at h
      · rename_i cs b hb
        cases hbb : (Nat.ble (len * te.size) 16777216 && Nat.blt 0 te.size) with
        | false => rw [hbb] at h; simp at h
        | true =>
          rw [hbb] at h; simp at h; subst h
          simp only [Bool.and_eq_true] at hbb
          have h1 : len * te.size ≤ 16777216 := by have := hbb.1; rwa [Nat.ble_eq] at this
          have h2 : 0 < te.size := by have := hbb.2; rwa [Nat.blt_eq] at this
          have hm := v1s_map hxs
          refine wpOk_new (n := n) (e := te.size) (b := b) rfl (by simp [Eff.toR, newE]) rfl hdt (fun ν s a w hv hs => ?_)
          obtain ⟨d, hd, hk⟩ := (hΓ T _ hT).und
          simp only [TK.Is] at hk; subst hk
          have R1 : ∀ {x : Operand} {c : V1}, ov s.tmp x = .v c → a.eval x = c.den ν ∧ c.ok (dom s.hp) := fun {x c} hx => by
            have := ov_rel hs x; rw [hx] at this; exact this
          obtain ⟨hok, hz⟩ := zip_parts R1 parts.toList xs (by
            rw [← hm, List.map_map]
            exact List.map_congr_left (fun p hp => hsl s hv p hp))
          obtain ⟨z, hz1, hz2, hz3⟩ := zero_parts hΓ hte w
          obtain ⟨_, _, _, _, _, _, _, hzok, hzs⟩ := (hΓ e te hte).info
          obtain ⟨e1, e2, e3⟩ := elemZero_spec (ν := ν) (hzok (dom s.hp)) len
          have hcells : (madeCells z.cells (len * z.cells.size)).toList = denS ν (elemZero te.zero len) := by
            rw [madeCells_list _ _ (by rw [hz2]; exact h2), e1, hz3 ν]
          obtain ⟨cells', f1, f2, f3, f4⟩ := layAll_spec (ν := ν) ((parts.toList.map (·.1)).zip xs) (elemZero te.zero len) b cs _ hb hc e2 (fun p hp => hok p.2 (List.of_mem_zip hp).2) hcells
          have hmap : ((parts.toList.map (·.1)).zip xs).map (fun p => (p.1, p.2.den ν)) = parts.toList.map (fun p => (p.1, a.eval p.2)) := by
            rw [← hz, List.zip_map_right]; rfl
          rw [hmap] at f1
          have hsz := (hΓ e te hte).sizeOf w
          have hcs : cells'.size = len * te.size := by
            rw [← Array.length_toList, f2, denS_len f3, f4, e3, hzs]
          refine ⟨f3, .inr rfl, w, cells', e, (0, 0), len, [], .slice (some ⟨w.heap.size, 0, none⟩) len len, .inl rfl, ?_, by simpa using f2, fun _ => hcs.symm, .inl rfl, ?_⟩
          · refine lift1 ?_
            have hgt : ¬ (2 ^ 24 < len * te.size) := by have : (2 : Nat) ^ 24 = 16777216 := rfl; omega
            have hmk : (Array.range (len * te.size)).map (z.cells[· % z.cells.size]!) = madeCells z.cells (len * z.cells.size) := by unfold madeCells; rw [show len * te.size = len * z.cells.size by rw [hz2]]
            have hpl : (parts.map fun (i, x) => (i, a.eval x)).toList = parts.toList.map (fun p => (p.1, a.eval p.2)) := by simp
            simp only [Instr.buildSlice, Sem.run_bind, run_underlying hd, Result.andThen_ok, hsz, gt_iff_lt, if_neg hgt]
            by_cases h0 : len * te.size = 0
            · have hl0 : len = 0 := by
                rcases Nat.eq_zero_or_pos len with h' | h'
                · exact h'
                · have := Nat.mul_pos h' h2; omega
              subst hl0
              simp only [Nat.zero_mul, if_true, Sem.run_bind, Sem.run_pure, Result.andThen_ok]
              have hmk0 : (Array.range 0).map ((#[] : Array Value)[· % (#[] : Array Value).size]!) = madeCells z.cells (0 * z.cells.size) := by simp [madeCells]
              rw [hmk0, hpl, f1]
              simp only [newRow, Sem.run_bind, run_newObj, Sem.run_pure, Result.andThen_ok]
              rfl
            · simp only [if_neg h0, Sem.run_bind, hz1, Result.andThen_ok, Sem.run_pure]
              rw [hmk, hpl, f1]
              simp only [newRow, Sem.run_bind, run_newObj, Sem.run_pure, Result.andThen_ok]
              rfl
          · simp [V.rel, Eff.toR, newE, V1.den, C.den, at_, upd1_same]
      · cases h
    · cases h
  · cases h

theorem make_ok {T n : Nat} {x y : Operand} {k k' : IntKind} {l c : Int} {f : Eff} {g : Nat → V} (h : makeC Γ T n l c = some f) (hc : AllP f.cs) (hx : ov g x = .v (.one (.int k l))) (hy : ov g y = .v (.one (.int k' c)))
    (hsl : ∀ s : St, (f.toR dst slots).valid s → ov s.tmp x = ov g x ∧ ov s.tmp y = ov g y) : WpOk X Q ⟨dst, .makeSlice T x y, ty, pos, aft, gd⟩ (f.toR dst slots) := by
  unfold makeC at h
  split at h
  · rename_i e _ _ _ hT
    split at h
    · rename_i te hte
      cases hbb : Nat.blt 0 te.size with
      | false => rw [hbb] at h; simp at h
      | true =>
        rw [hbb] at h; simp at h; subst h
        rw [Nat.blt_eq] at hbb
        simp only [newE, AllP] at hc
        obtain ⟨rfl, c2, c3, c4, _⟩ := hc
        refine wpOk_new (n := n) (e := te.size) (b := elemZero te.zero l.toNat) rfl (by simp [Eff.toR, newE]) rfl hdt (fun ν s a w hv hs => ?_)
        obtain ⟨d, hd, hk⟩ := (hΓ T _ hT).und
        simp only [TK.Is] at hk; subst hk
        obtain ⟨g1, g2⟩ := hsl s hv
        have hx' := ov_rel hs x
        rw [g1, hx] at hx'
        have hy' := ov_rel hs y
        rw [g2, hy] at hy'
        obtain ⟨i0, z0, hi, hsize, hbytes, hz, hz3, hzok, hzs⟩ := (hΓ e te hte).info
        obtain ⟨e1, e2, e3⟩ := elemZero_spec (ν := ν) (hzok (dom s.hp)) l.toNat
        have hzsz : z0.cells.size = te.size := by rw [← Array.length_toList, hz3 ν, denS_len (hzok (fun _ => True)), hzs]
        have hr := run_make (P := X.P) w T e i0 z0 hd hi hz k k' l l c2 (Int.le_refl _) (by rw [hbytes]; exact c3) c4
        refine ⟨e2, .inr rfl, w, madeCells z0.cells (l.toNat * i0.size), e, (0, 0), l.toNat, [], .slice (some ⟨w.heap.size, 0, none⟩) l.toNat l.toNat, .inl rfl, ?_, ?_, fun _ => ?_, .inl rfl, ?_⟩
        · refine lift1 ?_
          rw [hx'.1, hy'.1]
          exact hr
        · rw [List.append_nil, hsize, ← hzsz, madeCells_list _ _ (by rw [hzsz]; exact hbb), e1, hz3 ν]
        · rw [size_madeCells, hsize]
        · simp [V.rel, Eff.toR, newE, V1.den, C.den, at_, upd1_same]
    · cases h
  · cases h

theorem toBytes_ok {sT dT n : Nat} {x : Operand} {c : C} {f : Eff} {g : Nat → V} (h : toBytesC Γ sT dT n c = some f) (hx : ov g x = .v (.one c))
    (hsl : ∀ s : St, (f.toR dst slots).valid s → ov s.tmp x = ov g x) : WpOk X Q ⟨dst, .convert sT dT x, ty, pos, aft, gd⟩ (f.toR dst slots) := by
  unfold toBytesC at h
  split at h
  · rename_i e _ _ _ b hS hD
    split at h
    · rename_i _ _ _ hE
      simp at h; subst h
      refine wpOk_new (n := n) (e := 1) (b := [.ints .u8 (bl b) b.size]) rfl (by simp [Eff.toR, newE]) rfl hdt (fun ν s a w hv hs => ?_)
      obtain ⟨d1, hd1, hk1⟩ := (hΓ _ _ hS).und
      simp only [TK.Is] at hk1; subst hk1
      obtain ⟨d2, hd2, hk2⟩ := (hΓ _ _ hD).und
      simp only [TK.Is] at hk2; subst hk2
      obtain ⟨d3, hd3, hk3⟩ := (hΓ _ _ hE).und
      simp only [TK.Is] at hk3; subst hk3
      have hx' := ov_rel hs x
      rw [hsl s hv, hx] at hx'
      have hr := run_bytes_of_string (P := X.P) w sT dT e b hd1 hd2 hd3
      have hge := grownCap_ge w b.size 0 e
      have hsz : (bytesRow b (grownCap w b.size 0 e)).size = grownCap w b.size 0 e := by
        simp only [bytesRow, Array.size_append, Array.size_map, Array.size_replicate]
        have : b.data.size = b.size := rfl
        omega
      refine ⟨⟨bl_length b, trivial⟩, .inr rfl, w.drew, bytesRow b (grownCap w b.size 0 e), e, _, grownCap w b.size 0 e, List.replicate (grownCap w b.size 0 e - b.size) (.int .u8 0), .slice (some ⟨w.heap.size, 0, none⟩) b.size (grownCap w b.size 0 e), .inr rfl, ?_, ?_, fun _ => ?_, .inr rfl, ?_⟩
      · refine lift1 ?_
        rw [hx'.1]
        exact hr
      · simp [bytesRow, denS, Seg.den, bl]
      · rw [hsz]; simp
      · simp [V.rel, Eff.toR, newE, V1.den, C.den, at_, upd1_same]
    · cases h
  · cases h
end
end Go.Mx
