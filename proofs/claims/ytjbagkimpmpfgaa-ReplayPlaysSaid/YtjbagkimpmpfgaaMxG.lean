/- The engine, part G: cells got out of, and laid into, stretches. -/
import Derived.Test.YtjbagkimpmpfgaaMxV
namespace Go.Mx

def AllP : List Prop → Prop
  | [] => True
  | p :: l => p ∧ AllP l
theorem AllP_append : ∀ {l m : List Prop}, AllP (l ++ m) ↔ AllP l ∧ AllP m
  | [], _ => by simp [AllP]
  | p :: l, m => by simp [AllP, AllP_append (l := l), and_assoc]

def kindB : IntKind → IntKind → Bool
  | .i8, .i8 | .i16, .i16 | .i32, .i32 | .i64, .i64 | .u8, .u8 | .u16, .u16 | .u32, .u32 | .u64, .u64 => true
  | _, _ => false
theorem kindB_eq {a b : IntKind} (h : kindB a b = true) : a = b := by cases a <;> cases b <;> first | rfl | cases h

/-- The cell at a place, of a stretch that is reached by its place alone. -/
def getP : List Seg → Nat → Option (List Prop × C)
  | [], _ => none
  | .c x :: _, 0 => some ([], x)
  | .c _ :: r, off + 1 => getP r off
  | .ints k l n :: r, off => bif Nat.blt off n then some ([off < n], .int k (l.getD off 0)) else getP r (off - n)
  | .strs l n :: r, off => bif Nat.blt off n then some ([off < n], .str (l.getD off ByteArray.empty)) else getP r (off - n)
  | .rows w n f :: r, off => bif Nat.blt off (n * w) then (match (f (off / w))[off % w]? with | some x => some ([off < n * w], x) | none => none) else getP r (off - n * w)

/-- The cell of an element of a row that begins at 'off'. -/
def getE : List Seg → Nat → Nat → Nat → Nat → Option (List Prop × C)
  | [], _, _, _, _ => none
  | .c x :: r, 0, row, w, f => getP (.c x :: r) (row * w + f)
  | .ints k l n :: _, 0, row, 1, 0 => some ([row < n], .int k (l.getD row 0))
  | .strs l n :: _, 0, row, 1, 0 => some ([row < n], .str (l.getD row ByteArray.empty))
  | .rows w' n fr :: _, 0, row, w, f => bif Nat.beq w' w then (match (fr row)[f]? with | some x => some ([row < n], x) | none => none) else none
  | .c _ :: r, off + 1, row, w, f => getE r off row w f
  | s :: r, off + 1, row, w, f => bif Nat.blt (off + 1) s.size then getP (s :: r) (off + 1 + row * w + f) else getE r (off + 1 - s.size) row w f
  | _, _, _, _, _ => none

theorem app_map_get {α β : Type} (f : α → β) (l : List α) (r : List β) (i : Nat) (h : i < l.length) : (l.map f ++ r)[i]? = some (f l[i]) := by
  rw [List.getElem?_append_left (by simpa using h)]; simp [h]

theorem rows_get (ν : Pl) (w : Nat) (f : Nat → List C) : ∀ (n : Nat), (∀ j, j < n → (f j).length = w) → ∀ row i x, row < n → (f row)[i]? = some x →
    ((List.range n).flatMap fun j => (f j).map (C.den ν))[row * w + i]? = some (x.den ν)
  | 0, _, _, _, _, h, _ => by omega
  | n + 1, h, row, i, x, hr, hx => by
    rw [List.range_succ, List.flatMap_append]
    have hl := flatMap_range_length w f (C.den ν) n (fun j hj => h j (by omega))
    have hiw : i < w := by have := (List.getElem?_eq_some_iff.1 hx).1; rw [h row hr] at this; exact this
    rcases Nat.lt_or_ge row n with hlt | hge
    · rw [List.getElem?_append_left]
      · exact rows_get ν w f n (fun j hj => h j (by omega)) row i x hlt hx
      · rw [hl]
        have : (row + 1) * w ≤ n * w := Nat.mul_le_mul_right w hlt
        rw [Nat.add_mul] at this; omega
    · have : row = n := by omega
      subst this
      rw [List.getElem?_append_right (by rw [hl]; omega), hl]
      simp [hx]

theorem getP_spec {D : Nat → Prop} {ν : Pl} : ∀ {l : List Seg} {off : Nat} {cs : List Prop} {x : C}, getP l off = some (cs, x) → AllP cs → okS D l →
    (denS ν l)[off]? = some (x.den ν) ∧ x.ok D
  | [], _, _, _, h, _, _ => by simp [getP] at h
  | .c y :: r, 0, cs, x, h, _, hok => by
    simp [getP] at h; obtain ⟨_, rfl⟩ := h
    exact ⟨by simp [denS, Seg.den], hok.1⟩
  | .c y :: r, off + 1, cs, x, h, hc, hok => by
    simp only [getP] at h
    have := getP_spec (ν := ν) h hc hok.2
    exact ⟨by simpa [denS, Seg.den] using this.1, this.2⟩
  | .ints k l n :: r, off, cs, x, h, hc, hok => by
    simp only [getP] at h
    have hl : l.length = n := hok.1
    cases hb : Nat.blt off n with
    | true =>
      rw [hb] at h; simp at h; obtain ⟨rfl, rfl⟩ := h
      have hlt : off < l.length := by rw [hl]; exact hc.1
      exact ⟨by simp only [denS, Seg.den, C.den]; rw [app_map_get _ _ _ _ hlt]; simp [hlt], trivial⟩
    | false =>
      rw [hb] at h; simp at h
      have hge : n ≤ off := by
        rcases Nat.lt_or_ge off n with h' | h'
        · have : Nat.blt off n = true := by rw [Nat.blt_eq]; exact h'
          rw [this] at hb; cases hb
        · exact h'
      have := getP_spec (ν := ν) h hc hok.2
      refine ⟨?_, this.2⟩
      simp only [denS, Seg.den]
      rw [List.getElem?_append_right (by simp [hl, hge])]
      simpa [hl] using this.1
  | .strs l n :: r, off, cs, x, h, hc, hok => by
    simp only [getP] at h
    have hl : l.length = n := hok.1
    cases hb : Nat.blt off n with
    | true =>
      rw [hb] at h; simp at h; obtain ⟨rfl, rfl⟩ := h
      have hlt : off < l.length := by rw [hl]; exact hc.1
      exact ⟨by simp only [denS, Seg.den, C.den]; rw [app_map_get _ _ _ _ hlt]; simp [hlt], trivial⟩
    | false =>
      rw [hb] at h; simp at h
      have hge : n ≤ off := by
        rcases Nat.lt_or_ge off n with h' | h'
        · have : Nat.blt off n = true := by rw [Nat.blt_eq]; exact h'
          rw [this] at hb; cases hb
        · exact h'
      have := getP_spec (ν := ν) h hc hok.2
      refine ⟨?_, this.2⟩
      simp only [denS, Seg.den]
      rw [List.getElem?_append_right (by simp [hl, hge])]
      simpa [hl] using this.1
  | .rows w n f :: r, off, cs, x, h, hc, hok => by
    simp only [getP] at h
    have hlen := Seg.len (ν := ν) hok.1
    simp only [Seg.size] at hlen
    cases hb : Nat.blt off (n * w) with
    | true =>
      rw [hb] at h; simp only [cond_true] at h
      have hlt : off < n * w := by rw [Nat.blt_eq] at hb; exact hb
      split at h
      · rename_i y hy
        simp at h; obtain ⟨rfl, rfl⟩ := h
        have hw : 0 < w := by
          rcases Nat.eq_zero_or_pos w with h0 | h0
          · subst h0; omega
          · exact h0
        have hq : off / w < n := by rw [Nat.div_lt_iff_lt_mul hw]; exact hlt
        refine ⟨?_, ?_⟩
        · simp only [denS]
          rw [List.getElem?_append_left (by rw [hlen]; exact hlt)]
          have := rows_get ν w f n (fun j hj => (hok.1 j hj).1) (off / w) (off % w) y hq hy
          rwa [show off / w * w + off % w = off by rw [Nat.mul_comm]; exact Nat.div_add_mod off w] at this
        · exact C.ok_flat ((hok.1 _ hq).2 y (List.mem_of_getElem? hy))
      · cases h
    | false =>
      rw [hb] at h; simp only [cond_false] at h
      have hge : n * w ≤ off := by
        rcases Nat.lt_or_ge off (n * w) with h' | h'
        · have : Nat.blt off (n * w) = true := by rw [Nat.blt_eq]; exact h'
          rw [this] at hb; cases hb
        · exact h'
      have := getP_spec (ν := ν) h hc hok.2
      refine ⟨?_, this.2⟩
      simp only [denS]
      rw [List.getElem?_append_right (by rw [hlen]; exact hge), hlen]
      exact this.1

theorem blt_false {a b : Nat} (h : Nat.blt a b = false) : b ≤ a := by
  rcases Nat.lt_or_ge a b with h' | h'
  · have : Nat.blt a b = true := by rw [Nat.blt_eq]; exact h'
    rw [this] at h; cases h
  · exact h'

theorem getE_spec {D : Nat → Prop} {ν : Pl} : ∀ {l : List Seg} {off row w f : Nat} {cs : List Prop} {x : C}, getE l off row w f = some (cs, x) → AllP cs → okS D l →
    (denS ν l)[off + row * w + f]? = some (x.den ν) ∧ x.ok D := by
  intro l
  induction l with
  | nil => intro off row w f cs x h; simp [getE] at h
  | cons s r ih =>
    intro off row w f cs x h hc hok
    cases off with
    | zero =>
      cases s with
      | c y =>
        simp only [getE] at h
        have := getP_spec (ν := ν) h hc hok
        simpa using this
      | ints k l n =>
        match w, f, h with
        | 1, 0, h =>
          simp [getE] at h; obtain ⟨rfl, rfl⟩ := h
          have hl : l.length = n := hok.1
          have hlt : row < l.length := by rw [hl]; exact hc.1
          refine ⟨?_, trivial⟩
          simp only [denS, Seg.den, C.den, Nat.zero_add, Nat.mul_one, Nat.add_zero]
          rw [app_map_get _ _ _ _ hlt]; simp [hlt]
      | strs l n =>
        match w, f, h with
        | 1, 0, h =>
          simp [getE] at h; obtain ⟨rfl, rfl⟩ := h
          have hl : l.length = n := hok.1
          have hlt : row < l.length := by rw [hl]; exact hc.1
          refine ⟨?_, trivial⟩
          simp only [denS, Seg.den, C.den, Nat.zero_add, Nat.mul_one, Nat.add_zero]
          rw [app_map_get _ _ _ _ hlt]; simp [hlt]
      | rows w' n fr =>
        simp only [getE] at h
        cases hb : Nat.beq w' w with
        | false => rw [hb] at h; simp at h
        | true =>
          rw [hb] at h; simp only [cond_true] at h
          have hww : w' = w := Nat.eq_of_beq_eq_true hb
          subst hww
          split at h
          · rename_i y hy
            simp at h; obtain ⟨rfl, rfl⟩ := h
            have hrow : row < n := hc.1
            have hlen := Seg.len (ν := ν) hok.1
            simp only [Seg.size] at hlen
            have hi := (List.getElem?_eq_some_iff.1 hy).1
            rw [(hok.1 row hrow).1] at hi
            refine ⟨?_, C.ok_flat ((hok.1 row hrow).2 y (List.mem_of_getElem? hy))⟩
            rw [Nat.zero_add]
            simp only [denS]
            rw [List.getElem?_append_left]
            · exact rows_get ν w' fr n (fun j hj => (hok.1 j hj).1) row f y hrow hy
            · rw [hlen]
              have : (row + 1) * w' ≤ n * w' := Nat.mul_le_mul_right w' hrow
              rw [Nat.add_mul] at this; omega
          · cases h
    | succ off =>
      have big : ∀ (_ : ∀ y, s ≠ .c y), (bif Nat.blt (off + 1) s.size then getP (s :: r) (off + 1 + row * w + f) else getE r (off + 1 - s.size) row w f) = some (cs, x) →
          (denS ν (s :: r))[off + 1 + row * w + f]? = some (x.den ν) ∧ x.ok D := by
        intro _ h
        cases hb : Nat.blt (off + 1) s.size with
        | true =>
          rw [hb] at h; simp only [cond_true] at h
          exact getP_spec h hc hok
        | false =>
          rw [hb] at h; simp only [cond_false] at h
          have hge := blt_false hb
          have := ih h hc hok.2
          refine ⟨?_, this.2⟩
          simp only [denS]
          rw [List.getElem?_append_right (by rw [Seg.len hok.1]; omega), Seg.len hok.1]
          rw [show off + 1 + row * w + f - s.size = off + 1 - s.size + row * w + f by omega]
          exact this.1
      cases s with
      | c y =>
        simp only [getE] at h
        have := ih h hc hok.2
        refine ⟨?_, this.2⟩
        rw [show off + 1 + row * w + f = (off + row * w + f) + 1 by omega]
        simpa [denS, Seg.den] using this.1
      | ints k l n => exact big (fun _ => by simp) h
      | strs l n => exact big (fun _ => by simp) h
      | rows w' n fr => exact big (fun _ => by simp) h

theorem take_app {α : Type} {l r : List α} {n : Nat} (h : l.length ≤ n) : (l ++ r).take n = l ++ r.take (n - l.length) := by
  rw [List.take_append]; congr 1; exact List.take_of_length_le h
theorem drop_app {α : Type} {l r : List α} {n : Nat} (h : l.length ≤ n) : (l ++ r).drop n = r.drop (n - l.length) := by
  rw [List.drop_append, List.drop_of_length_le h]; rfl

/-- The first n cells. -/
def takeS : List Seg → Nat → Option (List Seg)
  | _, 0 => some []
  | .c x :: r, n + 1 => match takeS r n with | some l => some (.c x :: l) | none => none
  | .ints k l m :: r, n + 1 => bif Nat.blt (n + 1) m then some [.ints k (l.take (n + 1)) (n + 1)] else match takeS r (n + 1 - m) with | some q => some (.ints k l m :: q) | none => none
  | .strs l m :: r, n + 1 => bif Nat.blt (n + 1) m then some [.strs (l.take (n + 1)) (n + 1)] else match takeS r (n + 1 - m) with | some q => some (.strs l m :: q) | none => none
  | _, _ => none
/-- What is behind the first n cells. -/
def dropS : List Seg → Nat → Option (List Seg)
  | l, 0 => some l
  | .c _ :: r, n + 1 => dropS r n
  | .ints k l m :: r, n + 1 => bif Nat.blt (n + 1) m then some (.ints k (l.drop (n + 1)) (m - (n + 1)) :: r) else dropS r (n + 1 - m)
  | .strs l m :: r, n + 1 => bif Nat.blt (n + 1) m then some (.strs (l.drop (n + 1)) (m - (n + 1)) :: r) else dropS r (n + 1 - m)
  | _, _ => none

theorem takeS_spec {D : Nat → Prop} {ν : Pl} : ∀ {l : List Seg} {n : Nat} {q : List Seg}, takeS l n = some q → okS D l → denS ν q = (denS ν l).take n ∧ okS D q ∧ sizeS q = n := by
  intro l
  induction l with
  | nil => intro n q h _; cases n <;> simp [takeS] at h; subst h; exact ⟨by simp [denS], trivial, rfl⟩
  | cons s r ih =>
    intro n q h hok
    cases n with
    | zero => simp [takeS] at h; subst h; exact ⟨by simp [denS], trivial, rfl⟩
    | succ n =>
      cases s with
      | c x =>
        simp only [takeS] at h
        split at h
        · rename_i l hl
          simp at h; subst h
          obtain ⟨h1, h2, h3⟩ := ih hl hok.2
          exact ⟨by simp [denS, Seg.den, h1], ⟨hok.1, h2⟩, by simp [sizeS, Seg.size, h3]; omega⟩
        · cases h
      | ints k l m =>
        simp only [takeS] at h
        have hl : l.length = m := hok.1
        cases hb : Nat.blt (n + 1) m with
        | true =>
          rw [hb] at h; simp at h; subst h
          rw [Nat.blt_eq] at hb
          refine ⟨?_, ⟨by simp [Seg.ok]; omega, trivial⟩, by simp [sizeS, Seg.size]⟩
          simp only [denS, Seg.den, List.append_nil]
          rw [List.take_append_of_le_length (by simp; omega), List.map_take]
        | false =>
          rw [hb] at h; simp only [cond_false] at h
          have hge := blt_false hb
          split at h
          · rename_i q' hq
            simp at h; subst h
            obtain ⟨h1, h2, h3⟩ := ih hq hok.2
            refine ⟨?_, ⟨hok.1, h2⟩, by simp [sizeS, Seg.size, h3]; omega⟩
            simp only [denS, Seg.den, h1]
            rw [take_app (by rw [List.length_map]; omega)]
            simp [hl]
          · cases h
      | strs l m =>
        simp only [takeS] at h
        have hl : l.length = m := hok.1
        cases hb : Nat.blt (n + 1) m with
        | true =>
          rw [hb] at h; simp at h; subst h
          rw [Nat.blt_eq] at hb
          refine ⟨?_, ⟨by simp [Seg.ok]; omega, trivial⟩, by simp [sizeS, Seg.size]⟩
          simp only [denS, Seg.den, List.append_nil]
          rw [List.take_append_of_le_length (by simp; omega), List.map_take]
        | false =>
          rw [hb] at h; simp only [cond_false] at h
          have hge := blt_false hb
          split at h
          · rename_i q' hq
            simp at h; subst h
            obtain ⟨h1, h2, h3⟩ := ih hq hok.2
            refine ⟨?_, ⟨hok.1, h2⟩, by simp [sizeS, Seg.size, h3]; omega⟩
            simp only [denS, Seg.den, h1]
            rw [take_app (by rw [List.length_map]; omega)]
            simp [hl]
          · cases h
      | rows w m f => simp [takeS] at h

theorem dropS_spec {D : Nat → Prop} {ν : Pl} : ∀ {l : List Seg} {n : Nat} {q : List Seg}, dropS l n = some q → okS D l → denS ν q = (denS ν l).drop n ∧ okS D q ∧ n + sizeS q = sizeS l := by
  intro l
  induction l with
  | nil => intro n q h _; cases n <;> simp [dropS] at h; subst h; exact ⟨by simp [denS], trivial, rfl⟩
  | cons s r ih =>
    intro n q h hok
    cases n with
    | zero => simp [dropS] at h; subst h; exact ⟨by simp, hok, by omega⟩
    | succ n =>
      cases s with
      | c x =>
        simp only [dropS] at h
        obtain ⟨h1, h2, h3⟩ := ih h hok.2
        exact ⟨by simp [denS, Seg.den, h1], h2, by simp [sizeS, Seg.size]; omega⟩
      | ints k l m =>
        simp only [dropS] at h
        have hl : l.length = m := hok.1
        cases hb : Nat.blt (n + 1) m with
        | true =>
          rw [hb] at h; simp at h; subst h
          rw [Nat.blt_eq] at hb
          refine ⟨?_, ⟨by simp [Seg.ok]; omega, hok.2⟩, by simp [sizeS, Seg.size]; omega⟩
          simp only [denS, Seg.den]
          rw [List.drop_append_of_le_length (by simp; omega), List.map_drop]
        | false =>
          rw [hb] at h; simp only [cond_false] at h
          have hge := blt_false hb
          obtain ⟨h1, h2, h3⟩ := ih h hok.2
          refine ⟨?_, h2, by simp [sizeS, Seg.size]; omega⟩
          rw [h1]
          simp only [denS, Seg.den]
          rw [drop_app (by rw [List.length_map]; omega)]
          simp [hl]
      | strs l m =>
        simp only [dropS] at h
        have hl : l.length = m := hok.1
        cases hb : Nat.blt (n + 1) m with
        | true =>
          rw [hb] at h; simp at h; subst h
          rw [Nat.blt_eq] at hb
          refine ⟨?_, ⟨by simp [Seg.ok]; omega, hok.2⟩, by simp [sizeS, Seg.size]; omega⟩
          simp only [denS, Seg.den]
          rw [List.drop_append_of_le_length (by simp; omega), List.map_drop]
        | false =>
          rw [hb] at h; simp only [cond_false] at h
          have hge := blt_false hb
          obtain ⟨h1, h2, h3⟩ := ih h hok.2
          refine ⟨?_, h2, by simp [sizeS, Seg.size]; omega⟩
          rw [h1]
          simp only [denS, Seg.den]
          rw [drop_app (by rw [List.length_map]; omega)]
          simp [hl]
      | rows w m f => simp [dropS] at h

/-- n cells from a place on. -/
def midS (l : List Seg) (off n : Nat) : Option (List Seg) := match dropS l off with | some q => takeS q n | none => none
theorem midS_spec {D : Nat → Prop} {ν : Pl} {l : List Seg} {off n : Nat} {q : List Seg} (h : midS l off n = some q) (hok : okS D l) :
    denS ν q = ((denS ν l).drop off).take n ∧ okS D q ∧ sizeS q = n ∧ off + n ≤ (denS ν l).length := by
  unfold midS at h
  split at h
  · rename_i p hp
    obtain ⟨h1, h2, h3⟩ := dropS_spec (ν := ν) hp hok
    obtain ⟨g1, g2, g3⟩ := takeS_spec (ν := ν) h h2
    refine ⟨by rw [g1, h1], g2, g3, ?_⟩
    have e1 := denS_len (ν := ν) g2
    rw [g1, h1, List.length_take, List.length_drop, g3] at e1
    by_cases h0 : n = 0
    · subst h0
      have := denS_len (ν := ν) hok
      omega
    · omega
  · cases h

/-- A cell laid at a place. -/
def setP : List Seg → Nat → C → Option (List Prop × List Seg)
  | [], _, _ => none
  | .c _ :: r, 0, x => some ([], .c x :: r)
  | .c y :: r, off + 1, x => match setP r off x with | some (cs, q) => some (cs, .c y :: q) | none => none
  | .ints k l n :: r, off, x => bif Nat.blt off n then (match x with | .int k' v => bif kindB k k' then some ([off < n], .ints k (l.set off v) n :: r) else none | _ => none)
      else match setP r (off - n) x with | some (cs, q) => some (cs, .ints k l n :: q) | none => none
  | .strs l n :: r, off, x => bif Nat.blt off n then (match x with | .str v => some ([off < n], .strs (l.set off v) n :: r) | _ => none)
      else match setP r (off - n) x with | some (cs, q) => some (cs, .strs l n :: q) | none => none
  | .rows _ _ _ :: _, _, _ => none

/-- A cell laid at an element of a row. -/
def setE : List Seg → Nat → Nat → Nat → Nat → C → Option (List Prop × List Seg)
  | [], _, _, _, _, _ => none
  | .c y :: r, 0, row, w, f, x => setP (.c y :: r) (row * w + f) x
  | .ints k l n :: r, 0, row, 1, 0, x => match x with | .int k' v => bif kindB k k' then some ([row < n], .ints k (l.set row v) n :: r) else none | _ => none
  | .strs l n :: r, 0, row, 1, 0, x => match x with | .str v => some ([row < n], .strs (l.set row v) n :: r) | _ => none
  | .rows w' n fr :: r, 0, row, w, f, x => bif Nat.beq w' w && Nat.blt f w && x.flat then some ([row < n], .rows w' n (fun j => bif Nat.beq j row then (fr row).set f x else fr j) :: r) else none
  | .c y :: r, off + 1, row, w, f, x => match setE r off row w f x with | some (cs, q) => some (cs, .c y :: q) | none => none
  | s :: r, off + 1, row, w, f, x => bif Nat.blt (off + 1) s.size then setP (s :: r) (off + 1 + row * w + f) x else match setE r (off + 1 - s.size) row w f x with | some (cs, q) => some (cs, s :: q) | none => none
  | _, _, _, _, _, _ => none

theorem map_set' {α β : Type} (f : α → β) (l : List α) (i : Nat) (x : α) : (l.set i x).map f = (l.map f).set i (f x) := by simp [List.map_set]

theorem setP_spec {D : Nat → Prop} {ν : Pl} : ∀ {l : List Seg} {off : Nat} {x : C} {cs : List Prop} {q : List Seg}, setP l off x = some (cs, q) → AllP cs → okS D l → x.ok D →
    denS ν q = (denS ν l).set off (x.den ν) ∧ okS D q ∧ off < (denS ν l).length ∧ sizeS q = sizeS l := by
  intro l
  induction l with
  | nil => intro off x cs q h; simp [setP] at h
  | cons s r ih =>
    intro off x cs q h hc hok hx
    have past : ∀ (n : Nat) (s' : Seg), s'.size = n → (s'.den ν).length = n → s'.ok D → n ≤ off → (match setP r (off - n) x with | some (cs, q) => some (cs, s' :: q) | none => none) = some (cs, q) → s' = s →
        denS ν q = (denS ν (s' :: r)).set off (x.den ν) ∧ okS D q ∧ off < (denS ν (s' :: r)).length ∧ sizeS q = sizeS (s' :: r) := by
      intro n s' hn hl hsk hge h _
      split at h
      · rename_i cs' q' hq
        simp at h; obtain ⟨rfl, rfl⟩ := h
        obtain ⟨h1, h2, h3, h4⟩ := ih hq hc hok.2 hx
        refine ⟨?_, ⟨hsk, h2⟩, by simp only [denS, List.length_append, hl]; omega, by simp [sizeS, h4]⟩
        simp only [denS, h1]
        rw [List.set_append_right _ _ (by omega), hl]
      · cases h
    cases s with
    | c y =>
      cases off with
      | zero =>
        simp [setP] at h; obtain ⟨_, rfl⟩ := h
        exact ⟨by simp [denS, Seg.den], ⟨hx, hok.2⟩, by simp [denS, Seg.den], by simp [sizeS, Seg.size]⟩
      | succ off =>
        simp only [setP] at h
        exact past 1 (.c y) rfl rfl hok.1 (by omega) (by simpa using h) rfl
    | ints k l n =>
      simp only [setP] at h
      have hl : l.length = n := hok.1
      cases hb : Nat.blt off n with
      | true =>
        rw [hb] at h; simp only [cond_true] at h
        rw [Nat.blt_eq] at hb
        cases x with
        | int k' v =>
          simp only at h
          cases hk : kindB k k' with
          | false => rw [hk] at h; simp at h
          | true =>
            rw [hk] at h; simp at h; obtain ⟨_, rfl⟩ := h
            have := kindB_eq hk; subst this
            refine ⟨?_, ⟨by simpa [Seg.ok] using hl, hok.2⟩, by simp [denS, Seg.den]; omega, by simp [sizeS, Seg.size]⟩
            simp only [denS, Seg.den, C.den]
            rw [List.set_append_left _ _ (by simp; omega), map_set']
        | _ => simp at h
      | false =>
        rw [hb] at h; simp only [cond_false] at h
        exact past n (.ints k l n) rfl (by simp [Seg.den, hl]) hok.1 (blt_false hb) h rfl
    | strs l n =>
      simp only [setP] at h
      have hl : l.length = n := hok.1
      cases hb : Nat.blt off n with
      | true =>
        rw [hb] at h; simp only [cond_true] at h
        rw [Nat.blt_eq] at hb
        cases x with
        | str v =>
          simp at h; obtain ⟨_, rfl⟩ := h
          refine ⟨?_, ⟨by simpa [Seg.ok] using hl, hok.2⟩, by simp [denS, Seg.den]; omega, by simp [sizeS, Seg.size]⟩
          simp only [denS, Seg.den, C.den]
          rw [List.set_append_left _ _ (by simp; omega), map_set']
        | _ => simp at h
      | false =>
        rw [hb] at h; simp only [cond_false] at h
        exact past n (.strs l n) rfl (by simp [Seg.den, hl]) hok.1 (blt_false hb) h rfl
    | rows w n f => simp [setP] at h

theorem rows_set (ν : Pl) (w : Nat) (fr : Nat → List C) (row i : Nat) (x : C) : ∀ (n : Nat), (∀ j, j < n → (fr j).length = w) → row < n → i < w →
    ((List.range n).flatMap fun j => (bif Nat.beq j row then (fr row).set i x else fr j).map (C.den ν)) = ((List.range n).flatMap fun j => (fr j).map (C.den ν)).set (row * w + i) (x.den ν)
  | 0, _, h, _ => by omega
  | n + 1, h, hr, hi => by
    have hl := flatMap_range_length w fr (C.den ν) n (fun j hj => h j (by omega))
    rw [List.range_succ, List.flatMap_append, List.flatMap_append]
    rcases Nat.lt_or_ge row n with hlt | hge
    · rw [rows_set ν w fr row i x n (fun j hj => h j (by omega)) hlt hi, List.set_append_left]
      · congr 1
        have : Nat.beq n row = false := by
          cases hb : Nat.beq n row with
          | false => rfl
          | true => have := Nat.eq_of_beq_eq_true hb; omega
        simp [this]
      · rw [hl]
        have : (row + 1) * w ≤ n * w := Nat.mul_le_mul_right w hlt
        rw [Nat.add_mul] at this; omega
    · have : row = n := by omega
      subst this
      rw [List.set_append_right _ _ (by rw [hl]; omega), hl]
      congr 1
      · have : ∀ (m : Nat) (g : Nat → List C), m ≤ row → ((List.range m).flatMap fun j => (bif Nat.beq j row then g row else fr j).map (C.den ν)) = (List.range m).flatMap fun j => (fr j).map (C.den ν) := by
          intro m g hm
          induction m with
          | zero => rfl
          | succ m ihm =>
            rw [List.range_succ, List.flatMap_append, List.flatMap_append, ihm (by omega)]
            have : Nat.beq m row = false := by
              cases hb : Nat.beq m row with
              | false => rfl
              | true => have := Nat.eq_of_beq_eq_true hb; omega
            simp [this]
        exact this row (fun _ => (fr row).set i x) (Nat.le_refl _)
      · simp [List.map_set]

theorem setE_spec {D : Nat → Prop} {ν : Pl} : ∀ {l : List Seg} {off row w f : Nat} {x : C} {cs : List Prop} {q : List Seg}, setE l off row w f x = some (cs, q) → AllP cs → okS D l → x.ok D →
    denS ν q = (denS ν l).set (off + row * w + f) (x.den ν) ∧ okS D q ∧ off + row * w + f < (denS ν l).length ∧ sizeS q = sizeS l := by
  intro l
  induction l with
  | nil => intro off row w f x cs q h; simp [setE] at h
  | cons s r ih =>
    intro off row w f x cs q h hc hok hx
    cases off with
    | zero =>
      cases s with
      | c y =>
        simp only [setE] at h
        simpa using setP_spec (ν := ν) h hc hok hx
      | ints k l n =>
        match w, f, h with
        | 1, 0, h =>
          have hl : l.length = n := hok.1
          cases x with
          | int k' v =>
            have h : (bif kindB k k' then some ([row < n], Seg.ints k (l.set row v) n :: r) else none) = some (cs, q) := h
            cases hk : kindB k k' with
            | false => rw [hk] at h; simp at h
            | true =>
              rw [hk] at h; simp at h; obtain ⟨rfl, rfl⟩ := h
              have := kindB_eq hk; subst this
              have hlt : row < n := hc.1
              refine ⟨?_, ⟨by simpa [Seg.ok] using hl, hok.2⟩, by simp [denS, Seg.den]; omega, by simp [sizeS, Seg.size]⟩
              simp only [denS, Seg.den, C.den, Nat.zero_add, Nat.mul_one, Nat.add_zero]
              rw [List.set_append_left _ _ (by simp; omega), map_set']
          | _ => cases h
      | strs l n =>
        match w, f, h with
        | 1, 0, h =>
          have hl : l.length = n := hok.1
          cases x with
          | str v =>
            have h : some ([row < n], Seg.strs (l.set row v) n :: r) = some (cs, q) := h
            simp at h; obtain ⟨rfl, rfl⟩ := h
            have hlt : row < n := hc.1
            refine ⟨?_, ⟨by simpa [Seg.ok] using hl, hok.2⟩, by simp [denS, Seg.den]; omega, by simp [sizeS, Seg.size]⟩
            simp only [denS, Seg.den, C.den, Nat.zero_add, Nat.mul_one, Nat.add_zero]
            rw [List.set_append_left _ _ (by simp; omega), map_set']
          | _ => cases h
      | rows w' n fr =>
        simp only [setE] at h
        cases hb : (Nat.beq w' w && Nat.blt f w && x.flat) with
        | false => rw [hb] at h; simp at h
        | true =>
          rw [hb] at h; simp at h; obtain ⟨rfl, rfl⟩ := h
          simp only [Bool.and_eq_true] at hb
          have hww : w' = w := Nat.eq_of_beq_eq_true hb.1.1
          subst hww
          have hf : f < w' := by have := hb.1.2; rwa [Nat.blt_eq] at this
          have hrow : row < n := hc.1
          have hlen := Seg.len (ν := ν) hok.1
          simp only [Seg.size] at hlen
          have hin : row * w' + f < n * w' := by
            have : (row + 1) * w' ≤ n * w' := Nat.mul_le_mul_right w' hrow
            rw [Nat.add_mul] at this; omega
          refine ⟨?_, ⟨fun j hj => ?_, hok.2⟩, ?_, by simp [sizeS, Seg.size]⟩
          · rw [Nat.zero_add]
            simp only [denS]
            rw [List.set_append_left _ _ (by rw [hlen]; exact hin)]
            congr 1
            exact rows_set ν w' fr row f x n (fun j hj => (hok.1 j hj).1) hrow hf
          · show (bif Nat.beq j row then (fr row).set f x else fr j).length = w' ∧ ∀ y ∈ (bif Nat.beq j row then (fr row).set f x else fr j), y.flat = true
            cases hj2 : Nat.beq j row with
            | false => simpa using hok.1 j hj
            | true =>
              simp only [cond_true, List.length_set]
              refine ⟨(hok.1 row hrow).1, fun y hy => ?_⟩
              rcases List.mem_or_eq_of_mem_set hy with h' | h'
              · exact (hok.1 row hrow).2 y h'
              · rw [h']; exact hb.2
          · rw [Nat.zero_add]
            simp only [denS, List.length_append, hlen]; omega
    | succ off =>
      have big : (bif Nat.blt (off + 1) s.size then setP (s :: r) (off + 1 + row * w + f) x else match setE r (off + 1 - s.size) row w f x with | some (cs, q) => some (cs, s :: q) | none => none) = some (cs, q) →
          denS ν q = (denS ν (s :: r)).set (off + 1 + row * w + f) (x.den ν) ∧ okS D q ∧ off + 1 + row * w + f < (denS ν (s :: r)).length ∧ sizeS q = sizeS (s :: r) := by
        intro h
        cases hb : Nat.blt (off + 1) s.size with
        | true =>
          rw [hb] at h; simp only [cond_true] at h
          exact setP_spec h hc hok hx
        | false =>
          rw [hb] at h; simp only [cond_false] at h
          have hge := blt_false hb
          split at h
          · rename_i cs' q' hq
            simp at h; obtain ⟨rfl, rfl⟩ := h
            obtain ⟨h1, h2, h3, h4⟩ := ih hq hc hok.2 hx
            have hsl := Seg.len (ν := ν) hok.1
            refine ⟨?_, ⟨hok.1, h2⟩, by simp only [denS, List.length_append, hsl]; omega, by simp [sizeS, h4]⟩
            simp only [denS, h1]
            rw [List.set_append_right _ _ (by rw [hsl]; omega), hsl]
            congr 2
            omega
          · cases h
      cases s with
      | c y =>
        simp only [setE] at h
        split at h
        · rename_i cs' q' hq
          simp at h; obtain ⟨rfl, rfl⟩ := h
          obtain ⟨h1, h2, h3, h4⟩ := ih hq hc hok.2 hx
          refine ⟨?_, ⟨hok.1, h2⟩, by simp [denS, Seg.den]; omega, by simp [sizeS, h4]⟩
          rw [show off + 1 + row * w + f = (off + row * w + f) + 1 by omega]
          simp [denS, Seg.den, h1]
        · cases h
      | ints k l n => exact big h
      | strs l n => exact big h
      | rows w' n fr => exact big h

/-- Cells laid over others, from a place on. -/
def spl (l : List Value) (off : Nat) (m : List Value) : List Value := l.take off ++ m ++ l.drop (off + m.length)
def putS (l : List Seg) (off : Nat) (m : List Seg) (n : Nat) : Option (List Seg) :=
  match takeS l off, dropS l (off + n) with
  | some a, some b => some (a ++ m ++ b)
  | _, _ => none
theorem putS_spec {D : Nat → Prop} {ν : Pl} {l m q : List Seg} {off n : Nat} (h : putS l off m n = some q) (hok : okS D l) (hm : okS D m) (hn : sizeS m = n) :
    denS ν q = spl (denS ν l) off (denS ν m) ∧ okS D q ∧ off + n ≤ (denS ν l).length ∧ sizeS q = sizeS l := by
  unfold putS at h
  split at h
  · rename_i a b ha hb
    simp at h; subst h
    obtain ⟨h1, h2, h3⟩ := takeS_spec (ν := ν) ha hok
    obtain ⟨g1, g2, g3⟩ := dropS_spec (ν := ν) hb hok
    have e := denS_len (ν := ν) hm
    have e2 := denS_len (ν := ν) hok
    refine ⟨?_, okS_append.2 ⟨h2, okS_append.2 ⟨hm, g2⟩⟩, by omega, by rw [sizeS_append, sizeS_append]; omega⟩
    · rw [denS_append, denS_append, h1, g1]
      unfold spl
      rw [e, hn, List.append_assoc]
  · cases h
end Go.Mx
