/- Chacha: words out of bytes, the square. -/
import Derived.Test.YtjbagkimpmpfgaaC3
namespace Go.Proofs.Ytjbagkimpmpfgaa
open Go Go.Mx
set_option maxRecDepth 100000
set_option maxHeartbeats 4000000

structure isB (x : Int) : Prop where
  lo : 0 ≤ x
  hi : x < 256
def allB (l : List Int) : Prop := ∀ i, i < l.length → isB (l.getD i 0)
/-- Four bytes from a place on, the lowest first. -/
def word4 (l : List Int) (k : Nat) : Int := l.getD k 0 + 256 * l.getD (k + 1) 0 + 65536 * l.getD (k + 2) 0 + 16777216 * l.getD (k + 3) 0
theorem word4_is {l : List Int} (h : allB l) {k : Nat} (hk : k + 4 ≤ l.length) : isW (word4 l k) := by
  have a := h k (by omega)
  have b := h (k + 1) (by omega)
  have c := h (k + 2) (by omega)
  have d := h (k + 3) (by omega)
  have := a.lo; have := a.hi; have := b.lo; have := b.hi; have := c.lo; have := c.hi; have := d.lo; have := d.hi
  constructor <;> unfold word4 <;> omega
theorem or_add (p q k : Nat) (hp : p < 2 ^ k) (h : p + q * 2 ^ k < 4294967296) : borI .u32 (p : Int) ((q * 2 ^ k : Nat) : Int) = ((p + q * 2 ^ k : Nat) : Int) := by
  simp only [borI]
  show IntKind.u32.wrap (((BitVec.ofInt 32 (p : Int) ||| BitVec.ofInt 32 ((q * 2 ^ k : Nat) : Int)).toNat : Nat) : Int) = _
  rw [BitVec.ofInt_natCast, BitVec.ofInt_natCast, BitVec.toNat_or, BitVec.toNat_ofNat, BitVec.toNat_ofNat, Nat.mod_eq_of_lt (by omega), Nat.mod_eq_of_lt (by omega), Nat.or_comm, ← Nat.shiftLeft_eq, ← Nat.shiftLeft_add_eq_or_of_lt hp, Nat.shiftLeft_eq]
  rw [IntWalk.u32_in _ (by omega)]
  omega
theorem bytes4 {a b c d : Int} (ha : isB a) (hb : isB b) (hc : isB c) (hd : isB d) :
    borI .u32 (borI .u32 (borI .u32 (conv .u32 a) (shlI .u32 (conv .u32 b) 8)) (shlI .u32 (conv .u32 c) 16)) (shlI .u32 (conv .u32 d) 24) = a + 256 * b + 65536 * c + 16777216 * d := by
  have cv : ∀ {x : Int}, isB x → conv .u32 x = x := fun {x} h => by have := h.lo; have := h.hi; rw [conv, IntWalk.u32_in]; omega
  rw [cv ha, cv hb, cv hc, cv hd]
  obtain ⟨a, rfl⟩ := Int.eq_ofNat_of_zero_le ha.lo
  obtain ⟨b, rfl⟩ := Int.eq_ofNat_of_zero_le hb.lo
  obtain ⟨c, rfl⟩ := Int.eq_ofNat_of_zero_le hc.lo
  obtain ⟨d, rfl⟩ := Int.eq_ofNat_of_zero_le hd.lo
  have h1 := ha.hi; have h2 := hb.hi; have h3 := hc.hi; have h4 := hd.hi
  have sh : ∀ (x : Nat) (k : Nat), k ≤ 24 → x < 256 → shlI .u32 (x : Int) (k : Int) = ((x * 2 ^ k : Nat) : Int) := fun x k hk hx => by
    have e : min ((k : Int).toNat) IntKind.u32.bits = k := by simp [IntKind.bits]; omega
    have h5 : x * 2 ^ k ≤ 255 * 2 ^ 24 := Nat.mul_le_mul (by omega) (Nat.pow_le_pow_right (by omega) hk)
    have : ((x : Int) * 2 ^ k) = ((x * 2 ^ k : Nat) : Int) := by push_cast; rfl
    simp only [shlI, e, this]
    rw [IntWalk.u32_in]
    omega
  have s8 := sh b 8 (by omega) (by omega)
  have s16 := sh c 16 (by omega) (by omega)
  have s24 := sh d 24 (by omega) (by omega)
  change shlI .u32 (b : Int) 8 = _ at s8
  change shlI .u32 (c : Int) 16 = _ at s16
  change shlI .u32 (d : Int) 24 = _ at s24
  rw [s8, s16, s24, or_add a b 8 (by omega) (by omega), or_add _ c 16 (by omega) (by omega), or_add _ d 24 (by omega) (by omega)]
  omega

def c97 : Ctr := fun args objs => match args, objs with
  | [.one (.sx 0 0 1 lo len _ _)], [.own _ [.ints .u8 l n]] => some ⟨[allB l, 4 ≤ len, lo + len ≤ n, l.length = n], .v (.one (.int .u32 (word4 l lo))), [], []⟩
  | _, _ => none
theorem m97 : Meets Try.prog 97 c97 := by
  refine meets_of_run tab_ok env0 mixed [2] Try.func97 rfl Try.ntmps97 Try.call97 (fun t w => by simp [results, Try.results97, resV]) ?_
  intro args objs r hr hcs
  unfold c97 at hr
  split at hr
  · rename_i lo len cap adr e l n
    simp only [Option.some.injEq] at hr; subst hr
    obtain ⟨h1, h2, h3, h4, _⟩ := hcs
    refine ⟨rfl, ?_⟩
    conv => whnf
    refine ⟨?_, rfl, [0], [], rfl, ⟨⟨rfl, ?_⟩, trivial⟩, ⟨rfl, rfl, rfl, rfl, trivial⟩, trivial⟩
    · repeat' apply And.intro
      all_goals first
        | exact True.intro
        | decide +kernel
        | omega
        | (show lo + 3 < n; omega)
        | (show lo + 2 < n; omega)
        | (show lo + 1 < n; omega)
        | (show lo + 0 < n; omega)
    · exact bytes4 (h1 lo (by omega)) (h1 (lo + 1) (by omega)) (h1 (lo + 2) (by omega)) (h1 (lo + 3) (by omega))
  · cases hr

/-! ### The square -/
def consts : List Int := [1634760805, 857760878, 2036477234, 1797285236]
def layI (k : List Int) (i : Nat) : List Int := consts ++ (List.range i).map (fun j => word4 k (4 * j)) ++ List.replicate (12 - i) 0
theorem layI_len (k : List Int) {i : Nat} (hi : i ≤ 12) : (layI k i).length = 16 := by simp [layI, consts]; omega
theorem layI_step (k : List Int) {i : Nat} (hi : i < 8) : (layI k i).set (4 + i) (word4 k (4 * i)) = layI k (i + 1) := by
  obtain ⟨r, hr⟩ : ∃ r, 12 - i = r + 1 := ⟨11 - i, by omega⟩
  have hr' : 12 - (i + 1) = r := by omega
  simp only [layI, hr, hr', List.range_succ, List.map_append, List.replicate_succ, List.map_cons, List.map_nil]
  have hl : (consts ++ (List.range i).map (fun j => word4 k (4 * j))).length = 4 + i := by simp [consts]; omega
  rw [List.set_append_right _ _ (by omega), hl, Nat.sub_self]
  simp [consts]
def squareI (k m : List Int) : List Int := consts ++ (List.range 8).map (fun j => word4 k (4 * j)) ++ m
theorem layI_end (k m : List Int) (hm : m.length = 4) : splI (layI k 8) 12 m = squareI k m := by
  have e : layI k 8 = (consts ++ (List.range 8).map (fun j => word4 k (4 * j))) ++ [0, 0, 0, 0] := rfl
  have hl : (consts ++ (List.range 8).map (fun j => word4 k (4 * j))).length = 12 := rfl
  unfold splI squareI
  rw [e, List.take_left' hl, List.drop_eq_nil_of_le (by rw [List.length_append, hl, hm]; simp)]
  simp
def c96 : Ctr := fun args objs => match args, objs with
  | [.one (.ptr 0 0), .agg [.ints .u32 m 4]], [.own _ [.ints .u8 k 32]] => some ⟨[allB k, k.length = 32, m.length = 4], .v (.agg [.ints .u32 (squareI k m) 16]), [], []⟩
  | _, _ => none
def envW : Env := fun f => match f with
  | 97 => some c97
  | _ => none
theorem envW_ok : EnvOk Try.prog envW := by
  intro f c h
  unfold envW at h
  split at h
  · simp at h; subst h; exact m97
  · cases h
theorem m96 : Meets Try.prog 96 c96 := by
  refine meets_of_run2 tab_ok envW_ok mixed [.cell 4 146] Try.func96 rfl Try.ntmps96 Try.call96 (fun t w => by simp [results, Try.results96, resS, rv1]) ?_
  intro args objs r hr hcs
  unfold c96 at hr
  split at hr
  · rename_i m e k
    simp only [Option.some.injEq] at hr; subst hr
    obtain ⟨h1, h2, h3, _⟩ := hcs
    refine ⟨rfl, ?_⟩
    conv => whnf
    refine ⟨?_, { i : Nat // i ≤ 8 }, fun i => ⟨[.v (.one (.ptr 0 0)), .any, .any, .v (.one (.ptr 1 0)), .v (.one (.ptr 2 0)), .v (.one (.ptr 3 0)), .any, .any, .v (.one (.int .i64 i.1)), .any, .any, .any, .any, .any, .any, .any, .any, .any, .any, .any, .any, .any, .any, .any, .any], [.own e [.ints .u8 k 32], .own 0 [.ints .u32 m 4], .own 0 [.ints .u32 (List.replicate 16 0) 16], .own 0 [.ints .u32 (layI k i.1) 16]]⟩, fun i => 8 - i.1, ⟨0, by omega⟩, ?_, fun _ => rfl, ?_⟩
    · repeat' apply And.intro
      all_goals first
        | exact True.intro
        | rfl
        | decide +kernel
    · refine ⟨[0, 1, 2, 3], [], rfl, ?_, ?_⟩
      all_goals
        repeat' apply And.intro
      all_goals first
        | exact True.intro
        | rfl
    · rintro ⟨i, hi⟩
      have hL := layI_len k (i := i) (by omega)
      show run tab envW 1 _ ⟨[.v (.one (.ptr 0 0)), .any, .any, .v (.one (.ptr 1 0)), .v (.one (.ptr 2 0)), .v (.one (.ptr 3 0)), .any, .any, .v (.one (.int .i64 i)), .any, .any, .any, .any, .any, .any, .any, .any, .any, .any, .any, .any, .any, .any, .any, .any], [.own e [.ints .u8 k 32], .own 0 [.ints .u32 m 4], .own 0 [.ints .u32 (List.replicate 16 0) 16], .own 0 [.ints .u32 (layI k i) 16]]⟩ _ _
      conv => whnf
      refine ⟨trivial, fun hlt => ?_, fun hge => ?_⟩
      · simp only [decide_eq_true_eq] at hlt
        have e1 : isum .i64 4 (i : Int) = ((4 + i : Nat) : Int) := by rw [isum, i64_in] <;> omega
        have e2 : imul .i64 4 (i : Int) = ((4 * i : Nat) : Int) := by rw [imul, i64_in] <;> omega
        have e3 : isum .i64 (i : Int) 1 = ((i + 1 : Nat) : Int) := by rw [isum, i64_in] <;> omega
        conv => whnf
        rw [e1, e2, e3]
        refine ⟨?_, ⟨i + 1, by omega⟩, by show 8 - (i + 1) < 8 - i; omega, [0, 1, 2, 3], [], rfl, ?_, ?_⟩
        · repeat' apply And.intro
          all_goals first
            | exact True.intro
            | assumption
            | omega
            | (simp only [natB]; omega)
        · repeat' apply And.intro
          all_goals first
            | exact True.intro
            | rfl
        · refine ⟨⟨rfl, rfl, rfl, rfl, trivial⟩, ⟨rfl, rfl, rfl, rfl, trivial⟩, ⟨rfl, rfl, rfl, rfl, trivial⟩, ⟨rfl, rfl, ?_, rfl, trivial⟩, trivial⟩
          simp only [Int.toNat_natCast]
          exact layI_step k (by omega)
      · simp only [decide_eq_false_iff_not] at hge
        have : i = 8 := by omega
        subst this
        conv => whnf
        refine ⟨?_, rfl, [0], [], rfl, ⟨⟨rfl, ?_, rfl, trivial⟩, trivial⟩, ⟨rfl, rfl, rfl, rfl, trivial⟩, trivial⟩
        · repeat' apply And.intro
          all_goals first
            | exact True.intro
            | rfl
            | decide +kernel
            | (simp [natB]; done)
        · show splI (layI k 8) 12 (List.take 4 (List.take 4 (List.drop 0 m))) = _
          have ht : List.take 4 m = m := List.take_of_length_le (by omega)
          rw [List.drop_zero, ht, ht]
          exact layI_end k m h3
  · cases hr

/-! ### Words laid down as bytes -/
/-- The four bytes of a word. -/
def four (x : Int) : List Int := [x % 256, x / 256 % 256, x / 65536 % 256, x / 16777216 % 256]
def lays (l : List Int) : List Int := l.flatMap four
theorem lays_len : ∀ l : List Int, (lays l).length = 4 * l.length
  | [] => rfl
  | x :: l => by
    have := lays_len l
    simp only [lays, List.flatMap_cons, List.length_append, List.length_cons] at *
    simp only [four, List.length_cons, List.length_nil]
    omega
end Go.Proofs.Ytjbagkimpmpfgaa
