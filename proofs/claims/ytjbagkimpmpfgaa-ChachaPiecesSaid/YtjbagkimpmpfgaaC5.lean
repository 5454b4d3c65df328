/- Chacha: words laid down as bytes. -/
import Derived.Test.YtjbagkimpmpfgaaC4
namespace Go.Proofs.Ytjbagkimpmpfgaa
open Go Go.Mx
set_option maxRecDepth 100000
set_option maxHeartbeats 4000000

theorem take4 : ∀ {l : List Int}, 4 ≤ l.length → ∃ a b c d r, l = a :: b :: c :: d :: r
  | a :: b :: c :: d :: r, _ => ⟨a, b, c, d, r, rfl⟩
  | [], h => by simp at h
  | [_], h => by simp at h
  | [_, _], h => by simp at h
  | [_, _, _], h => by simp at h
theorem lay4 {o m : List Int} {lo i : Nat} {a b c d : Int} (hm : m.length = 4 * i) (h : lo + 4 * i + 4 ≤ o.length) :
    ((((splI o lo m).set (lo + 4 * i) a).set (lo + (4 * i + 1)) b).set (lo + (4 * i + 2)) c).set (lo + (4 * i + 3)) d = splI o lo (m ++ [a, b, c, d]) := by
  obtain ⟨x0, x1, x2, x3, r, hr⟩ := take4 (l := o.drop (lo + m.length)) (by rw [List.length_drop]; omega)
  have hr2 : o.drop (lo + (m ++ [a, b, c, d]).length) = r := by
    have : lo + (m ++ [a, b, c, d]).length = (lo + m.length) + 4 := by simp; omega
    rw [this, ← List.drop_drop, hr]; rfl
  have hl : (o.take lo ++ m).length = lo + 4 * i := by rw [List.length_append, List.length_take, hm]; omega
  unfold splI
  rw [hr, hr2]
  rw [List.set_append_right _ _ (by omega), hl, Nat.sub_self]
  rw [List.set_append_right _ _ (by omega), hl, show lo + (4 * i + 1) - (lo + 4 * i) = 1 by omega]
  rw [List.set_append_right _ _ (by omega), hl, show lo + (4 * i + 2) - (lo + 4 * i) = 2 by omega]
  rw [List.set_append_right _ _ (by omega), hl, show lo + (4 * i + 3) - (lo + 4 * i) = 3 by omega]
  simp
theorem byte0 (x : Int) : conv .u8 x = x % 256 := by rw [conv, IntKind.wrap_u8]
theorem byteK {x : Int} (k : Nat) (_h : 0 ≤ x) (hk : k ≤ 32) : conv .u8 (shrI .u32 x (k : Int)) = x / 2 ^ k % 256 := by
  have e : min ((k : Int).toNat) IntKind.u32.bits = k := by simp [IntKind.bits]; omega
  rw [conv, IntKind.wrap_u8, shrI, e, Int.fdiv_eq_ediv_of_nonneg _ (by exact Int.le_of_lt (Int.pow_pos (by decide)))]
theorem lays_snoc (l : List Int) (x : Int) : lays (l ++ [x]) = lays l ++ four x := by simp [lays]
theorem mid_succ {l : List Int} {lo i : Nat} (h : lo + i < l.length) : (l.drop lo).take (i + 1) = (l.drop lo).take i ++ [l.getD (lo + i) 0] := by
  rw [List.take_add_one, List.getElem?_drop, List.getElem?_eq_getElem h]
  simp [List.getD, h]
def putI (o : List Int) (lo : Nat) (l : List Int) (lo2 i : Nat) : List Int := splI o lo (lays ((l.drop lo2).take i))
theorem putI_step {o l : List Int} {lo lo2 i : Nat} (h : lo + 4 * i + 4 ≤ o.length) (h2 : lo2 + i < l.length) (hx : 0 ≤ l.getD (lo2 + i) 0) :
    ((((putI o lo l lo2 i).set (lo + 4 * i) (conv .u8 (l.getD (lo2 + i) 0))).set (lo + (4 * i + 1)) (conv .u8 (shrI .u32 (l.getD (lo2 + i) 0) 8))).set (lo + (4 * i + 2)) (conv .u8 (shrI .u32 (l.getD (lo2 + i) 0) 16))).set (lo + (4 * i + 3)) (conv .u8 (shrI .u32 (l.getD (lo2 + i) 0) 24)) = putI o lo l lo2 (i + 1) := by
  have hlen : ((l.drop lo2).take i).length = i := by rw [List.length_take, List.length_drop]; omega
  unfold putI
  rw [mid_succ h2, lays_snoc, lay4 (by rw [lays_len, hlen]) h]
  have b8 := byteK 8 hx (by omega)
  have b16 := byteK 16 hx (by omega)
  have b24 := byteK 24 hx (by omega)
  change conv .u8 (shrI .u32 _ 8) = _ at b8
  change conv .u8 (shrI .u32 _ 16) = _ at b16
  change conv .u8 (shrI .u32 _ 24) = _ at b24
  rw [byte0, b8, b16, b24]
  rfl
theorem putI_len {o l : List Int} {lo lo2 i : Nat} (h : lo + 4 * i ≤ o.length) (h2 : lo2 + i ≤ l.length) : (putI o lo l lo2 i).length = o.length := by
  have hlen : ((l.drop lo2).take i).length = i := by rw [List.length_take, List.length_drop]; omega
  unfold putI
  rw [splI_length]
  rw [lays_len, hlen]; exact h
def c99 : Ctr := fun args objs => match args, objs with
  | [.one (.sx 0 0 1 lo len _ _), .one (.sx 1 0 1 lo2 len2 _ _)], [.own e [.ints .u8 o n], .own _ [.ints .u32 l n2]] =>
    some ⟨[4 * len2 ≤ len, lo + len ≤ n, lo2 + len2 ≤ n2, o.length = n, l.length = n2, allW l, n < 1000000], .tup [], [(0, .own e [.ints .u8 (putI o lo l lo2 len2) n])], []⟩
  | _, _ => none
theorem m99 : Meets Try.prog 99 c99 := by
  refine meets_of_run tab_ok env0 mixed [] Try.func99 rfl Try.ntmps99 Try.call99 (fun t w => by simp [results, Try.results99, resV]) ?_
  intro args objs r hr hcs
  unfold c99 at hr
  split at hr
  · rename_i lo len cap adr lo2 len2 cap2 adr2 e o n e2 l n2
    simp only [Option.some.injEq] at hr; subst hr
    obtain ⟨h1, h2, h3, h4, h5, h6, h7, _⟩ := hcs
    refine ⟨rfl, ?_⟩
    conv => whnf
    refine ⟨?_, { i : Nat // i ≤ len2 }, fun i => ⟨[.v (.one (.sx 0 0 1 lo len cap adr)), .v (.one (.sx 1 0 1 lo2 len2 cap2 adr2)), .any, .any, .any, .any, .v (.one (.sx 1 0 1 lo2 len2 cap2 adr2)), .v (.one (.int .i64 len2)), .v (.one (.int .i64 i.1)), .any, .any, .any, .any, .any, .any, .any, .any, .any, .any, .any, .any, .any, .any, .any, .any, .any, .any, .any, .any, .any, .any, .any, .any, .any, .any, .any, .any, .any, .any, .any, .any, .any, .any, .any], [.own e [.ints .u8 (putI o lo l lo2 i.1) n], .own e2 [.ints .u32 l n2]]⟩, fun i => len2 - i.1, ⟨0, by omega⟩, ?_, fun _ => rfl, ?_⟩
    · repeat' apply And.intro
      all_goals first
        | exact True.intro
        | rfl
        | decide +kernel
    · refine ⟨[0, 1], [], rfl, ?_, ?_⟩
      · repeat' apply And.intro
        all_goals first
          | exact True.intro
          | rfl
      · refine ⟨⟨rfl, rfl, ?_, rfl, trivial⟩, ⟨rfl, rfl, rfl, rfl, trivial⟩, trivial⟩
        simp [putI, splI, lays]
    · rintro ⟨i, hi⟩
      show run tab (fun _ => none) 2 _ ⟨[.v (.one (.sx 0 0 1 lo len cap adr)), .v (.one (.sx 1 0 1 lo2 len2 cap2 adr2)), .any, .any, .any, .any, .v (.one (.sx 1 0 1 lo2 len2 cap2 adr2)), .v (.one (.int .i64 len2)), .v (.one (.int .i64 i)), .any, .any, .any, .any, .any, .any, .any, .any, .any, .any, .any, .any, .any, .any, .any, .any, .any, .any, .any, .any, .any, .any, .any, .any, .any, .any, .any, .any, .any, .any, .any, .any, .any, .any, .any], [.own e [.ints .u8 (putI o lo l lo2 i) n], .own e2 [.ints .u32 l n2]]⟩ _ _
      conv => whnf
      refine ⟨trivial, fun hlt => ?_, fun hge => ?_⟩
      · simp only [decide_eq_true_eq] at hlt
        have e0 : imul .i64 4 (i : Int) = ((4 * i : Nat) : Int) := by rw [imul, i64_in] <;> omega
        have e1 : isum .i64 ((4 * i : Nat) : Int) 1 = ((4 * i + 1 : Nat) : Int) := by rw [isum, i64_in] <;> omega
        have e2 : isum .i64 ((4 * i : Nat) : Int) 2 = ((4 * i + 2 : Nat) : Int) := by rw [isum, i64_in] <;> omega
        have e3 : isum .i64 ((4 * i : Nat) : Int) 3 = ((4 * i + 3 : Nat) : Int) := by rw [isum, i64_in] <;> omega
        have e4 : isum .i64 (i : Int) 1 = ((i + 1 : Nat) : Int) := by rw [isum, i64_in] <;> omega
        conv => whnf
        rw [e0, e1, e2, e3, e4]
        refine ⟨?_, ⟨i + 1, by omega⟩, by show len2 - (i + 1) < len2 - i; omega, [0, 1], [], rfl, ?_, ?_⟩
        · repeat' apply And.intro
          all_goals first
            | exact True.intro
            | omega
            | decide +kernel
            | trace_state
        · repeat' apply And.intro
          all_goals first
            | exact True.intro
            | rfl
        · refine ⟨⟨rfl, rfl, ?_, rfl, trivial⟩, ⟨rfl, rfl, rfl, rfl, trivial⟩, trivial⟩
          simp only [Int.toNat_natCast]
          exact putI_step (by omega) (by omega) (h6 _ (by omega)).lo
      · simp only [decide_eq_false_iff_not] at hge
        have : i = len2 := by omega
        subst this
        conv => whnf
        refine ⟨trivial, rfl, [0, 1], [], rfl, ⟨trivial, trivial⟩, ⟨rfl, rfl, rfl, rfl, trivial⟩, ⟨rfl, rfl, rfl, rfl, trivial⟩, trivial⟩
  · cases hr
end Go.Proofs.Ytjbagkimpmpfgaa
