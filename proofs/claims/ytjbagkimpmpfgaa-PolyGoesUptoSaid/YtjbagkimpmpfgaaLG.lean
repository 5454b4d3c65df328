/- Texts joined for the claims: P12, P13. Conditions: those that each lists. -/
import Derived.Test.YtjbagkimpmpfgaaLQ
set_option linter.unusedSimpArgs false
set_option linter.unusedVariables false

/- Poly: the law of cuts, walked. -/
namespace Go.Proofs.Ytjbagkimpmpfgaa
open Go Go.Mx
set_option maxRecDepth 100000
set_option maxHeartbeats 4000000

/-- A key's second half, and so much more. -/
def moreK (key : List Int) (c : Int) : Nat → Int × List Int
  | 0 => (c, key)
  | i + 1 => (((moreK key c i).1 + (moreK key c i).2.getD (16 + i) 0) / 256, (moreK key c i).2.set (16 + i) (((moreK key c i).1 + (moreK key c i).2.getD (16 + i) 0) % 256))
theorem moreK_spec {key : List Int} (hl : key.length = 32) (h : inR key 255) {c : Int} (hc : 0 ≤ c ∧ c ≤ 255) : ∀ i, i ≤ 16 →
    (moreK key c i).2.length = 32 ∧ inR (moreK key c i).2 255 ∧ (0 ≤ (moreK key c i).1 ∧ (moreK key c i).1 ≤ 255) ∧ (moreK key c i).2.take 16 = key.take 16 ∧ (∀ j, 16 + i ≤ j → (moreK key c i).2.getD j 0 = key.getD j 0) ∧
    vb 256 ((key.drop 16).take i) + c = vb 256 (((moreK key c i).2.drop 16).take i) + 256 ^ i * (moreK key c i).1
  | 0, _ => ⟨hl, h, hc, rfl, fun _ _ => rfl, by simp [moreK, vb]⟩
  | i + 1, hi => by
    obtain ⟨h1, h2, h3, h4, h5, h6⟩ := moreK_spec hl h hc i (by omega)
    have hx := h2.h (16 + i)
    have hxk := h5 (16 + i) (Nat.le_refl _)
    have e1 : (key.drop 16).getD i 0 = key.getD (16 + i) 0 := by rw [List.getD_eq_getElem?_getD, List.getD_eq_getElem?_getD, List.getElem?_drop]
    rw [moreK]
    dsimp only
    rw [vb_take_succ, vb_take_succ, e1, ← hxk, List.drop_set, if_neg (by omega), show 16 + i - 16 = i by omega, List.take_set_of_le (Nat.le_refl _), getD_set_eq (by rw [List.length_drop]; omega), Int.pow_succ]
    generalize (moreK key c i).2 = K at *
    generalize (moreK key c i).1 = d at *
    generalize K.getD (16 + i) 0 = x at *
    have e := Int.mul_ediv_add_emod (d + x) 256
    refine ⟨by rw [List.length_set, h1], inR_set h2 (by omega), by omega, by rw [List.take_set_of_le (by omega), h4], fun j hj => by rw [getD_set_ne (by omega), h5 j (by omega)], ?_⟩
    generalize (d + x) / 256 = z at *
    generalize (d + x) % 256 = y at *
    generalize vb 256 (List.take i (List.drop 16 key)) = a at *
    generalize vb 256 (List.take i (List.drop 16 K)) = b at *
    generalize (256 : Int) ^ i = g at *
    clear h4 h5 h2 h1
    grind
/-- A sum of digits, by carrying. -/
def sumD (w : List Int) (c : Int) : Nat → Int
  | 0 => c
  | i + 1 => (sumD w c i + w.getD i 0) / 256
theorem rst_congr {a b : List Int} (h : ∀ i, i < 16 → a.getD i 0 = b.getD i 0) : ∀ n, n ≤ 16 → rst a n = rst b n
  | 0, _ => rfl
  | n + 1, hn => by
    rw [rst, rst, rst_congr h n (by omega)]
    congr 1
    unfold rdF
    rw [h n (by omega)]
theorem take_getD {a b : List Int} (h : a.take 16 = b.take 16) (i : Nat) (hi : i < 16) : a.getD i 0 = b.getD i 0 := by
  have e : ∀ l : List Int, (l.take 16).getD i 0 = l.getD i 0 := fun l => by rw [List.getD_eq_getElem?_getD, List.getElem?_take, if_pos hi, ← List.getD_eq_getElem?_getD]
  rw [← e a, ← e b, h]
/-- With a greater second half: as much more, digit by digit. -/
theorem more_digits {key : List Int} (hl : key.length = 32) (h : inR key 255) {c : Int} (hc : 0 ≤ c ∧ c ≤ 255) (l : List Int) : ∀ i, i ≤ 16 →
    (0 ≤ sumD (refT key l) c i ∧ sumD (refT key l) c i ≤ 255) ∧ (i < 16 → (refT (moreK key c 16).2 l).getD i 0 = (sumD (refT key l) c i + (refT key l).getD i 0) % 256) := by
  obtain ⟨k1, k2, k3, k4, k5, k6⟩ := moreK_spec hl h hc 16 (Nat.le_refl _)
  have hr : rI (moreK key c 16).2 = rI key := by
    unfold rI
    rw [rst_congr (fun i hi => take_getD k4 i hi) 16 (Nat.le_refl _)]
  rw [List.take_of_length_le (by rw [List.length_drop]; omega), List.take_of_length_le (by rw [List.length_drop]; omega)] at k6
  obtain ⟨V, hV⟩ : ∃ V, V = hI (rI key) l ((l.length + 15) / 16) + vb 256 (key.drop 16) := ⟨_, rfl⟩
  have e1 : refT key l = digs V 16 := by rw [hV]; rfl
  have e2 : refT (moreK key c 16).2 l = digs (V + c) 16 := by
    have : hI (rI key) l ((l.length + 15) / 16) + vb 256 ((moreK key c 16).2.drop 16) = V + c - 256 ^ 16 * (moreK key c 16).1 := by rw [hV]; omega
    unfold refT
    rw [hr, this, ← digs_mod, ← digs_mod (V + c), Int.sub_mul_emod_self_left]
  have hs : ∀ i, i ≤ 16 → (0 ≤ sumD (digs V 16) c i ∧ sumD (digs V 16) c i ≤ 255) ∧ (V + c) / 256 ^ i = V / 256 ^ i + sumD (digs V 16) c i := by
    intro i
    induction i with
    | zero => intro _; simp [sumD]; omega
    | succ i ih =>
      intro hi
      obtain ⟨g1, g2⟩ := ih (by omega)
      rw [sumD, div_succ, div_succ, g2, digs_at V 16 i (by omega)]
      generalize V / 256 ^ i = a
      generalize sumD (digs V 16) c i = b at *
      omega
  intro i hi
  obtain ⟨g1, g2⟩ := hs i hi
  rw [e1, e2]
  refine ⟨g1, fun hlt => ?_⟩
  rw [digs_at _ _ _ hlt, digs_at _ _ _ hlt, g2]
  generalize V / 256 ^ i = a
  generalize sumD (digs V 16) c i = b at *
  omega
/-- By a key whose first half is zero, the mark is the second half. -/
theorem zero_half {k : List Int} (hl : k.length = 32) (h : inR k 255) (hz : ∀ i, i < 16 → k.getD i 0 = 0) (l : List Int) : refT k l = k.drop 16 := by
  have hr : rI k = 0 := by
    have e : rst k 16 = rst (List.replicate 32 0) 16 := rst_congr (fun i hi => by rw [hz i hi, List.getD_eq_getElem?_getD, List.getElem?_replicate, if_pos (by omega)]; rfl) 16 (Nat.le_refl _)
    unfold rI
    rw [e]
    decide +kernel
  have hH : ∀ t, hI 0 l t = 0 := fun t => by
    cases t with
    | zero => rfl
    | succ t => rw [hI, Int.mul_zero]; rfl
  have hd : (k.drop 16).length = 16 := by rw [List.length_drop]; omega
  unfold refT
  rw [hr, hH, Int.zero_add]
  have hi := inR_drop h 16
  have e := digs_eq (v := vb 256 (k.drop 16)) hi (by
    have h1 := vb_nonneg (B := 256) (by decide) hi
    have h2 := vb_lt (B := 256) (by decide) hi
    exact Int.emod_eq_of_lt h1 h2)
  rw [hd] at e
  exact e
theorem flat_two (s : ByteArray) (i : Nat) (hi : i ≤ s.size) : flat [s.extract 0 i, s.extract i s.size] = bl s := by
  show bl _ ++ (bl _ ++ []) = bl s
  have e1 : bl (s.extract 0 i) = (bl s).take i := by rw [blP_ext, List.drop_zero]
  rw [List.append_nil, e1, bl_tail, List.take_append_drop]
def env16 : Env := fun f => match f with
  | 59 => some c59
  | 61 => some c61
  | _ => none
theorem env16_ok : EnvOk Try.prog env16 := by
  intro f c h
  unfold env16 at h
  split at h
  · simp only [Option.some.injEq] at h; subst h; exact m59
  · simp only [Option.some.injEq] at h; subst h; exact m61
  · cases h
def c16 : Ctr := fun args objs => match args, objs with
  | [.agg [.ints .u8 key 32], .one (.str s), .one (.int .u8 more)], [] => some ⟨[key.length = 32, inR key 255, s.size ≤ 140737488351232, 0 ≤ more ∧ more ≤ 255], .v (.one (.bool true true)), [], []⟩
  | _, _ => none
theorem m16 : Meets Try.prog 16 c16 := by
  refine meets_of_run2 tab_ok env16_ok mixed [.tmp 6] Try.func16 rfl Try.ntmps16 Try.call16 (fun t w => by simp [results, Try.results16, resS, rv1]) ?_
  intro args objs r hr hcs
  unfold c16 at hr
  split at hr
  · rename_i key s more
    simp only [Option.some.injEq] at hr; subst hr
    obtain ⟨h1, h2, h3, h4, _⟩ := hcs
    refine ⟨rfl, ?_⟩
    conv => whnf
    have hbl := blP_length s
    have hf1 : flat (List.take 1 (List.drop 0 ((List.replicate 1 ByteArray.empty).set 0 s))) = bl s := flat_one' s
    obtain ⟨W, hW⟩ : ∃ W, W = refT key (bl s) := ⟨_, rfl⟩
    refine ⟨?_, { i : Nat // i ≤ s.size + 1 }, fun i => ⟨(.any :: .v (.one (.str s)) :: .v (.one (.int .u8 more)) :: .v (.one (.ptr 0 0)) :: .any :: .any :: .any :: .v (.one (.ptr 1 0)) :: .v (.one (.int .i64 i.1)) :: .any :: .any :: .any :: .any :: .any :: .any :: .any :: .any :: .any :: .any :: .any :: .any :: .any :: .any :: .any :: .any :: .any :: .any :: .any :: .any :: .any :: .any :: .any :: .any :: .any :: .any :: .any :: .any :: .any :: .any :: .any :: .any :: .any :: .any :: .any :: .any :: .any :: .any :: .any :: .any :: .any :: .any :: .any :: .any :: .any :: .any :: .any :: .any :: .any :: .any :: .any :: .any :: .any :: .any :: .any :: .any :: .any :: .any :: .any :: .any :: .any :: .any :: .any :: .any :: .any :: .any :: .any :: .any :: .any :: .any :: .any :: .any :: .any :: .any :: .any :: .any :: .any :: .any :: .any :: .any :: .any :: .any :: .any :: .any :: .any :: .any :: .any :: .any :: .any :: .any :: []), [.own 0 [.ints .u8 key 32], .own 0 [.ints .u8 W 16]]⟩, fun i => s.size + 1 - i.1, ⟨0, by omega⟩, ?_, fun _ => rfl, ?_⟩
    · repeat' apply And.intro
      all_goals first
        | exact True.intro
        | exact h1
        | exact h2
        | omega
        | decide +kernel
        | rfl
        | exact Nat.le_of_ble_eq_true rfl
        | (dsimp only; omega)
        | trace_state
    · refine ⟨[0, 2], [], rfl, ?_, ?_⟩
      · repeat' apply And.intro
        all_goals first
          | exact True.intro
          | rfl
          | exact Nat.le_refl _
          | decide +kernel
          | omega
          | trace_state
      · refine ⟨⟨rfl, rfl, rfl, rfl, trivial⟩, ⟨rfl, rfl, ?_, rfl, trivial⟩, trivial⟩
        exact (congrArg (refT key) hf1).trans hW.symm
    rintro ⟨i, hi⟩
    show run tab env16 0 _ ⟨(.any :: .v (.one (.str s)) :: .v (.one (.int .u8 more)) :: .v (.one (.ptr 0 0)) :: .any :: .any :: .any :: .v (.one (.ptr 1 0)) :: .v (.one (.int .i64 i)) :: .any :: .any :: .any :: .any :: .any :: .any :: .any :: .any :: .any :: .any :: .any :: .any :: .any :: .any :: .any :: .any :: .any :: .any :: .any :: .any :: .any :: .any :: .any :: .any :: .any :: .any :: .any :: .any :: .any :: .any :: .any :: .any :: .any :: .any :: .any :: .any :: .any :: .any :: .any :: .any :: .any :: .any :: .any :: .any :: .any :: .any :: .any :: .any :: .any :: .any :: .any :: .any :: .any :: .any :: .any :: .any :: .any :: .any :: .any :: .any :: .any :: .any :: .any :: .any :: .any :: .any :: .any :: .any :: .any :: .any :: .any :: .any :: .any :: .any :: .any :: .any :: .any :: .any :: .any :: .any :: .any :: .any :: .any :: .any :: .any :: .any :: .any :: .any :: .any :: .any :: []), [.own 0 [.ints .u8 key 32], .own 0 [.ints .u8 W 16]]⟩ _ _
    refine run_K (P := fun K => run tab env16 0 _ ⟨_, _⟩ True K) ?_
    intro K hK
    have e1 : isum .i64 (i : Int) 1 = ((i + 1 : Nat) : Int) := by rw [isum, i64_in] <;> omega
    conv => whnf
    refine ⟨trivial, fun hg => ?_, fun hg => ?_⟩
    · have hg' : i ≤ s.size := by simp at hg; omega
      conv => whnf
      refine ⟨trivial, fun hg2 => ?_, fun hg2 => ?_⟩
      · have hf2 : flat (List.take 2 (List.drop 0 (((List.replicate 2 ByteArray.empty).set 0 (s.extract 0 i)).set 1 (s.extract i s.size)))) = bl s := flat_two s i hg'
        conv => whnf
        refine ⟨?_, fun hb => ?_, fun hb => ?_⟩
        · repeat' apply And.intro
          all_goals first
            | exact True.intro
            | exact h1
            | exact h2
            | (show (0 : Int) ≤ (i : Int); omega)
            | (show (i : Int) ≤ (s.size : Int); omega)
            | omega
            | decide +kernel
            | rfl
            | exact Nat.le_of_ble_eq_true rfl
            | (dsimp only; omega)
            | trace_state
        · exact bne_absurd ((congrArg (refT key) hf2).trans hW.symm) hb
        · conv => whnf
          rw [e1]
          subst hK
          change _ ∧ _
          refine ⟨?_, ⟨i + 1, by omega⟩, by show s.size + 1 - (i + 1) < s.size + 1 - i; omega, [0, 1], [], rfl, ?_, ?_⟩
          · repeat' apply And.intro
            all_goals first
              | exact True.intro
              | omega
              | decide +kernel
              | rfl
              | exact Nat.le_of_ble_eq_true rfl
              | (dsimp only; omega)
              | trace_state
          · repeat' apply And.intro
            all_goals first
              | exact True.intro
              | rfl
              | exact Nat.le_refl _
              | decide +kernel
              | omega
              | trace_state
          · exact ⟨⟨rfl, rfl, rfl, rfl, trivial⟩, ⟨rfl, rfl, rfl, rfl, trivial⟩, trivial⟩
      · conv => whnf
        subst hK
        conv => whnf
        obtain ⟨Z0, hZ0⟩ : ∃ Z0, Z0 = splI (List.replicate 32 0) 16 (List.take (min 16 16) (List.take 16 (List.drop 16 key))) := ⟨_, rfl⟩
        have hZl : Z0 = List.replicate 16 0 ++ key.drop 16 := by
          have hd : (key.drop 16).length = 16 := by rw [List.length_drop]; omega
          rw [hZ0, Nat.min_self, List.take_take, Nat.min_self, List.take_of_length_le (by omega)]
          have hdr : List.drop 32 (List.replicate 32 (0 : Int)) = [] := rfl
          unfold splI
          rw [hd]
          show List.take 16 (List.replicate 32 0) ++ key.drop 16 ++ List.drop 32 (List.replicate 32 0) = _
          rw [hdr, List.append_nil]
          rfl
        have hZ32 : Z0.length = 32 := by rw [hZl, List.length_append, List.length_drop, h1]; rfl
        have hZi : inR Z0 255 := by rw [hZl]; exact inR_app (inR_zeros 16 (by decide)) (inR_drop h2 16)
        have hZz : ∀ i, i < 16 → Z0.getD i 0 = 0 := fun i hi => by rw [hZl, List.getD_eq_getElem?_getD, List.getElem?_append_left (by simpa using hi), List.getElem?_replicate, if_pos hi]; rfl
        have hZd : Z0.drop 16 = key.drop 16 := by rw [hZl]; rfl
        have hZt : refT Z0 (bl s) = key.drop 16 := (zero_half hZ32 hZi hZz (bl s)).trans hZd
        have hmore : conv .i64 more = more := by rw [conv, i64_in]; omega
        obtain ⟨M, M0, Ms, Mp, ME⟩ : ∃ M : Nat → Int × List Int, M 0 = (more, key) ∧ (∀ i, M (i + 1) = (((M i).1 + (M i).2.getD (16 + i) 0) / 256, (M i).2.set (16 + i) (((M i).1 + (M i).2.getD (16 + i) 0) % 256))) ∧ (∀ i, i ≤ 16 → (M i).2.length = 32 ∧ inR (M i).2 255 ∧ (0 ≤ (M i).1 ∧ (M i).1 ≤ 255)) ∧ (M 16).2 = (moreK key more 16).2 :=
          ⟨moreK key more, rfl, fun _ => rfl, fun i hi => ⟨(moreK_spec h1 h2 h4 i hi).1, (moreK_spec h1 h2 h4 i hi).2.1, (moreK_spec h1 h2 h4 i hi).2.2.1⟩, rfl⟩
        rw [hmore]
        refine ⟨?_, { j : Nat // j ≤ 16 }, fun j => ⟨(.any :: .v (.one (.str s)) :: .v (.one (.int .u8 more)) :: .v (.one (.ptr 0 0)) :: .any :: .any :: .any :: .v (.one (.ptr 1 0)) :: .any :: .any :: .v (.one (.ptr 2 0)) :: .v (.one (.ptr 3 0)) :: .v (.one (.int .i64 (M j.1).1)) :: .v (.one (.int .i64 ((16 + j.1 : Nat) : Int))) :: .any :: .any :: .any :: .any :: .any :: .any :: .any :: .any :: .any :: .any :: .any :: .any :: .any :: .any :: .any :: .any :: .any :: .any :: .any :: .any :: .any :: .any :: .any :: .any :: .any :: .any :: .any :: .any :: .any :: .any :: .any :: .any :: .any :: .any :: .any :: .any :: .any :: .any :: .any :: .any :: .any :: .any :: .any :: .any :: .any :: .any :: .any :: .any :: .any :: .any :: .any :: .any :: .any :: .any :: .any :: .any :: .any :: .any :: .any :: .any :: .any :: .any :: .any :: .any :: .any :: .any :: .any :: .any :: .any :: .any :: .any :: .any :: .any :: .any :: .any :: .any :: .any :: .any :: .any :: .any :: .any :: .any :: .any :: .any :: .any :: []), [.own 0 [.ints .u8 key 32], .own 0 [.ints .u8 W 16], .own 0 [.ints .u8 (key.drop 16) 16], .own 0 [.ints .u8 (M j.1).2 32]]⟩, fun j => 16 - j.1, ⟨0, by omega⟩, ?_, fun _ => rfl, ?_⟩
        · have hZi' : inR (splI (List.replicate 32 0) 16 (List.take (min 16 16) (List.take 16 (List.drop 16 key)))) 255 := hZ0 ▸ hZi
          have hZl' : (splI (List.replicate 32 0) 16 (List.take (min 16 16) (List.take 16 (List.drop 16 key)))).length = 32 := hZ0 ▸ hZ32
          repeat' apply And.intro
          all_goals first
            | exact True.intro
            | exact hZi'
            | exact hZl'
            | exact h1
            | omega
            | decide +kernel
            | rfl
            | exact Nat.le_of_ble_eq_true rfl
            | (dsimp only; omega)
            | trace_state
        · refine ⟨[0, 1, 4, 5], [], rfl, ?_, ?_⟩
          · repeat' apply And.intro
            all_goals first
              | exact True.intro
              | rfl
              | exact Nat.le_refl _
              | decide +kernel
              | (simp only [M0]; exact ⟨rfl, rfl⟩)
              | (simp only [M0]; done)
              | trace_state
          · refine ⟨⟨rfl, rfl, rfl, rfl, trivial⟩, ⟨rfl, rfl, rfl, rfl, trivial⟩, ⟨rfl, rfl, ?_, rfl, trivial⟩, ⟨rfl, rfl, ?_, rfl, trivial⟩, trivial⟩
            · rw [← hZt, ← hf1, hZ0]; rfl
            · rw [M0]
        rintro ⟨j, hj⟩
        have hMs := Ms j
        obtain ⟨hMl, hMi, hMc⟩ := Mp j hj
        have hMx := hMi.h (16 + j)
        obtain ⟨c, ks, hck⟩ : ∃ c ks, M j = (c, ks) := ⟨_, _, rfl⟩
        rw [hck] at hMs hMl hMi hMc hMx
        dsimp only at hMs hMl hMi hMc hMx
        show run tab env16 0 _ ⟨(.any :: .v (.one (.str s)) :: .v (.one (.int .u8 more)) :: .v (.one (.ptr 0 0)) :: .any :: .any :: .any :: .v (.one (.ptr 1 0)) :: .any :: .any :: .v (.one (.ptr 2 0)) :: .v (.one (.ptr 3 0)) :: .v (.one (.int .i64 (M j).1)) :: .v (.one (.int .i64 ((16 + j : Nat) : Int))) :: .any :: .any :: .any :: .any :: .any :: .any :: .any :: .any :: .any :: .any :: .any :: .any :: .any :: .any :: .any :: .any :: .any :: .any :: .any :: .any :: .any :: .any :: .any :: .any :: .any :: .any :: .any :: .any :: .any :: .any :: .any :: .any :: .any :: .any :: .any :: .any :: .any :: .any :: .any :: .any :: .any :: .any :: .any :: .any :: .any :: .any :: .any :: .any :: .any :: .any :: .any :: .any :: .any :: .any :: .any :: .any :: .any :: .any :: .any :: .any :: .any :: .any :: .any :: .any :: .any :: .any :: .any :: .any :: .any :: .any :: .any :: .any :: .any :: .any :: .any :: .any :: .any :: .any :: .any :: .any :: .any :: .any :: .any :: .any :: .any :: []), [.own 0 [.ints .u8 key 32], .own 0 [.ints .u8 W 16], .own 0 [.ints .u8 (key.drop 16) 16], .own 0 [.ints .u8 (M j).2 32]]⟩ _ _
        refine run_K (P := fun K => run tab env16 0 _ ⟨_, _⟩ True K) ?_
        intro K hK
        rw [hck]
        dsimp only
        have f1 : isum .i64 ((16 + j : Nat) : Int) 1 = ((16 + (j + 1) : Nat) : Int) := by rw [isum, i64_in] <;> omega
        obtain ⟨x, hx⟩ : ∃ x, x = ks.getD (16 + j) 0 := ⟨_, rfl⟩
        rw [← hx] at hMx hMs
        have f2 : conv .i64 x = x := by rw [conv, i64_in]; omega
        have f3 : isum .i64 c x = c + x := by rw [isum, i64_in]; omega
        have f4 : iquo .i64 (c + x) 256 = (c + x) / 256 := by rw [iquo, Int.tdiv_eq_ediv_of_nonneg (by omega), i64_in]; omega
        have f5 : conv .u8 (c + x) = (c + x) % 256 := by rw [conv, IntKind.wrap_u8]
        have f6 : ks.getD ((16 + j : Nat) : Int).toNat 0 = x := by rw [Int.toNat_natCast, hx]
        have f7 : ks.getD (0 + ((16 + j : Nat) : Int).toNat) 0 = x := by rw [Int.toNat_natCast, Nat.zero_add, hx]
        conv => whnf
        refine ⟨trivial, fun hl => ?_, fun hl => ?_⟩
        · have hl' : j < 16 := by simp at hl; omega
          conv => whnf
          first
            | rw [f1, f6, f2, f3, f4, f5]
            | rw [f1, f7, f2, f3, f4, f5]
          subst hK
          change _ ∧ _
          refine ⟨?_, ⟨j + 1, by omega⟩, by show 16 - (j + 1) < 16 - j; omega, [0, 1, 2, 3], [], rfl, ?_, ?_⟩
          · repeat' apply And.intro
            all_goals first
              | exact True.intro
              | (rw [Int.toNat_natCast]; omega)
              | omega
              | decide +kernel
              | rfl
              | exact Nat.le_of_ble_eq_true rfl
              | (dsimp only; omega)
              | trace_state
          · repeat' apply And.intro
            all_goals first
              | exact True.intro
              | rfl
              | exact Nat.le_refl _
              | decide +kernel
              | (simp only [hMs])
              | trace_state
          · refine ⟨⟨rfl, rfl, rfl, rfl, trivial⟩, ⟨rfl, rfl, rfl, rfl, trivial⟩, ⟨rfl, rfl, rfl, rfl, trivial⟩, ⟨rfl, rfl, ?_, rfl, trivial⟩, trivial⟩
            simp only [hMs, Int.toNat_natCast, Nat.zero_add]
        · have hl' : j = 16 := by simp at hl; omega
          subst hl'
          have hkm : ks = (moreK key more 16).2 := by rw [← ME, hck]
          have hmd := more_digits h1 h2 h4 (bl s)
          rw [← hkm, ← hW] at hmd
          obtain ⟨X, hX⟩ : ∃ X, X = refT ks (bl s) := ⟨_, rfl⟩
          rw [← hX] at hmd
          obtain ⟨S, S0, Ss, Sd⟩ : ∃ S : Nat → Int, S 0 = more ∧ (∀ i, S (i + 1) = (S i + W.getD i 0) / 256) ∧ (∀ i, i ≤ 16 → (0 ≤ S i ∧ S i ≤ 255) ∧ (i < 16 → X.getD i 0 = (S i + W.getD i 0) % 256)) := ⟨sumD W more, rfl, fun _ => rfl, hmd⟩
          have hWi : inR W 255 := by rw [hW]; exact digs_in _ _
          conv => whnf
          subst hK
          conv => whnf
          rw [hmore]
          refine ⟨?_, { i : Nat // i ≤ 16 }, fun i => ⟨(.any :: .v (.one (.str s)) :: .any :: .v (.one (.ptr 0 0)) :: .any :: .any :: .any :: .v (.one (.ptr 1 0)) :: .any :: .any :: .v (.one (.ptr 2 0)) :: .any :: .v (.one (.int .i64 (S i.1))) :: .any :: .v (.one (.ptr 3 0)) :: .v (.one (.int .i64 i.1)) :: .any :: .any :: .any :: .any :: .any :: .any :: .any :: .any :: .any :: .any :: .any :: .any :: .any :: .any :: .any :: .any :: .any :: .any :: .any :: .any :: .any :: .any :: .any :: .any :: .any :: .any :: .any :: .any :: .any :: .any :: .any :: .any :: .any :: .any :: .any :: .any :: .any :: .any :: .any :: .any :: .any :: .any :: .any :: .any :: .any :: .any :: .any :: .any :: .any :: .any :: .any :: .any :: .any :: .any :: .any :: .any :: .any :: .any :: .any :: .any :: .any :: .any :: .any :: .any :: .any :: .any :: .any :: .any :: .any :: .any :: .any :: .any :: .any :: .any :: .any :: .any :: .any :: .any :: .any :: .any :: .any :: .any :: .any :: []), [.own 0 [.ints .u8 key 32], .own 0 [.ints .u8 W 16], .own 0 [.ints .u8 (key.drop 16) 16], .own 0 [.ints .u8 X 16]]⟩, fun i => 16 - i.1, ⟨0, by omega⟩, ?_, fun _ => rfl, ?_⟩
          · repeat' apply And.intro
            all_goals first
              | exact True.intro
              | exact hMi
              | exact hMl
              | omega
              | decide +kernel
              | rfl
              | exact Nat.le_of_ble_eq_true rfl
              | (dsimp only; omega)
              | trace_state
          · refine ⟨[0, 1, 2, 5], [], rfl, ?_, ?_⟩
            · repeat' apply And.intro
              all_goals first
                | exact True.intro
                | rfl
                | exact Nat.le_refl _
                | decide +kernel
                | (simp only [S0]; exact ⟨rfl, rfl⟩)
                | (simp only [S0]; done)
                | trace_state
            · refine ⟨⟨rfl, rfl, rfl, rfl, trivial⟩, ⟨rfl, rfl, rfl, rfl, trivial⟩, ⟨rfl, rfl, rfl, rfl, trivial⟩, ⟨rfl, rfl, ?_, rfl, trivial⟩, trivial⟩
              rw [hX, ← hf1]; rfl
          rintro ⟨i, hi⟩
          have hSs := Ss i
          obtain ⟨hS1, hS2⟩ := Sd i hi
          have hWx := hWi.h i
          show run tab env16 0 _ ⟨(.any :: .v (.one (.str s)) :: .any :: .v (.one (.ptr 0 0)) :: .any :: .any :: .any :: .v (.one (.ptr 1 0)) :: .any :: .any :: .v (.one (.ptr 2 0)) :: .any :: .v (.one (.int .i64 (S i))) :: .any :: .v (.one (.ptr 3 0)) :: .v (.one (.int .i64 i)) :: .any :: .any :: .any :: .any :: .any :: .any :: .any :: .any :: .any :: .any :: .any :: .any :: .any :: .any :: .any :: .any :: .any :: .any :: .any :: .any :: .any :: .any :: .any :: .any :: .any :: .any :: .any :: .any :: .any :: .any :: .any :: .any :: .any :: .any :: .any :: .any :: .any :: .any :: .any :: .any :: .any :: .any :: .any :: .any :: .any :: .any :: .any :: .any :: .any :: .any :: .any :: .any :: .any :: .any :: .any :: .any :: .any :: .any :: .any :: .any :: .any :: .any :: .any :: .any :: .any :: .any :: .any :: .any :: .any :: .any :: .any :: .any :: .any :: .any :: .any :: .any :: .any :: .any :: .any :: .any :: .any :: .any :: .any :: []), [.own 0 [.ints .u8 key 32], .own 0 [.ints .u8 W 16], .own 0 [.ints .u8 (key.drop 16) 16], .own 0 [.ints .u8 X 16]]⟩ _ _
          refine run_K (P := fun K => run tab env16 0 _ ⟨_, _⟩ True K) ?_
          intro K hK
          obtain ⟨c, hc⟩ : ∃ c, c = S i := ⟨_, rfl⟩
          rw [← hc] at hSs hS1 hS2 ⊢
          obtain ⟨x, hx⟩ : ∃ x, x = W.getD i 0 := ⟨_, rfl⟩
          rw [← hx] at hSs hS2 hWx
          have g1 : isum .i64 (i : Int) 1 = ((i + 1 : Nat) : Int) := by rw [isum, i64_in] <;> omega
          have g2 : conv .i64 x = x := by rw [conv, i64_in]; omega
          have g3 : isum .i64 c x = c + x := by rw [isum, i64_in]; omega
          have g4 : iquo .i64 (c + x) 256 = (c + x) / 256 := by rw [iquo, Int.tdiv_eq_ediv_of_nonneg (by omega), i64_in]; omega
          have g5 : conv .u8 (c + x) = (c + x) % 256 := by rw [conv, IntKind.wrap_u8]
          have g6 : W.getD ((i : Nat) : Int).toNat 0 = x := by rw [Int.toNat_natCast, hx]
          have g7 : W.getD (0 + ((i : Nat) : Int).toNat) 0 = x := by rw [Int.toNat_natCast, Nat.zero_add, hx]
          conv => whnf
          refine ⟨trivial, fun hl => ?_, fun hl => ?_⟩
          · have hl' : i < 16 := by simp at hl; omega
            have hXx := hS2 hl'
            conv => whnf
            first
              | rw [g6, g2, g3, g5]
              | rw [g7, g2, g3, g5]
            refine ⟨?_, fun hb => ?_, fun hb => ?_⟩
            · repeat' apply And.intro
              all_goals first
                | exact True.intro
                | (rw [Int.toNat_natCast]; omega)
                | omega
                | decide +kernel
                | rfl
                | exact Nat.le_of_ble_eq_true rfl
                | (dsimp only; omega)
                | trace_state
            · exfalso
              rw [← hXx] at hb
              simp at hb
            · conv => whnf
              first
                | rw [g1, g6, g2, g3, g4]
                | rw [g1, g7, g2, g3, g4]
                | rw [g1, g4]
              subst hK
              change _ ∧ _
              refine ⟨?_, ⟨i + 1, by omega⟩, by show 16 - (i + 1) < 16 - i; omega, [0, 1, 2, 3], [], rfl, ?_, ?_⟩
              · repeat' apply And.intro
                all_goals first
                  | exact True.intro
                  | (rw [Int.toNat_natCast]; omega)
                  | omega
                  | decide +kernel
                  | rfl
                  | exact Nat.le_of_ble_eq_true rfl
                  | (dsimp only; omega)
                  | trace_state
              · repeat' apply And.intro
                all_goals first
                  | exact True.intro
                  | rfl
                  | exact Nat.le_refl _
                  | decide +kernel
                  | (simp only [hSs])
                  | trace_state
              · exact ⟨⟨rfl, rfl, rfl, rfl, trivial⟩, ⟨rfl, rfl, rfl, rfl, trivial⟩, ⟨rfl, rfl, rfl, rfl, trivial⟩, ⟨rfl, rfl, rfl, rfl, trivial⟩, trivial⟩
          · have hl' : i = 16 := by simp at hl; omega
            subst hl'
            conv => whnf
            subst hK
            conv => whnf
            have hse : ofL (List.take 16 (List.drop 0 (key.drop 16))) = ofL (List.take 16 (List.drop 16 key)) := by rw [List.drop_zero]
            refine ⟨?_, fun hb => ?_, fun hb => ?_⟩
            · repeat' apply And.intro
              all_goals first
                | exact True.intro
                | omega
                | decide +kernel
                | rfl
                | exact Nat.le_of_ble_eq_true rfl
                | (dsimp only; omega)
                | trace_state
            · conv => whnf
              refine ⟨?_, rfl, [], [], rfl, ⟨rfl, trivial⟩, trivial⟩
              repeat' apply And.intro
              all_goals first
                | exact True.intro
                | omega
                | decide +kernel
                | rfl
                | exact Nat.le_of_ble_eq_true rfl
                | (dsimp only; omega)
                | trace_state
            · exact str_absurd hse hb
    · conv => whnf
      subst hK
      conv => whnf
      obtain ⟨Z0, hZ0⟩ : ∃ Z0, Z0 = splI (List.replicate 32 0) 16 (List.take (min 16 16) (List.take 16 (List.drop 16 key))) := ⟨_, rfl⟩
      have hZl : Z0 = List.replicate 16 0 ++ key.drop 16 := by
        have hd : (key.drop 16).length = 16 := by rw [List.length_drop]; omega
        rw [hZ0, Nat.min_self, List.take_take, Nat.min_self, List.take_of_length_le (by omega)]
        have hdr : List.drop 32 (List.replicate 32 (0 : Int)) = [] := rfl
        unfold splI
        rw [hd]
        show List.take 16 (List.replicate 32 0) ++ key.drop 16 ++ List.drop 32 (List.replicate 32 0) = _
        rw [hdr, List.append_nil]
        rfl
      have hZ32 : Z0.length = 32 := by rw [hZl, List.length_append, List.length_drop, h1]; rfl
      have hZi : inR Z0 255 := by rw [hZl]; exact inR_app (inR_zeros 16 (by decide)) (inR_drop h2 16)
      have hZz : ∀ i, i < 16 → Z0.getD i 0 = 0 := fun i hi => by rw [hZl, List.getD_eq_getElem?_getD, List.getElem?_append_left (by simpa using hi), List.getElem?_replicate, if_pos hi]; rfl
      have hZd : Z0.drop 16 = key.drop 16 := by rw [hZl]; rfl
      have hZt : refT Z0 (bl s) = key.drop 16 := (zero_half hZ32 hZi hZz (bl s)).trans hZd
      have hmore : conv .i64 more = more := by rw [conv, i64_in]; omega
      obtain ⟨M, M0, Ms, Mp, ME⟩ : ∃ M : Nat → Int × List Int, M 0 = (more, key) ∧ (∀ i, M (i + 1) = (((M i).1 + (M i).2.getD (16 + i) 0) / 256, (M i).2.set (16 + i) (((M i).1 + (M i).2.getD (16 + i) 0) % 256))) ∧ (∀ i, i ≤ 16 → (M i).2.length = 32 ∧ inR (M i).2 255 ∧ (0 ≤ (M i).1 ∧ (M i).1 ≤ 255)) ∧ (M 16).2 = (moreK key more 16).2 :=
        ⟨moreK key more, rfl, fun _ => rfl, fun i hi => ⟨(moreK_spec h1 h2 h4 i hi).1, (moreK_spec h1 h2 h4 i hi).2.1, (moreK_spec h1 h2 h4 i hi).2.2.1⟩, rfl⟩
      rw [hmore]
      refine ⟨?_, { j : Nat // j ≤ 16 }, fun j => ⟨(.any :: .v (.one (.str s)) :: .v (.one (.int .u8 more)) :: .v (.one (.ptr 0 0)) :: .any :: .any :: .any :: .v (.one (.ptr 1 0)) :: .any :: .any :: .v (.one (.ptr 2 0)) :: .v (.one (.ptr 3 0)) :: .v (.one (.int .i64 (M j.1).1)) :: .v (.one (.int .i64 ((16 + j.1 : Nat) : Int))) :: .any :: .any :: .any :: .any :: .any :: .any :: .any :: .any :: .any :: .any :: .any :: .any :: .any :: .any :: .any :: .any :: .any :: .any :: .any :: .any :: .any :: .any :: .any :: .any :: .any :: .any :: .any :: .any :: .any :: .any :: .any :: .any :: .any :: .any :: .any :: .any :: .any :: .any :: .any :: .any :: .any :: .any :: .any :: .any :: .any :: .any :: .any :: .any :: .any :: .any :: .any :: .any :: .any :: .any :: .any :: .any :: .any :: .any :: .any :: .any :: .any :: .any :: .any :: .any :: .any :: .any :: .any :: .any :: .any :: .any :: .any :: .any :: .any :: .any :: .any :: .any :: .any :: .any :: .any :: .any :: .any :: .any :: .any :: .any :: .any :: []), [.own 0 [.ints .u8 key 32], .own 0 [.ints .u8 W 16], .own 0 [.ints .u8 (key.drop 16) 16], .own 0 [.ints .u8 (M j.1).2 32]]⟩, fun j => 16 - j.1, ⟨0, by omega⟩, ?_, fun _ => rfl, ?_⟩
      · have hZi' : inR (splI (List.replicate 32 0) 16 (List.take (min 16 16) (List.take 16 (List.drop 16 key)))) 255 := hZ0 ▸ hZi
        have hZl' : (splI (List.replicate 32 0) 16 (List.take (min 16 16) (List.take 16 (List.drop 16 key)))).length = 32 := hZ0 ▸ hZ32
        repeat' apply And.intro
        all_goals first
          | exact True.intro
          | exact hZi'
          | exact hZl'
          | exact h1
          | omega
          | decide +kernel
          | rfl
          | exact Nat.le_of_ble_eq_true rfl
          | (dsimp only; omega)
          | trace_state
      · refine ⟨[0, 1, 4, 5], [], rfl, ?_, ?_⟩
        · repeat' apply And.intro
          all_goals first
            | exact True.intro
            | rfl
            | exact Nat.le_refl _
            | decide +kernel
            | (simp only [M0]; exact ⟨rfl, rfl⟩)
            | (simp only [M0]; done)
            | trace_state
        · refine ⟨⟨rfl, rfl, rfl, rfl, trivial⟩, ⟨rfl, rfl, rfl, rfl, trivial⟩, ⟨rfl, rfl, ?_, rfl, trivial⟩, ⟨rfl, rfl, ?_, rfl, trivial⟩, trivial⟩
          · rw [← hZt, ← hf1, hZ0]; rfl
          · rw [M0]
      rintro ⟨j, hj⟩
      have hMs := Ms j
      obtain ⟨hMl, hMi, hMc⟩ := Mp j hj
      have hMx := hMi.h (16 + j)
      obtain ⟨c, ks, hck⟩ : ∃ c ks, M j = (c, ks) := ⟨_, _, rfl⟩
      rw [hck] at hMs hMl hMi hMc hMx
      dsimp only at hMs hMl hMi hMc hMx
      show run tab env16 0 _ ⟨(.any :: .v (.one (.str s)) :: .v (.one (.int .u8 more)) :: .v (.one (.ptr 0 0)) :: .any :: .any :: .any :: .v (.one (.ptr 1 0)) :: .any :: .any :: .v (.one (.ptr 2 0)) :: .v (.one (.ptr 3 0)) :: .v (.one (.int .i64 (M j).1)) :: .v (.one (.int .i64 ((16 + j : Nat) : Int))) :: .any :: .any :: .any :: .any :: .any :: .any :: .any :: .any :: .any :: .any :: .any :: .any :: .any :: .any :: .any :: .any :: .any :: .any :: .any :: .any :: .any :: .any :: .any :: .any :: .any :: .any :: .any :: .any :: .any :: .any :: .any :: .any :: .any :: .any :: .any :: .any :: .any :: .any :: .any :: .any :: .any :: .any :: .any :: .any :: .any :: .any :: .any :: .any :: .any :: .any :: .any :: .any :: .any :: .any :: .any :: .any :: .any :: .any :: .any :: .any :: .any :: .any :: .any :: .any :: .any :: .any :: .any :: .any :: .any :: .any :: .any :: .any :: .any :: .any :: .any :: .any :: .any :: .any :: .any :: .any :: .any :: .any :: .any :: .any :: .any :: []), [.own 0 [.ints .u8 key 32], .own 0 [.ints .u8 W 16], .own 0 [.ints .u8 (key.drop 16) 16], .own 0 [.ints .u8 (M j).2 32]]⟩ _ _
      refine run_K (P := fun K => run tab env16 0 _ ⟨_, _⟩ True K) ?_
      intro K hK
      rw [hck]
      dsimp only
      have f1 : isum .i64 ((16 + j : Nat) : Int) 1 = ((16 + (j + 1) : Nat) : Int) := by rw [isum, i64_in] <;> omega
      obtain ⟨x, hx⟩ : ∃ x, x = ks.getD (16 + j) 0 := ⟨_, rfl⟩
      rw [← hx] at hMx hMs
      have f2 : conv .i64 x = x := by rw [conv, i64_in]; omega
      have f3 : isum .i64 c x = c + x := by rw [isum, i64_in]; omega
      have f4 : iquo .i64 (c + x) 256 = (c + x) / 256 := by rw [iquo, Int.tdiv_eq_ediv_of_nonneg (by omega), i64_in]; omega
      have f5 : conv .u8 (c + x) = (c + x) % 256 := by rw [conv, IntKind.wrap_u8]
      have f6 : ks.getD ((16 + j : Nat) : Int).toNat 0 = x := by rw [Int.toNat_natCast, hx]
      have f7 : ks.getD (0 + ((16 + j : Nat) : Int).toNat) 0 = x := by rw [Int.toNat_natCast, Nat.zero_add, hx]
      conv => whnf
      refine ⟨trivial, fun hl => ?_, fun hl => ?_⟩
      · have hl' : j < 16 := by simp at hl; omega
        conv => whnf
        first
          | rw [f1, f6, f2, f3, f4, f5]
          | rw [f1, f7, f2, f3, f4, f5]
        subst hK
        change _ ∧ _
        refine ⟨?_, ⟨j + 1, by omega⟩, by show 16 - (j + 1) < 16 - j; omega, [0, 1, 2, 3], [], rfl, ?_, ?_⟩
        · repeat' apply And.intro
          all_goals first
            | exact True.intro
            | (rw [Int.toNat_natCast]; omega)
            | omega
            | decide +kernel
            | rfl
            | exact Nat.le_of_ble_eq_true rfl
            | (dsimp only; omega)
            | trace_state
        · repeat' apply And.intro
          all_goals first
            | exact True.intro
            | rfl
            | exact Nat.le_refl _
            | decide +kernel
            | (simp only [hMs])
            | trace_state
        · refine ⟨⟨rfl, rfl, rfl, rfl, trivial⟩, ⟨rfl, rfl, rfl, rfl, trivial⟩, ⟨rfl, rfl, rfl, rfl, trivial⟩, ⟨rfl, rfl, ?_, rfl, trivial⟩, trivial⟩
          simp only [hMs, Int.toNat_natCast, Nat.zero_add]
      · have hl' : j = 16 := by simp at hl; omega
        subst hl'
        have hkm : ks = (moreK key more 16).2 := by rw [← ME, hck]
        have hmd := more_digits h1 h2 h4 (bl s)
        rw [← hkm, ← hW] at hmd
        obtain ⟨X, hX⟩ : ∃ X, X = refT ks (bl s) := ⟨_, rfl⟩
        rw [← hX] at hmd
        obtain ⟨S, S0, Ss, Sd⟩ : ∃ S : Nat → Int, S 0 = more ∧ (∀ i, S (i + 1) = (S i + W.getD i 0) / 256) ∧ (∀ i, i ≤ 16 → (0 ≤ S i ∧ S i ≤ 255) ∧ (i < 16 → X.getD i 0 = (S i + W.getD i 0) % 256)) := ⟨sumD W more, rfl, fun _ => rfl, hmd⟩
        have hWi : inR W 255 := by rw [hW]; exact digs_in _ _
        conv => whnf
        subst hK
        conv => whnf
        rw [hmore]
        refine ⟨?_, { i : Nat // i ≤ 16 }, fun i => ⟨(.any :: .v (.one (.str s)) :: .any :: .v (.one (.ptr 0 0)) :: .any :: .any :: .any :: .v (.one (.ptr 1 0)) :: .any :: .any :: .v (.one (.ptr 2 0)) :: .any :: .v (.one (.int .i64 (S i.1))) :: .any :: .v (.one (.ptr 3 0)) :: .v (.one (.int .i64 i.1)) :: .any :: .any :: .any :: .any :: .any :: .any :: .any :: .any :: .any :: .any :: .any :: .any :: .any :: .any :: .any :: .any :: .any :: .any :: .any :: .any :: .any :: .any :: .any :: .any :: .any :: .any :: .any :: .any :: .any :: .any :: .any :: .any :: .any :: .any :: .any :: .any :: .any :: .any :: .any :: .any :: .any :: .any :: .any :: .any :: .any :: .any :: .any :: .any :: .any :: .any :: .any :: .any :: .any :: .any :: .any :: .any :: .any :: .any :: .any :: .any :: .any :: .any :: .any :: .any :: .any :: .any :: .any :: .any :: .any :: .any :: .any :: .any :: .any :: .any :: .any :: .any :: .any :: .any :: .any :: .any :: .any :: .any :: .any :: []), [.own 0 [.ints .u8 key 32], .own 0 [.ints .u8 W 16], .own 0 [.ints .u8 (key.drop 16) 16], .own 0 [.ints .u8 X 16]]⟩, fun i => 16 - i.1, ⟨0, by omega⟩, ?_, fun _ => rfl, ?_⟩
        · repeat' apply And.intro
          all_goals first
            | exact True.intro
            | exact hMi
            | exact hMl
            | omega
            | decide +kernel
            | rfl
            | exact Nat.le_of_ble_eq_true rfl
            | (dsimp only; omega)
            | trace_state
        · refine ⟨[0, 1, 2, 5], [], rfl, ?_, ?_⟩
          · repeat' apply And.intro
            all_goals first
              | exact True.intro
              | rfl
              | exact Nat.le_refl _
              | decide +kernel
              | (simp only [S0]; exact ⟨rfl, rfl⟩)
              | (simp only [S0]; done)
              | trace_state
          · refine ⟨⟨rfl, rfl, rfl, rfl, trivial⟩, ⟨rfl, rfl, rfl, rfl, trivial⟩, ⟨rfl, rfl, rfl, rfl, trivial⟩, ⟨rfl, rfl, ?_, rfl, trivial⟩, trivial⟩
            rw [hX, ← hf1]; rfl
        rintro ⟨i, hi⟩
        have hSs := Ss i
        obtain ⟨hS1, hS2⟩ := Sd i hi
        have hWx := hWi.h i
        show run tab env16 0 _ ⟨(.any :: .v (.one (.str s)) :: .any :: .v (.one (.ptr 0 0)) :: .any :: .any :: .any :: .v (.one (.ptr 1 0)) :: .any :: .any :: .v (.one (.ptr 2 0)) :: .any :: .v (.one (.int .i64 (S i))) :: .any :: .v (.one (.ptr 3 0)) :: .v (.one (.int .i64 i)) :: .any :: .any :: .any :: .any :: .any :: .any :: .any :: .any :: .any :: .any :: .any :: .any :: .any :: .any :: .any :: .any :: .any :: .any :: .any :: .any :: .any :: .any :: .any :: .any :: .any :: .any :: .any :: .any :: .any :: .any :: .any :: .any :: .any :: .any :: .any :: .any :: .any :: .any :: .any :: .any :: .any :: .any :: .any :: .any :: .any :: .any :: .any :: .any :: .any :: .any :: .any :: .any :: .any :: .any :: .any :: .any :: .any :: .any :: .any :: .any :: .any :: .any :: .any :: .any :: .any :: .any :: .any :: .any :: .any :: .any :: .any :: .any :: .any :: .any :: .any :: .any :: .any :: .any :: .any :: .any :: .any :: .any :: .any :: []), [.own 0 [.ints .u8 key 32], .own 0 [.ints .u8 W 16], .own 0 [.ints .u8 (key.drop 16) 16], .own 0 [.ints .u8 X 16]]⟩ _ _
        refine run_K (P := fun K => run tab env16 0 _ ⟨_, _⟩ True K) ?_
        intro K hK
        obtain ⟨c, hc⟩ : ∃ c, c = S i := ⟨_, rfl⟩
        rw [← hc] at hSs hS1 hS2 ⊢
        obtain ⟨x, hx⟩ : ∃ x, x = W.getD i 0 := ⟨_, rfl⟩
        rw [← hx] at hSs hS2 hWx
        have g1 : isum .i64 (i : Int) 1 = ((i + 1 : Nat) : Int) := by rw [isum, i64_in] <;> omega
        have g2 : conv .i64 x = x := by rw [conv, i64_in]; omega
        have g3 : isum .i64 c x = c + x := by rw [isum, i64_in]; omega
        have g4 : iquo .i64 (c + x) 256 = (c + x) / 256 := by rw [iquo, Int.tdiv_eq_ediv_of_nonneg (by omega), i64_in]; omega
        have g5 : conv .u8 (c + x) = (c + x) % 256 := by rw [conv, IntKind.wrap_u8]
        have g6 : W.getD ((i : Nat) : Int).toNat 0 = x := by rw [Int.toNat_natCast, hx]
        have g7 : W.getD (0 + ((i : Nat) : Int).toNat) 0 = x := by rw [Int.toNat_natCast, Nat.zero_add, hx]
        conv => whnf
        refine ⟨trivial, fun hl => ?_, fun hl => ?_⟩
        · have hl' : i < 16 := by simp at hl; omega
          have hXx := hS2 hl'
          conv => whnf
          first
            | rw [g6, g2, g3, g5]
            | rw [g7, g2, g3, g5]
          refine ⟨?_, fun hb => ?_, fun hb => ?_⟩
          · repeat' apply And.intro
            all_goals first
              | exact True.intro
              | (rw [Int.toNat_natCast]; omega)
              | omega
              | decide +kernel
              | rfl
              | exact Nat.le_of_ble_eq_true rfl
              | (dsimp only; omega)
              | trace_state
          · exfalso
            rw [← hXx] at hb
            simp at hb
          · conv => whnf
            first
              | rw [g1, g6, g2, g3, g4]
              | rw [g1, g7, g2, g3, g4]
              | rw [g1, g4]
            subst hK
            change _ ∧ _
            refine ⟨?_, ⟨i + 1, by omega⟩, by show 16 - (i + 1) < 16 - i; omega, [0, 1, 2, 3], [], rfl, ?_, ?_⟩
            · repeat' apply And.intro
              all_goals first
                | exact True.intro
                | (rw [Int.toNat_natCast]; omega)
                | omega
                | decide +kernel
                | rfl
                | exact Nat.le_of_ble_eq_true rfl
                | (dsimp only; omega)
                | trace_state
            · repeat' apply And.intro
              all_goals first
                | exact True.intro
                | rfl
                | exact Nat.le_refl _
                | decide +kernel
                | (simp only [hSs])
                | trace_state
            · exact ⟨⟨rfl, rfl, rfl, rfl, trivial⟩, ⟨rfl, rfl, rfl, rfl, trivial⟩, ⟨rfl, rfl, rfl, rfl, trivial⟩, ⟨rfl, rfl, rfl, rfl, trivial⟩, trivial⟩
        · have hl' : i = 16 := by simp at hl; omega
          subst hl'
          conv => whnf
          subst hK
          conv => whnf
          have hse : ofL (List.take 16 (List.drop 0 (key.drop 16))) = ofL (List.take 16 (List.drop 16 key)) := by rw [List.drop_zero]
          refine ⟨?_, fun hb => ?_, fun hb => ?_⟩
          · repeat' apply And.intro
            all_goals first
              | exact True.intro
              | omega
              | decide +kernel
              | rfl
              | exact Nat.le_of_ble_eq_true rfl
              | (dsimp only; omega)
              | trace_state
          · conv => whnf
            refine ⟨?_, rfl, [], [], rfl, ⟨rfl, trivial⟩, trivial⟩
            repeat' apply And.intro
            all_goals first
              | exact True.intro
              | omega
              | decide +kernel
              | rfl
              | exact Nat.le_of_ble_eq_true rfl
              | (dsimp only; omega)
              | trace_state
          · exact str_absurd hse hb
  · cases hr
end Go.Proofs.Ytjbagkimpmpfgaa

/- Poly: the law of marks that are made piece by piece, walked. -/
namespace Go.Proofs.Ytjbagkimpmpfgaa
open Go Go.Mx
set_option maxRecDepth 100000
set_option maxHeartbeats 4000000

theorem wrote_ok {r : List Int} {s : PS} (h : PSok s) (l : List ByteArray) (lo m : Nat) : PSok (wrote r s l lo m) := pushes_ok _ h
theorem ps_eta (p : PS) : (⟨p.h, p.e, (p.n : Int).toNat⟩ : PS) = p := by rw [Int.toNat_natCast]
def goP (r : List Int) (l : List ByteArray) : Nat → PS
  | 0 => start
  | i + 1 => wrote r (goP r l i) ((List.replicate 1 nB).set 0 (l.getD i ByteArray.empty)) 0 1
def goQ (r : List Int) (l : List ByteArray) : Nat → PS
  | 0 => start
  | i + 1 => wrote r (goQ r l i) (((List.replicate 2 nB).set 0 (l.getD i ByteArray.empty)).set 1 ⟨#[120]⟩) 0 2
theorem goQ_ok (r : List Int) (l : List ByteArray) : ∀ i, PSok (goQ r l i)
  | 0 => ⟨rfl, rfl, by show 0 < 16; decide⟩
  | i + 1 => wrote_ok (goQ_ok r l i) _ _ _
theorem goP_good {key : List Int} (h1 : key.length = 32) (h2 : inR key 255) (l : List ByteArray) : ∀ i, i ≤ l.length → Good (rL key) (flat (l.take i)) (goP (rL key) l i)
  | 0, _ => good_start
  | i + 1, hi => by
    have := wrote_good h1 h2 (goP_good h1 h2 l i (by omega)) ((List.replicate 1 nB).set 0 (l.getD i ByteArray.empty)) 0 1
    rw [flat_succ l i (by omega)]
    have hf : flat (List.take 1 (List.drop 0 ((List.replicate 1 nB).set 0 (l.getD i ByteArray.empty)))) = bl (l.getD i ByteArray.empty) := flat_one' _
    rw [hf] at this
    exact this
def env15 : Env := fun f => match f with
  | 60 => some c60
  | 61 => some c61
  | 62 => some c62
  | 63 => some c63
  | 64 => some c64
  | 65 => some c65'
  | _ => none
theorem env15_ok : EnvOk Try.prog env15 := by
  intro f c h
  unfold env15 at h
  split at h
  · simp only [Option.some.injEq] at h; subst h; exact m60
  · simp only [Option.some.injEq] at h; subst h; exact m61
  · simp only [Option.some.injEq] at h; subst h; exact m62
  · simp only [Option.some.injEq] at h; subst h; exact m63
  · simp only [Option.some.injEq] at h; subst h; exact m64
  · simp only [Option.some.injEq] at h; subst h; exact m65'
  · cases h
def c15 : Ctr := fun args objs => match args, objs with
  | [.agg [.ints .u8 key 32], .agg [.ints .u8 other 32], .one (.sl 0 0 m 1)], [.view 1 [.strs l q]] => some ⟨[key.length = 32, inR key 255, other.length = 32, inR other 255, l.length = q, m = q, q ≤ 1048576, (flat l).length ≤ 1048576], .v (.one (.bool true true)), [], []⟩
  | _, _ => none
theorem m15 : Meets Try.prog 15 c15 := by
  refine meets_of_run2 tab_ok env15_ok mixed [.tmp 6] Try.func15 rfl Try.ntmps15 Try.call15 (fun t w => by simp [results, Try.results15, resS, rv1]) ?_
  intro args objs r hr hcs
  unfold c15 at hr
  split at hr
  · rename_i key other m l q
    simp only [Option.some.injEq] at hr; subst hr
    obtain ⟨h1, h2, h3, h4, h5, h6, h7, h8, _⟩ := hcs
    refine ⟨rfl, ?_⟩
    conv => whnf
    subst h6
    have hr := (rL_spec h1 h2).2.2
    have hr' := (rL_spec h3 h4).2.2
    have hk2 : (key.drop 16).length = 16 := by rw [List.length_drop]; omega
    have hk2' : (other.drop 16).length = 16 := by rw [List.length_drop]; omega
    have hj : ∀ k, bl (joinB l k) = flat (l.take k) := fun k => bl_ofL (allB_in (flat_in _))
    have hfl : ∀ k, (flat (l.take k)).length ≤ 1048576 := fun k => by
      by_cases hk : k ≤ m
      · have := flat_mono l k m hk
        rw [List.take_of_length_le (show l.length ≤ m by omega)] at this
        omega
      · rw [List.take_of_length_le (by omega)]; exact h8
    have hjs : ∀ k, (joinB l k).size ≤ 1048576 := fun k => by rw [joinB, ofL_size]; exact hfl k
    obtain ⟨P, P0, Ps, Pg, Po⟩ : ∃ P : Nat → PS, P 0 = start ∧ (∀ i, P (i + 1) = wrote (rL key) (P i) ((List.replicate 1 nB).set 0 (l.getD i ByteArray.empty)) 0 1) ∧ (∀ i, i ≤ m → tagL (rL key) (key.drop 16) (P i) = refT key (bl (joinB l i))) ∧ (∀ i, i ≤ m → PSok (P i)) :=
      ⟨goP (rL key) l, rfl, fun _ => rfl, fun i hi => by rw [hj]; exact tag_good h1 h2 (goP_good h1 h2 l i (by omega)), fun i hi => by have := goP_good h1 h2 l i (by omega); exact ⟨this.hl, this.el, good_lt this⟩⟩
    obtain ⟨Q, Q0, Qs, Qo⟩ : ∃ Q : Nat → PS, Q 0 = start ∧ (∀ i, Q (i + 1) = wrote (rL other) (Q i) (((List.replicate 2 nB).set 0 (l.getD i ByteArray.empty)).set 1 ⟨#[120]⟩) 0 2) ∧ (∀ i, PSok (Q i)) := ⟨goQ (rL other) l, rfl, fun _ => rfl, goQ_ok _ _⟩
    rw [show splitL (clampL key) 0 0 = rL key from rfl, show splitL (clampL other) 0 0 = rL other from rfl]
    refine ⟨?_, { i : Nat // i ≤ m }, fun i => ⟨(.any :: .any :: .v (.one (.sl 0 0 m 1)) :: .v (.one (.ptr 1 0)) :: .v (.one (.ptr 2 0)) :: .any :: .any :: .v (.one (.ptr 3 0)) :: .v (.one (.ptr 4 0)) :: .v (.one (.int .i64 i.1)) :: .any :: .any :: .any :: .any :: .any :: .any :: .any :: .any :: .any :: .any :: .any :: .any :: .any :: .any :: .any :: .any :: .any :: .any :: .any :: .any :: .any :: .any :: .any :: .any :: .any :: .any :: .any :: .any :: .any :: .any :: .any :: .any :: .any :: .any :: .any :: .any :: .any :: .any :: .any :: .any :: .any :: .any :: .any :: .any :: .any :: .any :: .any :: .any :: .any :: .any :: .any :: .any :: .any :: .any :: .any :: .any :: .any :: .any :: .any :: .any :: .any :: .any :: .any :: .any :: .any :: .any :: .any :: .any :: .any :: .any :: .any :: .any :: .any :: .any :: .any :: .any :: .any :: .any :: .any :: .any :: []), [.view 1 [.strs l m], .own 0 [.ints .u8 key 32], .own 0 [.ints .u8 other 32], macP (rL key) (key.drop 16) (P i.1), macP (rL other) (other.drop 16) (Q i.1)]⟩, fun i => m - i.1, ⟨0, by omega⟩, ?_, fun _ => rfl, ?_⟩
    · repeat' apply And.intro
      all_goals first
        | exact True.intro
        | exact h1
        | exact h3
        | omega
        | decide +kernel
        | rfl
        | exact Nat.le_of_ble_eq_true rfl
        | (dsimp only; omega)
        | trace_state
    · refine ⟨[0, 1, 2, 3, 4], [], rfl, ?_, ?_⟩
      · repeat' apply And.intro
        all_goals first
          | exact True.intro
          | rfl
          | exact Nat.le_refl _
          | decide +kernel
          | omega
          | trace_state
      · refine ⟨⟨rfl, rfl, rfl, trivial⟩, ⟨rfl, rfl, rfl, rfl, trivial⟩, ⟨rfl, rfl, rfl, rfl, trivial⟩, ⟨rfl, rfl, rfl, rfl, rfl, ?_, rfl, rfl, rfl, rfl, rfl, ?_, rfl, ⟨rfl, ?_⟩, trivial⟩, ⟨rfl, rfl, rfl, rfl, rfl, ?_, rfl, rfl, rfl, rfl, rfl, ?_, rfl, ⟨rfl, ?_⟩, trivial⟩, trivial⟩
        all_goals first
          | (rw [P0]; rfl)
          | (rw [Q0]; rfl)
    rintro ⟨i, hi⟩
    have hPs := Ps i
    have hQs := Qs i
    obtain ⟨hP1, hP2, hP3⟩ := Po i hi
    obtain ⟨hQ1, hQ2, hQ3⟩ := Qo i
    show run tab env15 1 _ ⟨(.any :: .any :: .v (.one (.sl 0 0 m 1)) :: .v (.one (.ptr 1 0)) :: .v (.one (.ptr 2 0)) :: .any :: .any :: .v (.one (.ptr 3 0)) :: .v (.one (.ptr 4 0)) :: .v (.one (.int .i64 i)) :: .any :: .any :: .any :: .any :: .any :: .any :: .any :: .any :: .any :: .any :: .any :: .any :: .any :: .any :: .any :: .any :: .any :: .any :: .any :: .any :: .any :: .any :: .any :: .any :: .any :: .any :: .any :: .any :: .any :: .any :: .any :: .any :: .any :: .any :: .any :: .any :: .any :: .any :: .any :: .any :: .any :: .any :: .any :: .any :: .any :: .any :: .any :: .any :: .any :: .any :: .any :: .any :: .any :: .any :: .any :: .any :: .any :: .any :: .any :: .any :: .any :: .any :: .any :: .any :: .any :: .any :: .any :: .any :: .any :: .any :: .any :: .any :: .any :: .any :: .any :: .any :: .any :: .any :: .any :: .any :: []), [.view 1 [.strs l m], .own 0 [.ints .u8 key 32], .own 0 [.ints .u8 other 32], macP (rL key) (key.drop 16) (P i), macP (rL other) (other.drop 16) (Q i)]⟩ _ _
    refine run_K (P := fun K => run tab env15 1 _ ⟨_, _⟩ True K) ?_
    intro K hK
    have e1 : isum .i64 (i : Int) 1 = ((i + 1 : Nat) : Int) := by rw [isum, i64_in] <;> omega
    have el : l.getD (0 + (i : Int).toNat) ByteArray.empty = l.getD i ByteArray.empty := by rw [Int.toNat_natCast, Nat.zero_add]
    conv => whnf
    refine ⟨trivial, fun hlt => ?_, fun hlt => ?_⟩
    · have hlt' : i < m := by simp at hlt; omega
      obtain ⟨hP1', hP2', hP3'⟩ := Po (i + 1) (by omega)
      have hT := Pg (i + 1) (by omega)
      have hfl2 : ∀ k, (flat (l.take k)).length ≤ 140737488355328 := fun k => by have := hfl k; omega
      have hjs2 : ∀ k, (joinB l k).size ≤ 4611686018427387904 := fun k => by have := hjs k; omega
      have hPw : wrote (rL key) ⟨(P i).h, (P i).e, ((P i).n : Int).toNat⟩ ((List.replicate 1 nB).set (0 * 1) (l.getD (0 + (i : Int).toNat) ByteArray.empty)) 0 1 = P (i + 1) := by rw [ps_eta, el, hPs]
      have hQw : wrote (rL other) ⟨(Q i).h, (Q i).e, ((Q i).n : Int).toNat⟩ (((List.replicate 2 nB).set (0 * 1) (l.getD (0 + (i : Int).toNat) ByteArray.empty)).set (1 * 1) ⟨#[120]⟩) 0 2 = Q (i + 1) := by rw [ps_eta, el, hQs]
      rw [← ps_eta (P (i + 1))] at hT
      rw [← hPw] at hT hP1' hP2' hP3'
      conv => whnf
      refine ⟨?_, fun hg => ?_, fun hg => ?_⟩
      · repeat' apply And.intro
        all_goals first
          | exact True.intro
          | (rw [Int.toNat_natCast]; omega)
          | omega
          | decide +kernel
          | rfl
          | exact Nat.le_of_ble_eq_true rfl
          | (dsimp only; omega)
          | trace_state
      · have hg' : i < 12 := by simp at hg; omega
        conv => whnf
        rw [e1]
        refine ⟨?_, fun hb => ?_, fun hb => ?_⟩
        · exact ⟨by decide +kernel, hjs2 _, h2, h1, hfl2 _, by omega, by show i + 1 - 0 ≤ m; omega, h5, ⟨by omega, by omega, by omega⟩, Int.ofNat_lt.2 hP3', Int.natCast_nonneg _, hP2', hk2, hP1', hr, trivial⟩
        · exact bne_absurd hT hb
        · conv => whnf
          rw [e1]
          subst hK
          change _ ∧ _
          refine ⟨?_, ⟨i + 1, by omega⟩, by show m - (i + 1) < m - i; omega, [0, 1, 2, 3, 4], [], rfl, ?_, ?_⟩
          · repeat' apply And.intro
            all_goals first
              | exact True.intro
              | omega
              | decide +kernel
              | rfl
              | exact Nat.le_of_ble_eq_true rfl
              | (dsimp only; omega)
              | trace_state
          · repeat' apply And.intro
            all_goals first
              | exact True.intro
              | rfl
              | exact Nat.le_refl _
              | decide +kernel
              | omega
              | trace_state
          · exact ⟨⟨rfl, rfl, rfl, trivial⟩, ⟨rfl, rfl, rfl, rfl, trivial⟩, ⟨rfl, rfl, rfl, rfl, trivial⟩, ⟨rfl, rfl, rfl, rfl, rfl, congrArg PS.h hPw, rfl, rfl, rfl, rfl, rfl, congrArg PS.e hPw, rfl, ⟨rfl, congrArg (fun p : PS => (p.n : Int)) hPw⟩, trivial⟩, ⟨rfl, rfl, rfl, rfl, rfl, congrArg PS.h hQw, rfl, rfl, rfl, rfl, rfl, congrArg PS.e hQw, rfl, ⟨rfl, congrArg (fun p : PS => (p.n : Int)) hQw⟩, trivial⟩, trivial⟩
      · conv => whnf
        rw [e1]
        subst hK
        change _ ∧ _
        refine ⟨?_, ⟨i + 1, by omega⟩, by show m - (i + 1) < m - i; omega, [0, 1, 2, 3, 4], [], rfl, ?_, ?_⟩
        · repeat' apply And.intro
          all_goals first
            | exact True.intro
            | omega
            | decide +kernel
            | rfl
            | exact Nat.le_of_ble_eq_true rfl
            | (dsimp only; omega)
            | trace_state
        · repeat' apply And.intro
          all_goals first
            | exact True.intro
            | rfl
            | exact Nat.le_refl _
            | decide +kernel
            | omega
            | trace_state
        · exact ⟨⟨rfl, rfl, rfl, trivial⟩, ⟨rfl, rfl, rfl, rfl, trivial⟩, ⟨rfl, rfl, rfl, rfl, trivial⟩, ⟨rfl, rfl, rfl, rfl, rfl, congrArg PS.h hPw, rfl, rfl, rfl, rfl, rfl, congrArg PS.e hPw, rfl, ⟨rfl, congrArg (fun p : PS => (p.n : Int)) hPw⟩, trivial⟩, ⟨rfl, rfl, rfl, rfl, rfl, congrArg PS.h hQw, rfl, rfl, rfl, rfl, rfl, congrArg PS.e hQw, rfl, ⟨rfl, congrArg (fun p : PS => (p.n : Int)) hQw⟩, trivial⟩, trivial⟩
    · have hlt' : i = m := by simp at hlt; omega
      subst hlt'
      conv => whnf
      subst hK
      conv => whnf
      have hTm := Pg i (Nat.le_refl _)
      rw [← ps_eta (P i)] at hTm
      have hNg := wrote_good h1 h2 (good_start (r := rL key)) l 0 i
      have hNt := tag_good h1 h2 hNg
      rw [List.nil_append, List.drop_zero, ← hj i] at hNt
      obtain ⟨N, hN⟩ : ∃ N, N = wrote (splitL (clampL key) 0 0) ⟨List.replicate 5 0, List.replicate 16 0, Int.toNat 0⟩ l 0 i := ⟨_, rfl⟩
      have hN' : N = wrote (rL key) ⟨List.replicate 5 0, List.replicate 16 0, 0⟩ l 0 i := hN
      rw [← hN'] at hNg hNt
      have hN1 := hNg.hl
      have hN2 := hNg.el
      have hN3 := good_lt hNg
      rw [← ps_eta N] at hNt
      have hfl2 := hfl i
      have hjs2 := hjs i
      rw [← hN]
      have hr0 : (splitL (clampL key) 0 0).length = 5 := hr
      have hz16 : (List.replicate 16 (0 : Int)).length = 16 := rfl
      have hz5 : (List.replicate 5 (0 : Int)).length = 5 := rfl
      refine ⟨?_, fun _ => ?_, fun hb => beq_absurd rfl hb⟩
      · repeat' apply And.intro
        all_goals first
          | exact True.intro
          | omega
          | exact h2
          | trace_state
      conv => whnf
      have hq1 := hTm.trans hNt.symm
      refine ⟨?_, fun _ => ?_, fun hb => beq_absurd hq1 hb⟩
      · repeat' apply And.intro
        all_goals first
          | exact True.intro
          | omega
          | exact h2
          | trace_state
      conv => whnf
      refine ⟨?_, fun _ => ?_, fun hb => beq_absurd hNt hb⟩
      · repeat' apply And.intro
        all_goals first
          | exact True.intro
          | omega
          | exact h2
          | trace_state
      conv => whnf
      refine ⟨?_, rfl, [0], [], rfl, ⟨rfl, trivial⟩, ⟨rfl, rfl, rfl, trivial⟩, trivial⟩
      repeat' apply And.intro
      all_goals first
        | exact True.intro
        | omega
        | decide +kernel
        | rfl
        | exact Nat.le_of_ble_eq_true rfl
        | (dsimp only; omega)
        | trace_state
  · cases hr
end Go.Proofs.Ytjbagkimpmpfgaa
