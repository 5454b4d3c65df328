/- Texts joined for the claims: D3, P8, D4, D5, D6, D7, P9, P10, P11, FrameT. Conditions: those that each lists. -/
import Derived.Test.YtjbagkimpmpfgaaLP
import Derived.Test.YtjbagkimpmpfgaaLC
import Derived.Test.YtjbagkimpmpfgaaLB
import Derived.SizedLaws
import Derived.JoinedCond
set_option linter.unusedSimpArgs false
set_option linter.unusedVariables false

/- Digits: the document's mark, as numbers. Conditions: each lemma's own. -/
namespace Go.Proofs.Ytjbagkimpmpfgaa
open Go Go.Mx

theorem vb_take_succ (B : Int) : ∀ (l : List Int) (k : Nat), vb B (l.take (k + 1)) = vb B (l.take k) + B ^ k * l.getD k 0
  | [], k => by simp [vb]
  | x :: l, 0 => by simp [vb]
  | x :: l, k + 1 => by
    simp only [List.take_succ_cons, vb, List.getD_cons_succ, vb_take_succ B l k, Int.pow_succ]
    grind
theorem getD_set_eq {l : List Int} {j : Nat} (h : j < l.length) (x : Int) : (l.set j x).getD j 0 = x := by
  rw [List.getD_eq_getElem?_getD, List.getElem?_set_self h]; rfl
theorem getD_set_ne {l : List Int} {i j : Nat} (h : i ≠ j) (x : Int) : (l.set i x).getD j 0 = l.getD j 0 := by
  rw [List.getD_eq_getElem?_getD, List.getElem?_set_ne h, ← List.getD_eq_getElem?_getD]

/-! ### The first half of the key -/
def rdF (key : List Int) (i : Nat) : Int :=
  if i > 0 ∧ i % 4 = 0 then (if i % 4 = 3 then key.getD i 0 % 16 else key.getD i 0) / 4 * 4 else (if i % 4 = 3 then key.getD i 0 % 16 else key.getD i 0)
theorem rdF_in {key : List Int} (h : inR key 255) (i : Nat) : 0 ≤ rdF key i ∧ rdF key i ≤ 255 := by
  have := h.h i
  unfold rdF
  split <;> split <;> omega
def rst (key : List Int) : Nat → List Int
  | 0 => List.replicate 16 0
  | i + 1 => (rst key i).set i (rdF key i)
theorem rst_len (key : List Int) : ∀ i, (rst key i).length = 16
  | 0 => by simp [rst]
  | i + 1 => by rw [rst, List.length_set, rst_len]
theorem rst_in {key : List Int} (h : inR key 255) : ∀ i, inR (rst key i) 255
  | 0 => inR_zeros 16 (by decide)
  | i + 1 => inR_set (rst_in h i) (rdF_in h i)
def rI (key : List Int) : Int := vb 256 (rst key 16)

/-! ### A block's bytes, added -/
def ads (h bs : List Int) : Nat → List Int
  | 0 => h
  | i + 1 => (ads h bs i).set i ((ads h bs i).getD i 0 + bs.getD i 0)
theorem ads_len (h bs : List Int) : ∀ i, (ads h bs i).length = h.length
  | 0 => rfl
  | i + 1 => by rw [ads, List.length_set, ads_len]
theorem ads_at (h bs : List Int) : ∀ i j, i ≤ j → (ads h bs i).getD j 0 = h.getD j 0
  | 0, _, _ => rfl
  | i + 1, j, hj => by rw [ads, getD_set_ne (by omega), ads_at h bs i j (by omega)]
theorem ads_in {h bs : List Int} {a b : Int} (hh : inR h a) (hb : inR bs b) : ∀ i, inR (ads h bs i) (a + b)
  | 0 => inR_mono hh (by have := hb.nonneg; omega)
  | i + 1 => by
    have h1 := hh.h i
    have h2 := hb.h i
    refine inR_set (ads_in hh hb i) ?_
    rw [ads_at h bs i i (Nat.le_refl _)]
    omega
theorem ads_val (h bs : List Int) : ∀ i, i ≤ h.length → vb 256 (ads h bs i) = vb 256 h + vb 256 (bs.take i)
  | 0, _ => by simp [ads, vb]
  | i + 1, hi => by
    rw [ads, vb_set _ _ _ _ (by rw [ads_len]; omega), ads_val h bs i (by omega), vb_take_succ]
    grind
theorem ads_take (h bs : List Int) (n : Nat) : ∀ i, i ≤ n → n ≤ h.length → (ads h bs i).take n = ads (h.take n) bs i
  | 0, _, _ => rfl
  | i + 1, hi, hn => by
    rw [ads, ads, List.take_set, ads_take h bs n i (by omega) hn]
    congr 1
    rw [ads_at _ _ i i (Nat.le_refl _), ads_at _ _ i i (Nat.le_refl _)]
    congr 1
    rw [List.getD_eq_getElem?_getD, List.getD_eq_getElem?_getD, List.getElem?_take, if_pos (by omega)]

/-! ### A product -/
def mz (h r z : List Int) (i : Nat) : Nat → List Int
  | 0 => z
  | k + 1 => (mz h r z i k).set (i + k) ((mz h r z i k).getD (i + k) 0 + h.getD i 0 * r.getD k 0)
def mzN (h r : List Int) : Nat → List Int
  | 0 => List.replicate 40 0
  | i + 1 => mz h r (mzN h r i) i 16
theorem mz_len (h r z : List Int) (i : Nat) : ∀ k, (mz h r z i k).length = z.length
  | 0 => rfl
  | k + 1 => by rw [mz, List.length_set, mz_len]
theorem mzN_len (h r : List Int) : ∀ i, (mzN h r i).length = 40
  | 0 => by simp [mzN]
  | i + 1 => by rw [mzN, mz_len, mzN_len]
theorem mz_in {h r z : List Int} {a b : Int} (hh : inR h 511) (hr : inR r 255) (hz : inR z a) (i : Nat) : ∀ k : Nat, inR (mz h r z i k) (a + 130305 * k)
  | 0 => by simpa [mz] using hz
  | k + 1 => by
    have h1 := hh.h i
    have h2 := hr.h k
    have ih := mz_in (b := b) hh hr hz i k
    have h3 := ih.h (i + k)
    have h4 : 0 ≤ h.getD i 0 * r.getD k 0 := Int.mul_nonneg h1.1 h2.1
    have h5 : h.getD i 0 * r.getD k 0 ≤ 511 * 255 := Int.mul_le_mul h1.2 h2.2 h2.1 (by decide)
    rw [mz]
    refine inR_set (inR_mono ih (by push_cast; omega)) ?_
    push_cast
    omega
theorem mzN_in {h r : List Int} (hh : inR h 511) (hr : inR r 255) : ∀ i : Nat, inR (mzN h r i) (130305 * 16 * i)
  | 0 => inR_zeros 40 (by decide)
  | i + 1 => by
    have := mz_in (b := 0) hh hr (mzN_in hh hr i) i 16
    rw [mzN]
    exact inR_mono this (by push_cast; omega)
theorem mz_val (h r z : List Int) (i : Nat) : ∀ k, i + k ≤ z.length → vb 256 (mz h r z i k) = vb 256 z + 256 ^ i * h.getD i 0 * vb 256 (r.take k)
  | 0, _ => by simp [mz, vb]
  | k + 1, hk => by
    rw [mz, vb_set _ _ _ _ (by rw [mz_len]; omega), mz_val h r z i k (by omega), vb_take_succ, Int.pow_add]
    grind
theorem mzN_val {h r : List Int} (hr : r.length = 16) : ∀ i, i ≤ 24 → vb 256 (mzN h r i) = vb 256 (h.take i) * vb 256 r
  | 0, _ => by simp [mzN, vb, vb_zeros]
  | i + 1, hi => by
    rw [mzN, mz_val _ _ _ _ _ (by rw [mzN_len]; omega), mzN_val hr i (by omega), vb_take_succ 256 h i, List.take_of_length_le (show r.length ≤ 16 by omega)]
    generalize vb 256 (List.take i h) = a
    generalize vb 256 r = b
    generalize h.getD i 0 = c
    generalize (256 : Int) ^ i = d
    grind

/-! ### The number so far -/
def blkV (l : List Int) (t : Nat) : Int := vb 256 ((l.drop (16 * t)).take 16 ++ [1])
def hI (r : Int) (l : List Int) : Nat → Int
  | 0 => 0
  | t + 1 => (hI r l t + blkV l t) * r % pp
theorem hI_in (r : Int) (l : List Int) : ∀ t, 0 ≤ hI r l t ∧ hI r l t < pp
  | 0 => by simp [hI, pp]
  | t + 1 => by rw [hI]; unfold pp; omega
theorem nd_le {v : Int} (h0 : 0 ≤ v) {m : Nat} (h : v < 256 ^ m) : nd v ≤ m := by
  have h1 := lt_nd h0 m
  have h2 : v / 256 ^ m = 0 := Int.ediv_eq_zero_of_lt h0 h
  rw [h2] at h1
  omega
theorem restF_le (v : Int) (m : Nat) (hv : 0 ≤ v) (hm : 18 ≤ m) (hlt : v < 256 ^ m) : (restF v m).2 ≤ m := by
  generalize hn : v.toNat = n
  induction n using Nat.strongRecOn generalizing v m with
  | ind n ih =>
    by_cases h : 0 < v / p130
    · rw [restF_more h]
      have h2 := nextV_lt h
      have h3 := ih (nextV v).toNat (by omega) (nextV v) (clen (nextV v) (max 17 (m - 16)) 18) h2.2 (le_clen _ _ _) (lt_clen h2.2 _ _) rfl
      have h4 := nd_le (m := m) h2.2 (by omega)
      have h5 : clen (nextV v) (max 17 (m - 16)) 18 ≤ m := by unfold clen; omega
      omega
    · rw [restF_end h]
      exact Nat.le_refl _
theorem restR_le (v : Int) (m : Nat) (hv : 0 ≤ v) (hm : 18 ≤ m) (hlt : v < 256 ^ m) : (restR v m).2 ≤ m := by
  unfold restR
  split
  · exact hm
  · exact restF_le v m hv hm hlt
theorem pp_small {v : Int} (h0 : 0 ≤ v) (h : v < pp) (m : Nat) (hm : 17 ≤ m) : v % 256 ^ m = v := by
  refine Int.emod_eq_of_lt h0 ?_
  have h1 : (256 : Int) ^ m = 256 ^ 17 * 256 ^ (m - 17) := by rw [← Int.pow_add]; congr 1; omega
  have h2 := p256_pos (m - 17)
  have h3 : (256 : Int) ^ 17 * 1 ≤ 256 ^ 17 * 256 ^ (m - 17) := Int.mul_le_mul_of_nonneg_left (by omega) (by decide)
  rw [h1]
  have h4 : pp < 256 ^ 17 := by decide +kernel
  omega
/-- A step: the bytes of a block added, a 1 behind them, times r. -/
theorem step_val {H : Int} (h0 : 0 ≤ H) (h1 : H < pp) {M : Nat} (hM : 18 ≤ M) {bs : List Int} (hb : bs.length ≤ 16) {h : List Int} (hh : h = (ads (digs H M) bs bs.length).set bs.length ((ads (digs H M) bs bs.length).getD bs.length 0 + 1)) {r : List Int} (hr : r.length = 16) :
    vb 256 (mzN h r 18) = (H + vb 256 (bs ++ [1])) * vb 256 r := by
  obtain ⟨n, hn⟩ : ∃ n, n = bs.length := ⟨_, rfl⟩
  rw [← hn] at hh hb
  obtain ⟨D, hD⟩ : ∃ D, D = digs H 18 := ⟨_, rfl⟩
  have hDl : D.length = 18 := by rw [hD, digs_len]
  have hDv : vb 256 D = H := by rw [hD, digs_val, pp_small h0 h1 18 (by decide)]
  have hDt : (digs H M).take 18 = D := by rw [hD, digs_take _ _ _ hM]
  have hDn : (digs H M).getD n 0 = D.getD n 0 := by rw [hD, digs_at _ _ _ (by omega), digs_at _ _ _ (by omega)]
  have hEl : (digs H M).length = M := digs_len H M
  generalize digs H M = E at hh hDt hDn hEl
  have e1 : h.take 18 = (ads D bs n).set n (D.getD n 0 + 1) := by
    rw [hh, List.take_set, ads_take _ _ 18 _ (by omega) (by omega), hDt, ads_at _ _ _ _ (Nat.le_refl _), hDn]
  have e2 : (ads D bs n).getD n 0 = D.getD n 0 := ads_at _ _ _ _ (Nat.le_refl _)
  have e3 : vb 256 ((ads D bs n).set n (D.getD n 0 + 1)) = H + vb 256 bs + 256 ^ n := by
    rw [vb_set _ _ _ _ (by rw [ads_len]; omega), ads_val _ _ _ (by omega), hDv, e2, hn, List.take_length]
    generalize D.getD bs.length 0 = x
    generalize (256 : Int) ^ bs.length = y
    grind
  rw [mzN_val hr 18 (by decide), e1, e3, vb_snoc, ← hn, Int.mul_one, Int.add_assoc]
theorem step_in {H : Int} {M : Nat} {bs : List Int} (hb : inR bs 255) {h : List Int} (hh : h = (ads (digs H M) bs bs.length).set bs.length ((ads (digs H M) bs bs.length).getD bs.length 0 + 1)) : inR h 511 := by
  have h1 := ads_in (digs_in H M) hb bs.length
  have h2 := (digs_in H M).h bs.length
  rw [hh]
  refine inR_set (inR_mono h1 (by decide)) ?_
  rw [ads_at _ _ _ _ (Nat.le_refl _)]
  omega
/-- THE DOCUMENT's MARK: of a key's bytes and a text's. -/
def refT (key l : List Int) : List Int := digs (hI (rI key) l ((l.length + 15) / 16) + vb 256 (key.drop 16)) 16
theorem outs_set (w : Int) (i : Nat) (h : i < 16) : (digs w i ++ List.replicate (16 - i) 0).set i (w / 256 ^ i % 256) = digs w (i + 1) ++ List.replicate (16 - (i + 1)) 0 := by
  rw [List.set_append_right _ _ (by rw [digs_len]; omega), digs_len, Nat.sub_self, show 16 - i = 16 - (i + 1) + 1 by omega, List.replicate_succ, List.set_cons_zero, digs, List.append_assoc]
  rfl
theorem bl_in (s : ByteArray) : inR (bl s) 255 := inR_mem (by decide) (fun x hx => by
  simp only [bl, List.mem_map] at hx
  obtain ⟨b, _, rfl⟩ := hx
  have := b.toNat_lt
  omega)
end Go.Proofs.Ytjbagkimpmpfgaa

/- Poly: the document's mark, walked. -/
namespace Go.Proofs.Ytjbagkimpmpfgaa
open Go Go.Mx
set_option maxRecDepth 100000
set_option maxHeartbeats 4000000

def c60 : Ctr := fun args objs => match args, objs with
  | [.agg [.ints .u8 key 32], .one (.str s)], [] => some ⟨[key.length = 32, inR key 255, s.size ≤ 4611686018427387904], .v (.agg [.ints .u8 (refT key (bl s)) 16]), [], []⟩
  | _, _ => none
def env60 : Env := fun f => match f with
  | 112 => some c112
  | 113 => some c113
  | _ => none
theorem env60_ok : EnvOk Try.prog env60 := by
  intro f c h
  unfold env60 at h
  split at h
  · simp only [Option.some.injEq] at h; subst h; exact m112
  · simp only [Option.some.injEq] at h; subst h; exact m113
  · cases h
theorem m60 : Meets Try.prog 60 c60 := by
  refine meets_of_run2 tab_ok env60_ok mixed [.cell 4 32] Try.func60 rfl Try.ntmps60 Try.call60 (fun t w => by simp [results, Try.results60, resS, rv1]) ?_
  intro args objs r hr hcs
  unfold c60 at hr
  split at hr
  · rename_i key s
    simp only [Option.some.injEq] at hr; subst hr
    obtain ⟨h1, h2, h3, _⟩ := hcs
    refine ⟨rfl, ?_⟩
    conv => whnf
    have hbl := blP_length s
    obtain ⟨B, hB⟩ : ∃ B, B = bl s := ⟨_, rfl⟩
    rw [← hB] at hbl ⊢
    obtain ⟨R, hR⟩ : ∃ R, R = rI key := ⟨_, rfl⟩
    obtain ⟨T, hT⟩ : ∃ T, T = refT key B := ⟨_, rfl⟩
    have hTe : T = digs (hI R B ((s.size + 15) / 16) + vb 256 (key.drop 16)) 16 := by rw [hT, hR, ← hbl]; rfl
    rw [← hT]
    obtain ⟨a, a0, asn, al, ai, aR⟩ : ∃ a : Nat → List Int, a 0 = List.replicate 16 0 ∧ (∀ i, a (i + 1) = (a i).set i (rdF key i)) ∧ (∀ i, (a i).length = 16) ∧ (∀ i, inR (a i) 255) ∧ vb 256 (a 16) = R := ⟨rst key, rfl, fun _ => rfl, rst_len key, rst_in h2, hR.symm⟩
    refine ⟨?_, { i : Nat // i ≤ 16 }, fun i => ⟨(.any :: .v (.one (.str s)) :: .v (.one (.ptr 0 0)) :: .any :: .v (.one (.ptr 1 0)) :: .v (.one (.sl 2 0 16 1)) :: .v (.one (.int .i64 i.1)) :: .any :: .any :: .any :: .any :: .any :: .any :: .any :: .any :: .any :: .any :: .any :: .any :: .any :: .any :: .any :: .any :: .any :: .any :: .any :: .any :: .any :: .any :: .any :: .any :: .any :: .any :: .any :: .any :: .any :: .any :: .any :: .any :: .any :: .any :: .any :: .any :: .any :: .any :: .any :: .any :: .any :: .any :: .any :: .any :: .any :: .any :: .any :: .any :: .any :: .any :: .any :: .any :: .any :: .any :: .any :: .any :: .any :: .any :: .any :: .any :: .any :: .any :: .any :: .any :: .any :: .any :: .any :: .any :: .any :: .any :: .any :: .any :: .any :: .any :: .any :: .any :: .any :: .any :: .any :: .any :: .any :: .any :: .any :: .any :: .any :: .any :: .any :: .any :: .any :: .any :: .any :: .any :: .any :: .any :: .any :: .any :: .any :: .any :: .any :: .any :: .any :: .any :: .any :: .any :: .any :: .any :: .any :: .any :: .any :: .any :: .any :: .any :: .any :: .any :: .any :: .any :: .any :: .any :: .any :: .any :: .any :: .any :: .any :: .any :: .any :: .any :: .any :: .any :: .any :: .any :: .any :: .any :: .any :: .any :: .any :: .any :: .any :: .any :: .any :: .any :: .any :: .any :: .any :: .any :: .any :: .any :: .any :: .any :: .any :: .any :: .any :: []), [.own 0 [.ints .u8 key 32], .own 0 [.ints .u8 (List.replicate 16 0) 16], .own 1 [.ints .i64 (a i.1) 16]]⟩, fun i => 16 - i.1, ⟨0, by omega⟩, ?_, fun _ => rfl, ?_⟩
    · repeat' apply And.intro
      all_goals first
        | exact True.intro
        | omega
        | decide +kernel
        | rfl
        | exact Nat.le_of_ble_eq_true rfl
        | (dsimp only; omega)
        | trace_state
    · refine ⟨[0, 1, 2], [], rfl, ?_, ?_⟩
      ·
        repeat' apply And.intro
        all_goals first
          | exact True.intro
          | rfl
          | exact Nat.le_refl _
          | decide +kernel
          | trace_state
      · exact ⟨⟨rfl, rfl, rfl, rfl, trivial⟩, ⟨rfl, rfl, rfl, rfl, trivial⟩, ⟨rfl, rfl, a0.symm, rfl, trivial⟩, trivial⟩
    rintro ⟨i, hi⟩
    have hal := al i
    have has := asn i
    show run tab env60 0 _ ⟨(.any :: .v (.one (.str s)) :: .v (.one (.ptr 0 0)) :: .any :: .v (.one (.ptr 1 0)) :: .v (.one (.sl 2 0 16 1)) :: .v (.one (.int .i64 i)) :: .any :: .any :: .any :: .any :: .any :: .any :: .any :: .any :: .any :: .any :: .any :: .any :: .any :: .any :: .any :: .any :: .any :: .any :: .any :: .any :: .any :: .any :: .any :: .any :: .any :: .any :: .any :: .any :: .any :: .any :: .any :: .any :: .any :: .any :: .any :: .any :: .any :: .any :: .any :: .any :: .any :: .any :: .any :: .any :: .any :: .any :: .any :: .any :: .any :: .any :: .any :: .any :: .any :: .any :: .any :: .any :: .any :: .any :: .any :: .any :: .any :: .any :: .any :: .any :: .any :: .any :: .any :: .any :: .any :: .any :: .any :: .any :: .any :: .any :: .any :: .any :: .any :: .any :: .any :: .any :: .any :: .any :: .any :: .any :: .any :: .any :: .any :: .any :: .any :: .any :: .any :: .any :: .any :: .any :: .any :: .any :: .any :: .any :: .any :: .any :: .any :: .any :: .any :: .any :: .any :: .any :: .any :: .any :: .any :: .any :: .any :: .any :: .any :: .any :: .any :: .any :: .any :: .any :: .any :: .any :: .any :: .any :: .any :: .any :: .any :: .any :: .any :: .any :: .any :: .any :: .any :: .any :: .any :: .any :: .any :: .any :: .any :: .any :: .any :: .any :: .any :: .any :: .any :: .any :: .any :: .any :: .any :: .any :: .any :: .any :: .any :: []), [.own 0 [.ints .u8 key 32], .own 0 [.ints .u8 (List.replicate 16 0) 16], .own 1 [.ints .i64 (a i) 16]]⟩ _ _
    refine run_K (P := fun K => run tab env60 0 _ ⟨_, _⟩ True K) ?_
    intro K hK
    conv => whnf
    refine ⟨trivial, fun hlt => ?_, fun hlt => ?_⟩
    · have hlt' : i < 16 := by simp at hlt; omega
      have e1 : isum .i64 (i : Int) 1 = ((i + 1 : Nat) : Int) := by rw [isum, i64_in] <;> omega
      have e2 : (i : Int).tmod 4 = ((i % 4 : Nat) : Int) := by rw [Int.tmod_eq_emod_of_nonneg (by omega)]; omega
      obtain ⟨x, hx⟩ : ∃ x, x = key.getD i 0 := ⟨_, rfl⟩
      have hxr := h2.h i
      rw [← hx] at hxr
      have e3 : conv .i64 x = x := by rw [conv, i64_in]; omega
      have ex : key.getD (0 + (i : Int).toNat) 0 = x := by rw [Int.toNat_natCast, Nat.zero_add, hx]
      have g1 : ∀ y : Int, 0 ≤ y ∧ y ≤ 255 → y.tmod 16 = y % 16 := fun y hy => Int.tmod_eq_emod_of_nonneg hy.1
      have g2 : ∀ y : Int, 0 ≤ y ∧ y ≤ 255 → iquo .i64 y 4 = y / 4 := fun y hy => by rw [iquo, Int.tdiv_eq_ediv_of_nonneg hy.1, i64_in]; omega
      have g3 : ∀ y : Int, 0 ≤ y ∧ y ≤ 255 → imul .i64 (y / 4) 4 = y / 4 * 4 := fun y hy => by rw [imul, i64_in]; omega
      have hai : i < (a i).length := by omega
      have hrd : rdF key i = (if i > 0 ∧ i % 4 = 0 then (if i % 4 = 3 then x % 16 else x) / 4 * 4 else (if i % 4 = 3 then x % 16 else x)) := by rw [hx]; rfl
      conv => whnf
      refine ⟨?_, fun hg => ?_, fun hg => ?_⟩
      · repeat' apply And.intro
        all_goals first
          | exact True.intro
          | (rw [Int.toNat_natCast]; omega)
          | (show (4 : Int) ≠ 0; decide)
          | (show (16 : Int) ≠ 0; decide)
          | omega
          | decide +kernel
          | rfl
          | exact Nat.le_of_ble_eq_true rfl
          | (dsimp only; omega)
          | trace_state
      · rw [e2] at hg
        have hg' : i % 4 = 3 := by simp at hg; omega
        rw [if_pos hg'] at hrd
        conv => whnf
        refine ⟨?_, fun hz => ?_, fun hz => ?_⟩
        · repeat' apply And.intro
          all_goals first
            | exact True.intro
            | (rw [Int.toNat_natCast]; omega)
            | (show (4 : Int) ≠ 0; decide)
            | (show (16 : Int) ≠ 0; decide)
            | omega
            | decide +kernel
            | rfl
            | exact Nat.le_of_ble_eq_true rfl
            | (dsimp only; omega)
            | trace_state
        · have hz' : 0 < i := by simpa using hz
          conv => whnf
          refine ⟨?_, fun hk => ?_, fun hk => ?_⟩
          · repeat' apply And.intro
            all_goals first
              | exact True.intro
              | (rw [Int.toNat_natCast]; omega)
              | (show (4 : Int) ≠ 0; decide)
              | (show (16 : Int) ≠ 0; decide)
              | omega
              | decide +kernel
              | rfl
              | exact Nat.le_of_ble_eq_true rfl
              | (dsimp only; omega)
              | trace_state
          · exfalso
            rw [e2] at hk
            simp at hk
            omega
          · conv => whnf
            rw [if_neg (by omega)] at hrd
            rw [e1]
            subst hK
            change _ ∧ _
            refine ⟨?_, ⟨i + 1, by omega⟩, by show 16 - (i + 1) < 16 - i; omega, [0, 1, 2], [], rfl, ?_, ?_⟩
            · repeat' apply And.intro
              all_goals first
                | exact True.intro
                | (rw [Int.toNat_natCast]; omega)
                | (show (4 : Int) ≠ 0; decide)
                | (show (16 : Int) ≠ 0; decide)
                | omega
                | decide +kernel
                | rfl
                | exact Nat.le_of_ble_eq_true rfl
                | (dsimp only; omega)
                | trace_state
            ·
              repeat' apply And.intro
              all_goals first
                | exact True.intro
                | rfl
                | exact Nat.le_refl _
                | decide +kernel
                | trace_state
            · refine ⟨⟨rfl, rfl, rfl, rfl, trivial⟩, ⟨rfl, rfl, rfl, rfl, trivial⟩, ⟨rfl, rfl, ?_, rfl, trivial⟩, trivial⟩
              simp only [has, hrd, Int.toNat_natCast, Nat.zero_add, getD_set_eq, List.length_set, hai, List.set_set, ← hx, e3, g1 x hxr, g2 x hxr, g3 x hxr]
        · conv => whnf
          have hz' : ¬ 0 < i := by simpa using hz
          rw [if_neg (by omega)] at hrd
          rw [e1]
          subst hK
          change _ ∧ _
          refine ⟨?_, ⟨i + 1, by omega⟩, by show 16 - (i + 1) < 16 - i; omega, [0, 1, 2], [], rfl, ?_, ?_⟩
          · repeat' apply And.intro
            all_goals first
              | exact True.intro
              | (rw [Int.toNat_natCast]; omega)
              | (show (4 : Int) ≠ 0; decide)
              | (show (16 : Int) ≠ 0; decide)
              | omega
              | decide +kernel
              | rfl
              | exact Nat.le_of_ble_eq_true rfl
              | (dsimp only; omega)
              | trace_state
          ·
            repeat' apply And.intro
            all_goals first
              | exact True.intro
              | rfl
              | exact Nat.le_refl _
              | decide +kernel
              | trace_state
          · refine ⟨⟨rfl, rfl, rfl, rfl, trivial⟩, ⟨rfl, rfl, rfl, rfl, trivial⟩, ⟨rfl, rfl, ?_, rfl, trivial⟩, trivial⟩
            simp only [has, hrd, Int.toNat_natCast, Nat.zero_add, getD_set_eq, List.length_set, hai, List.set_set, ← hx, e3, g1 x hxr, g2 x hxr, g3 x hxr]
      · rw [e2] at hg
        have hg' : ¬ i % 4 = 3 := by simp at hg; omega
        rw [if_neg hg'] at hrd
        conv => whnf
        refine ⟨?_, fun hz => ?_, fun hz => ?_⟩
        · repeat' apply And.intro
          all_goals first
            | exact True.intro
            | (rw [Int.toNat_natCast]; omega)
            | (show (4 : Int) ≠ 0; decide)
            | (show (16 : Int) ≠ 0; decide)
            | omega
            | decide +kernel
            | rfl
            | exact Nat.le_of_ble_eq_true rfl
            | (dsimp only; omega)
            | trace_state
        · have hz' : 0 < i := by simpa using hz
          conv => whnf
          refine ⟨?_, fun hk => ?_, fun hk => ?_⟩
          · repeat' apply And.intro
            all_goals first
              | exact True.intro
              | (rw [Int.toNat_natCast]; omega)
              | (show (4 : Int) ≠ 0; decide)
              | (show (16 : Int) ≠ 0; decide)
              | omega
              | decide +kernel
              | rfl
              | exact Nat.le_of_ble_eq_true rfl
              | (dsimp only; omega)
              | trace_state
          · rw [e2] at hk
            have hk' : i % 4 = 0 := by simp at hk; omega
            conv => whnf
            rw [if_pos ⟨hz', hk'⟩] at hrd
            rw [e1]
            subst hK
            change _ ∧ _
            refine ⟨?_, ⟨i + 1, by omega⟩, by show 16 - (i + 1) < 16 - i; omega, [0, 1, 2], [], rfl, ?_, ?_⟩
            · repeat' apply And.intro
              all_goals first
                | exact True.intro
                | (rw [Int.toNat_natCast]; omega)
                | (show (4 : Int) ≠ 0; decide)
                | (show (16 : Int) ≠ 0; decide)
                | omega
                | decide +kernel
                | rfl
                | exact Nat.le_of_ble_eq_true rfl
                | (dsimp only; omega)
                | trace_state
            ·
              repeat' apply And.intro
              all_goals first
                | exact True.intro
                | rfl
                | exact Nat.le_refl _
                | decide +kernel
                | trace_state
            · refine ⟨⟨rfl, rfl, rfl, rfl, trivial⟩, ⟨rfl, rfl, rfl, rfl, trivial⟩, ⟨rfl, rfl, ?_, rfl, trivial⟩, trivial⟩
              simp only [has, hrd, Int.toNat_natCast, Nat.zero_add, getD_set_eq, List.length_set, hai, List.set_set, ← hx, e3, g1 x hxr, g2 x hxr, g3 x hxr]
          · rw [e2] at hk
            have hk' : ¬ i % 4 = 0 := by simp at hk; omega
            conv => whnf
            rw [if_neg (by omega)] at hrd
            rw [e1]
            subst hK
            change _ ∧ _
            refine ⟨?_, ⟨i + 1, by omega⟩, by show 16 - (i + 1) < 16 - i; omega, [0, 1, 2], [], rfl, ?_, ?_⟩
            · repeat' apply And.intro
              all_goals first
                | exact True.intro
                | (rw [Int.toNat_natCast]; omega)
                | (show (4 : Int) ≠ 0; decide)
                | (show (16 : Int) ≠ 0; decide)
                | omega
                | decide +kernel
                | rfl
                | exact Nat.le_of_ble_eq_true rfl
                | (dsimp only; omega)
                | trace_state
            ·
              repeat' apply And.intro
              all_goals first
                | exact True.intro
                | rfl
                | exact Nat.le_refl _
                | decide +kernel
                | trace_state
            · refine ⟨⟨rfl, rfl, rfl, rfl, trivial⟩, ⟨rfl, rfl, rfl, rfl, trivial⟩, ⟨rfl, rfl, ?_, rfl, trivial⟩, trivial⟩
              simp only [has, hrd, Int.toNat_natCast, Nat.zero_add, getD_set_eq, List.length_set, hai, List.set_set, ← hx, e3, g1 x hxr, g2 x hxr, g3 x hxr]
        · conv => whnf
          have hz' : ¬ 0 < i := by simpa using hz
          rw [if_neg (by omega)] at hrd
          rw [e1]
          subst hK
          change _ ∧ _
          refine ⟨?_, ⟨i + 1, by omega⟩, by show 16 - (i + 1) < 16 - i; omega, [0, 1, 2], [], rfl, ?_, ?_⟩
          · repeat' apply And.intro
            all_goals first
              | exact True.intro
              | (rw [Int.toNat_natCast]; omega)
              | (show (4 : Int) ≠ 0; decide)
              | (show (16 : Int) ≠ 0; decide)
              | omega
              | decide +kernel
              | rfl
              | exact Nat.le_of_ble_eq_true rfl
              | (dsimp only; omega)
              | trace_state
          ·
            repeat' apply And.intro
            all_goals first
              | exact True.intro
              | rfl
              | exact Nat.le_refl _
              | decide +kernel
              | trace_state
          · refine ⟨⟨rfl, rfl, rfl, rfl, trivial⟩, ⟨rfl, rfl, rfl, rfl, trivial⟩, ⟨rfl, rfl, ?_, rfl, trivial⟩, trivial⟩
            simp only [has, hrd, Int.toNat_natCast, Nat.zero_add, getD_set_eq, List.length_set, hai, List.set_set, ← hx, e3, g1 x hxr, g2 x hxr, g3 x hxr]
    · have hlt' : i = 16 := by simp at hlt; omega
      subst hlt'
      conv => whnf
      subst hK
      conv => whnf
      obtain ⟨r, hr⟩ : ∃ r, r = a 16 := ⟨_, rfl⟩
      have hrl : r.length = 16 := by rw [hr]; exact hal
      have hrin : inR r 255 := by rw [hr]; exact ai 16
      have hrv : vb 256 r = R := by rw [hr]; exact aR
      rw [← hr]
      have hBin : inR B 255 := by rw [hB]; exact bl_in s
      obtain ⟨Hs, Hs0, HsS, Hsb, HsE⟩ : ∃ Hs : Nat → Int, Hs 0 = 0 ∧ (∀ t, Hs (t + 1) = (Hs t + vb 256 ((B.drop (16 * t)).take 16 ++ [1])) * R % pp) ∧ (∀ t, 0 ≤ Hs t ∧ Hs t < pp) ∧ T = digs (Hs ((s.size + 15) / 16) + vb 256 (key.drop 16)) 16 := ⟨hI R B, rfl, fun _ => rfl, hI_in R B, hTe⟩
      refine ⟨?_, { p : Nat × Nat // p.1 ≤ (s.size + 15) / 16 ∧ 18 ≤ p.2 ∧ p.2 ≤ 100 }, fun q => ⟨(.any :: .v (.one (.str s)) :: .v (.one (.ptr 0 0)) :: .any :: .v (.one (.ptr 1 0)) :: .v (.one (.sl 2 0 16 1)) :: .any :: .v (.one (.sl 3 0 q.1.2 1)) :: .v (.one (.int .i64 ((16 * q.1.1 : Nat) : Int))) :: .any :: .any :: .any :: .any :: .any :: .any :: .any :: .any :: .any :: .any :: .any :: .any :: .any :: .any :: .any :: .any :: .any :: .any :: .any :: .any :: .any :: .any :: .any :: .any :: .any :: .any :: .any :: .any :: .any :: .any :: .any :: .any :: .any :: .any :: .any :: .any :: .any :: .any :: .any :: .any :: .any :: .any :: .any :: .any :: .any :: .any :: .any :: .any :: .any :: .any :: .any :: .any :: .any :: .any :: .any :: .any :: .any :: .any :: .any :: .any :: .any :: .any :: .any :: .any :: .any :: .any :: .any :: .any :: .any :: .any :: .any :: .any :: .any :: .any :: .any :: .any :: .any :: .any :: .any :: .any :: .any :: .any :: .any :: .any :: .any :: .any :: .any :: .any :: .any :: .any :: .any :: .any :: .any :: .any :: .any :: .any :: .any :: .any :: .any :: .any :: .any :: .any :: .any :: .any :: .any :: .any :: .any :: .any :: .any :: .any :: .any :: .any :: .any :: .any :: .any :: .any :: .any :: .any :: .any :: .any :: .any :: .any :: .any :: .any :: .any :: .any :: .any :: .any :: .any :: .any :: .any :: .any :: .any :: .any :: .any :: .any :: .any :: .any :: .any :: .any :: .any :: .any :: .any :: .any :: .any :: .any :: .any :: .any :: .any :: []), [.own 0 [.ints .u8 key 32], .own 0 [.ints .u8 (List.replicate 16 0) 16], .own 1 [.ints .i64 r 16], .own 1 [.ints .i64 (digs (Hs q.1.1) q.1.2) q.1.2]]⟩, fun q => (s.size + 15) / 16 - q.1.1, ⟨(0, 18), by omega, by decide, by decide⟩, ?_, fun _ => rfl, ?_⟩
      · repeat' apply And.intro
        all_goals first
          | exact True.intro
          | (show (18 : Int) ≤ 9223372036854775807; decide)
          | (show ((8 : Nat) : Int) * 18 ≤ 281474976710656; decide)
          | decide +kernel
          | rfl
          | trace_state
      · refine ⟨[0, 1, 2, 3], [], rfl, ?_, ?_⟩
        ·
          repeat' apply And.intro
          all_goals first
            | exact True.intro
            | rfl
            | exact Nat.le_refl _
            | decide +kernel
            | trace_state
        · refine ⟨⟨rfl, rfl, rfl, rfl, trivial⟩, ⟨rfl, rfl, rfl, rfl, trivial⟩, ⟨rfl, rfl, rfl, rfl, trivial⟩, ⟨rfl, rfl, ?_, rfl, trivial⟩, trivial⟩
          show List.replicate 18 0 = digs (Hs 0) 18
          rw [Hs0]; decide +kernel
      rintro ⟨⟨t, M⟩, ht, hM1, hM2⟩
      dsimp only at ht hM1 hM2
      have hHs := HsS t
      obtain ⟨hH0, hH1⟩ := Hsb t
      obtain ⟨bs, hbs⟩ : ∃ bs, bs = (B.drop (16 * t)).take 16 := ⟨_, rfl⟩
      obtain ⟨n, hn⟩ : ∃ n, n = min 16 (s.size - 16 * t) := ⟨_, rfl⟩
      have hbn : bs.length = n := by rw [hbs, List.length_take, List.length_drop, hbl, hn]
      have hbin : inR bs 255 := by rw [hbs]; exact inR_take (inR_drop hBin _) _
      have hbat : ∀ i, i < n → B.getD (16 * t + i) 0 = bs.getD i 0 := fun i hi => by rw [hbs, List.getD_eq_getElem?_getD, List.getD_eq_getElem?_getD, List.getElem?_take, if_pos (by omega), List.getElem?_drop]
      rw [← hbs] at hHs
      show run tab env60 0 _ ⟨(.any :: .v (.one (.str s)) :: .v (.one (.ptr 0 0)) :: .any :: .v (.one (.ptr 1 0)) :: .v (.one (.sl 2 0 16 1)) :: .any :: .v (.one (.sl 3 0 M 1)) :: .v (.one (.int .i64 ((16 * t : Nat) : Int))) :: .any :: .any :: .any :: .any :: .any :: .any :: .any :: .any :: .any :: .any :: .any :: .any :: .any :: .any :: .any :: .any :: .any :: .any :: .any :: .any :: .any :: .any :: .any :: .any :: .any :: .any :: .any :: .any :: .any :: .any :: .any :: .any :: .any :: .any :: .any :: .any :: .any :: .any :: .any :: .any :: .any :: .any :: .any :: .any :: .any :: .any :: .any :: .any :: .any :: .any :: .any :: .any :: .any :: .any :: .any :: .any :: .any :: .any :: .any :: .any :: .any :: .any :: .any :: .any :: .any :: .any :: .any :: .any :: .any :: .any :: .any :: .any :: .any :: .any :: .any :: .any :: .any :: .any :: .any :: .any :: .any :: .any :: .any :: .any :: .any :: .any :: .any :: .any :: .any :: .any :: .any :: .any :: .any :: .any :: .any :: .any :: .any :: .any :: .any :: .any :: .any :: .any :: .any :: .any :: .any :: .any :: .any :: .any :: .any :: .any :: .any :: .any :: .any :: .any :: .any :: .any :: .any :: .any :: .any :: .any :: .any :: .any :: .any :: .any :: .any :: .any :: .any :: .any :: .any :: .any :: .any :: .any :: .any :: .any :: .any :: .any :: .any :: .any :: .any :: .any :: .any :: .any :: .any :: .any :: .any :: .any :: .any :: .any :: .any :: []), [.own 0 [.ints .u8 key 32], .own 0 [.ints .u8 (List.replicate 16 0) 16], .own 1 [.ints .i64 r 16], .own 1 [.ints .i64 (digs (Hs t) M) M]]⟩ _ _
      refine run_K (P := fun K => run tab env60 0 _ ⟨_, _⟩ True K) ?_
      intro K hK
      obtain ⟨H, hH⟩ : ∃ H, H = Hs t := ⟨_, rfl⟩
      rw [← hH] at hHs hH0 hH1 ⊢
      have hDl := digs_len H M
      have hDi := digs_in H M
      obtain ⟨D, hD⟩ : ∃ D, D = digs H M := ⟨_, rfl⟩
      rw [← hD] at hDl hDi ⊢
      conv => whnf
      refine ⟨trivial, fun hlt => ?_, fun hlt => ?_⟩
      · have hlt' : 16 * t < s.size := by simp at hlt; omega
        have e2 : idif .i64 (s.size : Int) ((16 * t : Nat) : Int) = ((s.size - 16 * t : Nat) : Int) := by rw [idif, i64_in] <;> omega
        have e3 : imin 16 ((s.size - 16 * t : Nat) : Int) = (n : Int) := by unfold imin; split <;> omega
        have hn0 : 0 < n ∧ n ≤ 16 ∧ 16 * t + n ≤ s.size := by omega
        obtain ⟨G, G0, Gs, Gl, Gi⟩ : ∃ G : Nat → List Int, G 0 = D ∧ (∀ i, G (i + 1) = (G i).set i ((G i).getD i 0 + bs.getD i 0)) ∧ (∀ i, (G i).length = M) ∧ (∀ i, inR (G i) 510 ∧ G i = ads D bs i) := ⟨ads D bs, rfl, fun _ => rfl, fun i => (ads_len _ _ i).trans hDl, fun i => ⟨ads_in hDi hbin i, rfl⟩⟩
        conv => whnf
        rw [e2, e3]
        refine ⟨?_, { i : Nat // i ≤ n }, fun i => ⟨(.any :: .v (.one (.str s)) :: .v (.one (.ptr 0 0)) :: .any :: .v (.one (.ptr 1 0)) :: .v (.one (.sl 2 0 16 1)) :: .any :: .v (.one (.sl 3 0 M 1)) :: .v (.one (.int .i64 ((16 * t : Nat) : Int))) :: .v (.one (.int .i64 n)) :: .v (.one (.int .i64 i.1)) :: .any :: .any :: .any :: .any :: .any :: .any :: .any :: .any :: .any :: .any :: .any :: .any :: .any :: .any :: .any :: .any :: .any :: .any :: .any :: .any :: .any :: .any :: .any :: .any :: .any :: .any :: .any :: .any :: .any :: .any :: .any :: .any :: .any :: .any :: .any :: .any :: .any :: .any :: .any :: .any :: .any :: .any :: .any :: .any :: .any :: .any :: .any :: .any :: .any :: .any :: .any :: .any :: .any :: .any :: .any :: .any :: .any :: .any :: .any :: .any :: .any :: .any :: .any :: .any :: .any :: .any :: .any :: .any :: .any :: .any :: .any :: .any :: .any :: .any :: .any :: .any :: .any :: .any :: .any :: .any :: .any :: .any :: .any :: .any :: .any :: .any :: .any :: .any :: .any :: .any :: .any :: .any :: .any :: .any :: .any :: .any :: .any :: .any :: .any :: .any :: .any :: .any :: .any :: .any :: .any :: .any :: .any :: .any :: .any :: .any :: .any :: .any :: .any :: .any :: .any :: .any :: .any :: .any :: .any :: .any :: .any :: .any :: .any :: .any :: .any :: .any :: .any :: .any :: .any :: .any :: .any :: .any :: .any :: .any :: .any :: .any :: .any :: .any :: .any :: .any :: .any :: .any :: .any :: .any :: .any :: .any :: .any :: []), [.own 0 [.ints .u8 key 32], .own 0 [.ints .u8 (List.replicate 16 0) 16], .own 1 [.ints .i64 r 16], .own 1 [.ints .i64 (G i.1) M]]⟩, fun i => n - i.1, ⟨0, by omega⟩, ?_, fun _ => rfl, ?_⟩
        · trivial
        · refine ⟨[0, 1, 2, 3], [], rfl, ?_, ?_⟩
          ·
            repeat' apply And.intro
            all_goals first
              | exact True.intro
              | rfl
              | exact Nat.le_refl _
              | decide +kernel
              | trace_state
          · exact ⟨⟨rfl, rfl, rfl, rfl, trivial⟩, ⟨rfl, rfl, rfl, rfl, trivial⟩, ⟨rfl, rfl, rfl, rfl, trivial⟩, ⟨rfl, rfl, G0.symm, rfl, trivial⟩, trivial⟩
        rintro ⟨i, hi⟩
        have hGs := Gs i
        have hGl := Gl i
        have hGi := (Gi i).1.h i
        have hbi := hbin.h i
        show run tab env60 0 _ ⟨(.any :: .v (.one (.str s)) :: .v (.one (.ptr 0 0)) :: .any :: .v (.one (.ptr 1 0)) :: .v (.one (.sl 2 0 16 1)) :: .any :: .v (.one (.sl 3 0 M 1)) :: .v (.one (.int .i64 ((16 * t : Nat) : Int))) :: .v (.one (.int .i64 n)) :: .v (.one (.int .i64 i)) :: .any :: .any :: .any :: .any :: .any :: .any :: .any :: .any :: .any :: .any :: .any :: .any :: .any :: .any :: .any :: .any :: .any :: .any :: .any :: .any :: .any :: .any :: .any :: .any :: .any :: .any :: .any :: .any :: .any :: .any :: .any :: .any :: .any :: .any :: .any :: .any :: .any :: .any :: .any :: .any :: .any :: .any :: .any :: .any :: .any :: .any :: .any :: .any :: .any :: .any :: .any :: .any :: .any :: .any :: .any :: .any :: .any :: .any :: .any :: .any :: .any :: .any :: .any :: .any :: .any :: .any :: .any :: .any :: .any :: .any :: .any :: .any :: .any :: .any :: .any :: .any :: .any :: .any :: .any :: .any :: .any :: .any :: .any :: .any :: .any :: .any :: .any :: .any :: .any :: .any :: .any :: .any :: .any :: .any :: .any :: .any :: .any :: .any :: .any :: .any :: .any :: .any :: .any :: .any :: .any :: .any :: .any :: .any :: .any :: .any :: .any :: .any :: .any :: .any :: .any :: .any :: .any :: .any :: .any :: .any :: .any :: .any :: .any :: .any :: .any :: .any :: .any :: .any :: .any :: .any :: .any :: .any :: .any :: .any :: .any :: .any :: .any :: .any :: .any :: .any :: .any :: .any :: .any :: .any :: .any :: .any :: .any :: []), [.own 0 [.ints .u8 key 32], .own 0 [.ints .u8 (List.replicate 16 0) 16], .own 1 [.ints .i64 r 16], .own 1 [.ints .i64 (G i) M]]⟩ _ _
        refine run_K (P := fun K => run tab env60 0 _ ⟨_, _⟩ True K) ?_
        intro K hK
        obtain ⟨g, hg⟩ : ∃ g, g = G i := ⟨_, rfl⟩
        rw [← hg] at hGs hGl hGi ⊢
        have e4 : isum .i64 (i : Int) 1 = ((i + 1 : Nat) : Int) := by rw [isum, i64_in] <;> omega
        have e5 : isum .i64 ((16 * t : Nat) : Int) (i : Int) = ((16 * t + i : Nat) : Int) := by rw [isum, i64_in] <;> omega
        conv => whnf
        refine ⟨trivial, fun hl => ?_, fun hl => ?_⟩
        · have hl' : i < n := by simp at hl; omega
          have e6 : (bl s).getD (((16 * t + i : Nat) : Int)).toNat 0 = bs.getD i 0 := by rw [Int.toNat_natCast, ← hB, hbat i hl']
          have e7 : conv .i64 (bs.getD i 0) = bs.getD i 0 := by rw [conv, i64_in]; omega
          have e8 : isum .i64 (g.getD i 0) (bs.getD i 0) = g.getD i 0 + bs.getD i 0 := by rw [isum, i64_in]; omega
          have hcv : g.set (0 + (i : Int).toNat) (isum .i64 (g.getD (0 + (i : Int).toNat) 0) (conv .i64 ((bl s).getD (((16 * t + i : Nat) : Int)).toNat 0))) = G (i + 1) := by rw [e6, e7, Int.toNat_natCast, Nat.zero_add, e8, hGs]
          conv => whnf
          rw [e4, e5]
          subst hK
          change _ ∧ _
          refine ⟨?_, ⟨i + 1, by omega⟩, by show n - (i + 1) < n - i; omega, [0, 1, 2, 3], [], rfl, ?_, ?_⟩
          · repeat' apply And.intro
            all_goals first
              | exact True.intro
              | (rw [Int.toNat_natCast]; omega)
              | omega
              | decide +kernel
              | rfl
              | exact Nat.le_of_ble_eq_true rfl
              | (dsimp only; omega)
              | trace_state
          ·
            repeat' apply And.intro
            all_goals first
              | exact True.intro
              | rfl
              | exact Nat.le_refl _
              | decide +kernel
              | trace_state
          · exact ⟨⟨rfl, rfl, rfl, rfl, trivial⟩, ⟨rfl, rfl, rfl, rfl, trivial⟩, ⟨rfl, rfl, rfl, rfl, trivial⟩, ⟨rfl, rfl, hcv, rfl, trivial⟩, trivial⟩
        · have hl' : i = n := by simp at hl; omega
          subst hl'
          obtain ⟨h, hh⟩ : ∃ h, h = g.set i (g.getD i 0 + 1) := ⟨_, rfl⟩
          have hhe : h = (ads D bs bs.length).set bs.length ((ads D bs bs.length).getD bs.length 0 + 1) := by rw [hh, hbn, hg, (Gi i).2]
          rw [hD] at hhe
          have hhl : h.length = M := by rw [hh, List.length_set, hGl]
          have hhi := step_in hbin hhe
          have hzv := step_val hH0 hH1 hM1 (by omega) hhe hrl
          rw [hrv] at hzv
          have hcv : g.set (0 + (i : Int).toNat) (isum .i64 (g.getD (0 + (i : Int).toNat) 0) 1) = h := by
            have e8 : isum .i64 (g.getD i 0) 1 = g.getD i 0 + 1 := by rw [isum, i64_in]; omega
            rw [Int.toNat_natCast, Nat.zero_add, e8, hh]
          obtain ⟨Z, Z0, ZS, ZE, Zi⟩ : ∃ Z : Nat → List Int, Z 0 = List.replicate 40 0 ∧ (∀ i, ∃ y : Nat → List Int, y 0 = Z i ∧ (∀ k, y (k + 1) = (y k).set (i + k) ((y k).getD (i + k) 0 + h.getD i 0 * r.getD k 0)) ∧ (∀ k, (y k).length = 40) ∧ (i ≤ 18 → ∀ k, k ≤ 16 → inR (y k) 99999999) ∧ y 16 = Z (i + 1)) ∧ (∀ i, (Z i).length = 40) ∧ (vb 256 (Z 18) = (H + vb 256 (bs ++ [1])) * R ∧ inR (Z 18) 1099511627776) := by
            refine ⟨mzN h r, rfl, fun i => ⟨mz h r (mzN h r i) i, rfl, fun _ => rfl, fun k => (mz_len _ _ _ _ _).trans (mzN_len _ _ _), fun hi k hk => ?_, rfl⟩, fun i => mzN_len _ _ i, hzv, inR_mono (mzN_in hhi hrin 18) (by decide)⟩
            have := mz_in (b := 0) hhi hrin (mzN_in hhi hrin i) i k
            exact inR_mono this (by omega)
          conv => whnf
          subst hK
          conv => whnf
          rw [hcv]
          obtain ⟨ZE, hZi⟩ : (∀ i, (Z i).length = 40) ∧ _ := ⟨ZE, Zi⟩
          refine ⟨?_, { j : Nat // j ≤ 18 }, fun j => ⟨(.any :: .v (.one (.str s)) :: .v (.one (.ptr 0 0)) :: .any :: .v (.one (.ptr 1 0)) :: .v (.one (.sl 2 0 16 1)) :: .any :: .v (.one (.sl 3 0 M 1)) :: .v (.one (.int .i64 ((16 * t : Nat) : Int))) :: .any :: .any :: .v (.one (.sl 4 0 40 1)) :: .v (.one (.int .i64 j.1)) :: .any :: .any :: .any :: .any :: .any :: .any :: .any :: .any :: .any :: .any :: .any :: .any :: .any :: .any :: .any :: .any :: .any :: .any :: .any :: .any :: .any :: .any :: .any :: .any :: .any :: .any :: .any :: .any :: .any :: .any :: .any :: .any :: .any :: .any :: .any :: .any :: .any :: .any :: .any :: .any :: .any :: .any :: .any :: .any :: .any :: .any :: .any :: .any :: .any :: .any :: .any :: .any :: .any :: .any :: .any :: .any :: .any :: .any :: .any :: .any :: .any :: .any :: .any :: .any :: .any :: .any :: .any :: .any :: .any :: .any :: .any :: .any :: .any :: .any :: .any :: .any :: .any :: .any :: .any :: .any :: .any :: .any :: .any :: .any :: .any :: .any :: .any :: .any :: .any :: .any :: .any :: .any :: .any :: .any :: .any :: .any :: .any :: .any :: .any :: .any :: .any :: .any :: .any :: .any :: .any :: .any :: .any :: .any :: .any :: .any :: .any :: .any :: .any :: .any :: .any :: .any :: .any :: .any :: .any :: .any :: .any :: .any :: .any :: .any :: .any :: .any :: .any :: .any :: .any :: .any :: .any :: .any :: .any :: .any :: .any :: .any :: .any :: .any :: .any :: .any :: .any :: .any :: .any :: .any :: .any :: []), [.own 0 [.ints .u8 key 32], .own 0 [.ints .u8 (List.replicate 16 0) 16], .own 1 [.ints .i64 r 16], .own 1 [.ints .i64 h M], .own 1 [.ints .i64 (Z j.1) 40]]⟩, fun j => 18 - j.1, ⟨0, by omega⟩, ?_, fun _ => rfl, ?_⟩
          · repeat' apply And.intro
            all_goals first
              | exact True.intro
              | (rw [Int.toNat_natCast]; omega)
              | omega
              | (show (40 : Int) ≤ 9223372036854775807; decide)
              | (show ((8 : Nat) : Int) * 40 ≤ 281474976710656; decide)
              | decide +kernel
              | trace_state
          · refine ⟨[0, 1, 2, 3, 4], [], rfl, ?_, ?_⟩
            ·
              repeat' apply And.intro
              all_goals first
                | exact True.intro
                | rfl
                | exact Nat.le_refl _
                | decide +kernel
                | trace_state
            · exact ⟨⟨rfl, rfl, rfl, rfl, trivial⟩, ⟨rfl, rfl, rfl, rfl, trivial⟩, ⟨rfl, rfl, rfl, rfl, trivial⟩, ⟨rfl, rfl, rfl, rfl, trivial⟩, ⟨rfl, rfl, Z0.symm, rfl, trivial⟩, trivial⟩
          rintro ⟨j, hj⟩
          obtain ⟨y, y0, ys, yl, yi, yE⟩ := ZS j
          have hhj := hhi.h j
          show run tab env60 0 _ ⟨(.any :: .v (.one (.str s)) :: .v (.one (.ptr 0 0)) :: .any :: .v (.one (.ptr 1 0)) :: .v (.one (.sl 2 0 16 1)) :: .any :: .v (.one (.sl 3 0 M 1)) :: .v (.one (.int .i64 ((16 * t : Nat) : Int))) :: .any :: .any :: .v (.one (.sl 4 0 40 1)) :: .v (.one (.int .i64 j)) :: .any :: .any :: .any :: .any :: .any :: .any :: .any :: .any :: .any :: .any :: .any :: .any :: .any :: .any :: .any :: .any :: .any :: .any :: .any :: .any :: .any :: .any :: .any :: .any :: .any :: .any :: .any :: .any :: .any :: .any :: .any :: .any :: .any :: .any :: .any :: .any :: .any :: .any :: .any :: .any :: .any :: .any :: .any :: .any :: .any :: .any :: .any :: .any :: .any :: .any :: .any :: .any :: .any :: .any :: .any :: .any :: .any :: .any :: .any :: .any :: .any :: .any :: .any :: .any :: .any :: .any :: .any :: .any :: .any :: .any :: .any :: .any :: .any :: .any :: .any :: .any :: .any :: .any :: .any :: .any :: .any :: .any :: .any :: .any :: .any :: .any :: .any :: .any :: .any :: .any :: .any :: .any :: .any :: .any :: .any :: .any :: .any :: .any :: .any :: .any :: .any :: .any :: .any :: .any :: .any :: .any :: .any :: .any :: .any :: .any :: .any :: .any :: .any :: .any :: .any :: .any :: .any :: .any :: .any :: .any :: .any :: .any :: .any :: .any :: .any :: .any :: .any :: .any :: .any :: .any :: .any :: .any :: .any :: .any :: .any :: .any :: .any :: .any :: .any :: .any :: .any :: .any :: .any :: .any :: .any :: []), [.own 0 [.ints .u8 key 32], .own 0 [.ints .u8 (List.replicate 16 0) 16], .own 1 [.ints .i64 r 16], .own 1 [.ints .i64 h M], .own 1 [.ints .i64 (Z j) 40]]⟩ _ _
          refine run_K (P := fun K => run tab env60 0 _ ⟨_, _⟩ True K) ?_
          intro K hK
          have e9 : isum .i64 (j : Int) 1 = ((j + 1 : Nat) : Int) := by rw [isum, i64_in] <;> omega
          conv => whnf
          refine ⟨trivial, fun hl => ?_, fun hl => ?_⟩
          · have hl' : j < 18 := by simp at hl; omega
            conv => whnf
            refine ⟨?_, { k : Nat // k ≤ 16 }, fun k => ⟨(.any :: .v (.one (.str s)) :: .v (.one (.ptr 0 0)) :: .any :: .v (.one (.ptr 1 0)) :: .v (.one (.sl 2 0 16 1)) :: .any :: .v (.one (.sl 3 0 M 1)) :: .v (.one (.int .i64 ((16 * t : Nat) : Int))) :: .any :: .any :: .v (.one (.sl 4 0 40 1)) :: .v (.one (.int .i64 j)) :: .v (.one (.int .i64 k.1)) :: .any :: .any :: .any :: .any :: .any :: .any :: .any :: .any :: .any :: .any :: .any :: .any :: .any :: .any :: .any :: .any :: .any :: .any :: .any :: .any :: .any :: .any :: .any :: .any :: .any :: .any :: .any :: .any :: .any :: .any :: .any :: .any :: .any :: .any :: .any :: .any :: .any :: .any :: .any :: .any :: .any :: .any :: .any :: .any :: .any :: .any :: .any :: .any :: .any :: .any :: .any :: .any :: .any :: .any :: .any :: .any :: .any :: .any :: .any :: .any :: .any :: .any :: .any :: .any :: .any :: .any :: .any :: .any :: .any :: .any :: .any :: .any :: .any :: .any :: .any :: .any :: .any :: .any :: .any :: .any :: .any :: .any :: .any :: .any :: .any :: .any :: .any :: .any :: .any :: .any :: .any :: .any :: .any :: .any :: .any :: .any :: .any :: .any :: .any :: .any :: .any :: .any :: .any :: .any :: .any :: .any :: .any :: .any :: .any :: .any :: .any :: .any :: .any :: .any :: .any :: .any :: .any :: .any :: .any :: .any :: .any :: .any :: .any :: .any :: .any :: .any :: .any :: .any :: .any :: .any :: .any :: .any :: .any :: .any :: .any :: .any :: .any :: .any :: .any :: .any :: .any :: .any :: .any :: .any :: []), [.own 0 [.ints .u8 key 32], .own 0 [.ints .u8 (List.replicate 16 0) 16], .own 1 [.ints .i64 r 16], .own 1 [.ints .i64 h M], .own 1 [.ints .i64 (y k.1) 40]]⟩, fun k => 16 - k.1, ⟨0, by omega⟩, ?_, fun _ => rfl, ?_⟩
            · trivial
            · refine ⟨[0, 1, 2, 3, 4], [], rfl, ?_, ?_⟩
              ·
                repeat' apply And.intro
                all_goals first
                  | exact True.intro
                  | rfl
                  | exact Nat.le_refl _
                  | decide +kernel
                  | trace_state
              · exact ⟨⟨rfl, rfl, rfl, rfl, trivial⟩, ⟨rfl, rfl, rfl, rfl, trivial⟩, ⟨rfl, rfl, rfl, rfl, trivial⟩, ⟨rfl, rfl, rfl, rfl, trivial⟩, ⟨rfl, rfl, y0.symm, rfl, trivial⟩, trivial⟩
            rintro ⟨k, hk⟩
            have hyk := ys k
            have hyl := yl k
            have hyi := (yi (by omega) k hk).h (j + k)
            have hrk := hrin.h k
            show run tab env60 0 _ ⟨(.any :: .v (.one (.str s)) :: .v (.one (.ptr 0 0)) :: .any :: .v (.one (.ptr 1 0)) :: .v (.one (.sl 2 0 16 1)) :: .any :: .v (.one (.sl 3 0 M 1)) :: .v (.one (.int .i64 ((16 * t : Nat) : Int))) :: .any :: .any :: .v (.one (.sl 4 0 40 1)) :: .v (.one (.int .i64 j)) :: .v (.one (.int .i64 k)) :: .any :: .any :: .any :: .any :: .any :: .any :: .any :: .any :: .any :: .any :: .any :: .any :: .any :: .any :: .any :: .any :: .any :: .any :: .any :: .any :: .any :: .any :: .any :: .any :: .any :: .any :: .any :: .any :: .any :: .any :: .any :: .any :: .any :: .any :: .any :: .any :: .any :: .any :: .any :: .any :: .any :: .any :: .any :: .any :: .any :: .any :: .any :: .any :: .any :: .any :: .any :: .any :: .any :: .any :: .any :: .any :: .any :: .any :: .any :: .any :: .any :: .any :: .any :: .any :: .any :: .any :: .any :: .any :: .any :: .any :: .any :: .any :: .any :: .any :: .any :: .any :: .any :: .any :: .any :: .any :: .any :: .any :: .any :: .any :: .any :: .any :: .any :: .any :: .any :: .any :: .any :: .any :: .any :: .any :: .any :: .any :: .any :: .any :: .any :: .any :: .any :: .any :: .any :: .any :: .any :: .any :: .any :: .any :: .any :: .any :: .any :: .any :: .any :: .any :: .any :: .any :: .any :: .any :: .any :: .any :: .any :: .any :: .any :: .any :: .any :: .any :: .any :: .any :: .any :: .any :: .any :: .any :: .any :: .any :: .any :: .any :: .any :: .any :: .any :: .any :: .any :: .any :: .any :: .any :: []), [.own 0 [.ints .u8 key 32], .own 0 [.ints .u8 (List.replicate 16 0) 16], .own 1 [.ints .i64 r 16], .own 1 [.ints .i64 h M], .own 1 [.ints .i64 (y k) 40]]⟩ _ _
            refine run_K (P := fun K => run tab env60 0 _ ⟨_, _⟩ True K) ?_
            intro K hK
            obtain ⟨w, hw⟩ : ∃ w, w = y k := ⟨_, rfl⟩
            rw [← hw] at hyk hyl hyi ⊢
            have f1 : isum .i64 (k : Int) 1 = ((k + 1 : Nat) : Int) := by rw [isum, i64_in] <;> omega
            have f2 : isum .i64 (j : Int) (k : Int) = ((j + k : Nat) : Int) := by rw [isum, i64_in] <;> omega
            conv => whnf
            refine ⟨trivial, fun hlk => ?_, fun hlk => ?_⟩
            · have hlk' : k < 16 := by simp at hlk; omega
              have hm1 : 0 ≤ h.getD j 0 * r.getD k 0 := Int.mul_nonneg hhj.1 hrk.1
              have hm2 : h.getD j 0 * r.getD k 0 ≤ 511 * 255 := Int.mul_le_mul hhj.2 hrk.2 hrk.1 (by decide)
              have f3 : imul .i64 (h.getD j 0) (r.getD k 0) = h.getD j 0 * r.getD k 0 := by rw [imul, i64_in]; omega
              have f4 : isum .i64 (w.getD (j + k) 0) (h.getD j 0 * r.getD k 0) = w.getD (j + k) 0 + h.getD j 0 * r.getD k 0 := by rw [isum, i64_in]; omega
              have hcw : w.set (0 + ((j + k : Nat) : Int).toNat) (isum .i64 (w.getD (0 + ((j + k : Nat) : Int).toNat) 0) (imul .i64 (h.getD (0 + (j : Int).toNat) 0) (r.getD (0 + (k : Int).toNat) 0))) = y (k + 1) := by
                simp only [Int.toNat_natCast, Nat.zero_add]
                rw [f3, f4, hyk]
              conv => whnf
              rw [f1, f2]
              subst hK
              change _ ∧ _
              refine ⟨?_, ⟨k + 1, by omega⟩, by show 16 - (k + 1) < 16 - k; omega, [0, 1, 2, 3, 4], [], rfl, ?_, ?_⟩
              · repeat' apply And.intro
                all_goals first
                  | exact True.intro
                  | (rw [Int.toNat_natCast]; omega)
                  | omega
                  | decide +kernel
                  | rfl
                  | exact Nat.le_of_ble_eq_true rfl
                  | (dsimp only; omega)
                  | trace_state
              ·
                repeat' apply And.intro
                all_goals first
                  | exact True.intro
                  | rfl
                  | exact Nat.le_refl _
                  | decide +kernel
                  | trace_state
              · exact ⟨⟨rfl, rfl, rfl, rfl, trivial⟩, ⟨rfl, rfl, rfl, rfl, trivial⟩, ⟨rfl, rfl, rfl, rfl, trivial⟩, ⟨rfl, rfl, rfl, rfl, trivial⟩, ⟨rfl, rfl, hcw, rfl, trivial⟩, trivial⟩
            · have hlk' : k = 16 := by simp at hlk; omega
              subst hlk'
              conv => whnf
              subst hK
              conv => whnf
              rw [e9]
              subst hK
              change _ ∧ _
              refine ⟨trivial, ⟨j + 1, by omega⟩, by show 18 - (j + 1) < 18 - j; omega, [0, 1, 2, 3, 4], [], rfl, ?_, ?_⟩
              ·
                repeat' apply And.intro
                all_goals first
                  | exact True.intro
                  | rfl
                  | exact Nat.le_refl _
                  | decide +kernel
                  | trace_state
              · exact ⟨⟨rfl, rfl, rfl, rfl, trivial⟩, ⟨rfl, rfl, rfl, rfl, trivial⟩, ⟨rfl, rfl, rfl, rfl, trivial⟩, ⟨rfl, rfl, rfl, rfl, trivial⟩, ⟨rfl, rfl, hw.trans yE, rfl, trivial⟩, trivial⟩
          · have hl' : j = 18 := by simp at hl; omega
            subst hl'
            obtain ⟨hzv, hzi⟩ := hZi
            obtain ⟨z, hz⟩ : ∃ z, z = Z 18 := ⟨_, rfl⟩
            have hzl := ZE 18
            rw [← hz] at hzv hzi hzl ⊢
            have hz0 := vb_nonneg (B := 256) (by decide) hzi
            have hcl := clen_le (k := 18) hzl hzi
            have hcg := le_clen (vb 256 z) 40 18
            have hlt3 := lt_clen hz0 40 18
            obtain ⟨r1, r2, r3⟩ := restR_spec _ _ hz0 hcg hlt3
            have r4 := restR_le _ _ hz0 hcg hlt3
            have hH2 : (restR (vb 256 z) (clen (vb 256 z) 40 18)).1 = Hs (t + 1) := by rw [r1, hzv, hHs]
            obtain ⟨M', hM'⟩ : ∃ M', M' = (restR (vb 256 z) (clen (vb 256 z) 40 18)).2 := ⟨_, rfl⟩
            rw [← hM'] at r2 r4
            have f5 : isum .i64 ((16 * t : Nat) : Int) 16 = ((16 * (t + 1) : Nat) : Int) := by rw [isum, i64_in] <;> omega
            conv => whnf
            subst hK
            conv => whnf
            rw [f5, hH2, ← hM']
            subst hK
            change _ ∧ _
            refine ⟨?_, ⟨(t + 1, M'), by omega, r2, by omega⟩, by show (s.size + 15) / 16 - (t + 1) < (s.size + 15) / 16 - t; omega, [0, 1, 2, 5], [], rfl, ?_, ?_⟩
            · repeat' apply And.intro
              all_goals first
                | exact True.intro
                | exact hzi
                | exact hzl
                | omega
                | decide +kernel
                | rfl
                | exact Nat.le_of_ble_eq_true rfl
                | (dsimp only; omega)
                | trace_state
            ·
              repeat' apply And.intro
              all_goals first
                | exact True.intro
                | rfl
                | exact Nat.le_refl _
                | decide +kernel
                | trace_state
            · exact ⟨⟨rfl, rfl, rfl, rfl, trivial⟩, ⟨rfl, rfl, rfl, rfl, trivial⟩, ⟨rfl, rfl, rfl, rfl, trivial⟩, ⟨rfl, rfl, rfl, rfl, trivial⟩, trivial⟩
      · have hlt' : ¬ 16 * t < s.size := by simp at hlt; omega
        conv => whnf
        subst hK
        conv => whnf
        obtain rfl : t = (s.size + 15) / 16 := by omega
        rw [← hH] at HsE
        obtain ⟨s2, hs2⟩ : ∃ s2, s2 = key.drop 16 := ⟨_, rfl⟩
        have hs2l : s2.length = 16 := by rw [hs2, List.length_drop]; omega
        have hs2i : inR s2 255 := by rw [hs2]; exact inR_drop h2 16
        have hs2a : ∀ i, key.getD (16 + i) 0 = s2.getD i 0 := fun i => by rw [hs2, List.getD_eq_getElem?_getD, List.getD_eq_getElem?_getD, List.getElem?_drop]
        rw [← hs2] at HsE
        obtain ⟨G, G0, Gs, Gl, Gi, GE⟩ : ∃ G : Nat → List Int, G 0 = D ∧ (∀ i, G (i + 1) = (G i).set i ((G i).getD i 0 + s2.getD i 0)) ∧ (∀ i, (G i).length = M) ∧ (∀ i, inR (G i) 510) ∧ vb 256 (G 16) = H + vb 256 s2 := ⟨ads D s2, rfl, fun _ => rfl, fun i => (ads_len _ _ i).trans hDl, fun i => ads_in hDi hs2i i, by rw [ads_val _ _ _ (by omega), hD, digs_val, pp_small hH0 hH1 M (by omega), List.take_of_length_le (by omega)]⟩
        refine ⟨?_, { i : Nat // i ≤ 16 }, fun i => ⟨(.any :: .any :: .v (.one (.ptr 0 0)) :: .any :: .v (.one (.ptr 1 0)) :: .any :: .any :: .v (.one (.sl 2 0 M 1)) :: .any :: .any :: .any :: .any :: .any :: .any :: .v (.one (.int .i64 i.1)) :: .any :: .any :: .any :: .any :: .any :: .any :: .any :: .any :: .any :: .any :: .any :: .any :: .any :: .any :: .any :: .any :: .any :: .any :: .any :: .any :: .any :: .any :: .any :: .any :: .any :: .any :: .any :: .any :: .any :: .any :: .any :: .any :: .any :: .any :: .any :: .any :: .any :: .any :: .any :: .any :: .any :: .any :: .any :: .any :: .any :: .any :: .any :: .any :: .any :: .any :: .any :: .any :: .any :: .any :: .any :: .any :: .any :: .any :: .any :: .any :: .any :: .any :: .any :: .any :: .any :: .any :: .any :: .any :: .any :: .any :: .any :: .any :: .any :: .any :: .any :: .any :: .any :: .any :: .any :: .any :: .any :: .any :: .any :: .any :: .any :: .any :: .any :: .any :: .any :: .any :: .any :: .any :: .any :: .any :: .any :: .any :: .any :: .any :: .any :: .any :: .any :: .any :: .any :: .any :: .any :: .any :: .any :: .any :: .any :: .any :: .any :: .any :: .any :: .any :: .any :: .any :: .any :: .any :: .any :: .any :: .any :: .any :: .any :: .any :: .any :: .any :: .any :: .any :: .any :: .any :: .any :: .any :: .any :: .any :: .any :: .any :: .any :: .any :: .any :: .any :: .any :: .any :: .any :: []), [.own 0 [.ints .u8 key 32], .own 0 [.ints .u8 (List.replicate 16 0) 16], .own 1 [.ints .i64 (G i.1) M]]⟩, fun i => 16 - i.1, ⟨0, by omega⟩, ?_, fun _ => rfl, ?_⟩
        · trivial
        · refine ⟨[0, 1, 3], [], rfl, ?_, ?_⟩
          ·
            repeat' apply And.intro
            all_goals first
              | exact True.intro
              | rfl
              | exact Nat.le_refl _
              | decide +kernel
              | trace_state
          · exact ⟨⟨rfl, rfl, rfl, rfl, trivial⟩, ⟨rfl, rfl, rfl, rfl, trivial⟩, ⟨rfl, rfl, G0.symm, rfl, trivial⟩, trivial⟩
        rintro ⟨i, hi⟩
        have hGs := Gs i
        have hGl := Gl i
        have hGi := Gi i
        have hGii := hGi.h i
        have hbi := hs2i.h i
        show run tab env60 0 _ ⟨(.any :: .any :: .v (.one (.ptr 0 0)) :: .any :: .v (.one (.ptr 1 0)) :: .any :: .any :: .v (.one (.sl 2 0 M 1)) :: .any :: .any :: .any :: .any :: .any :: .any :: .v (.one (.int .i64 i)) :: .any :: .any :: .any :: .any :: .any :: .any :: .any :: .any :: .any :: .any :: .any :: .any :: .any :: .any :: .any :: .any :: .any :: .any :: .any :: .any :: .any :: .any :: .any :: .any :: .any :: .any :: .any :: .any :: .any :: .any :: .any :: .any :: .any :: .any :: .any :: .any :: .any :: .any :: .any :: .any :: .any :: .any :: .any :: .any :: .any :: .any :: .any :: .any :: .any :: .any :: .any :: .any :: .any :: .any :: .any :: .any :: .any :: .any :: .any :: .any :: .any :: .any :: .any :: .any :: .any :: .any :: .any :: .any :: .any :: .any :: .any :: .any :: .any :: .any :: .any :: .any :: .any :: .any :: .any :: .any :: .any :: .any :: .any :: .any :: .any :: .any :: .any :: .any :: .any :: .any :: .any :: .any :: .any :: .any :: .any :: .any :: .any :: .any :: .any :: .any :: .any :: .any :: .any :: .any :: .any :: .any :: .any :: .any :: .any :: .any :: .any :: .any :: .any :: .any :: .any :: .any :: .any :: .any :: .any :: .any :: .any :: .any :: .any :: .any :: .any :: .any :: .any :: .any :: .any :: .any :: .any :: .any :: .any :: .any :: .any :: .any :: .any :: .any :: .any :: .any :: .any :: .any :: .any :: []), [.own 0 [.ints .u8 key 32], .own 0 [.ints .u8 (List.replicate 16 0) 16], .own 1 [.ints .i64 (G i) M]]⟩ _ _
        refine run_K (P := fun K => run tab env60 0 _ ⟨_, _⟩ True K) ?_
        intro K hK
        obtain ⟨g, hg⟩ : ∃ g, g = G i := ⟨_, rfl⟩
        rw [← hg] at hGs hGl hGi hGii ⊢
        have e4 : isum .i64 (i : Int) 1 = ((i + 1 : Nat) : Int) := by rw [isum, i64_in] <;> omega
        have e5 : isum .i64 16 (i : Int) = ((16 + i : Nat) : Int) := by rw [isum, i64_in] <;> omega
        conv => whnf
        refine ⟨trivial, fun hl => ?_, fun hl => ?_⟩
        · have hl' : i < 16 := by simp at hl; omega
          have e7 : conv .i64 (s2.getD i 0) = s2.getD i 0 := by rw [conv, i64_in]; omega
          have e8 : isum .i64 (g.getD i 0) (s2.getD i 0) = g.getD i 0 + s2.getD i 0 := by rw [isum, i64_in]; omega
          have hcv : g.set (0 + (i : Int).toNat) (isum .i64 (g.getD (0 + (i : Int).toNat) 0) (conv .i64 (key.getD (((16 + i : Nat) : Int)).toNat 0))) = G (i + 1) := by
            simp only [Int.toNat_natCast, Nat.zero_add]
            rw [hs2a, e7, e8, hGs]
          have hcv2 : g.set (0 + (i : Int).toNat) (isum .i64 (g.getD (0 + (i : Int).toNat) 0) (conv .i64 (key.getD (0 + ((16 + i : Nat) : Int).toNat) 0))) = G (i + 1) := by
            rw [Nat.zero_add (((16 + i : Nat) : Int)).toNat]; exact hcv
          conv => whnf
          rw [e4, e5]
          subst hK
          change _ ∧ _
          refine ⟨?_, ⟨i + 1, by omega⟩, by show 16 - (i + 1) < 16 - i; omega, [0, 1, 2], [], rfl, ?_, ?_⟩
          · repeat' apply And.intro
            all_goals first
              | exact True.intro
              | (rw [Int.toNat_natCast]; omega)
              | omega
              | decide +kernel
              | rfl
              | exact Nat.le_of_ble_eq_true rfl
              | (dsimp only; omega)
              | trace_state
          ·
            repeat' apply And.intro
            all_goals first
              | exact True.intro
              | rfl
              | exact Nat.le_refl _
              | decide +kernel
              | trace_state
          · refine ⟨⟨rfl, rfl, rfl, rfl, trivial⟩, ⟨rfl, rfl, rfl, rfl, trivial⟩, ⟨rfl, rfl, ?_, rfl, trivial⟩, trivial⟩
            first
              | exact hcv
              | exact hcv2
        · have hl' : i = 16 := by simp at hl; omega
          subst hl'
          have hGE : vb 256 g = H + vb 256 s2 := by rw [hg]; exact GE
          have hcg := le_clen (vb 256 g) M 18
          obtain ⟨N, hN⟩ : ∃ N, N = clen (vb 256 g) M 18 := ⟨_, rfl⟩
          obtain ⟨W, hW⟩ : ∃ W, W = vb 256 g := ⟨_, rfl⟩
          rw [← hN] at hcg
          have hTW : T = digs W 16 := by rw [HsE, hW, hGE]
          have hEl := digs_len W N
          have hEa : ∀ i, i < 16 → (digs W N).getD i 0 = W / 256 ^ i % 256 := fun i hi => digs_at W N i (by omega)
          obtain ⟨o, o0, osn, ol, oE⟩ : ∃ o : Nat → List Int, o 0 = List.replicate 16 0 ∧ (∀ i, i < 16 → o (i + 1) = (o i).set i (W / 256 ^ i % 256)) ∧ (∀ i, i ≤ 16 → (o i).length = 16) ∧ o 16 = T := ⟨fun i => digs W i ++ List.replicate (16 - i) 0, rfl, fun i hi => (outs_set W i hi).symm, fun i hi => by rw [List.length_append, digs_len, List.length_replicate]; omega, by rw [hTW]; simp⟩
          conv => whnf
          subst hK
          conv => whnf
          simp only [show Int.toNat 18 = 18 from rfl]
          rw [← hN, ← hW]
          obtain ⟨E, hE⟩ : ∃ E, E = digs W N := ⟨_, rfl⟩
          rw [← hE] at hEl hEa ⊢
          refine ⟨?_, { j : Nat // j ≤ 16 }, fun j => ⟨(.any :: .any :: .any :: .any :: .v (.one (.ptr 0 0)) :: .any :: .any :: .v (.one (.sl 1 0 N 1)) :: .any :: .any :: .any :: .any :: .any :: .any :: .any :: .v (.one (.ptr 2 0)) :: .v (.one (.int .i64 j.1)) :: .any :: .any :: .any :: .any :: .any :: .any :: .any :: .any :: .any :: .any :: .any :: .any :: .any :: .any :: .any :: .any :: .any :: .any :: .any :: .any :: .any :: .any :: .any :: .any :: .any :: .any :: .any :: .any :: .any :: .any :: .any :: .any :: .any :: .any :: .any :: .any :: .any :: .any :: .any :: .any :: .any :: .any :: .any :: .any :: .any :: .any :: .any :: .any :: .any :: .any :: .any :: .any :: .any :: .any :: .any :: .any :: .any :: .any :: .any :: .any :: .any :: .any :: .any :: .any :: .any :: .any :: .any :: .any :: .any :: .any :: .any :: .any :: .any :: .any :: .any :: .any :: .any :: .any :: .any :: .any :: .any :: .any :: .any :: .any :: .any :: .any :: .any :: .any :: .any :: .any :: .any :: .any :: .any :: .any :: .any :: .any :: .any :: .any :: .any :: .any :: .any :: .any :: .any :: .any :: .any :: .any :: .any :: .any :: .any :: .any :: .any :: .any :: .any :: .any :: .any :: .any :: .any :: .any :: .any :: .any :: .any :: .any :: .any :: .any :: .any :: .any :: .any :: .any :: .any :: .any :: .any :: .any :: .any :: .any :: .any :: .any :: .any :: .any :: .any :: .any :: .any :: []), [.own 0 [.ints .u8 (List.replicate 16 0) 16], .own 1 [.ints .i64 E N], .own 0 [.ints .u8 (o j.1) 16]]⟩, fun j => 16 - j.1, ⟨0, by omega⟩, ?_, fun _ => rfl, ?_⟩
          · repeat' apply And.intro
            all_goals first
              | exact True.intro
              | exact hGl
              | exact inR_mono hGi (by decide)
              | omega
              | decide +kernel
              | rfl
              | exact Nat.le_of_ble_eq_true rfl
              | (dsimp only; omega)
              | trace_state
          · refine ⟨[1, 3, 4], [], rfl, ?_, ?_⟩
            ·
              repeat' apply And.intro
              all_goals first
                | exact True.intro
                | rfl
                | exact Nat.le_refl _
                | decide +kernel
                | trace_state
            · exact ⟨⟨rfl, rfl, rfl, rfl, trivial⟩, ⟨rfl, rfl, rfl, rfl, trivial⟩, ⟨rfl, rfl, o0.symm, rfl, trivial⟩, trivial⟩
          rintro ⟨j, hj⟩
          have hol := ol j hj
          have hos := osn j
          show run tab env60 0 _ ⟨(.any :: .any :: .any :: .any :: .v (.one (.ptr 0 0)) :: .any :: .any :: .v (.one (.sl 1 0 N 1)) :: .any :: .any :: .any :: .any :: .any :: .any :: .any :: .v (.one (.ptr 2 0)) :: .v (.one (.int .i64 j)) :: .any :: .any :: .any :: .any :: .any :: .any :: .any :: .any :: .any :: .any :: .any :: .any :: .any :: .any :: .any :: .any :: .any :: .any :: .any :: .any :: .any :: .any :: .any :: .any :: .any :: .any :: .any :: .any :: .any :: .any :: .any :: .any :: .any :: .any :: .any :: .any :: .any :: .any :: .any :: .any :: .any :: .any :: .any :: .any :: .any :: .any :: .any :: .any :: .any :: .any :: .any :: .any :: .any :: .any :: .any :: .any :: .any :: .any :: .any :: .any :: .any :: .any :: .any :: .any :: .any :: .any :: .any :: .any :: .any :: .any :: .any :: .any :: .any :: .any :: .any :: .any :: .any :: .any :: .any :: .any :: .any :: .any :: .any :: .any :: .any :: .any :: .any :: .any :: .any :: .any :: .any :: .any :: .any :: .any :: .any :: .any :: .any :: .any :: .any :: .any :: .any :: .any :: .any :: .any :: .any :: .any :: .any :: .any :: .any :: .any :: .any :: .any :: .any :: .any :: .any :: .any :: .any :: .any :: .any :: .any :: .any :: .any :: .any :: .any :: .any :: .any :: .any :: .any :: .any :: .any :: .any :: .any :: .any :: .any :: .any :: .any :: .any :: .any :: .any :: .any :: .any :: []), [.own 0 [.ints .u8 (List.replicate 16 0) 16], .own 1 [.ints .i64 E N], .own 0 [.ints .u8 (o j) 16]]⟩ _ _
          refine run_K (P := fun K => run tab env60 0 _ ⟨_, _⟩ True K) ?_
          intro K hK
          have e9 : isum .i64 (j : Int) 1 = ((j + 1 : Nat) : Int) := by rw [isum, i64_in] <;> omega
          conv => whnf
          refine ⟨trivial, fun hl => ?_, fun hl => ?_⟩
          · have hl' : j < 16 := by simp at hl; omega
            have hEj := hEa j hl'
            have hcc : conv .u8 (E.getD (0 + (j : Int).toNat) 0) = W / 256 ^ j % 256 := by rw [Int.toNat_natCast, Nat.zero_add, hEj, conv, IntWalk.u8_in]; omega
            conv => whnf
            rw [e9, hcc]
            subst hK
            change _ ∧ _
            refine ⟨?_, ⟨j + 1, by omega⟩, by show 16 - (j + 1) < 16 - j; omega, [0, 1, 2], [], rfl, ?_, ?_⟩
            · repeat' apply And.intro
              all_goals first
                | exact True.intro
                | (rw [Int.toNat_natCast]; omega)
                | omega
                | decide +kernel
                | rfl
                | exact Nat.le_of_ble_eq_true rfl
                | (dsimp only; omega)
                | trace_state
            ·
              repeat' apply And.intro
              all_goals first
                | exact True.intro
                | rfl
                | exact Nat.le_refl _
                | decide +kernel
                | trace_state
            · refine ⟨⟨rfl, rfl, rfl, rfl, trivial⟩, ⟨rfl, rfl, rfl, rfl, trivial⟩, ⟨rfl, rfl, ?_, rfl, trivial⟩, trivial⟩
              rw [hos hl']
              simp only [Int.toNat_natCast, Nat.zero_add]
          · have hl' : j = 16 := by simp at hl; omega
            subst hl'
            conv => whnf
            subst hK
            conv => whnf
            refine ⟨?_, rfl, [], [], rfl, ⟨⟨rfl, oE, rfl, trivial⟩, trivial⟩, trivial⟩
            repeat' apply And.intro
            all_goals first
              | exact True.intro
              | omega
              | decide +kernel
              | rfl
              | exact Nat.le_of_ble_eq_true rfl
              | (dsimp only; omega)
              | trace_state
  · cases hr
end Go.Proofs.Ytjbagkimpmpfgaa

/- Words of 64 bits as numbers; five limbs of 26 bits. Conditions: each lemma's own. -/
namespace Go.Proofs.Ytjbagkimpmpfgaa
open Go Go.Mx
set_option maxRecDepth 100000

theorem u64_of (n : Nat) (h : n < 18446744073709551616) : IntKind.u64.wrap (n : Int) = n := IntWalk.u64_in _ (by omega)
theorem ofInt64 {x : Int} (h0 : 0 ≤ x) (h : x < 18446744073709551616) : (BitVec.ofInt IntKind.u64.bits x).toNat = x.toNat := by
  show (BitVec.ofInt 64 x).toNat = x.toNat
  rw [BitVec.toNat_ofInt]
  have : x % (2 ^ 64 : Nat) = x := Int.emod_eq_of_lt h0 (by omega)
  rw [this]
theorem shr64 {x : Int} (h0 : 0 ≤ x) {n : Nat} (h : n ≤ 64) : shrI .u64 x n = x / 2 ^ n := by
  have e : min ((n : Int).toNat) IntKind.u64.bits = n := by rw [Int.toNat_natCast]; show min n 64 = n; omega
  rw [shrI, e, Int.fdiv_eq_ediv_of_nonneg _ (Int.le_of_lt (Int.pow_pos (by decide)))]
theorem shl64 {x : Int} (h0 : 0 ≤ x) {n : Nat} (h : n ≤ 64) (hx : x * 2 ^ n < 18446744073709551616) : shlI .u64 x n = x * 2 ^ n := by
  have e : min ((n : Int).toNat) IntKind.u64.bits = n := by rw [Int.toNat_natCast]; show min n 64 = n; omega
  rw [shlI, e]
  refine IntWalk.u64_in _ ⟨Int.mul_nonneg h0 (Int.le_of_lt (Int.pow_pos (by decide))), by omega⟩
theorem band64 {x : Int} (h0 : 0 ≤ x) (hx : x < 18446744073709551616) (n : Nat) (hn : n < 64) : bandI .u64 x ((2 ^ n - 1 : Nat) : Int) = x % 2 ^ n := by
  have hm : (2 ^ n - 1 : Nat) < 18446744073709551616 := by
    have : (2 : Nat) ^ n ≤ 2 ^ 63 := Nat.pow_le_pow_right (by decide) (by omega)
    omega
  rw [bandI, BitVec.toNat_and, ofInt64 h0 hx, ofInt64 (by omega) (by omega), Int.toNat_natCast, Nat.and_two_pow_sub_one_eq_mod]
  have h1 : x.toNat % 2 ^ n < 18446744073709551616 := Nat.lt_of_le_of_lt (Nat.mod_le _ _) (by omega)
  rw [u64_of _ h1]
  have : ((x.toNat : Nat) : Int) = x := Int.toNat_of_nonneg h0
  push_cast
  rw [this]
theorem bor64 {x y : Int} (h0 : 0 ≤ x) (n : Nat) (hx : x < 2 ^ n) (hy : 0 ≤ y) (hxy : x + y * 2 ^ n < 18446744073709551616) : borI .u64 x (y * 2 ^ n) = x + y * 2 ^ n := by
  have hp : (0 : Int) < 2 ^ n := Int.pow_pos (by decide)
  have hy2 : 0 ≤ y * 2 ^ n := Int.mul_nonneg hy (Int.le_of_lt hp)
  rw [borI, BitVec.toNat_or, ofInt64 h0 (by omega), ofInt64 hy2 (by omega)]
  obtain ⟨a, rfl⟩ : ∃ a : Nat, x = a := ⟨_, (Int.toNat_of_nonneg h0).symm⟩
  obtain ⟨b, rfl⟩ : ∃ b : Nat, y = b := ⟨_, (Int.toNat_of_nonneg hy).symm⟩
  have e : ((b : Int) * 2 ^ n).toNat = b * 2 ^ n := by
    have : ((b : Int) * 2 ^ n) = ((b * 2 ^ n : Nat) : Int) := by push_cast; rfl
    rw [this, Int.toNat_natCast]
  rw [e, Int.toNat_natCast, Nat.or_comm, ← Nat.shiftLeft_eq, ← Nat.shiftLeft_add_eq_or_of_lt (by exact_mod_cast hx), Nat.shiftLeft_eq]
  have h2 : ((b * 2 ^ n + a : Nat) : Int) = (a : Int) + (b : Int) * 2 ^ n := by push_cast; omega
  rw [← h2] at hxy ⊢
  generalize b * 2 ^ n + a = m at hxy
  exact u64_of _ (by omega)
/-- A number, and another one above it. -/
theorem orsh {x y : Int} (n : Nat) (hn : n ≤ 64) (h0 : 0 ≤ x) (hx : x < 2 ^ n) (hy : 0 ≤ y) (hxy : x + y * 2 ^ n < 18446744073709551616) : borI .u64 x (shlI .u64 y n) = x + y * 2 ^ n := by
  rw [shl64 hy hn (by omega), bor64 h0 n hx hy hxy]
theorem sum64 {x y : Int} (h0 : 0 ≤ x + y) (h : x + y < 18446744073709551616) : isum .u64 x y = x + y := by rw [isum, IntWalk.u64_in]; omega
theorem mul64 {x y : Int} (h0 : 0 ≤ x * y) (h : x * y < 18446744073709551616) : imul .u64 x y = x * y := by rw [imul, IntWalk.u64_in]; omega
theorem cnv64 {x : Int} (h0 : 0 ≤ x) (h : x < 18446744073709551616) : conv .u64 x = x := by rw [conv, IntWalk.u64_in]; omega

theorem and26 {x : Int} (h0 : 0 ≤ x) (hx : x < 18446744073709551616) : bandI .u64 x 67108863 = x % 67108864 := band64 h0 hx 26 (by decide)
theorem shr26 {x : Int} (h0 : 0 ≤ x) : shrI .u64 x 26 = x / 67108864 := shr64 (n := 26) h0 (by decide)

/-! ### A word of four bytes; limbs of sixteen -/
theorem w4_val {l : List Int} (h : inR l 255) (k : Nat) : w4 l k = l.getD k 0 + l.getD (k + 1) 0 * 256 + l.getD (k + 2) 0 * 65536 + l.getD (k + 3) 0 * 16777216 := by
  have h0 := h.h k
  have h1 := h.h (k + 1)
  have h2 := h.h (k + 2)
  have h3 := h.h (k + 3)
  unfold w4
  generalize l.getD k 0 = a at *
  generalize l.getD (k + 1) 0 = b at *
  generalize l.getD (k + 2) 0 = c at *
  generalize l.getD (k + 3) 0 = d at *
  rw [cnv64 h0.1 (by omega), cnv64 h1.1 (by omega), cnv64 h2.1 (by omega), cnv64 h3.1 (by omega)]
  have e1 : borI .u64 a (shlI .u64 b 8) = a + b * 256 := orsh 8 (by decide) h0.1 (by omega) h1.1 (by omega)
  have e2 : borI .u64 (a + b * 256) (shlI .u64 c 16) = a + b * 256 + c * 65536 := orsh 16 (by decide) (by omega) (by omega) h2.1 (by omega)
  have e3 : borI .u64 (a + b * 256 + c * 65536) (shlI .u64 d 24) = a + b * 256 + c * 65536 + d * 16777216 := orsh 24 (by decide) (by omega) (by omega) h3.1 (by omega)
  rw [e1, e2, e3]
theorem split_val {l : List Int} (h : inR l 255) (k : Nat) {top : Int} (ht : 0 ≤ top ∧ top ≤ 1) :
    vb 67108864 (splitL l k top) = vb 256 ((l.drop k).take 16) + top * 340282366920938463463374607431768211456 ∧ inR (splitL l k top) 67108863 := by
  have e : ∀ i, i < 16 → (l.drop k).getD i 0 = l.getD (k + i) 0 := fun i _ => by
    rw [List.getD_eq_getElem?_getD, List.getD_eq_getElem?_getD, List.getElem?_drop]
  have hv : vb 256 ((l.drop k).take 16) = l.getD k 0 + 256 * (l.getD (k + 1) 0 + 256 * (l.getD (k + 2) 0 + 256 * (l.getD (k + 3) 0 + 256 * (l.getD (k + 4) 0 + 256 * (l.getD (k + 5) 0 + 256 * (l.getD (k + 6) 0 + 256 * (l.getD (k + 7) 0 + 256 * (l.getD (k + 8) 0 + 256 * (l.getD (k + 9) 0 + 256 * (l.getD (k + 10) 0 + 256 * (l.getD (k + 11) 0 + 256 * (l.getD (k + 12) 0 + 256 * (l.getD (k + 13) 0 + 256 * (l.getD (k + 14) 0 + 256 * l.getD (k + 15) 0)))))))))))))) := by
    simp only [vb_take_succ]
    rw [e 0, e 1, e 2, e 3, e 4, e 5, e 6, e 7, e 8, e 9, e 10, e 11, e 12, e 13, e 14, e 15] <;> try decide
    simp only [List.take_zero, vb, Nat.add_zero]
    omega
  have b0 := h.h k
  have b1 := h.h (k + 1)
  have b2 := h.h (k + 2)
  have b3 := h.h (k + 3)
  have b4 := h.h (k + 4)
  have b5 := h.h (k + 5)
  have b6 := h.h (k + 6)
  have b7 := h.h (k + 7)
  have b8 := h.h (k + 8)
  have b9 := h.h (k + 9)
  have b10 := h.h (k + 10)
  have b11 := h.h (k + 11)
  have b12 := h.h (k + 12)
  have b13 := h.h (k + 13)
  have b14 := h.h (k + 14)
  have b15 := h.h (k + 15)
  rw [hv]
  clear hv e
  have w0 := w4_val h k
  have w3 := w4_val h (k + 3)
  have w6 := w4_val h (k + 6)
  have w9 := w4_val h (k + 9)
  have w12 := w4_val h (k + 12)
  simp only [Nat.add_assoc, Nat.reduceAdd] at w3 w6 w9 w12
  unfold splitL
  rw [w0, w3, w6, w9, w12]
  generalize l.getD k 0 = a0 at *
  generalize l.getD (k + 1) 0 = a1 at *
  generalize l.getD (k + 2) 0 = a2 at *
  generalize l.getD (k + 3) 0 = a3 at *
  generalize l.getD (k + 4) 0 = a4 at *
  generalize l.getD (k + 5) 0 = a5 at *
  generalize l.getD (k + 6) 0 = a6 at *
  generalize l.getD (k + 7) 0 = a7 at *
  generalize l.getD (k + 8) 0 = a8 at *
  generalize l.getD (k + 9) 0 = a9 at *
  generalize l.getD (k + 10) 0 = a10 at *
  generalize l.getD (k + 11) 0 = a11 at *
  generalize l.getD (k + 12) 0 = a12 at *
  generalize l.getD (k + 13) 0 = a13 at *
  generalize l.getD (k + 14) 0 = a14 at *
  generalize l.getD (k + 15) 0 = a15 at *
  have s3 : shrI .u64 (a3 + a4 * 256 + a5 * 65536 + a6 * 16777216) 2 = (a3 + a4 * 256 + a5 * 65536 + a6 * 16777216) / 4 := shr64 (n := 2) (by omega) (by decide)
  have s6 : shrI .u64 (a6 + a7 * 256 + a8 * 65536 + a9 * 16777216) 4 = (a6 + a7 * 256 + a8 * 65536 + a9 * 16777216) / 16 := shr64 (n := 4) (by omega) (by decide)
  have s9 : shrI .u64 (a9 + a10 * 256 + a11 * 65536 + a12 * 16777216) 6 = (a9 + a10 * 256 + a11 * 65536 + a12 * 16777216) / 64 := shr64 (n := 6) (by omega) (by decide)
  have s12 : shrI .u64 (a12 + a13 * 256 + a14 * 65536 + a15 * 16777216) 8 = (a12 + a13 * 256 + a14 * 65536 + a15 * 16777216) / 256 := shr64 (n := 8) (by omega) (by decide)
  have o12 : borI .u64 ((a12 + a13 * 256 + a14 * 65536 + a15 * 16777216) / 256) (shlI .u64 top 24) = (a12 + a13 * 256 + a14 * 65536 + a15 * 16777216) / 256 + top * 16777216 := orsh 24 (by decide) (by omega) (by omega) ht.1 (by omega)
  rw [s3, s6, s9, s12, o12, and26 (by omega) (by omega), and26 (by omega) (by omega), and26 (by omega) (by omega), and26 (by omega) (by omega)]
  constructor
  · simp only [vb]
    omega
  · refine inR_mem (by decide) (fun x hx => ?_)
    simp only [List.mem_cons, List.not_mem_nil, or_false] at hx
    rcases hx with rfl | rfl | rfl | rfl | rfl <;> omega
end Go.Proofs.Ytjbagkimpmpfgaa

/- Limbs: carrying and a block, as numbers by 2^130 - 5. Conditions: each lemma's own. -/
namespace Go.Proofs.Ytjbagkimpmpfgaa
open Go Go.Mx
set_option maxRecDepth 100000

theorem len5 {l : List Int} (h : l.length = 5) : ∃ a b c d e, l = [a, b, c, d, e] := by
  match l, h with
  | [a, b, c, d, e], _ => exact ⟨a, b, c, d, e, rfl⟩
theorem inR5 {a b c d e m : Int} (h : inR [a, b, c, d, e] m) : (0 ≤ a ∧ a ≤ m) ∧ (0 ≤ b ∧ b ≤ m) ∧ (0 ≤ c ∧ c ≤ m) ∧ (0 ≤ d ∧ d ≤ m) ∧ (0 ≤ e ∧ e ≤ m) := ⟨h.h 0, h.h 1, h.h 2, h.h 3, h.h 4⟩
theorem cstep {x y : Int} (hx : 0 ≤ x ∧ x ≤ 2305843009213693952) (hy : 0 ≤ y ∧ y ≤ 2305843009213693952) : bandI .u64 x 67108863 = x % 67108864 ∧ isum .u64 y (shrI .u64 x 26) = y + x / 67108864 := by
  refine ⟨and26 hx.1 (by omega), ?_⟩
  rw [shr26 hx.1, sum64] <;> omega
/-- Carried along, not around. -/
theorem carryN5 {a b c d e : Int} (h : inR [a, b, c, d, e] 2000000000000000000) : ∃ b1 c1 d1 e1, b1 = b + a / 67108864 ∧ c1 = c + b1 / 67108864 ∧ d1 = d + c1 / 67108864 ∧ e1 = e + d1 / 67108864 ∧
    carryN [a, b, c, d, e] 4 = [a % 67108864, b1 % 67108864, c1 % 67108864, d1 % 67108864, e1] := by
  obtain ⟨ha, hb, hc, hd, he⟩ := inR5 h
  refine ⟨_, _, _, _, rfl, rfl, rfl, rfl, ?_⟩
  have k1 := cstep (x := a) (y := b) (by omega) (by omega)
  have k2 := cstep (x := b + a / 67108864) (y := c) (by omega) (by omega)
  have k3 := cstep (x := c + (b + a / 67108864) / 67108864) (y := d) (by omega) (by omega)
  have k4 := cstep (x := d + (c + (b + a / 67108864) / 67108864) / 67108864) (y := e) (by omega) (by omega)
  have s0 : carryN [a, b, c, d, e] 1 = [bandI .u64 a 67108863, isum .u64 b (shrI .u64 a 26), c, d, e] := rfl
  rw [k1.1, k1.2] at s0
  have s1 : carryN [a, b, c, d, e] 2 = [a % 67108864, bandI .u64 (b + a / 67108864) 67108863, isum .u64 c (shrI .u64 (b + a / 67108864) 26), d, e] := by rw [carryN, s0]; rfl
  rw [k2.1, k2.2] at s1
  have s2 : carryN [a, b, c, d, e] 3 = [a % 67108864, (b + a / 67108864) % 67108864, bandI .u64 (c + (b + a / 67108864) / 67108864) 67108863, isum .u64 d (shrI .u64 (c + (b + a / 67108864) / 67108864) 26), e] := by rw [carryN, s1]; rfl
  rw [k3.1, k3.2] at s2
  have s3 : carryN [a, b, c, d, e] 4 = [a % 67108864, (b + a / 67108864) % 67108864, (c + (b + a / 67108864) / 67108864) % 67108864, bandI .u64 (d + (c + (b + a / 67108864) / 67108864) / 67108864) 67108863, isum .u64 e (shrI .u64 (d + (c + (b + a / 67108864) / 67108864) / 67108864) 26)] := by rw [carryN, s2]; rfl
  rw [k4.1, k4.2] at s3
  exact s3
theorem carryE5 {a b c d e : Int} (h : inR [a, b, c, d, e] 2000000100000000000) : carryE [a, b, c, d, e] = [(a + e / 67108864 * 5) % 67108864, b + (a + e / 67108864 * 5) / 67108864, c, d, e % 67108864] := by
  obtain ⟨ha, hb, hc, hd, he⟩ := inR5 h
  have s : carryE [a, b, c, d, e] = [bandI .u64 (isum .u64 a (imul .u64 (shrI .u64 e 26) 5)) 67108863, isum .u64 b (shrI .u64 (isum .u64 a (imul .u64 (shrI .u64 e 26) 5)) 26), c, d, bandI .u64 e 67108863] := rfl
  rw [shr26 he.1, mul64 (by omega) (by omega), sum64 (by omega) (by omega)] at s
  have k := cstep (x := a + e / 67108864 * 5) (y := b) (by omega) (by omega)
  rw [k.1, k.2, and26 he.1 (by omega)] at s
  exact s
/-- Carried around: the same by 2^130 - 5, and small. -/
theorem carryL_spec {l : List Int} (hl : l.length = 5) (h : inR l 2000000000000000000) : ∃ q, vb 67108864 (carryL l) + q * pp = vb 67108864 l ∧ inR (carryL l) 67112960 := by
  obtain ⟨a, b, c, d, e, rfl⟩ := len5 hl
  obtain ⟨b1, c1, d1, e1, hb1, hc1, hd1, he1, hN⟩ := carryN5 h
  obtain ⟨ha, hb, hc, hd, he⟩ := inR5 h
  have hE := carryE5 (a := a % 67108864) (b := b1 % 67108864) (c := c1 % 67108864) (d := d1 % 67108864) (e := e1) (inR_mem (by decide) (fun x hx => by
    simp only [List.mem_cons, List.not_mem_nil, or_false] at hx
    rcases hx with rfl | rfl | rfl | rfl | rfl <;> omega))
  have e0 : carryL [a, b, c, d, e] = [(a % 67108864 + e1 / 67108864 * 5) % 67108864, b1 % 67108864 + (a % 67108864 + e1 / 67108864 * 5) / 67108864, c1 % 67108864, d1 % 67108864, e1 % 67108864] := (congrArg carryE hN).trans hE
  rw [e0]
  refine ⟨e1 / 67108864, ?_, inR_mem (by decide) (fun x hx => ?_)⟩
  · simp only [vb, pp]
    omega
  · simp only [List.mem_cons, List.not_mem_nil, or_false] at hx
    rcases hx with rfl | rfl | rfl | rfl | rfl <;> omega
/-- Twice carried from small limbs: each below 2^26. -/
theorem carry2_spec {l : List Int} (hl : l.length = 5) (h : inR l 67112960) : ∃ q, vb 67108864 (carryL (carryL l)) + q * pp = vb 67108864 l ∧ inR (carryL (carryL l)) 67108863 := by
  obtain ⟨a, b, c, d, e, rfl⟩ := len5 hl
  obtain ⟨b1, c1, d1, e1, hb1, hc1, hd1, he1, hN⟩ := carryN5 (inR_mono h (by decide))
  obtain ⟨ha, hb, hc, hd, he⟩ := inR5 h
  have hE := carryE5 (a := a % 67108864) (b := b1 % 67108864) (c := c1 % 67108864) (d := d1 % 67108864) (e := e1) (inR_mem (by decide) (fun x hx => by
    simp only [List.mem_cons, List.not_mem_nil, or_false] at hx
    rcases hx with rfl | rfl | rfl | rfl | rfl <;> omega))
  have e0 : carryL [a, b, c, d, e] = [(a % 67108864 + e1 / 67108864 * 5) % 67108864, b1 % 67108864 + (a % 67108864 + e1 / 67108864 * 5) / 67108864, c1 % 67108864, d1 % 67108864, e1 % 67108864] := (congrArg carryE hN).trans hE
  obtain ⟨a2, ha2⟩ : ∃ x, x = (a % 67108864 + e1 / 67108864 * 5) % 67108864 := ⟨_, rfl⟩
  obtain ⟨b2, hb2⟩ : ∃ x, x = b1 % 67108864 + (a % 67108864 + e1 / 67108864 * 5) / 67108864 := ⟨_, rfl⟩
  obtain ⟨c2, hc2⟩ : ∃ x, x = c1 % 67108864 := ⟨_, rfl⟩
  obtain ⟨d2, hd2⟩ : ∃ x, x = d1 % 67108864 := ⟨_, rfl⟩
  obtain ⟨e2, he2⟩ : ∃ x, x = e1 % 67108864 := ⟨_, rfl⟩
  rw [← ha2, ← hb2, ← hc2, ← hd2, ← he2] at e0
  have r2 : (0 ≤ a2 ∧ a2 < 67108864) ∧ (0 ≤ b2 ∧ b2 ≤ 67108864) ∧ (0 ≤ c2 ∧ c2 < 67108864) ∧ (0 ≤ d2 ∧ d2 < 67108864) ∧ (0 ≤ e2 ∧ e2 < 67108864) := by omega
  have v2 : vb 67108864 [a2, b2, c2, d2, e2] + e1 / 67108864 * pp = vb 67108864 [a, b, c, d, e] := by
    simp only [vb, pp]
    omega
  clear ha2 hb2 hc2 hd2 he2 hE hN
  rw [e0]
  obtain ⟨b3, c3, d3, e3, hb3, hc3, hd3, he3, hN⟩ := carryN5 (a := a2) (b := b2) (c := c2) (d := d2) (e := e2) (inR_mem (by decide) (fun x hx => by
    simp only [List.mem_cons, List.not_mem_nil, or_false] at hx
    rcases hx with rfl | rfl | rfl | rfl | rfl <;> omega))
  have hE := carryE5 (a := a2 % 67108864) (b := b3 % 67108864) (c := c3 % 67108864) (d := d3 % 67108864) (e := e3) (inR_mem (by decide) (fun x hx => by
    simp only [List.mem_cons, List.not_mem_nil, or_false] at hx
    rcases hx with rfl | rfl | rfl | rfl | rfl <;> omega))
  have e4 : carryL [a2, b2, c2, d2, e2] = [(a2 % 67108864 + e3 / 67108864 * 5) % 67108864, b3 % 67108864 + (a2 % 67108864 + e3 / 67108864 * 5) / 67108864, c3 % 67108864, d3 % 67108864, e3 % 67108864] := (congrArg carryE hN).trans hE
  rw [e4]
  refine ⟨e1 / 67108864 + e3 / 67108864, ?_, inR_mem (by decide) (fun x hx => ?_)⟩
  · rw [← v2]
    generalize e1 / 67108864 = w
    simp only [vb, pp]
    omega
  · simp only [List.mem_cons, List.not_mem_nil, or_false] at hx
    rcases hx with rfl | rfl | rfl | rfl | rfl <;> omega

/-! ### A product by 2^130 - 5 -/
def mPs (b r d : List Int) (i k : Nat) : List Int := d.set ((i + k) % 5) (d.getD ((i + k) % 5) 0 + (if i + k > 4 then b.getD i 0 * r.getD k 0 * 5 else b.getD i 0 * r.getD k 0))
theorem prod_in {x y a b : Int} (hx : 0 ≤ x ∧ x ≤ a) (hy : 0 ≤ y ∧ y ≤ b) : 0 ≤ x * y ∧ x * y ≤ a * b := ⟨Int.mul_nonneg hx.1 hy.1, Int.mul_le_mul hx.2 hy.2 hy.1 (by omega)⟩
theorem mulS_eq {b r d : List Int} {i k : Nat} {B : Int} (hb : inR b 201326592) (hr : inR r 67108863) (hd : inR d B) (hB : B ≤ 2251799813685248000) :
    mulS b r d i k = mPs b r d i k ∧ inR (mulS b r d i k) (B + 67553994275192832) := by
  have h1 := prod_in (hb.h i) (hr.h k)
  have h2 := hd.h ((i + k) % 5)
  have e1 : imul .u64 (b.getD i 0) (r.getD k 0) = b.getD i 0 * r.getD k 0 := mul64 h1.1 (by omega)
  unfold mulS mPs
  rw [e1]
  generalize b.getD i 0 * r.getD k 0 = x at *
  rw [mul64 (x := x) (y := 5) (by omega) (by omega)]
  generalize d.getD ((i + k) % 5) 0 = y at *
  split
  · rw [sum64 (by omega) (by omega)]
    exact ⟨rfl, inR_set (inR_mono hd (by omega)) (by omega)⟩
  · rw [sum64 (by omega) (by omega)]
    exact ⟨rfl, inR_set (inR_mono hd (by omega)) (by omega)⟩
theorem p26_add (i k : Nat) : (67108864 : Int) ^ (i + k) = 67108864 ^ i * 67108864 ^ k := Int.pow_add _ _ _
theorem mPs_val {b r d : List Int} (hd : d.length = 5) {i k : Nat} (hi : i < 5) (hk : k < 5) : ∃ q, vb 67108864 (mPs b r d i k) + q * pp = vb 67108864 d + 67108864 ^ (i + k) * (b.getD i 0 * r.getD k 0) := by
  unfold mPs
  rw [vb_set _ _ _ _ (by omega)]
  generalize b.getD i 0 * r.getD k 0 = x
  generalize d.getD ((i + k) % 5) 0 = y
  generalize vb 67108864 d = v
  by_cases h : i + k > 4
  · rw [if_pos h]
    have e1 : (i + k) % 5 = i + k - 5 := by omega
    have e2 : (67108864 : Int) ^ (i + k) = 67108864 ^ (i + k - 5) * (pp + 5) := by
      have : i + k = i + k - 5 + 5 := by omega
      rw [this, p26_add]
      congr 1
    rw [e1, e2]
    generalize (67108864 : Int) ^ (i + k - 5) = z
    exact ⟨z * x, by grind⟩
  · rw [if_neg h]
    have e1 : (i + k) % 5 = i + k := by omega
    rw [e1]
    exact ⟨0, by grind⟩
theorem mulK_spec {b r d : List Int} {B : Int} (hb : inR b 201326592) (hr : inR r 67108863) (hd : inR d B) (hl : d.length = 5) {i : Nat} (hi : i < 5) (hB : B + 5 * 67553994275192832 ≤ 2251799813685248000) : ∀ k : Nat, k ≤ 5 →
    inR (mulK b r d i k) (B + k * 67553994275192832) ∧ ∃ q, vb 67108864 (mulK b r d i k) + q * pp = vb 67108864 d + 67108864 ^ i * (b.getD i 0 * vb 67108864 (r.take k))
  | 0, _ => ⟨by simpa [mulK] using hd, 0, by simp [mulK, vb]⟩
  | k + 1, hk => by
    obtain ⟨h1, q1, h2⟩ := mulK_spec hb hr hd hl hi hB k (by omega)
    obtain ⟨g1, g2⟩ := mulS_eq (i := i) (k := k) hb hr h1 (by omega)
    obtain ⟨q2, g3⟩ := mPs_val (b := b) (r := r) (d := mulK b r d i k) (by rw [mulK_len, hl]) hi (show k < 5 by omega)
    rw [mulK]
    refine ⟨inR_mono g2 (by push_cast; omega), q1 + q2, ?_⟩
    rw [g1, vb_take_succ, Int.add_mul, ← Int.add_assoc, Int.add_right_comm, g3, p26_add]
    generalize vb 67108864 (mulK b r d i k) = v at *
    generalize vb 67108864 (List.take k r) = w at *
    generalize b.getD i 0 = x at *
    generalize r.getD k 0 = y at *
    generalize (67108864 : Int) ^ i = z at *
    generalize (67108864 : Int) ^ k = u at *
    grind
theorem mulN_spec {b r : List Int} (hb : inR b 201326592) (hr : inR r 67108863) (hrl : r.length = 5) : ∀ i : Nat, i ≤ 5 →
    inR (mulN b r i) (i * 337769971375964160) ∧ ∃ q, vb 67108864 (mulN b r i) + q * pp = vb 67108864 (b.take i) * vb 67108864 r
  | 0, _ => ⟨inR_zeros 5 (by decide), 0, by simp [mulN, vb]⟩
  | i + 1, hi => by
    obtain ⟨h1, q1, h2⟩ := mulN_spec hb hr hrl i (by omega)
    obtain ⟨g1, q2, g2⟩ := mulK_spec hb hr h1 (mulN_len _ _ _) (show i < 5 by omega) (by omega) 5 (Nat.le_refl _)
    rw [mulN]
    refine ⟨inR_mono g1 (by push_cast; omega), q1 + q2, ?_⟩
    rw [List.take_of_length_le (show r.length ≤ 5 by omega)] at g2
    rw [vb_take_succ, Int.add_mul, ← Int.add_assoc, Int.add_right_comm, g2]
    generalize vb 67108864 (mulN b r i) = v at *
    generalize vb 67108864 (List.take i b) = w at *
    generalize b.getD i 0 = x at *
    generalize vb 67108864 r = y at *
    generalize (67108864 : Int) ^ i = z at *
    grind
end Go.Proofs.Ytjbagkimpmpfgaa

/- The program's mark is the document's. Conditions: each lemma's own. -/
namespace Go.Proofs.Ytjbagkimpmpfgaa
open Go Go.Mx
set_option maxRecDepth 100000

theorem mod_of {a b q : Int} (h : a + q * pp = b) : a % pp = b % pp := by rw [← h, Int.add_mul_emod_self_right]
theorem ads_valB (B : Int) (h bs : List Int) : ∀ i, i ≤ h.length → vb B (ads h bs i) = vb B h + vb B (bs.take i)
  | 0, _ => by simp [ads, vb]
  | i + 1, hi => by
    rw [ads, vb_set _ _ _ _ (by rw [ads_len]; omega), ads_valB B h bs i (by omega), vb_take_succ]
    generalize vb B (List.take i bs) = x
    generalize B ^ i = y
    grind
theorem addS_eq {b h : List Int} (hb : inR b 67108863) (hh : inR h 67112960) : ∀ i, addS b h i = ads b h i
  | 0 => rfl
  | i + 1 => by
    rw [addS, ads, addS_eq hb hh i]
    have h1 := (ads_in hb hh i).h i
    have h2 := hh.h i
    rw [sum64 (by omega) (by omega)]
theorem blockL_spec {r h b : List Int} (hr : inR r 67108863) (hrl : r.length = 5) (hh : inR h 67112960) (hhl : h.length = 5) (hb : inR b 67108863) (hbl : b.length = 5) :
    vb 67108864 (blockL r h b) % pp = (vb 67108864 b + vb 67108864 h) * vb 67108864 r % pp ∧ inR (blockL r h b) 67112960 := by
  have e := addS_eq hb hh 5
  have hi : inR (ads b h 5) 201326592 := inR_mono (ads_in hb hh 5) (by decide)
  have hv := ads_valB 67108864 b h 5 (by omega)
  have hl : (ads b h 5).length = 5 := by rw [ads_len, hbl]
  rw [List.take_of_length_le (show h.length ≤ 5 by omega)] at hv
  unfold blockL
  rw [e]
  obtain ⟨g1, q1, g2⟩ := mulN_spec hi hr hrl 5 (Nat.le_refl _)
  rw [List.take_of_length_le (show (ads b h 5).length ≤ 5 by omega), hv] at g2
  obtain ⟨q2, g3, g4⟩ := carryL_spec (mulN_len _ _ _) (inR_mono g1 (by decide))
  refine ⟨?_, g4⟩
  rw [mod_of g3, mod_of g2]

/-! ### Bytes pushed -/
theorem blkV_app (l m : List Int) (t : Nat) (h : 16 * (t + 1) ≤ l.length) : blkV (l ++ m) t = blkV l t := by
  unfold blkV
  rw [List.drop_append_of_le_length (by omega), List.take_append_of_le_length (by rw [List.length_drop]; omega)]
theorem hI_app (R : Int) (l m : List Int) : ∀ t, 16 * t ≤ l.length → hI R (l ++ m) t = hI R l t
  | 0, _ => rfl
  | t + 1, h => by rw [hI, hI, hI_app R l m t (by omega), blkV_app l m t h]
/-- What a mark is behind so many bytes. -/
structure Good (r : List Int) (l : List Int) (s : PS) : Prop where
  n : s.n = l.length % 16
  hl : s.h.length = 5
  el : s.e.length = 16
  hh : inR s.h 67112960
  hv : vb 67108864 s.h % pp = hI (vb 67108864 r) l (l.length / 16)
  et : s.e.take s.n = l.drop (16 * (l.length / 16))
  ei : inR s.e 255
theorem mod_step {H h b R : Int} (hh : h % pp = H) : (b + h) * R % pp = (H + b) * R % pp := by
  have e := Int.mul_ediv_add_emod h pp
  rw [hh] at e
  have : (b + h) * R = (H + b) * R + pp * (h / pp * R) := by
    generalize h / pp = k at *
    grind
  rw [this, Int.add_mul_emod_self_left]
theorem vb_block {bs : List Int} (h : bs.length = 16) : vb 256 (bs ++ [1]) = vb 256 bs + 1 * 340282366920938463463374607431768211456 := by
  rw [vb_snoc, h]; rfl
theorem good_push {r : List Int} (hr : inR r 67108863) (hrl : r.length = 5) {l : List Int} {s : PS} (h : Good r l s) {b : Int} (hb : 0 ≤ b ∧ b ≤ 255) : Good r (l ++ [b]) (push r s b) := by
  obtain ⟨hn, hl, el, hh, hv, et, ei⟩ := h
  obtain ⟨q, hq⟩ : ∃ q, q = l.length / 16 := ⟨_, rfl⟩
  rw [← hq] at hv et
  have ei2 : inR (s.e.set s.n b) 255 := inR_set ei hb
  have htk : (s.e.set s.n b).take (s.n + 1) = l.drop (16 * q) ++ [b] := by
    rw [List.take_succ_eq_append_getElem (by rw [List.length_set]; omega), List.take_set_of_le (by omega), et]
    simp
  have hld : (l ++ [b]).length = l.length + 1 := by simp
  unfold push
  split
  · rename_i h16
    have e1 : (l ++ [b]).length / 16 = q + 1 := by omega
    have htk' : (s.e.set s.n b).take 16 = (l ++ [b]).drop (16 * q) := by
      have := htk
      rw [h16] at this
      rw [this, List.drop_append_of_le_length (by omega)]
    have hlen : ((l ++ [b]).drop (16 * q)).length = 16 := by rw [List.length_drop, hld]; omega
    obtain ⟨sv, si⟩ := split_val ei2 0 (top := 1) (by decide)
    rw [List.drop_zero, htk', ← vb_block hlen] at sv
    obtain ⟨X, hX⟩ : ∃ X, X = splitL (s.e.set s.n b) 0 1 := ⟨_, rfl⟩
    have hXl : X.length = 5 := by rw [hX]; rfl
    rw [← hX] at sv si ⊢
    obtain ⟨bv, bi⟩ := blockL_spec hr hrl hh hl si hXl
    have bl5 := blockL_len r s.h X
    obtain ⟨Y, hY⟩ : ∃ Y, Y = blockL r s.h X := ⟨_, rfl⟩
    rw [← hY] at bv bi bl5 ⊢
    refine ⟨by dsimp only; omega, bl5, by dsimp only; rw [List.length_set, el], bi, ?_, ?_, ei2⟩
    · dsimp only
      rw [e1, bv, sv, hI, hI_app _ _ _ _ (by omega), mod_step hv]
      unfold blkV
      rw [List.take_of_length_le (by omega)]
    · dsimp only
      rw [e1, List.take_zero, List.drop_of_length_le (by omega)]
  · rename_i h16
    have e1 : (l ++ [b]).length / 16 = q := by omega
    refine ⟨by dsimp only; omega, hl, by dsimp only; rw [List.length_set, el], hh, ?_, ?_, ei2⟩
    · dsimp only
      rw [e1, hI_app _ _ _ _ (by omega), hv]
    · dsimp only
      rw [e1, htk, List.drop_append_of_le_length (by omega)]
theorem good_pushes {r : List Int} (hr : inR r 67108863) (hrl : r.length = 5) : ∀ {m l : List Int} {s : PS}, Good r l s → inR m 255 → Good r (l ++ m) (pushes r s m)
  | [], l, s, h, _ => by simpa [pushes] using h
  | b :: m, l, s, h, hm => by
    have h0 := hm.h 0
    simp only [List.getD_cons_zero] at h0
    have := good_pushes hr hrl (good_push hr hrl h h0) (inR_tail hm)
    rw [List.append_assoc] at this
    exact this
theorem good_start {r : List Int} : Good r [] ⟨List.replicate 5 0, List.replicate 16 0, 0⟩ :=
  ⟨rfl, rfl, rfl, inR_zeros 5 (by decide), by show vb 67108864 (List.replicate 5 0) % pp = 0; rw [vb_zeros]; rfl, rfl, inR_zeros 16 (by decide)⟩

/-! ### The mark told -/
theorem restB_val {e : List Int} (he : e.length = 16) (hi : inR e 255) {n : Nat} (hn : n < 16) : vb 256 ((restB e n).take 16) = vb 256 (e.take n ++ [1]) ∧ inR (restB e n) 255 := by
  have e1 : restB e n = e.take n ++ [1] ++ List.replicate (15 - n) 0 := by
    unfold restB splI
    rw [List.length_replicate, show n + 1 + (16 - (n + 1)) = 16 by omega, List.drop_of_length_le (by rw [List.length_set]; omega), List.append_nil, List.take_succ_eq_append_getElem (by rw [List.length_set]; omega), List.take_set_of_le (by omega), show 16 - (n + 1) = 15 - n by omega]
    simp
  rw [e1]
  constructor
  · rw [List.take_of_length_le (by simp; omega), vb_append, vb_zeros]; simp
  · exact inR_app (inR_app (inR_take hi n) (inR_mem (by decide) (by simp))) (inR_zeros _ (by decide))
theorem lastH_spec {r : List Int} (hr : inR r 67108863) (hrl : r.length = 5) {l : List Int} {s : PS} (h : Good r l s) :
    vb 67108864 (lastH r s) % pp = hI (vb 67108864 r) l ((l.length + 15) / 16) ∧ inR (lastH r s) 67112960 ∧ (lastH r s).length = 5 := by
  obtain ⟨hn, hl, el, hh, hv, et, ei⟩ := h
  unfold lastH
  split
  · rename_i h0
    obtain ⟨rv, ri⟩ := restB_val el ei (n := s.n) (by omega)
    obtain ⟨sv, si⟩ := split_val ri 0 (top := 0) (by decide)
    rw [List.drop_zero, rv, et] at sv
    obtain ⟨X, hX⟩ : ∃ X, X = splitL (restB s.e s.n) 0 0 := ⟨_, rfl⟩
    have hXl : X.length = 5 := by rw [hX]; rfl
    rw [← hX] at sv si ⊢
    obtain ⟨bv, bi⟩ := blockL_spec hr hrl hh hl si hXl
    refine ⟨?_, bi, blockL_len _ _ _⟩
    have e1 : (l.length + 15) / 16 = l.length / 16 + 1 := by omega
    rw [bv, sv, e1, hI, mod_step hv]
    unfold blkV
    rw [List.take_of_length_le (by rw [List.length_drop]; omega), Int.zero_mul, Int.add_zero]
  · have e1 : (l.length + 15) / 16 = l.length / 16 := by omega
    rw [e1]
    exact ⟨hv, hh, hl⟩
theorem leastH_spec {l : List Int} (hl : l.length = 5) (h : inR l 67108863) : vb 67108864 (leastH l) = vb 67108864 l % pp ∧ inR (leastH l) 67108863 ∧ (leastH l).length = 5 := by
  refine ⟨?_, ?_, leastH_len hl⟩
  all_goals
    obtain ⟨a, b, c, d, e, rfl⟩ := len5 hl
    obtain ⟨ha, hb, hc, hd, he⟩ := inR5 h
    have e0 : overH [a, b, c, d, e] = carryN [isum .u64 a 5, b, c, d, e] 4 := rfl
    rw [sum64 (by omega) (by omega)] at e0
    obtain ⟨b1, c1, d1, e1, hb1, hc1, hd1, he1, hN⟩ := carryN5 (a := a + 5) (b := b) (c := c) (d := d) (e := e) (inR_mem (by decide) (fun x hx => by
      simp only [List.mem_cons, List.not_mem_nil, or_false] at hx
      rcases hx with rfl | rfl | rfl | rfl | rfl <;> omega))
    rw [hN] at e0
    unfold leastH
    rw [e0]
    simp only [List.getD_cons_succ, List.getD_cons_zero, List.set_cons_succ, List.set_cons_zero]
    rw [shr26 (by omega), and26 (by omega) (by omega)]
    split
  · rename_i hp
    have hp1 : e1 / 67108864 = 1 := by omega
    obtain ⟨V, hV⟩ : ∃ V, V = vb 67108864 [a, b, c, d, e] := ⟨_, rfl⟩
    rw [← hV]
    simp only [vb] at hV ⊢
    have h1 : V + 5 = (a + 5) % 67108864 + 67108864 * (b1 % 67108864 + 67108864 * (c1 % 67108864 + 67108864 * (d1 % 67108864 + 67108864 * e1))) := by omega
    have h2 : V ≥ pp := by unfold pp; omega
    have h3 : V < 2 * pp := by unfold pp; omega
    have h4 : V % pp = V - pp := by
      rw [← Int.sub_emod_right V pp]
      exact Int.emod_eq_of_lt (by omega) (by omega)
    rw [h4]
    unfold pp
    omega
  · rename_i hp
    obtain ⟨V, hV⟩ : ∃ V, V = vb 67108864 [a, b, c, d, e] := ⟨_, rfl⟩
    rw [← hV]
    simp only [vb] at hV
    have h1 : V + 5 = (a + 5) % 67108864 + 67108864 * (b1 % 67108864 + 67108864 * (c1 % 67108864 + 67108864 * (d1 % 67108864 + 67108864 * e1))) := by omega
    have h2 : V < pp := by unfold pp; omega
    exact (Int.emod_eq_of_lt (by omega) h2).symm
  · refine inR_mem (by decide) (fun x hx => ?_)
    simp only [List.mem_cons, List.not_mem_nil, or_false] at hx
    rcases hx with rfl | rfl | rfl | rfl | rfl <;> omega
  · exact h
theorem four_at {h : List Int} (hl : h.length = 5) (hi : inR h 67108863) {i : Nat} (hlt : i < 16) : bandI .u64 (shrI .u64 ((fourH h).getD (i / 4) 0) ((8 * (i % 4) : Nat) : Int)) 255 = vb 67108864 h / 256 ^ i % 256 := by
  obtain ⟨a, b, c, d, e, rfl⟩ := len5 hl
  obtain ⟨ha, hb, hc, hd, he⟩ := inR5 hi
  have e0 : fourH [a, b, c, d, e] = [borI .u64 a (shlI .u64 b 26), borI .u64 (shrI .u64 b 6) (shlI .u64 c 20), borI .u64 (shrI .u64 c 12) (shlI .u64 d 14), borI .u64 (shrI .u64 d 18) (shlI .u64 e 8)] := rfl
  have s1 : shrI .u64 b 6 = b / 64 := shr64 (n := 6) (by omega) (by decide)
  have s2 : shrI .u64 c 12 = c / 4096 := shr64 (n := 12) (by omega) (by decide)
  have s3 : shrI .u64 d 18 = d / 262144 := shr64 (n := 18) (by omega) (by decide)
  have o0 : borI .u64 a (shlI .u64 b 26) = a + b * 67108864 := orsh 26 (by decide) (by omega) (by omega) (by omega) (by omega)
  have o1 : borI .u64 (b / 64) (shlI .u64 c 20) = b / 64 + c * 1048576 := orsh 20 (by decide) (by omega) (by omega) (by omega) (by omega)
  have o2 : borI .u64 (c / 4096) (shlI .u64 d 14) = c / 4096 + d * 16384 := orsh 14 (by decide) (by omega) (by omega) (by omega) (by omega)
  have o3 : borI .u64 (d / 262144) (shlI .u64 e 8) = d / 262144 + e * 256 := orsh 8 (by decide) (by omega) (by omega) (by omega) (by omega)
  rw [s1, s2, s3, o0, o1, o2, o3] at e0
  rw [e0]
  have fin : ∀ (w : Int) (t : Nat), 0 ≤ w → w < 18446744073709551616 → t ≤ 64 → bandI .u64 (shrI .u64 w (t : Int)) 255 = w / 2 ^ t % 256 := fun w t h0 h1 ht => by
    rw [shr64 h0 ht]
    have hp : (0 : Int) < 2 ^ t := Int.pow_pos (by decide)
    have h2 : 0 ≤ w / 2 ^ t := Int.ediv_nonneg h0 (Int.le_of_lt hp)
    have h3 : w / 2 ^ t ≤ w := Int.ediv_le_self _ h0
    exact band64 h2 (by omega) 8 (by decide)
  have hV : vb 67108864 [a, b, c, d, e] = a + 67108864 * (b + 67108864 * (c + 67108864 * (d + 67108864 * e))) := by simp [vb]
  rw [hV]
  match i, hlt with
  | 0, _ => rw [fin _ _ (by simp; omega) (by simp; omega) (by decide)]; simp; omega
  | 1, _ => rw [fin _ _ (by simp; omega) (by simp; omega) (by decide)]; simp; omega
  | 2, _ => rw [fin _ _ (by simp; omega) (by simp; omega) (by decide)]; simp; omega
  | 3, _ => rw [fin _ _ (by simp; omega) (by simp; omega) (by decide)]; simp; omega
  | 4, _ => rw [fin _ _ (by simp; omega) (by simp; omega) (by decide)]; simp; omega
  | 5, _ => rw [fin _ _ (by simp; omega) (by simp; omega) (by decide)]; simp; omega
  | 6, _ => rw [fin _ _ (by simp; omega) (by simp; omega) (by decide)]; simp; omega
  | 7, _ => rw [fin _ _ (by simp; omega) (by simp; omega) (by decide)]; simp; omega
  | 8, _ => rw [fin _ _ (by simp; omega) (by simp; omega) (by decide)]; simp; omega
  | 9, _ => rw [fin _ _ (by simp; omega) (by simp; omega) (by decide)]; simp; omega
  | 10, _ => rw [fin _ _ (by simp; omega) (by simp; omega) (by decide)]; simp; omega
  | 11, _ => rw [fin _ _ (by simp; omega) (by simp; omega) (by decide)]; simp; omega
  | 12, _ => rw [fin _ _ (by simp; omega) (by simp; omega) (by decide)]; simp; omega
  | 13, _ => rw [fin _ _ (by simp; omega) (by simp; omega) (by decide)]; simp; omega
  | 14, _ => rw [fin _ _ (by simp; omega) (by simp; omega) (by decide)]; simp; omega
  | n + 16, h => omega
  | 15, _ => rw [fin _ _ (by simp; omega) (by simp; omega) (by decide)]; simp; omega
end Go.Proofs.Ytjbagkimpmpfgaa

/- The program's mark is the document's, joined. Conditions: each lemma's own. -/
namespace Go.Proofs.Ytjbagkimpmpfgaa
open Go Go.Mx
set_option maxRecDepth 100000

theorem sumN_spec {h s : List Int} (hl : h.length = 5) (hi : inR h 67108863) (hs : inR s 255) : ∀ i, i ≤ 16 →
    (0 ≤ (sumN (fourH h) s i).1 ∧ (sumN (fourH h) s i).1 ≤ 1) ∧ inR ((sumN (fourH h) s i).2) 255 ∧ vb 67108864 h % 256 ^ i + vb 256 (s.take i) = (sumN (fourH h) s i).1 * 256 ^ i + vb 256 ((sumN (fourH h) s i).2.take i)
  | 0, _ => ⟨by simp [sumN], inR_zeros 16 (by decide), by simp [sumN, vb]⟩
  | i + 1, hlt => by
    obtain ⟨h1, h2, h3⟩ := sumN_spec hl hi hs i (by omega)
    have hsl := sumN_len (fourH h) s i
    have hsi := hs.h i
    have hw := four_at hl hi (show i < 16 by omega)
    have hc : sumC (fourH h) s (sumN (fourH h) s i).1 i = (sumN (fourH h) s i).1 + (vb 67108864 h / 256 ^ i % 256 + s.getD i 0) := by
      unfold sumC
      rw [hw, cnv64 hsi.1 (by omega), sum64 (x := vb 67108864 h / 256 ^ i % 256) (by omega) (by omega), sum64 (by omega) (by omega)]
    have e8 : ∀ x : Int, 0 ≤ x → shrI .u64 x 8 = x / 256 := fun x hx => shr64 (n := 8) hx (by decide)
    rw [sumN]
    dsimp only
    rw [hc]
    obtain ⟨c, hcc⟩ : ∃ c, c = (sumN (fourH h) s i).1 := ⟨_, rfl⟩
    obtain ⟨o, ho⟩ : ∃ o, o = (sumN (fourH h) s i).2 := ⟨_, rfl⟩
    rw [← hcc, ← ho] at h3
    rw [← hcc] at h1
    rw [← ho] at h2 hsl
    rw [← hcc, ← ho]
    obtain ⟨d, hd⟩ : ∃ d, d = vb 67108864 h / 256 ^ i % 256 := ⟨_, rfl⟩
    rw [mod_succ, ← hd]
    have hd2 : 0 ≤ d ∧ d ≤ 255 := by omega
    rw [vb_take_succ 256 s i]
    generalize s.getD i 0 = y at hsi ⊢
    rw [e8 _ (by omega), conv, IntKind.wrap_u8]
    have e := Int.mul_ediv_add_emod (c + (d + y)) 256
    refine ⟨by omega, inR_set h2 (by omega), ?_⟩
    rw [vb_take_succ, List.take_set_of_le (Nat.le_refl _), getD_set_eq (by omega), Int.pow_succ]
    clear hcc ho hd hc hw
    generalize (c + (d + y)) / 256 = z at *
    generalize (c + (d + y)) % 256 = x at *
    generalize vb 67108864 h % 256 ^ i = a at *
    generalize vb 256 (List.take i s) = b at *
    generalize vb 256 (List.take i o) = f at *
    generalize (256 : Int) ^ i = g at *
    clear h2 e8
    grind
theorem sum_digs {h s : List Int} (hl : h.length = 5) (hi : inR h 67108863) (hs : inR s 255) (hsl : s.length = 16) : (sumN (fourH h) s 16).2 = digs (vb 67108864 h + vb 256 s) 16 := by
  obtain ⟨h1, h2, h3⟩ := sumN_spec hl hi hs 16 (Nat.le_refl _)
  have hol := sumN_len (fourH h) s 16
  rw [List.take_of_length_le (by omega), List.take_of_length_le (by omega)] at h3
  have e := digs_eq (v := vb 67108864 h + vb 256 s) h2 (by
    rw [hol]
    have hlt := vb_lt (B := 256) (by decide) h2
    have hge := vb_nonneg (B := 256) (by decide) h2
    rw [hol] at hlt
    have e1 := Int.mul_ediv_add_emod (vb 67108864 h) (256 ^ 16)
    generalize (sumN (fourH h) s 16).1 = c at *
    generalize vb 256 (sumN (fourH h) s 16).2 = o at *
    have e2 : vb 67108864 h + vb 256 s = o + 256 ^ 16 * (vb 67108864 h / 256 ^ 16 + c) := by
      generalize vb 67108864 h / 256 ^ 16 = k at *
      generalize (256 : Int) ^ 16 = g at *
      grind
    rw [e2, Int.add_mul_emod_self_left]
    exact Int.emod_eq_of_lt hge hlt)
  rw [hol] at e
  exact e.symm

/-! ### The key's first half -/
theorem and15 {x : Int} (h : 0 ≤ x ∧ x ≤ 255) : bandI .u8 x 15 = x % 16 := by
  have := (by decide +kernel : ∀ n : Fin 256, bandI .u8 (n.val : Int) 15 = (n.val : Int) % 16) ⟨x.toNat, by omega⟩
  simpa [Int.toNat_of_nonneg h.1] using this
theorem and252 {x : Int} (h : 0 ≤ x ∧ x ≤ 255) : bandI .u8 x 252 = x / 4 * 4 := by
  have := (by decide +kernel : ∀ n : Fin 256, bandI .u8 (n.val : Int) 252 = (n.val : Int) / 4 * 4) ⟨x.toNat, by omega⟩
  simpa [Int.toNat_of_nonneg h.1] using this
theorem mask1_at {l : List Int} (hl : l.length = 32) (h : inR l 255) : ∀ k, k ≤ 4 → ∀ j, j < 16 → (mask1 l k).getD j 0 = if j % 4 = 3 ∧ j < 4 * k then l.getD j 0 % 16 else l.getD j 0
  | 0, _, j, _ => by simp [mask1]
  | k + 1, hk, j, hj => by
    have ih := mask1_at hl h k (by omega)
    rw [mask1]
    by_cases e : 3 + 4 * k = j
    · subst e
      rw [getD_set_eq (by rw [mask1_len]; omega), ih _ hj, if_neg (by omega), if_pos (by omega), and15 (h.h _)]
    · rw [getD_set_ne e, ih j hj]
      by_cases e2 : j % 4 = 3 ∧ j < 4 * k
      · rw [if_pos e2, if_pos (by omega)]
      · rw [if_neg e2, if_neg (by omega)]
theorem mask1_in {l : List Int} (h : inR l 255) : ∀ k, inR (mask1 l k) 255
  | 0 => h
  | k + 1 => by
    have h1 := (mask1_in h k).h (3 + 4 * k)
    exact inR_set (mask1_in h k) (by rw [and15 h1]; omega)
theorem mask2_in {l : List Int} (h : inR l 255) : ∀ k, inR (mask2 l k) 255
  | 0 => h
  | k + 1 => by
    have h1 := (mask2_in h k).h (4 + 4 * k)
    exact inR_set (mask2_in h k) (by rw [and252 h1]; omega)
theorem mask2_at {l : List Int} (hl : l.length = 32) (h : inR l 255) : ∀ k, k ≤ 3 → ∀ j, j < 16 → (mask2 l k).getD j 0 = if j % 4 = 0 ∧ 0 < j ∧ j < 4 + 4 * k then l.getD j 0 / 4 * 4 else l.getD j 0
  | 0, _, j, _ => by rw [mask2, if_neg (by omega)]
  | k + 1, hk, j, hj => by
    have ih := mask2_at hl h k (by omega)
    rw [mask2]
    by_cases e : 4 + 4 * k = j
    · subst e
      rw [getD_set_eq (by rw [mask2_len]; omega), ih _ hj, if_neg (by omega), if_pos (by omega), and252 (h.h _)]
    · rw [getD_set_ne e, ih j hj]
      by_cases e2 : j % 4 = 0 ∧ 0 < j ∧ j < 4 + 4 * k
      · rw [if_pos e2, if_pos (by omega)]
      · rw [if_neg e2, if_neg (by omega)]
theorem rst_at (key : List Int) : ∀ n, n ≤ 16 → ∀ j, j < n → (rst key n).getD j 0 = rdF key j
  | 0, _, j, hj => by omega
  | n + 1, hn, j, hj => by
    rw [rst]
    by_cases e : n = j
    · subst e; rw [getD_set_eq (by rw [rst_len]; omega)]
    · rw [getD_set_ne e, rst_at key n (by omega) j (by omega)]
theorem ext_getE {a b : List Int} (hl : a.length = b.length) (h : ∀ i, i < a.length → a.getD i 0 = b.getD i 0) : a = b := by
  refine List.ext_getElem hl (fun i h1 h2 => ?_)
  have := h i h1
  rwa [List.getD_eq_getElem?_getD, List.getD_eq_getElem?_getD, List.getElem?_eq_getElem h1, List.getElem?_eq_getElem h2] at this
theorem clamp_take {key : List Int} (hl : key.length = 32) (h : inR key 255) : (clampL key).take 16 = rst key 16 := by
  have e1 : (mask1 key 4).length = 32 := by rw [mask1_len, hl]
  have e2 : (clampL key).length = 32 := by unfold clampL; rw [mask2_len, e1]
  refine ext_getE (by rw [List.length_take, rst_len, e2]; rfl) (fun i hi => ?_)
  have hi' : i < 16 := by rw [List.length_take] at hi; omega
  have e3 : ((clampL key).take 16).getD i 0 = (clampL key).getD i 0 := by
    rw [List.getD_eq_getElem?_getD, List.getElem?_take, if_pos hi', ← List.getD_eq_getElem?_getD]
  rw [e3, rst_at key 16 (Nat.le_refl _) i hi']
  unfold clampL
  rw [mask2_at e1 (mask1_in h 4) 3 (by decide) i hi', mask1_at hl h 4 (by decide) i hi']
  unfold rdF
  by_cases h1 : i % 4 = 3
  · have n1 : ¬ (i % 4 = 0 ∧ 0 < i ∧ i < 4 + 4 * 3) := by omega
    have n2 : ¬ (i > 0 ∧ i % 4 = 0) := by omega
    have n3 : i % 4 = 3 ∧ i < 4 * 4 := by omega
    rw [if_neg n1, if_neg n2, if_pos n3, if_pos h1]
  · have n3 : ¬ (i % 4 = 3 ∧ i < 4 * 4) := by omega
    simp only [if_neg n3, if_neg h1]
    by_cases h2 : i > 0 ∧ i % 4 = 0
    · have n1 : i % 4 = 0 ∧ 0 < i ∧ i < 4 + 4 * 3 := by omega
      rw [if_pos h2, if_pos n1]
    · have n1 : ¬ (i % 4 = 0 ∧ 0 < i ∧ i < 4 + 4 * 3) := by omega
      rw [if_neg h2, if_neg n1]
/-- The first half of a key as limbs. -/
def rL (key : List Int) : List Int := splitL (clampL key) 0 0
theorem rL_spec {key : List Int} (hl : key.length = 32) (h : inR key 255) : vb 67108864 (rL key) = rI key ∧ inR (rL key) 67108863 ∧ (rL key).length = 5 := by
  obtain ⟨sv, si⟩ := split_val (l := clampL key) (mask2_in (mask1_in h 4) 3) 0 (top := 0) (by decide)
  rw [List.drop_zero, clamp_take hl h, Int.zero_mul, Int.add_zero] at sv
  exact ⟨sv, si, rfl⟩
def start : PS := ⟨List.replicate 5 0, List.replicate 16 0, 0⟩
/-- What Tag makes. -/
def progT (key l : List Int) : List Int := tagL (rL key) (key.drop 16) (pushes (rL key) start l)
theorem tag_good {key l : List Int} (hl : key.length = 32) (h : inR key 255) {s : PS} (hg : Good (rL key) l s) : tagL (rL key) (key.drop 16) s = refT key l := by
  obtain ⟨hv, hi, hrl⟩ := rL_spec hl h
  obtain ⟨g1, g2, g3⟩ := lastH_spec hi hrl hg
  obtain ⟨q, c1, c2⟩ := carry2_spec g3 g2
  obtain ⟨l1, l2, l3⟩ := leastH_spec (carryL_len (carryL_len g3)) c2
  have e := sum_digs l3 l2 (inR_drop h 16) (by rw [List.length_drop]; omega)
  unfold tagL refT
  rw [e, l1, mod_of c1, g1, hv]
theorem tag_eq {key l : List Int} (hl : key.length = 32) (h : inR key 255) (hm : inR l 255) : progT key l = refT key l := by
  obtain ⟨hv, hi, hrl⟩ := rL_spec hl h
  have hg := good_pushes hi hrl (good_start (r := rL key)) hm
  rw [List.nil_append] at hg
  exact tag_good hl h hg
end Go.Proofs.Ytjbagkimpmpfgaa

/- Poly: Tag, of any pieces. -/
namespace Go.Proofs.Ytjbagkimpmpfgaa
open Go Go.Mx
set_option maxRecDepth 100000
set_option maxHeartbeats 4000000

theorem flat_in : ∀ l : List ByteArray, inR (flat l) 255
  | [] => ⟨fun i => by simp [flat]⟩
  | s :: l => by
    show inR (bl s ++ flat l) 255
    exact inR_app (bl_in s) (flat_in l)
theorem wrote_good {key : List Int} (hl : key.length = 32) (h : inR key 255) {l : List Int} {s : PS} (hg : Good (rL key) l s) (m : List ByteArray) (lo k : Nat) : Good (rL key) (l ++ flat ((m.drop lo).take k)) (wrote (rL key) s m lo k) := by
  obtain ⟨hv, hi, hrl⟩ := rL_spec hl h
  exact good_pushes hi hrl hg (flat_in _)
theorem good_lt {r l : List Int} {s : PS} (hg : Good r l s) : s.n < 16 := by have := hg.n; omega
theorem m64n : Meets Try.prog 64 c64n := by
  refine meets_of_run tab_ok env0 mixed [] Try.func64 rfl Try.ntmps64 Try.call64 (fun t w => by simp [results, Try.results64, resV]) ?_
  intro args objs r hr hcs
  unfold c64n at hr
  split at hr
  · rename_i r h s e n
    simp only [Option.some.injEq] at hr; subst hr
    refine ⟨rfl, ?_⟩
    conv => whnf
    refine ⟨?_, Unit, fun i => ⟨(.v (.one (.ptr 0 0)) :: .any :: .any :: .any :: .any :: .any :: .any :: .any :: .any :: .v (.one (.nils)) :: .v (.one (.int .i64 0)) :: .v (.one (.int .i64 0)) :: .any :: .any :: .any :: .any :: .any :: .any :: .any :: .any :: .any :: .any :: .any :: .any :: .any :: .any :: .any :: .any :: .any :: .any :: .any :: .any :: .any :: .any :: .any :: .any :: .any :: .any :: .any :: .any :: .any :: .any :: .any :: .any :: .any :: .any :: .any :: .any :: .any :: .any :: .any :: .any :: .any :: .any :: []), [macO r h s e n]⟩, fun i => 0, (), ?_, fun _ => rfl, ?_⟩
    · trivial
    · refine ⟨[0], [], rfl, ?_, ?_⟩
      · repeat' apply And.intro
        all_goals first
          | exact True.intro
          | rfl
          | exact Nat.le_refl _
          | decide +kernel
          | omega
          | trace_state
      · exact ⟨⟨rfl, rfl, rfl, rfl, rfl, rfl, rfl, rfl, rfl, rfl, rfl, rfl, rfl, ⟨rfl, rfl⟩, trivial⟩, trivial⟩
    rintro ⟨⟩
    show run tab (fun _ => none) 1 _ ⟨(.v (.one (.ptr 0 0)) :: .any :: .any :: .any :: .any :: .any :: .any :: .any :: .any :: .v (.one (.nils)) :: .v (.one (.int .i64 0)) :: .v (.one (.int .i64 0)) :: .any :: .any :: .any :: .any :: .any :: .any :: .any :: .any :: .any :: .any :: .any :: .any :: .any :: .any :: .any :: .any :: .any :: .any :: .any :: .any :: .any :: .any :: .any :: .any :: .any :: .any :: .any :: .any :: .any :: .any :: .any :: .any :: .any :: .any :: .any :: .any :: .any :: .any :: .any :: .any :: .any :: .any :: []), [macO r h s e n]⟩ _ _
    refine run_K (P := fun K => run tab (fun _ => none) 1 _ ⟨_, _⟩ True K) ?_
    intro K hK
    conv => whnf
    refine ⟨trivial, fun hlt => ?_, fun hlt => ?_⟩
    · exfalso
      simp at hlt
    · conv => whnf
      subst hK
      conv => whnf
      refine ⟨?_, rfl, [0], [], rfl, ⟨trivial, trivial⟩, ⟨rfl, rfl, rfl, rfl, rfl, rfl, rfl, rfl, rfl, rfl, rfl, rfl, rfl, ⟨rfl, rfl⟩, trivial⟩, trivial⟩
      repeat' apply And.intro
      all_goals first
        | exact True.intro
        | omega
        | decide +kernel
        | rfl
        | exact Nat.le_of_ble_eq_true rfl
        | (dsimp only; omega)
        | trace_state
  · cases hr
def c64q : Ctr := fun args objs => match args, objs with
  | [.one .nilp, .one (.sl 0 lo m 1)], [.view 1 [.strs l q]] => some ⟨[], .tup [], [], []⟩
  | _, _ => none
theorem m64q : Meets Try.prog 64 c64q := by
  refine meets_of_run tab_ok env0 mixed [] Try.func64 rfl Try.ntmps64 Try.call64 (fun t w => by simp [results, Try.results64, resV]) ?_
  intro args objs r hr hcs
  unfold c64q at hr
  split at hr
  · rename_i lo m l q
    simp only [Option.some.injEq] at hr; subst hr
    refine ⟨rfl, ?_⟩
    conv => whnf
    refine ⟨?_, rfl, [0], [], rfl, ⟨trivial, trivial⟩, ⟨rfl, rfl, rfl, trivial⟩, trivial⟩
    repeat' apply And.intro
    all_goals first
      | exact True.intro
      | omega
      | decide +kernel
      | rfl
      | exact Nat.le_of_ble_eq_true rfl
      | (dsimp only; omega)
      | trace_state
  · cases hr
/-- Write, in all the shapes in which it is called. -/
def c64 : Ctr := orC c64o (orC c64v (orC c64n c64q))
theorem m64 : Meets Try.prog 64 c64 := meets_or m64o (meets_or m64v (meets_or m64n m64q))
def c65q : Ctr := fun args objs => match args, objs with
  | [.one .nilp], [] => some ⟨[], .v (.agg [.ints .u8 (List.replicate 16 0) 16]), [], []⟩
  | _, _ => none
theorem m65q : Meets Try.prog 65 c65q := by
  refine meets_of_run2 tab_ok env0 mixed [.cell 2 32] Try.func65 rfl Try.ntmps65 Try.call65 (fun t w => by simp [results, Try.results65, resS, rv1]) ?_
  intro args objs r hr hcs
  unfold c65q at hr
  split at hr
  · skip
    simp only [Option.some.injEq] at hr; subst hr
    refine ⟨rfl, ?_⟩
    conv => whnf
    refine ⟨?_, rfl, [], [], rfl, ⟨⟨rfl, rfl, rfl, trivial⟩, trivial⟩, trivial⟩
    repeat' apply And.intro
    all_goals first
      | exact True.intro
      | omega
      | decide +kernel
      | rfl
      | exact Nat.le_of_ble_eq_true rfl
      | (dsimp only; omega)
      | trace_state
  · cases hr
def c65' : Ctr := orC c65 c65q
theorem m65' : Meets Try.prog 65 c65' := meets_or m65 m65q
def env59 : Env := fun f => match f with
  | 63 => some c63
  | 64 => some c64
  | 65 => some c65'
  | _ => none
theorem env59_ok : EnvOk Try.prog env59 := by
  intro f c h
  unfold env59 at h
  split at h
  · simp only [Option.some.injEq] at h; subst h; exact m63
  · simp only [Option.some.injEq] at h; subst h; exact m64
  · simp only [Option.some.injEq] at h; subst h; exact m65'
  · cases h
def c59o : Ctr := fun args objs => match args, objs with
  | [.agg [.ints .u8 key 32], .one (.sl 0 lo m 1)], [.own 1 [.strs l q]] => some ⟨[key.length = 32, inR key 255, l.length = q, lo + m ≤ q, q ≤ 4611686018427387904], .v (.agg [.ints .u8 (refT key (flat ((l.drop lo).take m))) 16]), [], []⟩
  | _, _ => none
theorem m59o : Meets Try.prog 59 c59o := by
  refine meets_of_run2 tab_ok env59_ok mixed [.cell 4 32] Try.func59 rfl Try.ntmps59 Try.call59 (fun t w => by simp [results, Try.results59, resS, rv1]) ?_
  intro args objs r hr hcs
  unfold c59o at hr
  split at hr
  · rename_i key lo m l q
    simp only [Option.some.injEq] at hr; subst hr
    obtain ⟨h1, h2, h3, h4, h5, _⟩ := hcs
    refine ⟨rfl, ?_⟩
    conv => whnf
    have hg := wrote_good h1 h2 (good_start (r := rL key)) l lo m
    have hT := tag_good h1 h2 hg
    rw [List.nil_append] at hT
    rw [← hT]
    have hrl := (rL_spec h1 h2).2.2
    have hsl : (key.drop 16).length = 16 := by rw [List.length_drop]; omega
    simp only [show Int.toNat 0 = 0 from rfl, Int.toNat_natCast]
    rw [show splitL (clampL key) 0 0 = rL key from rfl]
    have hlt := good_lt hg
    have hwh := hg.hl
    have hwe := hg.el
    obtain ⟨W, hW⟩ : ∃ W, W = wrote (rL key) ⟨List.replicate 5 0, List.replicate 16 0, 0⟩ l lo m := ⟨_, rfl⟩
    rw [← hW] at hlt hwh hwe ⊢
    refine ⟨?_, rfl, [0], [], rfl, ⟨⟨rfl, rfl, rfl, trivial⟩, trivial⟩, ⟨rfl, rfl, rfl, trivial⟩, trivial⟩
    repeat' apply And.intro
    all_goals first
      | exact True.intro
      | exact hwh
      | exact hwe
      | exact hrl
      | exact hsl
      | omega
      | decide +kernel
      | rfl
      | exact Nat.le_of_ble_eq_true rfl
      | (dsimp only; omega)
      | trace_state
  · cases hr
def c59v : Ctr := fun args objs => match args, objs with
  | [.agg [.ints .u8 key 32], .one (.sl 0 lo m 1)], [.view 1 [.strs l q]] => some ⟨[key.length = 32, inR key 255, l.length = q, lo + m ≤ q, q ≤ 4611686018427387904], .v (.agg [.ints .u8 (refT key (flat ((l.drop lo).take m))) 16]), [], []⟩
  | _, _ => none
theorem m59v : Meets Try.prog 59 c59v := by
  refine meets_of_run2 tab_ok env59_ok mixed [.cell 4 32] Try.func59 rfl Try.ntmps59 Try.call59 (fun t w => by simp [results, Try.results59, resS, rv1]) ?_
  intro args objs r hr hcs
  unfold c59v at hr
  split at hr
  · rename_i key lo m l q
    simp only [Option.some.injEq] at hr; subst hr
    obtain ⟨h1, h2, h3, h4, h5, _⟩ := hcs
    refine ⟨rfl, ?_⟩
    conv => whnf
    have hg := wrote_good h1 h2 (good_start (r := rL key)) l lo m
    have hT := tag_good h1 h2 hg
    rw [List.nil_append] at hT
    rw [← hT]
    have hrl := (rL_spec h1 h2).2.2
    have hsl : (key.drop 16).length = 16 := by rw [List.length_drop]; omega
    simp only [show Int.toNat 0 = 0 from rfl, Int.toNat_natCast]
    rw [show splitL (clampL key) 0 0 = rL key from rfl]
    have hlt := good_lt hg
    have hwh := hg.hl
    have hwe := hg.el
    obtain ⟨W, hW⟩ : ∃ W, W = wrote (rL key) ⟨List.replicate 5 0, List.replicate 16 0, 0⟩ l lo m := ⟨_, rfl⟩
    rw [← hW] at hlt hwh hwe ⊢
    refine ⟨?_, rfl, [0], [], rfl, ⟨⟨rfl, rfl, rfl, trivial⟩, trivial⟩, ⟨rfl, rfl, rfl, trivial⟩, trivial⟩
    repeat' apply And.intro
    all_goals first
      | exact True.intro
      | exact hwh
      | exact hwe
      | exact hrl
      | exact hsl
      | omega
      | decide +kernel
      | rfl
      | exact Nat.le_of_ble_eq_true rfl
      | (dsimp only; omega)
      | trace_state
  · cases hr
def c59 : Ctr := orC c59o c59v
theorem m59 : Meets Try.prog 59 c59 := meets_or m59o m59v
end Go.Proofs.Ytjbagkimpmpfgaa

/- Poly: pieces joined; the document's example. -/
namespace Go.Proofs.Ytjbagkimpmpfgaa
open Go Go.Mx
set_option maxRecDepth 100000
set_option maxHeartbeats 4000000

theorem flat_succ (l : List ByteArray) (i : Nat) (h : i < l.length) : flat (l.take (i + 1)) = flat (l.take i) ++ bl (l.getD i ByteArray.empty) := by
  rw [flat, flat, List.take_succ_eq_append_getElem h, List.flatMap_append, List.getD_eq_getElem?_getD, List.getElem?_eq_getElem h]
  simp
theorem flat_mono (l : List ByteArray) (i j : Nat) (h : i ≤ j) : (flat (l.take i)).length ≤ (flat (l.take j)).length := by
  have : l.take j = l.take i ++ (l.take j).drop i := by
    have := List.take_append_drop i (l.take j)
    rw [List.take_take, Nat.min_eq_left h] at this
    exact this.symm
  rw [this, flat, flat, List.flatMap_append, List.length_append]
  omega
/-- The pieces, as one text. -/
def joinB (l : List ByteArray) (m : Nat) : ByteArray := ofL (flat (l.take m))
def c62 : Ctr := fun args objs => match args, objs with
  | [.one (.sl 0 0 m 1)], [.view 1 [.strs l q]] => some ⟨[l.length = q, m ≤ q, q ≤ 4611686018427387904, (flat (l.take m)).length ≤ 140737488355328], .v (.one (.str (joinB l m))), [], []⟩
  | _, _ => none
theorem m62 : Meets Try.prog 62 c62 := by
  refine meets_of_run2 tab_ok env0 mixed [.tmp 2] Try.func62 rfl Try.ntmps62 Try.call62 (fun t w => by simp [results, Try.results62, resS, rv1]) ?_
  intro args objs r hr hcs
  unfold c62 at hr
  split at hr
  · rename_i m l q
    simp only [Option.some.injEq] at hr; subst hr
    obtain ⟨h1, h2, h3, h4, _⟩ := hcs
    refine ⟨rfl, ?_⟩
    conv => whnf
    obtain ⟨F, F0, Fs, Fl, FE⟩ : ∃ F : Nat → List Int, F 0 = [] ∧ (∀ i, i < m → F (i + 1) = F i ++ bl (l.getD i ByteArray.empty)) ∧ (∀ i, i ≤ m → (F i).length ≤ 140737488355328) ∧ joinB l m = ofL (F m) := ⟨fun i => flat (l.take i), rfl, fun i hi => flat_succ l i (by omega), fun i hi => Nat.le_trans (flat_mono l i m hi) h4, rfl⟩
    obtain ⟨G, hG⟩ : ∃ G : Nat → Nat, ∀ i, G i = (F i).length := ⟨_, fun _ => rfl⟩
    rw [FE]
    refine ⟨?_, { i : Nat // i ≤ m }, fun i => ⟨(.v (.one (.sl 0 0 m 1)) :: .any :: .any :: .v (.one (.sl 1 0 (G i.1) 1)) :: .v (.one (.int .i64 i.1)) :: .any :: .any :: .any :: .any :: .any :: .any :: .any :: .any :: .any :: .any :: .any :: .any :: .any :: .any :: []), [.view 1 [.strs l q], .own 1 [.ints .u8 (F i.1) (G i.1)]]⟩, fun i => m - i.1, ⟨0, by omega⟩, ?_, fun _ => rfl, ?_⟩
    · repeat' apply And.intro
      all_goals first
        | exact True.intro
        | omega
        | decide +kernel
        | rfl
        | exact Nat.le_of_ble_eq_true rfl
        | (dsimp only; omega)
        | trace_state
    · refine ⟨[0, 1], [(1, [.ints .u8 [] 0])], rfl, ?_, ?_⟩
      · repeat' apply And.intro
        all_goals first
          | exact True.intro
          | rfl
          | exact Nat.le_refl _
          | decide +kernel
          | (rw [hG, F0]; exact rfl)
          | trace_state
      · refine ⟨⟨rfl, rfl, rfl, trivial⟩, ⟨rfl, rfl, ?_, ?_, trivial⟩, trivial⟩
        · exact F0.symm
        · rw [hG, F0]; rfl
    rintro ⟨i, hi⟩
    have hFs := Fs i
    have hGi := hG i
    have hGj := hG (i + 1)
    have hFl := Fl (i + 1)
    show run tab (fun _ => none) 1 _ ⟨(.v (.one (.sl 0 0 m 1)) :: .any :: .any :: .v (.one (.sl 1 0 (G i) 1)) :: .v (.one (.int .i64 i)) :: .any :: .any :: .any :: .any :: .any :: .any :: .any :: .any :: .any :: .any :: .any :: .any :: .any :: .any :: []), [.view 1 [.strs l q], .own 1 [.ints .u8 (F i) (G i)]]⟩ _ _
    refine run_K (P := fun K => run tab (fun _ => none) 1 _ ⟨_, _⟩ True K) ?_
    intro K hK
    obtain ⟨f, hf⟩ : ∃ f, f = F i := ⟨_, rfl⟩
    obtain ⟨g, hg⟩ : ∃ g, g = G i := ⟨_, rfl⟩
    rw [← hf] at hFs hGi ⊢
    rw [← hg] at hGi ⊢
    have e1 : isum .i64 (i : Int) 1 = ((i + 1 : Nat) : Int) := by rw [isum, i64_in] <;> omega
    conv => whnf
    refine ⟨trivial, fun hlt => ?_, fun hlt => ?_⟩
    · have hlt' : i < m := by simp at hlt; omega
      have hFs := hFs hlt'
      have hFl := hFl (by omega)
      obtain ⟨t, ht⟩ : ∃ t, t = l.getD i ByteArray.empty := ⟨_, rfl⟩
      have htl := blP_length t
      have hte : l.getD (0 + (i : Int).toNat) ByteArray.empty = t := by rw [Int.toNat_natCast, Nat.zero_add, ht]
      rw [← ht] at hFs
      have hgt : G (i + 1) = g + t.size := by rw [hGj, hFs, List.length_append, hGi, htl]
      conv => whnf
      rw [hte, e1]
      subst hK
      change _ ∧ _
      refine ⟨?_, ⟨i + 1, by omega⟩, by show m - (i + 1) < m - i; omega, [0, 2], [], rfl, ?_, ?_⟩
      · repeat' apply And.intro
        all_goals first
          | exact True.intro
          | (rw [Int.toNat_natCast]; omega)
          | (show g + t.size ≤ 9223372036854775807; omega)
          | (show (g + t.size) * 1 ≤ 140737488355328; omega)
          | (show g * 1 = g + 0; omega)
          | omega
          | decide +kernel
          | rfl
          | exact Nat.le_of_ble_eq_true rfl
          | (dsimp only; omega)
          | trace_state
      · repeat' apply And.intro
        all_goals first
          | exact True.intro
          | rfl
          | exact Nat.le_refl _
          | decide +kernel
          | (show C.sl 2 0 (g + t.size) 1 = C.sl 2 0 (G (i + 1)) 1; rw [hgt])
          | trace_state
      · refine ⟨⟨rfl, rfl, rfl, trivial⟩, ⟨rfl, rfl, hFs.symm, hgt.symm, trivial⟩, trivial⟩
    · have hlt' : i = m := by simp at hlt; omega
      subst hlt'
      conv => whnf
      subst hK
      conv => whnf
      refine ⟨?_, rfl, [0], [], rfl, ⟨?_, trivial⟩, ⟨rfl, rfl, rfl, trivial⟩, trivial⟩
      · repeat' apply And.intro
        all_goals first
          | exact True.intro
          | omega
          | decide +kernel
          | rfl
          | exact Nat.le_of_ble_eq_true rfl
          | (dsimp only; omega)
          | trace_state
      · show ofL (List.take g (List.drop 0 f)) = ofL (F i)
        rw [List.drop_zero, List.take_of_length_le (by omega), hf]
  · cases hr
def exKey : List Int := [133, 214, 190, 120, 87, 85, 109, 51, 127, 68, 82, 254, 66, 213, 6, 168, 1, 3, 128, 138, 251, 13, 178, 253, 74, 191, 246, 175, 65, 73, 245, 27]
def c61 : Ctr := fun args objs => match args, objs with
  | [], [] => some ⟨[], .v (.one (.bool true true)), [], []⟩
  | _, _ => none
def env61 : Env := fun f => match f with
  | 59 => some c59
  | _ => none
theorem env61_ok : EnvOk Try.prog env61 := by
  intro f c h
  unfold env61 at h
  split at h
  · simp only [Option.some.injEq] at h; subst h; exact m59
  · cases h
theorem m61 : Meets Try.prog 61 c61 := by
  refine meets_of_run2 tab_ok env61_ok mixed [.tmp 0] Try.func61 rfl Try.ntmps61 Try.call61 (fun t w => by simp [results, Try.results61, resS, rv1]) ?_
  intro args objs r hr hcs
  unfold c61 at hr
  split at hr
  · skip
    simp only [Option.some.injEq] at hr; subst hr
    refine ⟨rfl, ?_⟩
    conv => whnf
    have hk : inR exKey 255 := inR_mem (by decide) (by decide)
    refine ⟨?_, rfl, [], [], rfl, ⟨?_, trivial⟩, trivial⟩
    · repeat' apply And.intro
      all_goals first
        | exact True.intro
        | exact hk
        | omega
        | decide +kernel
        | rfl
        | exact Nat.le_of_ble_eq_true rfl
        | (dsimp only; omega)
        | trace_state
    · show (_ : Bool) = true
      decide +kernel
  · cases hr
end Go.Proofs.Ytjbagkimpmpfgaa

/- Poly: the laws of tags and of pieces, walked. -/
namespace Go.Proofs.Ytjbagkimpmpfgaa
open Go Go.Mx
set_option maxRecDepth 100000
set_option maxHeartbeats 4000000

theorem beq_absurd {p : Prop} {a b : List Int} (e : a = b) (h : (a == b) = false) : p := by subst e; simp at h
theorem bne_absurd {p : Prop} {a b : List Int} (e : a = b) (h : (!(a == b)) = true) : p := by subst e; simp at h
theorem flat_one' (s : ByteArray) : flat (List.take 1 (List.drop 0 ((List.replicate 1 ByteArray.empty).set 0 s))) = bl s := by simp [flat]
def env13 : Env := fun f => match f with
  | 59 => some c59
  | 60 => some c60
  | 61 => some c61
  | _ => none
theorem env13_ok : EnvOk Try.prog env13 := by
  intro f c h
  unfold env13 at h
  split at h
  · simp only [Option.some.injEq] at h; subst h; exact m59
  · simp only [Option.some.injEq] at h; subst h; exact m60
  · simp only [Option.some.injEq] at h; subst h; exact m61
  · cases h
def c13 : Ctr := fun args objs => match args, objs with
  | [.agg [.ints .u8 key 32], .one (.str s)], [] => some ⟨[key.length = 32, inR key 255, s.size ≤ 140737488351232], .v (.one (.bool true true)), [], []⟩
  | _, _ => none
theorem m13 : Meets Try.prog 13 c13 := by
  refine meets_of_run2 tab_ok env13_ok mixed [.tmp 4] Try.func13 rfl Try.ntmps13 Try.call13 (fun t w => by simp [results, Try.results13, resS, rv1]) ?_
  intro args objs r hr hcs
  unfold c13 at hr
  split at hr
  · rename_i key s
    simp only [Option.some.injEq] at hr; subst hr
    obtain ⟨h1, h2, h3, _⟩ := hcs
    refine ⟨rfl, ?_⟩
    conv => whnf
    refine ⟨?_, fun _ => ?_, fun h => beq_absurd (congrArg (refT key) (flat_one' s)) h⟩
    · repeat' apply And.intro
      all_goals first
        | exact True.intro
        | exact h1
        | exact h2
        | omega
        | decide +kernel
        | rfl
        | exact Nat.le_of_ble_eq_true rfl
        | (dsimp only; omega)
        | trace_state
    · conv => whnf
      refine ⟨?_, rfl, [], [], rfl, ⟨rfl, trivial⟩, trivial⟩
      repeat' apply And.intro
      all_goals first
        | exact True.intro
        | omega
        | decide +kernel
        | rfl
        | exact Nat.le_of_ble_eq_true rfl
        | (dsimp only; omega)
        | trace_state
  · cases hr
theorem allB_in {l : List Int} (h : inR l 255) : allB l := fun i _ => by have := h.h i; constructor <;> omega
abbrev nB : ByteArray := ⟨#[]⟩
abbrev qB : ByteArray := ⟨#[63]⟩
theorem str_absurd {p : Prop} {a b : ByteArray} (e : a = b) (h : (a.toList == b.toList) = false) : p := by subst e; simp at h
theorem wfR {l : List Int} (h : ∀ x ∈ l, (Lit.int .u8 x).wf = true) : inR l 255 := inR_mem (by decide) fun x hx => ⟨(bounds_u8 (h x hx)).1, by have := (bounds_u8 (h x hx)).2; omega⟩
def macZ : PS := start
theorem zero_r : rL (List.replicate 32 0) = List.replicate 5 0 := by decide +kernel
theorem nobody (l : List ByteArray) (n : Nat) (h : n = l.length) : tagL (List.replicate 5 0) (List.replicate 16 0) (wrote (List.replicate 5 0) ⟨List.replicate 5 0, List.replicate 16 0, 0⟩ l 0 n) = refT (List.replicate 32 0) (flat (l.take n)) := by
  have hk : inR (List.replicate 32 (0 : Int)) 255 := inR_zeros 32 (by decide)
  have hg := wrote_good (key := List.replicate 32 0) (by simp) hk (good_start (r := rL (List.replicate 32 0))) l 0 n
  have hT := tag_good (key := List.replicate 32 0) (by simp) hk hg
  rw [List.nil_append, List.drop_zero, zero_r, show (List.replicate 32 (0 : Int)).drop 16 = List.replicate 16 0 from rfl] at hT
  exact hT
def env17 : Env := fun f => match f with
  | 62 => some c62
  | f => env13 f
theorem env17_ok : EnvOk Try.prog env17 := by
  intro f c h
  unfold env17 at h
  split at h
  · simp only [Option.some.injEq] at h; subst h; exact m62
  · exact env13_ok _ _ h
theorem m65z : Meets Try.prog 65 c65' := m65'
def env17b : Env := fun f => match f with
  | 65 => some c65'
  | 64 => some c64
  | f => env17 f
theorem env17b_ok : EnvOk Try.prog env17b := by
  intro f c h
  unfold env17b at h
  split at h
  · simp only [Option.some.injEq] at h; subst h; exact m65'
  · simp only [Option.some.injEq] at h; subst h; exact m64
  · exact env17_ok _ _ h
def c17 : Ctr := fun args objs => match args, objs with
  | [.one (.sl 0 0 m 1)], [.view 1 [.strs l q]] => some ⟨[l.length = q, m = q, q ≤ 4611686018427387904, (flat l).length ≤ 140737488355328], .v (.one (.bool true true)), [], []⟩
  | _, _ => none
theorem m17 : Meets Try.prog 17 c17 := by
  refine meets_of_run2 tab_ok env17b_ok mixed [.tmp 2] Try.func17 rfl Try.ntmps17 Try.call17 (fun t w => by simp [results, Try.results17, resS, rv1]) ?_
  intro args objs r hr hcs
  unfold c17 at hr
  split at hr
  · rename_i m l q
    simp only [Option.some.injEq] at hr; subst hr
    obtain ⟨h1, h2, h3, h4, _⟩ := hcs
    refine ⟨rfl, ?_⟩
    conv => whnf
    subst h2
    obtain ⟨W, hW⟩ : ∃ W, W = wrote (List.replicate 5 0) ⟨List.replicate 5 0, List.replicate 16 0, Int.toNat 0⟩ l 0 m := ⟨_, rfl⟩
    have hT := nobody l m h1.symm
    have hk : inR (List.replicate 32 (0 : Int)) 255 := inR_zeros 32 (by decide)
    have hg := wrote_good (key := List.replicate 32 0) (by simp) hk (good_start (r := rL (List.replicate 32 0))) l 0 m
    rw [zero_r] at hg
    have hWh : W.h.length = 5 := by rw [hW]; exact hg.hl
    have hWe : W.e.length = 16 := by rw [hW]; exact hg.el
    have hWn : W.n < 16 := by rw [hW]; exact good_lt hg
    have hj : bl (joinB l m) = flat (l.take m) := bl_ofL (allB_in (flat_in _))
    have hjs : (joinB l m).size ≤ 140737488355328 := by
      rw [joinB, ofL_size, List.take_of_length_le (by omega)]; exact h4
    have hTW : tagL (List.replicate 5 0) (List.replicate 16 0) ⟨W.h, W.e, (W.n : Int).toNat⟩ = refT (List.replicate 32 0) (bl (joinB l m)) := by
      rw [Int.toNat_natCast, hj, hW]; exact hT
    rw [← hW]
    refine ⟨?_, fun _ => ?_, fun h => beq_absurd rfl h⟩
    · repeat' apply And.intro
      all_goals first
        | exact True.intro
        | omega
        | decide +kernel
        | rfl
        | exact Nat.le_of_ble_eq_true rfl
        | (dsimp only; omega)
        | trace_state
    conv => whnf
    refine ⟨?_, fun _ => ?_, fun h => beq_absurd hTW h⟩
    · have hfl : (flat (l.take m)).length ≤ 140737488355328 := by rw [List.take_of_length_le (by omega)]; exact h4
      repeat' apply And.intro
      all_goals first
        | exact True.intro
        | exact hk
        | exact h1
        | omega
        | decide +kernel
        | rfl
        | exact Nat.le_of_ble_eq_true rfl
        | (dsimp only; omega)
        | trace_state
    conv => whnf
    refine ⟨?_, rfl, [0], [], rfl, ⟨rfl, trivial⟩, ⟨rfl, rfl, rfl, trivial⟩, trivial⟩
    repeat' apply And.intro
    all_goals first
      | exact True.intro
      | omega
      | decide +kernel
      | rfl
      | exact Nat.le_of_ble_eq_true rfl
      | (dsimp only; omega)
      | trace_state
  · cases hr
def env14 : Env := fun f => match f with
  | 62 => some c62
  | f => env13 f
theorem env14_ok : EnvOk Try.prog env14 := by
  intro f c h
  unfold env14 at h
  split at h
  · simp only [Option.some.injEq] at h; subst h; exact m62
  · exact env13_ok _ _ h
def c14 : Ctr := fun args objs => match args, objs with
  | [.agg [.ints .u8 key 32], .one (.sl 0 0 m 1)], [.view 1 [.strs l q]] => some ⟨[key.length = 32, inR key 255, l.length = q, m = q, q ≤ 1048576, (flat l).length ≤ 140737488355328], .v (.one (.bool true true)), [], []⟩
  | _, _ => none
theorem m14 : Meets Try.prog 14 c14 := by
  refine meets_of_run2 tab_ok env14_ok mixed [.tmp 4] Try.func14 rfl Try.ntmps14 Try.call14 (fun t w => by simp [results, Try.results14, resS, rv1]) ?_
  intro args objs r hr hcs
  unfold c14 at hr
  split at hr
  · rename_i key m l q
    simp only [Option.some.injEq] at hr; subst hr
    obtain ⟨h1, h2, h3, h4, h5, h6, _⟩ := hcs
    refine ⟨rfl, ?_⟩
    conv => whnf
    subst h4
    have hj : bl (joinB l m) = flat (l.take m) := bl_ofL (allB_in (flat_in _))
    have hfl : (flat (l.take m)).length ≤ 140737488355328 := by rw [List.take_of_length_le (by omega)]; exact h6
    have hjs : (joinB l m).size ≤ 140737488355328 := by
      rw [joinB, ofL_size]; exact hfl
    have hLl : (List.replicate 0 nB ++ List.take m (List.drop 0 l) ++ List.take 1 (List.drop 0 ((List.replicate 1 nB).set (0 * 1) qB))).length = 0 + m + 1 := by simp; omega
    have e : flat (List.take m (List.drop 0 (List.replicate 0 nB ++ List.take m (List.drop 0 l) ++ List.take 1 (List.drop 0 ((List.replicate 1 nB).set (0 * 1) qB))))) = bl (joinB l m) := by
      rw [hj, List.drop_zero, List.replicate_zero, List.nil_append, List.drop_zero, List.take_append_of_le_length (by rw [List.length_take]; omega), List.take_take, Nat.min_self]
    have e2 : (List.replicate 0 nB ++ List.take m (List.drop 0 l) ++ List.take 1 (List.drop 0 ((List.replicate 1 nB).set (0 * 1) qB))).getD (0 + m) ByteArray.empty = qB := by
      rw [List.drop_zero, List.replicate_zero, List.nil_append, Nat.zero_add, List.getD_eq_getElem?_getD, List.getElem?_append_right (by rw [List.length_take]; omega), List.length_take]
      rw [show m - min m l.length = 0 by omega]
      rfl
    refine ⟨?_, fun _ => ?_, fun h => beq_absurd (congrArg (refT key) e) h⟩
    · repeat' apply And.intro
      all_goals first
        | exact True.intro
        | exact h2
        | exact h1
        | exact h3
        | exact hLl
        | (show 0 + m ≤ 9223372036854775807; omega)
        | (show (0 + m) * 16 ≤ 140737488355328; omega)
        | (show 0 + m + 1 ≤ 9223372036854775807; omega)
        | (show (0 + m + 1) * 16 ≤ 140737488355328; omega)
        | (show 0 + (m - 0) ≤ 0 + m + 1; omega)
        | (show (m : Int) ≤ ((0 + m + 1 : Nat) : Int); omega)
        | (show (0 + m) * 1 = 0 + m + 0; omega)
        | (show (0 : Int) ≤ (m : Int); omega)
        | omega
        | decide +kernel
        | rfl
        | exact Nat.le_of_ble_eq_true rfl
        | (dsimp only; omega)
        | trace_state
    conv => whnf
    refine ⟨?_, fun _ => ?_, fun h => ?_⟩
    · repeat' apply And.intro
      all_goals first
        | exact True.intro
        | (rw [Int.toNat_natCast]; omega)
        | (show (m : Int) < ((0 + m + 1 : Nat) : Int); omega)
        | omega
        | decide +kernel
        | rfl
        | exact Nat.le_of_ble_eq_true rfl
        | (dsimp only; omega)
        | trace_state
    · conv => whnf
      refine ⟨?_, rfl, [0], [], rfl, ⟨rfl, trivial⟩, ⟨rfl, rfl, rfl, trivial⟩, trivial⟩
      repeat' apply And.intro
      all_goals first
        | exact True.intro
        | omega
        | decide +kernel
        | rfl
        | exact Nat.le_of_ble_eq_true rfl
        | (dsimp only; omega)
        | trace_state
    · exact str_absurd e2 h
  · cases hr
end Go.Proofs.Ytjbagkimpmpfgaa

/- Statements with texts and slices of texts among their parameters: what the reading says of their sizes. Conditions: those that each lists. -/
namespace Go.Proofs.Ytjbagkimpmpfgaa
open Go Go.RowKit Go.ChangeShapes Go.WideShapes
set_option maxRecDepth 100000
theorem size_of_list (s : ByteArray) : s.data.toList.length = s.size := by rw [Array.length_toList]; rfl
theorem bulk_part {H : Type} {d : DataW H} {l : List (DataW H)} (h : d ∈ l) : Rows.uptoBulk d ≤ Rows.uptoBulkAll l := by
  induction l with
  | nil => cases h
  | cons x r ih =>
    simp only [Rows.uptoBulkAll]
    cases List.mem_cons.1 h with
    | inl e => subst e; omega
    | inr e => have := ih e; omega
section
variable {H : Type} {enc : TypeId × Value → H} {P : Program} {w : World} {base : Nat} {spare : Nat → Bool} {held : Bool}
theorem open_textD {r : Reach} {b0 : Nat} {t : TypeId} {v : Value} {d : DataW H} {ps : List MemPlace} (ht : P.underlying t = some .string) (hval : Value.okWide P w r b0 t v) (hd : DataW.Trod enc P w base spare held t v d ps) :
    ∃ s : ByteArray, v = .string s ∧ d = .lit (.string s.data.toList) ∧ s.size ≤ maxLen := by
  obtain ⟨s, rfl⟩ := okWide_string ht hval
  obtain ⟨fuel, hf⟩ := hd
  obtain ⟨s', h, hx, hs⟩ := DataW.trod_string ht hf
  simp [Value.cells] at h
  subst h
  exact ⟨s, rfl, (Prod.mk.inj hx).1, hs⟩
theorem open_sliceT {r : Reach} {b0 : Nat} {t e : TypeId} {v : Value} {d : DataW H} {ps : List MemPlace} (ht : P.underlying t = some (.slice e)) (he : P.underlying e = some .string) (hc : P.cellsOf e = 1)
    (hval : Value.okWide P w r b0 t v) (hd : DataW.Trod enc P w base spare held t v d ps) :
    ∃ (p : Mx.Place) (n : Nat) (L : List ByteArray), (∀ (ν : Mx.Pl) (i : Nat), ν i = p → v = Mx.C.den ν (.sl i 0 n 1)) ∧ L.length = n ∧ n ≤ maxLen ∧ n + (flat L).length ≤ Rows.uptoBulk d ∧ (∀ ν, Mx.MObj.fit p ν w (.view 1 [.strs L n])) := by
  obtain ⟨fuel, hf⟩ := hd
  rcases DataW.trod_slice ht hf with ⟨h, _⟩ | ⟨a, len, cap, elems, rest, m, _, h, hdx, _, hle, hcap, hlen, hel, _, _⟩
  · obtain ⟨x, l, c, rfl⟩ := okWide_slice ht hval
    simp [Value.cells] at h
    obtain ⟨rfl, rfl, rfl⟩ := h
    exact ⟨⟨0, 0, 0, true⟩, 0, [], fun ν i hi => by simp [Mx.C.den, hi], rfl, by simp [maxLen], by simp [flat], fun ν => by simp [Mx.MObj.fit, Mx.sizeS, Mx.Seg.size]⟩
  · obtain ⟨x, l, c, rfl⟩ := okWide_slice ht hval
    simp [Value.cells] at h
    obtain ⟨rfl, rfl, rfl⟩ := h
    obtain ⟨hsp, row, cells, hsh, _⟩ : a.spot = none ∧ ∃ row cells, w.shape? a.block = some (row, cells) ∧ liesAt P P.depth row (cells / P.cellsOf row) a.off e c = true := by
      simp only [Value.okWide, ht, Cell.okWide, Cell.ok, World.has] at hval
      exact hval.2.2.2
    obtain ⟨b, off, spot⟩ := a
    simp only at hsp hsh; subst hsp
    rw [hc] at hel
    have one : ∀ i, i < l → ∃ x : ByteArray, w.cell? ⟨b, off + i, none⟩ = some (.string x) ∧ ∃ q, elems[i]? = some (.lit (.string x.data.toList), q) := by
      intro i hi
      have hi' := hel i hi
      have hs : elems[i]? = some elems[i] := List.getElem?_eq_getElem (by omega)
      rw [hs, Option.bind_eq_some_iff] at hi'
      obtain ⟨vs, h1, h2⟩ := hi'
      obtain ⟨z, rfl, hx, hz⟩ := DataW.trod_string he h2
      refine ⟨z, ?_, [], by rw [hs, hx]⟩
      unfold World.cells? at h1
      split at h1
      · have := mapM_some_get h1 0 0 (by simp)
        simp only [Nat.mul_one, Go.WideShapes.add_plain, Nat.add_zero] at this
        simpa using this
      · cases h1
    have all : ∀ m, m ≤ l → ∃ L : List ByteArray, L.length = m ∧ (∀ i, i < m → w.cell? ⟨b, off + i, none⟩ = some (.string (L.getD i ByteArray.empty))) ∧ m + (flat L).length ≤ Rows.uptoBulkAll ((elems.take m).map (·.1)) := by
      intro m
      induction m with
      | zero => intro _; exact ⟨[], rfl, fun i hi => by omega, by simp [flat]⟩
      | succ m ih =>
        intro hm
        obtain ⟨L, h1, h2, h3⟩ := ih (by omega)
        obtain ⟨x, h4, q, h5⟩ := one m (by omega)
        refine ⟨L ++ [x], by simp [h1], fun i hi => ?_, ?_⟩
        · by_cases e : i = m
          · subst e; rw [h4]; simp [List.getD, ← h1]
          · rw [h2 i (by omega)]; simp [List.getD, List.getElem?_append_left (show i < L.length by omega)]
        · have e : elems.take (m + 1) = elems.take m ++ [(.lit (.string x.data.toList), q)] := by
            rw [List.take_add_one, h5]; rfl
          have e2 : ∀ (a : List (DataW H)) (z : DataW H), Rows.uptoBulkAll (a ++ [z]) = Rows.uptoBulkAll a + Rows.uptoBulk z := by
            intro a z
            induction a with
            | nil => simp [Rows.uptoBulkAll]
            | cons y a ih => simp only [List.cons_append, Rows.uptoBulkAll, ih]; omega
          rw [e, List.map_append, List.map_cons, List.map_nil, e2]
          have e3 : (flat (L ++ [x])).length = (flat L).length + x.size := by
            simp [flat, blP_length]
          rw [e3]
          simp only [Rows.uptoBulk, size_of_list]
          omega
    obtain ⟨L, h1, h2, h3⟩ := all l (Nat.le_refl _)
    refine ⟨⟨b, off, c, false⟩, l, L, fun ν i hi => ?_, h1, by omega, ?_, fun ν => ?_⟩
    · simp [Mx.C.den, hi, Mx.at_]
    · rw [List.take_of_length_le (by omega)] at h3
      rw [(Prod.mk.inj hdx).1]
      simp only [Rows.uptoBulk]
      omega
    · simp only [Mx.MObj.fit, Mx.sizeS, Mx.Seg.size, Bool.false_eq_true, if_false]
      refine ⟨shape_lt hsh, fun _ => by omega, fun j u hj => ?_⟩
      simp only [Mx.denS, Mx.Seg.den, List.append_nil, List.getElem?_map, Option.map_eq_some_iff] at hj
      obtain ⟨x, hx, rfl⟩ := hj
      have hjl : j < L.length := (List.getElem?_eq_some_iff.1 hx).1
      rw [h2 j (by omega)]
      simp [List.getD, hx]
end
end Go.Proofs.Ytjbagkimpmpfgaa
