/- Chacha: the streams. -/
import Derived.Test.YtjbagkimpmpfgaaC11
namespace Go.Proofs.Ytjbagkimpmpfgaa
open Go Go.Mx
set_option maxRecDepth 100000
set_option maxHeartbeats 4000000

theorem u8x_eq (x y : Int) : bxorI .u8 x y = ((BitVec.ofInt 8 x ^^^ BitVec.ofInt 8 y).toNat : Int) := by
  simp only [bxorI]
  show IntKind.u8.wrap (((BitVec.ofInt 8 x ^^^ BitVec.ofInt 8 y).toNat : Nat) : Int) = _
  have := (BitVec.ofInt 8 x ^^^ BitVec.ofInt 8 y).isLt
  rw [IntKind.wrap_u8]
  omega
theorem u8x_B (x y : Int) : isB (bxorI .u8 x y) := by
  rw [u8x_eq]
  have := (BitVec.ofInt 8 x ^^^ BitVec.ofInt 8 y).isLt
  constructor <;> omega
theorem u8x_twice {x : Int} (h : isB x) (y : Int) : bxorI .u8 (bxorI .u8 x y) y = x := by
  obtain ⟨h1, h2⟩ := h
  rw [u8x_eq, u8x_eq]
  have e : BitVec.ofInt 8 (((BitVec.ofInt 8 x ^^^ BitVec.ofInt 8 y).toNat : Nat) : Int) = BitVec.ofInt 8 x ^^^ BitVec.ofInt 8 y := by
    rw [BitVec.ofInt_natCast, BitVec.ofNat_toNat, BitVec.setWidth_eq]
  rw [e, BitVec.xor_assoc, BitVec.xor_self, BitVec.xor_zero, BitVec.toNat_ofInt]
  omega
def ctrI (c : Int) (j : Nat) : Int := wI (wB c + BitVec.ofNat 32 j)
theorem ctrI_W (c : Int) (j : Nat) : isW (ctrI c j) := wI_is _
theorem ctrI_zero {c : Int} (h : isW c) : ctrI c 0 = c := by
  unfold ctrI
  rw [show BitVec.ofNat 32 0 = 0#32 from rfl, BitVec.add_zero, wI_wB h]
theorem ctrI_succ (c : Int) (j : Nat) : isum .u32 (ctrI c j) 1 = ctrI c (j + 1) := by
  unfold ctrI
  rw [show (1 : Int) = wI 1#32 from rfl, u32_sum, BitVec.add_assoc]
  congr 2
  apply BitVec.eq_of_toNat_eq
  simp
theorem ctrI_ctrI (c : Int) (i j : Nat) : ctrI (ctrI c i) j = ctrI c (i + j) := by
  unfold ctrI
  rw [wB_wI, BitVec.add_assoc]
  congr 2
  apply BitVec.eq_of_toNat_eq
  simp
/-- A byte of the key stream. -/
def ksI (k : List Int) (c : Int) (n : List Int) (i : Nat) : Int := (blockI k (ctrI c (i / 64)) n).getD (i % 64) 0
def streamI (k : List Int) (c : Int) (n t : List Int) : List Int := (List.range t.length).map (fun i => bxorI .u8 (t.getD i 0) (ksI k c n i))
theorem streamI_len (k : List Int) (c : Int) (n t : List Int) : (streamI k c n t).length = t.length := by simp [streamI]
theorem streamI_get (k : List Int) (c : Int) (n t : List Int) {i : Nat} (h : i < t.length) : (streamI k c n t).getD i 0 = bxorI .u8 (t.getD i 0) (ksI k c n i) := by simp [streamI, List.getD, h]
theorem streamI_B (k : List Int) (c : Int) (n t : List Int) : allB (streamI k c n t) := fun i hi => by
  rw [streamI_len] at hi
  rw [streamI_get _ _ _ _ hi]
  exact u8x_B _ _
theorem ext_getD {l m : List Int} (hl : l.length = m.length) (h : ∀ i, i < l.length → l.getD i 0 = m.getD i 0) : l = m := by
  apply List.ext_getElem hl
  intro i h1 h2
  have := h i h1
  simpa [List.getD, h1, h2] using this
theorem streamI_twice (k : List Int) (c : Int) (n : List Int) {t : List Int} (h : allB t) : streamI k c n (streamI k c n t) = t := by
  apply ext_getD
  · rw [streamI_len, streamI_len]
  · intro i hi
    rw [streamI_len, streamI_len] at hi
    rw [streamI_get _ _ _ _ (by rw [streamI_len]; exact hi), streamI_get _ _ _ _ hi, u8x_twice (h i hi)]
/-- The first i are done. -/
def uptoI (k : List Int) (c : Int) (n t : List Int) (i : Nat) : List Int := (streamI k c n t).take i ++ t.drop i
theorem uptoI_len {k : List Int} {c : Int} {n t : List Int} {i : Nat} (h : i ≤ t.length) : (uptoI k c n t i).length = t.length := by
  rw [uptoI, List.length_append, List.length_take, List.length_drop, streamI_len]; omega
theorem uptoI_zero (k : List Int) (c : Int) (n t : List Int) : uptoI k c n t 0 = t := by simp [uptoI]
theorem uptoI_all (k : List Int) (c : Int) (n t : List Int) : uptoI k c n t t.length = streamI k c n t := by
  rw [uptoI, List.drop_length, List.append_nil, List.take_of_length_le (by rw [streamI_len]; omega)]
theorem uptoI_get {k : List Int} {c : Int} {n t : List Int} {i : Nat} (h : i < t.length) : (uptoI k c n t i).getD i 0 = t.getD i 0 := by
  have hl : ((streamI k c n t).take i).length = i := by rw [List.length_take, streamI_len]; omega
  have := getD_right (a := (streamI k c n t).take i) (b := t.drop i) (n := i) (k := 0) hl
  rw [Nat.add_zero] at this
  rw [uptoI, this]
  simp [List.getD]
theorem uptoI_step {k : List Int} {c : Int} {n t : List Int} {i : Nat} (h : i < t.length) : (uptoI k c n t i).set i (bxorI .u8 (t.getD i 0) (ksI k c n i)) = uptoI k c n t (i + 1) := by
  have hl : ((streamI k c n t).take i).length = i := by rw [List.length_take, streamI_len]; omega
  have hs : i < (streamI k c n t).length := by rw [streamI_len]; exact h
  have he : (streamI k c n t)[i] = bxorI .u8 (t.getD i 0) (ksI k c n i) := by
    have := streamI_get k c n t h
    simpa [List.getD, hs] using this
  unfold uptoI
  rw [List.set_append_right _ _ (by omega), hl, Nat.sub_self, List.drop_eq_getElem_cons h, List.set_cons_zero, List.take_succ_eq_append_getElem hs, he, List.append_assoc]
  rfl
theorem bl_ofL {l : List Int} (h : allB l) : bl (ofL l) = l := by
  unfold bl ofL
  simp only [List.map_map]
  conv => rhs; rw [← List.map_id l]
  apply List.map_congr_left
  intro x hx
  obtain ⟨h1, h2⟩ := of_allB h x hx
  simp only [Function.comp]
  rw [UInt8.toNat_ofNat']
  show ((x.toNat % 2 ^ 8 : Nat) : Int) = x
  omega
theorem bl_B (s : ByteArray) : allB (bl s) := allB_of fun x hx => by
  simp only [bl, List.mem_map] at hx
  obtain ⟨b, _, rfl⟩ := hx
  have := b.toNat_lt
  constructor <;> omega
theorem ofL_bl (s : ByteArray) : ofL (bl s) = s := by
  unfold bl ofL
  simp only [List.map_map]
  have : (fun n : Int => UInt8.ofNat n.toNat) ∘ (fun b : UInt8 => (b.toNat : Int)) = id := by
    funext b; simp
  rw [this]
  simp
theorem ofL_size (l : List Int) : (ofL l).size = l.length := by simp [ofL, ByteArray.size]
end Go.Proofs.Ytjbagkimpmpfgaa

