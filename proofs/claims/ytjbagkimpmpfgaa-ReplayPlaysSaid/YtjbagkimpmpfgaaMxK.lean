/- The engine, part K: the mark on constant bytes. Conditions: those that it lists. -/
import Derived.Test.YtjbagkimpmpfgaaMxA
namespace Go.Mx

def markC (Γ : Tab) (s d : Nat) (x : C) (ob : Option MObj) : Option Eff :=
  match Γ d, x, ob with
  | some ⟨.slice e, _, _, _⟩, .sl i lo len w, some (.own esz b) => (match Γ e with
    | some ⟨.int .u8, _, _, _⟩ => bif Nat.beq s d then some ⟨[0 < sizeS b], .v (.one (.sl i lo len w)), [(i, .own esz b)], [(i, .own esz b)], []⟩ else none
    | _ => none)
  | _, _, _ => none

theorem freeze_block (w : World) (b N : Nat) {c : Array Value} {t : TypeId} {fz : Nat × Nat} (h : w.heap[b]? = some (.cells c t fz)) (hf : fz = (0, 0) ∨ fz = (N, N + 1)) :
    (w.freeze ⟨b, N, none⟩ 1).heap[b]? = some (.cells c t (N, N + 1)) := by
  unfold World.freeze
  rw [if_neg (by decide)]
  simp only [Array.getElem?_modify, if_true, h, Option.map_some]
  rcases hf with rfl | rfl
  · simp
  · have : (N == N + 1) = false := by simp
    simp [this]
theorem freeze_other (w : World) (b N k : Nat) (h : k ≠ b) : (w.freeze ⟨b, N, none⟩ 1).heap[k]? = w.heap[k]? := by
  unfold World.freeze
  rw [if_neg (by decide)]
  simp only [Array.getElem?_modify]
  rw [if_neg (by omega)]
theorem freeze_same (w : World) (a : Addr) : (w.freeze a 1).os = w.os ∧ (w.freeze a 1).tape = w.tape ∧ (w.freeze a 1).output = w.output ∧ (w.freeze a 1).heap.size = w.heap.size := by
  unfold World.freeze
  rw [if_neg (by decide)]
  exact ⟨rfl, rfl, rfl, by simp⟩

theorem run_mark {P : Program} (w : World) (t e : TypeId) {blk off N : Nat} {c : Array Value} {ct : TypeId} {fz : Nat × Nat} (n cp : Nat) (ht : P.underlying t = some (.slice e)) (he : P.underlying e = some (.int .u8)) (hb : w.heap[blk]? = some (.cells c ct fz)) (hN : c.size = N) :
    (convert t t (.slice (some ⟨blk, off, none⟩) n cp)).run P w = .ok (.slice (some ⟨blk, off, none⟩) n cp) (w.freeze ⟨blk, N, none⟩ 1) := by
  have hsh : w.shape? blk = some (ct, c.size) := by
    unfold World.shape?
    rw [hb]
  subst hN
  simp [convert, run_underlying ht, run_underlying he, markStringish, hsh]

section
variable {X : Ctx} {Q : Exit → Act → World → Prop} {Γ : Tab} (hΓ : Γ.Ok X.P) {dst : Option Nat} {ty : TypeId} {pos : String} {aft : Array Edge} {gd : Option (Nat × Bool)} {slots : List (Nat × V)} (hdt : ∀ x, dst = some x → x < X.nt)
include hΓ hdt
theorem mark_ok {sT dT : Nat} {x : Operand} {c : C} {f : Eff} {g : Nat → V} {ob : Option MObj} (h : markC Γ sT dT c ob = some f) (hc : AllP f.cs) (hx : ov g x = .v (.one c))
    (hsl : ∀ s : St, (f.toR dst slots).valid s → ov s.tmp x = ov g x) : WpOk X Q ⟨dst, .convert sT dT x, ty, pos, aft, gd⟩ (f.toR dst slots) := by
  unfold markC at h
  split at h
  · rename_i e _ _ _ i lo len w' esz b hD
    split at h
    · rename_i _ _ _ hE
      cases hb : Nat.beq sT dT with
      | false => rw [hb] at h; simp at h
      | true =>
        rw [hb] at h; simp at h; subst h
        have e1 := Nat.eq_of_beq_eq_true hb
        subst e1
        have hpos : 0 < sizeS b := hc.1
        intro s a w K hv hs hK
        obtain ⟨ν, hs⟩ := hs
        have hi : s.hp i = some (.own esz b) := hv.2.1 (i, _) (by simp [Eff.toR])
        obtain ⟨d2, hd2, hk2⟩ := (hΓ _ _ hD).und
        simp only [TK.Is] at hk2; subst hk2
        obtain ⟨d3, hd3, hk3⟩ := (hΓ _ _ hE).und
        simp only [TK.Is] at hk3; subst hk3
        have hxv := ov_rel hs x
        rw [hsl s hv, hx] at hxv
        have hlen : (denS ν b).length = sizeS b := denS_len (hs.fit.ok i _ hi)
        have hn := not_nil_of hs.fit hi (by omega)
        obtain ⟨hb0, spare, t, fz, hh, hf, hcp⟩ := own_block hs.fit hi hn
        have hval := hxv.1
        simp only [V.rel, V1.den, C.den, hn, Bool.false_eq_true, if_false, at_, hb0] at hval
        have hsz : (denS ν b ++ spare).toArray.size = (denS ν b).length + spare.length := by simp
        have hrun := run_mark (P := X.P) w sT e (len) ((ν i).cap - lo) (off := 0 + if (ν i).cap = lo then 0 else lo * w') hd2 hd3 hh hsz
        unfold Oper.wp
        have hr2 : (execOp a.eval ⟨dst, .convert sT sT x, ty, pos, aft, gd⟩).run X.P w = .ok (.value (a.eval x)) (w.freeze ⟨(ν i).blk, (denS ν b).length + spare.length, none⟩ 1) := by
          refine lift1 ?_
          rw [hval]; exact hrun
        rw [hr2]
        simp only [Oper.upon]
        obtain ⟨s1, s2, s3, s4⟩ := freeze_same w ⟨(ν i).blk, (denS ν b).length + spare.length, none⟩
        refine hK _ _ ⟨ν, ?_⟩
        have hsame : updF [(i, MObj.own esz b)] s.hp = s.hp := by
          funext k
          rw [updF_one]
          split
          · rename_i hk; subst hk; exact hi.symm
          · rfl
        simp only [Rec.app, Eff.toR]
        rw [hsame]
        refine hs.next (fun _ _ => rfl) (fun _ h => h) hdt ?_ hxv.2 ?_ s1 s2 s3 (by rw [s4]; exact Nat.le_refl _) ?_ hs.inM
        · exact hxv.1
        · refine hs.fit.one i (fun _ _ => rfl) (fun _ h => h) (fun j o hj ho => .inr ⟨ho, fun hho => freeze_other w _ _ _ ?_⟩) (by rw [s4]; exact Nat.le_refl _) (fun o ho => ?_)
          · exact (hs.fit.apart i j _ o (Ne.symm hj) hi ho hn hho).symm
          · rw [hi] at ho; simp at ho; subst ho
            refine ⟨?_, hs.fit.ok i _ hi, fun j o' hj ho' ho'' => ⟨fun h1 h2 => hs.fit.apart i j _ o' (Ne.symm hj) hi ho'' hn h2, fun h1 _ => hs.fit.apart j i o' _ hj ho'' hi h1 hn⟩⟩
            simp only [MObj.fit, hn, Bool.false_eq_true, if_false]
            exact ⟨hb0, spare, t, _, freeze_block w _ _ hh hf, .inr rfl, hcp⟩
        · intro k hk hM
          refine freeze_other w _ _ k ?_
          rcases hs.inM i _ hi hn with h1 | h1
          · intro e; rw [e] at hM; exact hM h1
          · omega
    · cases h
  · cases h
end
end Go.Mx
