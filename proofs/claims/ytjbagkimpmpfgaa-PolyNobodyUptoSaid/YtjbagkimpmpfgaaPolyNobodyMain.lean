/- Whatever pieces it is given, within the bound of the second form, PolyNobody answers true, and what it is given reads as it did. Conditions: none. -/
import Derived.Test.YtjbagkimpmpfgaaRows
import Derived.WalkKit
import Derived.ProofKit
import Derived.OpenShut
import Derived.Test.YtjbagkimpmpfgaaLO
import Derived.Test.YtjbagkimpmpfgaaLB
import Derived.Test.YtjbagkimpmpfgaaLQ
set_option linter.unusedSimpArgs false
set_option linter.unusedVariables false
namespace Go.Proofs.Ytjbagkimpmpfgaa.polyNobody
open Go.ChangeShapes Go.WideShapes Go.ChangeAt Go.RowKit
set_option linter.unusedVariables false

theorem own : ownKnob Try.prog.godebug = none := by kernel_rfl

theorem walk (p0 : Mx.Place) (k0 : Nat) (l0 : List ByteArray) (n0 : l0.length = k0) (m0 : k0 ≤ maxLen) (w0 : k0 + (flat l0).length ≤ 1048576) (w : World) (f0 : ∀ ν, Mx.MObj.fit p0 ν w (.view 1 [.strs l0 k0])) :
    Calls Try.prog 17 #[Mx.C.den (plOf [p0]) (.sl 0 0 k0 1)] w fun e w' => e = .returned (.bool true) ∧ Below w.heap.size w w' := by
  have F : Mx.FitH (plOf [p0]) (Mx.hpL [.view 1 [.strs l0 k0]]) w := Mx.fit_views (fun i o hi => by
    match i, hi with
    | 0, hi => cases hi; exact f0 _
    | _ + 1, hi => simp at hi
    ) (fun i o hi => by
    match i, hi with
    | 0, hi => cases hi; exact ⟨n0, trivial⟩
    | _ + 1, hi => simp at hi
    ) (fun o ho p h => by simp only [List.mem_cons, List.not_mem_nil, or_false] at ho; rcases ho with rfl <;> exact h)
  have h := Mx.law_of_view m17 (args := [.one (.sl 0 0 k0 1)]) (objs := [.view 1 [.strs l0 k0]]) rfl ⟨n0, rfl, by omega, by omega, trivial⟩ F (by simp [Mx.V1.ok, Mx.C.ok, Mx.okS, Mx.Seg.ok, Mx.dom, Mx.hpL]) (fun o ho p h => by simp only [List.mem_cons, List.not_mem_nil, or_false] at ho; rcases ho with rfl <;> exact h)
  simp only [List.map, Mx.V1.den, Mx.denS, Mx.Seg.den, List.append_nil] at h
  exact h

theorem inside : (Try.f17.params.toList.all fun t => decide (t < Try.prog.types.size)) = true := by kernel_rfl
set_option maxRecDepth 100000 in
theorem lifted (os : Os) (started : os.Started) (H : Type) (enc : TypeId × Value → H) (F : Stop.Interp) :
    ReturnsInHanded {} Try.checked os 17 .any ((Rows.OpenSpec.upto Rows.polyNobodySpec).pre6 enc Try.prog Try.f17 Rows.polyNobodyUptoRow.domain false) (((Rows.OpenSpec.upto Rows.polyNobodySpec).at F).post enc Try.prog Try.f17 false true false false) := by
  refine returnsInHanded_of_cond (C := Try.checked) (s := Rows.OpenSpec.upto Rows.polyNobodySpec) (k := Rows.uptoSmall) rfl own started (by kernel_rfl) Try.func17
    (OpenSpec.witness (enc := enc) (C := Try.checked) (s := Rows.OpenSpec.upto Rows.polyNobodySpec) (k := Rows.uptoSmall) rfl false ⟨#[], #[.slice none 0 0], []⟩ 8 (by kernel_rfl) (by kernel_rfl) (by kernel_rfl)
      (x := ([.nil], [], [])) (by kernel_rfl) rfl (by kernel_rfl)) ?_
  intro W base args ds gs before hval0 hW hcnd hk0 _
  have hb : Rows.uptoBulkAll (ds ++ gs) ≤ 1048576 := of_decide_eq_true hk0
  have hval : ∀ (j : Nat) t v, Try.f17.params[j]? = some t → args[j]? = some v → Value.okWide Try.prog W .any base t v := hval0
  have hW' := hW
  obtain ⟨p, q, hA0, hV, rfl, hfz, hnd⟩ := hW
  have hA : DataW.TrodAll enc Try.prog W 0 (fun _ => true) true Try.f17.params.toList args.toList ds p := hA0
  rw [Try.params17] at hA hval
  obtain ⟨v0, vs0, d0, ds0, p0, q0, hargs, rfl, rfl, h0, r0⟩ := trodAll_cons hA
  obtain ⟨rfl, rfl, rfl⟩ := trodAll_nil r0
  obtain rfl : args = #[v0] := by cases args; simp_all
  obtain ⟨rfl, rfl⟩ := trodVars_none hV
  rw [List.append_nil] at hb
  obtain ⟨p0, k0, l0, e0, n0, m0, w0, f0⟩ := open_sliceT Try.underlying73 Try.underlying9 (by kernel_rfl) (hval 0 73 v0 rfl rfl) h0
  obtain rfl := e0 (plOf [p0]) 0 rfl
  have hb : Rows.uptoBulkAll [d0] ≤ 1048576 := hb
  have w0 : k0 + (flat l0).length ≤ 1048576 := by have h := bulk_part (d := d0) (l := [d0]) (by simp); omega
  refine (walk p0 k0 l0 n0 m0 w0 W f0).mono fun e W' ⟨he, hg⟩ => ?_
  subst he
  exact ⟨_, rfl, law_post rfl (fun t ht => of_decide_eq_true (List.all_eq_true.1 inside t ht)) rfl hW' rfl hg⟩

theorem facts : joinedFacts Try.prog 17 Try.f17 (Rows.OpenSpec.upto Rows.polyNobodySpec).bare Rows.polyNobodyUptoRow = true := by
  unfold joinedFacts
  rw [may, lifts, make]
  kernel_rfl

theorem over : Rows.polyNobodyUptoRow.holds Try.pinned (Rows.OpenSpec.upto Rows.polyNobodySpec) :=
  OpenClaim.holds_of_cond 17 Try.f17 rfl rfl rfl rfl rfl rfl rfl ⟨rfl, rfl, rfl, rfl, rfl⟩ rfl rfl rfl rfl rfl (by kernel_rfl) Try.func17 facts
    (of_decide_eq_true (by kernel_rfl)) (by unfold Func.isWrapper; first | (rw [if_pos (by decide +kernel)]; kernel_rfl) | (rw [if_neg (by decide +kernel)]; exact ⟨rfl, rfl⟩))
    (fun os started H enc _ F => lifted os started H enc F)

/-- THE STATEMENT. -/
theorem proved : Rows.PolyNobodyUptoSaid :=
  over
#print axioms proved
end Go.Proofs.Ytjbagkimpmpfgaa.polyNobody
