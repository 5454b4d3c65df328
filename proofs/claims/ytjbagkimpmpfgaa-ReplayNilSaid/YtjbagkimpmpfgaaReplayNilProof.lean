/- Whatever number it is given, ReplayNil answers true, and what it is given reads as it did. Conditions: none. -/
import Derived.Test.YtjbagkimpmpfgaaRows
import Derived.WalkKit
import Derived.ProofKit
import Derived.OpenShut
import Derived.Test.YtjbagkimpmpfgaaOver
import Derived.Test.YtjbagkimpmpfgaaLaw
import Derived.Test.YtjbagkimpmpfgaaFrame
import Derived.Test.YtjbagkimpmpfgaaR18
namespace Go.Proofs.Ytjbagkimpmpfgaa.replayNil
open Go.ChangeShapes Go.WideShapes Go.ChangeAt Go.RowKit
set_option linter.unusedVariables false

theorem own : ownKnob Try.prog.godebug = none := by kernel_rfl

theorem walk (a0 : Int) (w0 : (Lit.int .u64 a0).wf = true) (w : World) :
    Calls Try.prog 11 #[.int .u64 a0] w fun e w' => e = .returned (.bool true) ∧ Below w.heap.size w w' := by
  have h := Mx.law_of_meets m11 (args := [.one (.int .u64 a0)]) rfl trivial (by simp [Mx.V1.ok, Mx.C.ok, Mx.okS, Mx.Seg.ok]) w
  simpa [Mx.V1.den, Mx.C.den, Mx.denS, Mx.Seg.den] using h

theorem inside : (Try.f11.params.toList.all fun t => decide (t < Try.prog.types.size)) = true := by kernel_rfl
set_option maxRecDepth 100000 in
theorem lifted (os : Os) (started : os.Started) (H : Type) (enc : TypeId × Value → H) :
    ReturnsInHanded {} Try.checked os 11 .any (Rows.replayNilSpec.pre6 enc Try.prog Try.f11 Rows.replayNilRow.domain false) (Rows.replayNilSpec.post enc Try.prog Try.f11 false true false false) := by
  refine returnsInHanded_of_change (C := Try.checked) own started (by kernel_rfl) Try.func11
    (ChangeSpec.witness6 (enc := enc) (C := Try.checked) false ⟨#[], #[.int .u64 0], []⟩ 8 (by kernel_rfl) (by kernel_rfl) (by kernel_rfl) (by kernel_rfl)) ?_
  intro W base args ds gs before hval0 hW hcnd _
  have hval : ∀ (j : Nat) t v, Try.f11.params[j]? = some t → args[j]? = some v → Value.okWide Try.prog W .any base t v := hval0
  have hW' := hW
  obtain ⟨p, q, hA0, hV, rfl, hfz, hnd⟩ := hW
  have hA : DataW.TrodAll enc Try.prog W 0 (fun _ => true) true Try.f11.params.toList args.toList ds p := hA0
  rw [Try.params11] at hA hval
  obtain ⟨v0, vs0, d0, ds0, p0, q0, hargs, rfl, rfl, h0, r0⟩ := trodAll_cons hA
  obtain ⟨rfl, rfl, rfl⟩ := trodAll_nil r0
  obtain rfl : args = #[v0] := by cases args; simp_all
  obtain ⟨a0, rfl, rfl, rfl, w0⟩ := open_int Try.underlying47 (hval 0 47 v0 rfl rfl) h0
  refine (walk a0 w0 W ).mono fun e W' ⟨he, hg⟩ => ?_
  subst he
  exact ⟨_, rfl, law_post rfl (fun t ht => of_decide_eq_true (List.all_eq_true.1 inside t ht)) rfl hW' rfl hg⟩

theorem facts : joinedFacts Try.prog 11 Try.f11 Rows.replayNilSpec Rows.replayNilRow = true := by
  unfold joinedFacts
  rw [may, lifts, make]
  kernel_rfl

theorem over : Rows.replayNilRow.holds Try.pinned (OpenSpec.ofChange Rows.replayNilSpec) :=
  OpenClaim.holds_of_wide 11 Try.f11 rfl rfl rfl rfl rfl rfl rfl ⟨rfl, rfl, rfl, rfl, rfl⟩ rfl rfl rfl rfl rfl (by kernel_rfl) Try.func11 facts
    (of_decide_eq_true (by kernel_rfl)) (by unfold Func.isWrapper; first | (rw [if_pos (by decide +kernel)]; kernel_rfl) | (rw [if_neg (by decide +kernel)]; exact ⟨rfl, rfl⟩))
    (fun os started H enc _ => lifted os started H enc)

/-- THE STATEMENT. -/
theorem proved : Rows.ReplayNilSaid :=
  over
#print axioms proved
end Go.Proofs.Ytjbagkimpmpfgaa.replayNil
