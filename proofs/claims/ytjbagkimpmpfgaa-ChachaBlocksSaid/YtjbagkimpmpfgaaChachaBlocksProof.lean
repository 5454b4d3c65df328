/- Whatever key, counter and nonce it is given, ChachaBlocks answers true, and what it is given reads as it did. Conditions: none. -/
import Derived.Test.YtjbagkimpmpfgaaRows
import Derived.WalkKit
import Derived.ProofKit
import Derived.OpenShut
import Derived.Test.YtjbagkimpmpfgaaOver
import Derived.Test.YtjbagkimpmpfgaaLaw
import Derived.Test.YtjbagkimpmpfgaaFrame
import Derived.Test.YtjbagkimpmpfgaaC11
namespace Go.Proofs.Ytjbagkimpmpfgaa.chachaBlocks
open Go.ChangeShapes Go.WideShapes Go.ChangeAt Go.RowKit
set_option linter.unusedVariables false

theorem own : ownKnob Try.prog.godebug = none := by kernel_rfl

theorem walk (l0 : List Int) (n0 : l0.length = 32) (w0 : ∀ x ∈ l0, (Lit.int .u8 x).wf = true) (a1 : Int) (w1 : (Lit.int .u32 a1).wf = true) (l2 : List Int) (n2 : l2.length = 12) (w2 : ∀ x ∈ l2, (Lit.int .u8 x).wf = true) (w : World) :
    Calls Try.prog 5 #[.agg (l0.map (.int .u8)).toArray, .int .u32 a1, .agg (l2.map (.int .u8)).toArray] w fun e w' => e = .returned (.bool true) ∧ Below w.heap.size w w' := by
  have h := Mx.law_of_meets m5 (args := [.agg [.ints .u8 l0 32], .one (.int .u32 a1), .agg [.ints .u8 l2 12]]) rfl ⟨wfB w0, n0, wfW w1, wfB w2, n2, trivial⟩ (by simp [Mx.V1.ok, Mx.C.ok, Mx.okS, Mx.Seg.ok, n0, n2]) w
  simpa [Mx.V1.den, Mx.C.den, Mx.denS, Mx.Seg.den] using h

theorem inside : (Try.f5.params.toList.all fun t => decide (t < Try.prog.types.size)) = true := by kernel_rfl
set_option maxRecDepth 100000 in
theorem lifted (os : Os) (started : os.Started) (H : Type) (enc : TypeId × Value → H) :
    ReturnsInHanded {} Try.checked os 5 .any (Rows.chachaBlocksSpec.pre6 enc Try.prog Try.f5 Rows.chachaBlocksRow.domain false) (Rows.chachaBlocksSpec.post enc Try.prog Try.f5 false true false false) := by
  refine returnsInHanded_of_change (C := Try.checked) own started (by kernel_rfl) Try.func5
    (ChangeSpec.witness6 (enc := enc) (C := Try.checked) false ⟨#[], #[.agg #[.int .u8 0, .int .u8 0, .int .u8 0, .int .u8 0, .int .u8 0, .int .u8 0, .int .u8 0, .int .u8 0, .int .u8 0, .int .u8 0, .int .u8 0, .int .u8 0, .int .u8 0, .int .u8 0, .int .u8 0, .int .u8 0, .int .u8 0, .int .u8 0, .int .u8 0, .int .u8 0, .int .u8 0, .int .u8 0, .int .u8 0, .int .u8 0, .int .u8 0, .int .u8 0, .int .u8 0, .int .u8 0, .int .u8 0, .int .u8 0, .int .u8 0, .int .u8 0], .int .u32 0, .agg #[.int .u8 0, .int .u8 0, .int .u8 0, .int .u8 0, .int .u8 0, .int .u8 0, .int .u8 0, .int .u8 0, .int .u8 0, .int .u8 0, .int .u8 0, .int .u8 0]], []⟩ 8 (by kernel_rfl) (by kernel_rfl) (by kernel_rfl) (by kernel_rfl)) ?_
  intro W base args ds gs before hval0 hW hcnd _
  have hval : ∀ (j : Nat) t v, Try.f5.params[j]? = some t → args[j]? = some v → Value.okWide Try.prog W .any base t v := hval0
  have hW' := hW
  obtain ⟨p, q, hA0, hV, rfl, hfz, hnd⟩ := hW
  have hA : DataW.TrodAll enc Try.prog W 0 (fun _ => true) true Try.f5.params.toList args.toList ds p := hA0
  rw [Try.params5] at hA hval
  obtain ⟨v0, vs0, d0, ds0, p0, q0, hargs, rfl, rfl, h0, r0⟩ := trodAll_cons hA
  obtain ⟨v1, vs1, d1, ds1, p1, q1, rfl, rfl, rfl, h1, r1⟩ := trodAll_cons r0
  obtain ⟨v2, vs2, d2, ds2, p2, q2, rfl, rfl, rfl, h2, r2⟩ := trodAll_cons r1
  obtain ⟨rfl, rfl, rfl⟩ := trodAll_nil r2
  obtain rfl : args = #[v0, v1, v2] := by cases args; simp_all
  obtain ⟨l0, rfl, n0, w0⟩ := open_ints (k := .u8) Try.underlying30 Try.underlying5 (by kernel_rfl) (by kernel_rfl) (by decide) h0
  obtain ⟨a1, rfl, rfl, rfl, w1⟩ := open_int Try.underlying22 (hval 1 22 v1 rfl rfl) h1
  obtain ⟨l2, rfl, n2, w2⟩ := open_ints (k := .u8) Try.underlying31 Try.underlying5 (by kernel_rfl) (by kernel_rfl) (by decide) h2
  refine (walk l0 n0 w0 a1 w1 l2 n2 w2 W).mono fun e W' ⟨he, hg⟩ => ?_
  subst he
  exact ⟨_, rfl, law_post rfl (fun t ht => of_decide_eq_true (List.all_eq_true.1 inside t ht)) rfl hW' rfl hg⟩

theorem facts : joinedFacts Try.prog 5 Try.f5 Rows.chachaBlocksSpec Rows.chachaBlocksRow = true := by
  unfold joinedFacts
  rw [may, lifts, make]
  kernel_rfl

theorem over : Rows.chachaBlocksRow.holds Try.pinned (OpenSpec.ofChange Rows.chachaBlocksSpec) :=
  OpenClaim.holds_of_wide 5 Try.f5 rfl rfl rfl rfl rfl rfl rfl ⟨rfl, rfl, rfl, rfl, rfl⟩ rfl rfl rfl rfl rfl (by kernel_rfl) Try.func5 facts
    (of_decide_eq_true (by kernel_rfl)) (by unfold Func.isWrapper; first | (rw [if_pos (by decide +kernel)]; kernel_rfl) | (rw [if_neg (by decide +kernel)]; exact ⟨rfl, rfl⟩))
    (fun os started H enc _ => lifted os started H enc)

/-- THE STATEMENT. -/
theorem proved : Rows.ChachaBlocksSaid :=
  over
#print axioms proved
end Go.Proofs.Ytjbagkimpmpfgaa.chachaBlocks
