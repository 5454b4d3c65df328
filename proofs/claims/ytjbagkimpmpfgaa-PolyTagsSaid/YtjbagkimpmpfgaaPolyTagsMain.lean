/- Whatever key and text it is given, PolyTags answers true, and what it is given reads as it did. Conditions: none. -/
import Derived.Test.YtjbagkimpmpfgaaRows
import Derived.WalkKit
import Derived.ProofKit
import Derived.OpenShut
import Derived.Test.YtjbagkimpmpfgaaLO
import Derived.Test.YtjbagkimpmpfgaaLB
import Derived.Test.YtjbagkimpmpfgaaLQ
set_option linter.unusedSimpArgs false
set_option linter.unusedVariables false
namespace Go.Proofs.Ytjbagkimpmpfgaa.polyTags
open Go.ChangeShapes Go.WideShapes Go.ChangeAt Go.RowKit
set_option linter.unusedVariables false

theorem own : ownKnob Try.prog.godebug = none := by kernel_rfl

theorem walk (l0 : List Int) (n0 : l0.length = 32) (w0 : ∀ x ∈ l0, (Lit.int .u8 x).wf = true) (s1 : ByteArray) (n1 : s1.size ≤ 140737488351232) (w : World) :
    Calls Try.prog 13 #[.agg (l0.map (.int .u8)).toArray, .string s1] w fun e w' => e = .returned (.bool true) ∧ Below w.heap.size w w' := by
  have h := Mx.law_of_meets m13 (args := [.agg [.ints .u8 l0 32], .one (.str s1)]) rfl ⟨n0, wfR w0, n1, trivial⟩ (by simp [Mx.V1.ok, Mx.C.ok, Mx.okS, Mx.Seg.ok, n0]) w
  simpa [Mx.V1.den, Mx.C.den, Mx.denS, Mx.Seg.den] using h

theorem inside : (Try.f13.params.toList.all fun t => decide (t < Try.prog.types.size)) = true := by kernel_rfl
set_option maxRecDepth 100000 in
theorem lifted (os : Os) (started : os.Started) (H : Type) (enc : TypeId × Value → H) :
    ReturnsInHanded {} Try.checked os 13 .any (Rows.polyTagsSpec.pre6 enc Try.prog Try.f13 Rows.polyTagsRow.domain false) (Rows.polyTagsSpec.post enc Try.prog Try.f13 false true false false) := by
  refine returnsInHanded_of_change_sized (C := Try.checked) own started (by kernel_rfl) Try.func13
    (ChangeSpec.witness6 (enc := enc) (C := Try.checked) false ⟨#[], #[.agg #[.int .u8 0, .int .u8 0, .int .u8 0, .int .u8 0, .int .u8 0, .int .u8 0, .int .u8 0, .int .u8 0, .int .u8 0, .int .u8 0, .int .u8 0, .int .u8 0, .int .u8 0, .int .u8 0, .int .u8 0, .int .u8 0, .int .u8 0, .int .u8 0, .int .u8 0, .int .u8 0, .int .u8 0, .int .u8 0, .int .u8 0, .int .u8 0, .int .u8 0, .int .u8 0, .int .u8 0, .int .u8 0, .int .u8 0, .int .u8 0, .int .u8 0, .int .u8 0], .string ⟨#[]⟩], []⟩ 8 (by kernel_rfl) (by kernel_rfl) (by kernel_rfl) (by kernel_rfl)) ?_
  intro W base args ds gs before hval0 hW hcnd hsz0 _
  have hval : ∀ (j : Nat) t v, Try.f13.params[j]? = some t → args[j]? = some v → Value.okWide Try.prog W .any base t v := hval0
  have hW' := hW
  obtain ⟨p, q, hA0, hV, rfl, hfz, hnd⟩ := hW
  have hA : DataW.TrodAll enc Try.prog W 0 (fun _ => true) true Try.f13.params.toList args.toList ds p := hA0
  rw [Try.params13] at hA hval
  obtain ⟨v0, vs0, d0, ds0, p0, q0, hargs, rfl, rfl, h0, r0⟩ := trodAll_cons hA
  obtain ⟨v1, vs1, d1, ds1, p1, q1, rfl, rfl, rfl, h1, r1⟩ := trodAll_cons r0
  obtain ⟨rfl, rfl, rfl⟩ := trodAll_nil r1
  obtain rfl : args = #[v0, v1] := by cases args; simp_all
  obtain ⟨l0, rfl, n0, w0⟩ := open_ints (k := .u8) Try.underlying30 Try.underlying5 (by kernel_rfl) (by kernel_rfl) (by decide) h0
  obtain ⟨s1, rfl, rfl, n1⟩ := open_textD Try.underlying9 (hval 1 9 v1 rfl rfl) h1
  have n1 : s1.size ≤ 140737488351232 := size_of_list s1 ▸ sized_string hsz0 (j := 1) (t := 9) rfl rfl
  refine (walk l0 n0 w0 s1 n1 W ).mono fun e W' ⟨he, hg⟩ => ?_
  subst he
  exact ⟨_, rfl, law_post rfl (fun t ht => of_decide_eq_true (List.all_eq_true.1 inside t ht)) rfl hW' rfl hg⟩

theorem facts : joinedFacts Try.prog 13 Try.f13 Rows.polyTagsSpec Rows.polyTagsRow = true := by
  unfold joinedFacts
  rw [may, lifts, make]
  kernel_rfl

theorem over : Rows.polyTagsRow.holds Try.pinned (OpenSpec.ofChange Rows.polyTagsSpec) :=
  OpenClaim.holds_of_wide 13 Try.f13 rfl rfl rfl rfl rfl rfl rfl ⟨rfl, rfl, rfl, rfl, rfl⟩ rfl rfl rfl rfl rfl (by kernel_rfl) Try.func13 facts
    (of_decide_eq_true (by kernel_rfl)) (by unfold Func.isWrapper; first | (rw [if_pos (by decide +kernel)]; kernel_rfl) | (rw [if_neg (by decide +kernel)]; exact ⟨rfl, rfl⟩))
    (fun os started H enc _ => lifted os started H enc)

/-- THE STATEMENT. -/
theorem proved : Rows.PolyTagsSaid :=
  over
#print axioms proved
end Go.Proofs.Ytjbagkimpmpfgaa.polyTags
