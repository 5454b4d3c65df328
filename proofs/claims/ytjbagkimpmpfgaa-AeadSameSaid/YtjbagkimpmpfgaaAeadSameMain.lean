/- Whatever texts and counter it is given, AeadSame answers true, and what it is given reads as it did. Conditions: none. -/
import Derived.Test.YtjbagkimpmpfgaaRows
import Derived.WalkKit
import Derived.ProofKit
import Derived.OpenShut
import Derived.Test.YtjbagkimpmpfgaaLO
import Derived.Test.YtjbagkimpmpfgaaLB
import Derived.Test.YtjbagkimpmpfgaaLQ
import Derived.Test.YtjbagkimpmpfgaaLE
set_option linter.unusedSimpArgs false
set_option linter.unusedVariables false
namespace Go.Proofs.Ytjbagkimpmpfgaa.aeadSame
open Go.ChangeShapes Go.WideShapes Go.ChangeAt Go.RowKit
set_option linter.unusedVariables false

theorem own : ownKnob Try.prog.godebug = none := by kernel_rfl

theorem walk (s0 : ByteArray) (n0 : s0.size ≤ 140737488351232) (s1 : ByteArray) (n1 : s1.size ≤ 140737488351232) (a2 : Int) (w2 : (Lit.int .u64 a2).wf = true) (w : World) :
    Calls Try.prog 18 #[.string s0, .string s1, .int .u64 a2] w fun e w' => e = .returned (.bool true) ∧ Below w.heap.size w w' := by
  have h := Mx.law_of_meets m18 (args := [.one (.str s0), .one (.str s1), .one (.int .u64 a2)]) rfl ⟨by omega, by omega, bounds_u64 w2, trivial⟩ (by simp [Mx.V1.ok, Mx.C.ok, Mx.okS, Mx.Seg.ok]) w
  simpa [Mx.V1.den, Mx.C.den, Mx.denS, Mx.Seg.den] using h

theorem inside : (Try.f18.params.toList.all fun t => decide (t < Try.prog.types.size)) = true := by kernel_rfl
set_option maxRecDepth 100000 in
theorem lifted (os : Os) (started : os.Started) (H : Type) (enc : TypeId × Value → H) :
    ReturnsInHanded {} Try.checked os 18 .any (Rows.aeadSameSpec.pre6 enc Try.prog Try.f18 Rows.aeadSameRow.domain false) (Rows.aeadSameSpec.post enc Try.prog Try.f18 false true false false) := by
  refine returnsInHanded_of_change_sized (C := Try.checked) own started (by kernel_rfl) Try.func18
    (ChangeSpec.witness6 (enc := enc) (C := Try.checked) false ⟨#[], #[.string ⟨#[]⟩, .string ⟨#[]⟩, .int .u64 0], []⟩ 8 (by kernel_rfl) (by kernel_rfl) (by kernel_rfl) (by kernel_rfl)) ?_
  intro W base args ds gs before hval0 hW hcnd hsz0 _
  have hval : ∀ (j : Nat) t v, Try.f18.params[j]? = some t → args[j]? = some v → Value.okWide Try.prog W .any base t v := hval0
  have hW' := hW
  obtain ⟨p, q, hA0, hV, rfl, hfz, hnd⟩ := hW
  have hA : DataW.TrodAll enc Try.prog W 0 (fun _ => true) true Try.f18.params.toList args.toList ds p := hA0
  rw [Try.params18] at hA hval
  obtain ⟨v0, vs0, d0, ds0, p0, q0, hargs, rfl, rfl, h0, r0⟩ := trodAll_cons hA
  obtain ⟨v1, vs1, d1, ds1, p1, q1, rfl, rfl, rfl, h1, r1⟩ := trodAll_cons r0
  obtain ⟨v2, vs2, d2, ds2, p2, q2, rfl, rfl, rfl, h2, r2⟩ := trodAll_cons r1
  obtain ⟨rfl, rfl, rfl⟩ := trodAll_nil r2
  obtain rfl : args = #[v0, v1, v2] := by cases args; simp_all
  obtain ⟨s0, rfl, rfl, n0⟩ := open_textD Try.underlying9 (hval 0 9 v0 rfl rfl) h0
  obtain ⟨s1, rfl, rfl, n1⟩ := open_textD Try.underlying9 (hval 1 9 v1 rfl rfl) h1
  obtain ⟨a2, rfl, rfl, rfl, w2⟩ := open_int Try.underlying47 (hval 2 47 v2 rfl rfl) h2
  have n0 : s0.size ≤ 140737488351232 := size_of_list s0 ▸ sized_string hsz0 (j := 0) (t := 9) rfl rfl
  have n1 : s1.size ≤ 140737488351232 := size_of_list s1 ▸ sized_string hsz0 (j := 1) (t := 9) rfl rfl
  refine (walk s0 n0 s1 n1 a2 w2 W ).mono fun e W' ⟨he, hg⟩ => ?_
  subst he
  exact ⟨_, rfl, law_post rfl (fun t ht => of_decide_eq_true (List.all_eq_true.1 inside t ht)) rfl hW' rfl hg⟩

theorem facts : joinedFacts Try.prog 18 Try.f18 Rows.aeadSameSpec Rows.aeadSameRow = true := by
  unfold joinedFacts
  rw [may, lifts, make]
  kernel_rfl

theorem over : Rows.aeadSameRow.holds Try.pinned (OpenSpec.ofChange Rows.aeadSameSpec) :=
  OpenClaim.holds_of_wide 18 Try.f18 rfl rfl rfl rfl rfl rfl rfl ⟨rfl, rfl, rfl, rfl, rfl⟩ rfl rfl rfl rfl rfl (by kernel_rfl) Try.func18 facts
    (of_decide_eq_true (by kernel_rfl)) (by unfold Func.isWrapper; first | (rw [if_pos (by decide +kernel)]; kernel_rfl) | (rw [if_neg (by decide +kernel)]; exact ⟨rfl, rfl⟩))
    (fun os started H enc _ => lifted os started H enc)

/-- THE STATEMENT. -/
theorem proved : Rows.AeadSameSaid :=
  over
#print axioms proved
end Go.Proofs.Ytjbagkimpmpfgaa.aeadSame
