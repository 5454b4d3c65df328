/- Whatever it is given, AeadTurned answers true, and what it is given reads as it did. Conditions: none. -/
import Derived.Test.YtjbagkimpmpfgaaRows
import Derived.WalkKit
import Derived.ProofKit
import Derived.OpenShut
import Derived.Test.YtjbagkimpmpfgaaLO
import Derived.Test.YtjbagkimpmpfgaaLB
import Derived.Test.YtjbagkimpmpfgaaLQ
import Derived.Test.YtjbagkimpmpfgaaLF
set_option linter.unusedSimpArgs false
set_option linter.unusedVariables false
namespace Go.Proofs.Ytjbagkimpmpfgaa.aeadTurned
open Go.ChangeShapes Go.WideShapes Go.ChangeAt Go.RowKit
set_option linter.unusedVariables false

theorem own : ownKnob Try.prog.godebug = none := by kernel_rfl

theorem walk (l0 : List Int) (n0 : l0.length = 32) (w0 : ∀ x ∈ l0, (Lit.int .u8 x).wf = true) (l1 : List Int) (n1 : l1.length = 12) (w1 : ∀ x ∈ l1, (Lit.int .u8 x).wf = true) (s2 : ByteArray) (n2 : s2.size ≤ 140737488351232) (s3 : ByteArray) (n3 : s3.size ≤ 140737488351232) (a4 : Int) (w4 : (Lit.int .i64 a4).wf = true) (a5 : Int) (w5 : (Lit.int .u8 a5).wf = true) (w : World) :
    Calls Try.prog 20 #[.agg (l0.map (.int .u8)).toArray, .agg (l1.map (.int .u8)).toArray, .string s2, .string s3, .int .i64 a4, .int .u8 a5] w fun e w' => e = .returned (.bool true) ∧ Below w.heap.size w w' := by
  have h := Mx.law_of_meets m20 (args := [.agg [.ints .u8 l0 32], .agg [.ints .u8 l1 12], .one (.str s2), .one (.str s3), .one (.int .i64 a4), .one (.int .u8 a5)]) rfl ⟨wfB w0, n0, wfB w1, n1, n2, n3, wfI w4, bounds_u8 w5, trivial⟩ (by simp [Mx.V1.ok, Mx.C.ok, Mx.okS, Mx.Seg.ok, n0, n1]) w
  simpa [Mx.V1.den, Mx.C.den, Mx.denS, Mx.Seg.den] using h

theorem inside : (Try.f20.params.toList.all fun t => decide (t < Try.prog.types.size)) = true := by kernel_rfl
set_option maxRecDepth 100000 in
theorem lifted (os : Os) (started : os.Started) (H : Type) (enc : TypeId × Value → H) :
    ReturnsInHanded {} Try.checked os 20 .any (Rows.aeadTurnedSpec.pre6 enc Try.prog Try.f20 Rows.aeadTurnedRow.domain false) (Rows.aeadTurnedSpec.post enc Try.prog Try.f20 false true false false) := by
  refine returnsInHanded_of_change_sized (C := Try.checked) own started (by kernel_rfl) Try.func20
    (ChangeSpec.witness6 (enc := enc) (C := Try.checked) false ⟨#[], #[.agg #[.int .u8 0, .int .u8 0, .int .u8 0, .int .u8 0, .int .u8 0, .int .u8 0, .int .u8 0, .int .u8 0, .int .u8 0, .int .u8 0, .int .u8 0, .int .u8 0, .int .u8 0, .int .u8 0, .int .u8 0, .int .u8 0, .int .u8 0, .int .u8 0, .int .u8 0, .int .u8 0, .int .u8 0, .int .u8 0, .int .u8 0, .int .u8 0, .int .u8 0, .int .u8 0, .int .u8 0, .int .u8 0, .int .u8 0, .int .u8 0, .int .u8 0, .int .u8 0], .agg #[.int .u8 0, .int .u8 0, .int .u8 0, .int .u8 0, .int .u8 0, .int .u8 0, .int .u8 0, .int .u8 0, .int .u8 0, .int .u8 0, .int .u8 0, .int .u8 0], .string ⟨#[]⟩, .string ⟨#[]⟩, .int .i64 0, .int .u8 0], []⟩ 8 (by kernel_rfl) (by kernel_rfl) (by kernel_rfl) (by kernel_rfl)) ?_
  intro W base args ds gs before hval0 hW hcnd hsz0 _
  have hval : ∀ (j : Nat) t v, Try.f20.params[j]? = some t → args[j]? = some v → Value.okWide Try.prog W .any base t v := hval0
  have hW' := hW
  obtain ⟨p, q, hA0, hV, rfl, hfz, hnd⟩ := hW
  have hA : DataW.TrodAll enc Try.prog W 0 (fun _ => true) true Try.f20.params.toList args.toList ds p := hA0
  rw [Try.params20] at hA hval
  obtain ⟨v0, vs0, d0, ds0, p0, q0, hargs, rfl, rfl, h0, r0⟩ := trodAll_cons hA
  obtain ⟨v1, vs1, d1, ds1, p1, q1, rfl, rfl, rfl, h1, r1⟩ := trodAll_cons r0
  obtain ⟨v2, vs2, d2, ds2, p2, q2, rfl, rfl, rfl, h2, r2⟩ := trodAll_cons r1
  obtain ⟨v3, vs3, d3, ds3, p3, q3, rfl, rfl, rfl, h3, r3⟩ := trodAll_cons r2
  obtain ⟨v4, vs4, d4, ds4, p4, q4, rfl, rfl, rfl, h4, r4⟩ := trodAll_cons r3
  obtain ⟨v5, vs5, d5, ds5, p5, q5, rfl, rfl, rfl, h5, r5⟩ := trodAll_cons r4
  obtain ⟨rfl, rfl, rfl⟩ := trodAll_nil r5
  obtain rfl : args = #[v0, v1, v2, v3, v4, v5] := by cases args; simp_all
  obtain ⟨l0, rfl, n0, w0⟩ := open_ints (k := .u8) Try.underlying30 Try.underlying5 (by kernel_rfl) (by kernel_rfl) (by decide) h0
  obtain ⟨l1, rfl, n1, w1⟩ := open_ints (k := .u8) Try.underlying31 Try.underlying5 (by kernel_rfl) (by kernel_rfl) (by decide) h1
  obtain ⟨s2, rfl, rfl, n2⟩ := open_textD Try.underlying9 (hval 2 9 v2 rfl rfl) h2
  obtain ⟨s3, rfl, rfl, n3⟩ := open_textD Try.underlying9 (hval 3 9 v3 rfl rfl) h3
  obtain ⟨a4, rfl, rfl, rfl, w4⟩ := open_int Try.underlying3 (hval 4 3 v4 rfl rfl) h4
  obtain ⟨a5, rfl, rfl, rfl, w5⟩ := open_int Try.underlying5 (hval 5 5 v5 rfl rfl) h5
  have n2 : s2.size ≤ 140737488351232 := size_of_list s2 ▸ sized_string hsz0 (j := 2) (t := 9) rfl rfl
  have n3 : s3.size ≤ 140737488351232 := size_of_list s3 ▸ sized_string hsz0 (j := 3) (t := 9) rfl rfl
  refine (walk l0 n0 w0 l1 n1 w1 s2 n2 s3 n3 a4 w4 a5 w5 W ).mono fun e W' ⟨he, hg⟩ => ?_
  subst he
  exact ⟨_, rfl, law_post rfl (fun t ht => of_decide_eq_true (List.all_eq_true.1 inside t ht)) rfl hW' rfl hg⟩

theorem facts : joinedFacts Try.prog 20 Try.f20 Rows.aeadTurnedSpec Rows.aeadTurnedRow = true := by
  unfold joinedFacts
  rw [may, lifts, make]
  kernel_rfl

theorem over : Rows.aeadTurnedRow.holds Try.pinned (OpenSpec.ofChange Rows.aeadTurnedSpec) :=
  OpenClaim.holds_of_wide 20 Try.f20 rfl rfl rfl rfl rfl rfl rfl ⟨rfl, rfl, rfl, rfl, rfl⟩ rfl rfl rfl rfl rfl (by kernel_rfl) Try.func20 facts
    (of_decide_eq_true (by kernel_rfl)) (by unfold Func.isWrapper; first | (rw [if_pos (by decide +kernel)]; kernel_rfl) | (rw [if_neg (by decide +kernel)]; exact ⟨rfl, rfl⟩))
    (fun os started H enc _ => lifted os started H enc)

/-- THE STATEMENT. -/
theorem proved : Rows.AeadTurnedSaid :=
  over
#print axioms proved
end Go.Proofs.Ytjbagkimpmpfgaa.aeadTurned
