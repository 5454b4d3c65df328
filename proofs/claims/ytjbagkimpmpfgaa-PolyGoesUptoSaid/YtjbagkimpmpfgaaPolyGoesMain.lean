/- Whatever keys and pieces it is given, within the bound of the second form, PolyGoes answers true, and what it is given reads as it did. Conditions: none. -/
import Derived.Test.YtjbagkimpmpfgaaRows
import Derived.WalkKit
import Derived.ProofKit
import Derived.OpenShut
import Derived.Test.YtjbagkimpmpfgaaLO
import Derived.Test.YtjbagkimpmpfgaaLB
import Derived.Test.YtjbagkimpmpfgaaLQ
import Derived.Test.YtjbagkimpmpfgaaLG
set_option linter.unusedSimpArgs false
set_option linter.unusedVariables false
namespace Go.Proofs.Ytjbagkimpmpfgaa.polyGoes
open Go.ChangeShapes Go.WideShapes Go.ChangeAt Go.RowKit
set_option linter.unusedVariables false

theorem own : ownKnob Try.prog.godebug = none := by kernel_rfl

theorem walk (l0 : List Int) (n0 : l0.length = 32) (w0 : ∀ x ∈ l0, (Lit.int .u8 x).wf = true) (l1 : List Int) (n1 : l1.length = 32) (w1 : ∀ x ∈ l1, (Lit.int .u8 x).wf = true) (p2 : Mx.Place) (k2 : Nat) (l2 : List ByteArray) (n2 : l2.length = k2) (m2 : k2 ≤ maxLen) (w2 : k2 + (flat l2).length ≤ 1048576) (w : World) (f2 : ∀ ν, Mx.MObj.fit p2 ν w (.view 1 [.strs l2 k2])) :
    Calls Try.prog 15 #[.agg (l0.map (.int .u8)).toArray, .agg (l1.map (.int .u8)).toArray, Mx.C.den (plOf [p2]) (.sl 0 0 k2 1)] w fun e w' => e = .returned (.bool true) ∧ Below w.heap.size w w' := by
  have F : Mx.FitH (plOf [p2]) (Mx.hpL [.view 1 [.strs l2 k2]]) w := Mx.fit_views (fun i o hi => by
    match i, hi with
    | 0, hi => cases hi; exact f2 _
    | _ + 1, hi => simp at hi
    ) (fun i o hi => by
    match i, hi with
    | 0, hi => cases hi; exact ⟨n2, trivial⟩
    | _ + 1, hi => simp at hi
    ) (fun o ho p h => by simp only [List.mem_cons, List.not_mem_nil, or_false] at ho; rcases ho with rfl <;> exact h)
  have h := Mx.law_of_view m15 (args := [.agg [.ints .u8 l0 32], .agg [.ints .u8 l1 32], .one (.sl 0 0 k2 1)]) (objs := [.view 1 [.strs l2 k2]]) rfl ⟨n0, wfR w0, n1, wfR w1, n2, rfl, by omega, by omega, trivial⟩ F (by simp [Mx.V1.ok, Mx.C.ok, Mx.okS, Mx.Seg.ok, Mx.dom, Mx.hpL, n0, n1]) (fun o ho p h => by simp only [List.mem_cons, List.not_mem_nil, or_false] at ho; rcases ho with rfl <;> exact h)
  simp only [List.map, Mx.V1.den, Mx.denS, Mx.Seg.den, List.append_nil] at h
  exact h

theorem inside : (Try.f15.params.toList.all fun t => decide (t < Try.prog.types.size)) = true := by kernel_rfl
set_option maxRecDepth 100000 in
theorem lifted (os : Os) (started : os.Started) (H : Type) (enc : TypeId × Value → H) (F : Stop.Interp) :
    ReturnsInHanded {} Try.checked os 15 .any ((Rows.OpenSpec.upto Rows.polyGoesSpec).pre6 enc Try.prog Try.f15 Rows.polyGoesUptoRow.domain false) (((Rows.OpenSpec.upto Rows.polyGoesSpec).at F).post enc Try.prog Try.f15 false true false false) := by
  refine returnsInHanded_of_cond (C := Try.checked) (s := Rows.OpenSpec.upto Rows.polyGoesSpec) (k := Rows.uptoSmall) rfl own started (by kernel_rfl) Try.func15
    (OpenSpec.witness (enc := enc) (C := Try.checked) (s := Rows.OpenSpec.upto Rows.polyGoesSpec) (k := Rows.uptoSmall) rfl false ⟨#[], #[.agg #[.int .u8 0, .int .u8 0, .int .u8 0, .int .u8 0, .int .u8 0, .int .u8 0, .int .u8 0, .int .u8 0, .int .u8 0, .int .u8 0, .int .u8 0, .int .u8 0, .int .u8 0, .int .u8 0, .int .u8 0, .int .u8 0, .int .u8 0, .int .u8 0, .int .u8 0, .int .u8 0, .int .u8 0, .int .u8 0, .int .u8 0, .int .u8 0, .int .u8 0, .int .u8 0, .int .u8 0, .int .u8 0, .int .u8 0, .int .u8 0, .int .u8 0, .int .u8 0], .agg #[.int .u8 0, .int .u8 0, .int .u8 0, .int .u8 0, .int .u8 0, .int .u8 0, .int .u8 0, .int .u8 0, .int .u8 0, .int .u8 0, .int .u8 0, .int .u8 0, .int .u8 0, .int .u8 0, .int .u8 0, .int .u8 0, .int .u8 0, .int .u8 0, .int .u8 0, .int .u8 0, .int .u8 0, .int .u8 0, .int .u8 0, .int .u8 0, .int .u8 0, .int .u8 0, .int .u8 0, .int .u8 0, .int .u8 0, .int .u8 0, .int .u8 0, .int .u8 0], .slice none 0 0], []⟩ 8 (by kernel_rfl) (by kernel_rfl) (by kernel_rfl)
      (x := ([.agg [.lit (.int .u8 0), .lit (.int .u8 0), .lit (.int .u8 0), .lit (.int .u8 0), .lit (.int .u8 0), .lit (.int .u8 0), .lit (.int .u8 0), .lit (.int .u8 0), .lit (.int .u8 0), .lit (.int .u8 0), .lit (.int .u8 0), .lit (.int .u8 0), .lit (.int .u8 0), .lit (.int .u8 0), .lit (.int .u8 0), .lit (.int .u8 0), .lit (.int .u8 0), .lit (.int .u8 0), .lit (.int .u8 0), .lit (.int .u8 0), .lit (.int .u8 0), .lit (.int .u8 0), .lit (.int .u8 0), .lit (.int .u8 0), .lit (.int .u8 0), .lit (.int .u8 0), .lit (.int .u8 0), .lit (.int .u8 0), .lit (.int .u8 0), .lit (.int .u8 0), .lit (.int .u8 0), .lit (.int .u8 0)], .agg [.lit (.int .u8 0), .lit (.int .u8 0), .lit (.int .u8 0), .lit (.int .u8 0), .lit (.int .u8 0), .lit (.int .u8 0), .lit (.int .u8 0), .lit (.int .u8 0), .lit (.int .u8 0), .lit (.int .u8 0), .lit (.int .u8 0), .lit (.int .u8 0), .lit (.int .u8 0), .lit (.int .u8 0), .lit (.int .u8 0), .lit (.int .u8 0), .lit (.int .u8 0), .lit (.int .u8 0), .lit (.int .u8 0), .lit (.int .u8 0), .lit (.int .u8 0), .lit (.int .u8 0), .lit (.int .u8 0), .lit (.int .u8 0), .lit (.int .u8 0), .lit (.int .u8 0), .lit (.int .u8 0), .lit (.int .u8 0), .lit (.int .u8 0), .lit (.int .u8 0), .lit (.int .u8 0), .lit (.int .u8 0)], .nil], [], [])) (by kernel_rfl) rfl (by kernel_rfl)) ?_
  intro W base args ds gs before hval0 hW hcnd hk0 _
  have hb : Rows.uptoBulkAll (ds ++ gs) ≤ 1048576 := of_decide_eq_true hk0
  have hval : ∀ (j : Nat) t v, Try.f15.params[j]? = some t → args[j]? = some v → Value.okWide Try.prog W .any base t v := hval0
  have hW' := hW
  obtain ⟨p, q, hA0, hV, rfl, hfz, hnd⟩ := hW
  have hA : DataW.TrodAll enc Try.prog W 0 (fun _ => true) true Try.f15.params.toList args.toList ds p := hA0
  rw [Try.params15] at hA hval
  obtain ⟨v0, vs0, d0, ds0, p0, q0, hargs, rfl, rfl, h0, r0⟩ := trodAll_cons hA
  obtain ⟨v1, vs1, d1, ds1, p1, q1, rfl, rfl, rfl, h1, r1⟩ := trodAll_cons r0
  obtain ⟨v2, vs2, d2, ds2, p2, q2, rfl, rfl, rfl, h2, r2⟩ := trodAll_cons r1
  obtain ⟨rfl, rfl, rfl⟩ := trodAll_nil r2
  obtain rfl : args = #[v0, v1, v2] := by cases args; simp_all
  obtain ⟨rfl, rfl⟩ := trodVars_none hV
  rw [List.append_nil] at hb
  obtain ⟨l0, rfl, n0, w0⟩ := open_ints (k := .u8) Try.underlying30 Try.underlying5 (by kernel_rfl) (by kernel_rfl) (by decide) h0
  obtain ⟨l1, rfl, n1, w1⟩ := open_ints (k := .u8) Try.underlying30 Try.underlying5 (by kernel_rfl) (by kernel_rfl) (by decide) h1
  obtain ⟨p2, k2, l2, e2, n2, m2, w2, f2⟩ := open_sliceT Try.underlying73 Try.underlying9 (by kernel_rfl) (hval 2 73 v2 rfl rfl) h2
  obtain rfl := e2 (plOf [p2]) 0 rfl
  have hb : Rows.uptoBulkAll [d0, d1, d2] ≤ 1048576 := hb
  have w2 : k2 + (flat l2).length ≤ 1048576 := by have h := bulk_part (d := d2) (l := [d0, d1, d2]) (by simp); omega
  refine (walk l0 n0 w0 l1 n1 w1 p2 k2 l2 n2 m2 w2 W f2).mono fun e W' ⟨he, hg⟩ => ?_
  subst he
  exact ⟨_, rfl, law_post rfl (fun t ht => of_decide_eq_true (List.all_eq_true.1 inside t ht)) rfl hW' rfl hg⟩

theorem facts : joinedFacts Try.prog 15 Try.f15 (Rows.OpenSpec.upto Rows.polyGoesSpec).bare Rows.polyGoesUptoRow = true := by
  unfold joinedFacts
  rw [may, lifts, make]
  kernel_rfl

theorem over : Rows.polyGoesUptoRow.holds Try.pinned (Rows.OpenSpec.upto Rows.polyGoesSpec) :=
  OpenClaim.holds_of_cond 15 Try.f15 rfl rfl rfl rfl rfl rfl rfl ⟨rfl, rfl, rfl, rfl, rfl⟩ rfl rfl rfl rfl rfl (by kernel_rfl) Try.func15 facts
    (of_decide_eq_true (by kernel_rfl)) (by unfold Func.isWrapper; first | (rw [if_pos (by decide +kernel)]; kernel_rfl) | (rw [if_neg (by decide +kernel)]; exact ⟨rfl, rfl⟩))
    (fun os started H enc _ F => lifted os started H enc F)

/-- THE STATEMENT. -/
theorem proved : Rows.PolyGoesUptoSaid :=
  over
#print axioms proved
end Go.Proofs.Ytjbagkimpmpfgaa.polyGoes
