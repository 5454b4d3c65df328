/- Whatever key and pieces it is given, within the bound of the second form, PolyPieces answers true, and what it is given reads as it did. Conditions: none. -/
import Derived.Test.YtjbagkimpmpfgaaRows
import Derived.WalkKit
import Derived.ProofKit
import Derived.OpenShut
import Derived.Test.YtjbagkimpmpfgaaLO
import Derived.Test.YtjbagkimpmpfgaaLB
import Derived.Test.YtjbagkimpmpfgaaLQ
set_option linter.unusedSimpArgs false
set_option linter.unusedVariables false
namespace Go.Proofs.Ytjbagkimpmpfgaa.polyPieces
open Go.ChangeShapes Go.WideShapes Go.ChangeAt Go.RowKit
set_option linter.unusedVariables false

theorem own : ownKnob Try.prog.godebug = none := by kernel_rfl

theorem walk (l0 : List Int) (n0 : l0.length = 32) (w0 : ∀ x ∈ l0, (Lit.int .u8 x).wf = true) (p1 : Mx.Place) (k1 : Nat) (l1 : List ByteArray) (n1 : l1.length = k1) (m1 : k1 ≤ maxLen) (w1 : k1 + (flat l1).length ≤ 1048576) (w : World) (f1 : ∀ ν, Mx.MObj.fit p1 ν w (.view 1 [.strs l1 k1])) :
    Calls Try.prog 14 #[.agg (l0.map (.int .u8)).toArray, Mx.C.den (plOf [p1]) (.sl 0 0 k1 1)] w fun e w' => e = .returned (.bool true) ∧ Below w.heap.size w w' := by
  have F : Mx.FitH (plOf [p1]) (Mx.hpL [.view 1 [.strs l1 k1]]) w := Mx.fit_views (fun i o hi => by
    match i, hi with
    | 0, hi => cases hi; exact f1 _
    | _ + 1, hi => simp at hi
    ) (fun i o hi => by
    match i, hi with
    | 0, hi => cases hi; exact ⟨n1, trivial⟩
    | _ + 1, hi => simp at hi
    ) (fun o ho p h => by simp only [List.mem_cons, List.not_mem_nil, or_false] at ho; rcases ho with rfl <;> exact h)
  have h := Mx.law_of_view m14 (args := [.agg [.ints .u8 l0 32], .one (.sl 0 0 k1 1)]) (objs := [.view 1 [.strs l1 k1]]) rfl ⟨n0, wfR w0, n1, rfl, by omega, by omega, trivial⟩ F (by simp [Mx.V1.ok, Mx.C.ok, Mx.okS, Mx.Seg.ok, Mx.dom, Mx.hpL, n0]) (fun o ho p h => by simp only [List.mem_cons, List.not_mem_nil, or_false] at ho; rcases ho with rfl <;> exact h)
  simp only [List.map, Mx.V1.den, Mx.denS, Mx.Seg.den, List.append_nil] at h
  exact h

theorem inside : (Try.f14.params.toList.all fun t => decide (t < Try.prog.types.size)) = true := by kernel_rfl
set_option maxRecDepth 100000 in
theorem lifted (os : Os) (started : os.Started) (H : Type) (enc : TypeId × Value → H) (F : Stop.Interp) :
    ReturnsInHanded {} Try.checked os 14 .any ((Rows.OpenSpec.upto Rows.polyPiecesSpec).pre6 enc Try.prog Try.f14 Rows.polyPiecesUptoRow.domain false) (((Rows.OpenSpec.upto Rows.polyPiecesSpec).at F).post enc Try.prog Try.f14 false true false false) := by
  refine returnsInHanded_of_cond (C := Try.checked) (s := Rows.OpenSpec.upto Rows.polyPiecesSpec) (k := Rows.uptoSmall) rfl own started (by kernel_rfl) Try.func14
    (OpenSpec.witness (enc := enc) (C := Try.checked) (s := Rows.OpenSpec.upto Rows.polyPiecesSpec) (k := Rows.uptoSmall) rfl false ⟨#[], #[.agg #[.int .u8 0, .int .u8 0, .int .u8 0, .int .u8 0, .int .u8 0, .int .u8 0, .int .u8 0, .int .u8 0, .int .u8 0, .int .u8 0, .int .u8 0, .int .u8 0, .int .u8 0, .int .u8 0, .int .u8 0, .int .u8 0, .int .u8 0, .int .u8 0, .int .u8 0, .int .u8 0, .int .u8 0, .int .u8 0, .int .u8 0, .int .u8 0, .int .u8 0, .int .u8 0, .int .u8 0, .int .u8 0, .int .u8 0, .int .u8 0, .int .u8 0, .int .u8 0], .slice none 0 0], []⟩ 8 (by kernel_rfl) (by kernel_rfl) (by kernel_rfl)
      (x := ([.agg [.lit (.int .u8 0), .lit (.int .u8 0), .lit (.int .u8 0), .lit (.int .u8 0), .lit (.int .u8 0), .lit (.int .u8 0), .lit (.int .u8 0), .lit (.int .u8 0), .lit (.int .u8 0), .lit (.int .u8 0), .lit (.int .u8 0), .lit (.int .u8 0), .lit (.int .u8 0), .lit (.int .u8 0), .lit (.int .u8 0), .lit (.int .u8 0), .lit (.int .u8 0), .lit (.int .u8 0), .lit (.int .u8 0), .lit (.int .u8 0), .lit (.int .u8 0), .lit (.int .u8 0), .lit (.int .u8 0), .lit (.int .u8 0), .lit (.int .u8 0), .lit (.int .u8 0), .lit (.int .u8 0), .lit (.int .u8 0), .lit (.int .u8 0), .lit (.int .u8 0), .lit (.int .u8 0), .lit (.int .u8 0)], .nil], [], [])) (by kernel_rfl) rfl (by kernel_rfl)) ?_
  intro W base args ds gs before hval0 hW hcnd hk0 _
  have hb : Rows.uptoBulkAll (ds ++ gs) ≤ 1048576 := of_decide_eq_true hk0
  have hval : ∀ (j : Nat) t v, Try.f14.params[j]? = some t → args[j]? = some v → Value.okWide Try.prog W .any base t v := hval0
  have hW' := hW
  obtain ⟨p, q, hA0, hV, rfl, hfz, hnd⟩ := hW
  have hA : DataW.TrodAll enc Try.prog W 0 (fun _ => true) true Try.f14.params.toList args.toList ds p := hA0
  rw [Try.params14] at hA hval
  obtain ⟨v0, vs0, d0, ds0, p0, q0, hargs, rfl, rfl, h0, r0⟩ := trodAll_cons hA
  obtain ⟨v1, vs1, d1, ds1, p1, q1, rfl, rfl, rfl, h1, r1⟩ := trodAll_cons r0
  obtain ⟨rfl, rfl, rfl⟩ := trodAll_nil r1
  obtain rfl : args = #[v0, v1] := by cases args; simp_all
  obtain ⟨rfl, rfl⟩ := trodVars_none hV
  rw [List.append_nil] at hb
  obtain ⟨l0, rfl, n0, w0⟩ := open_ints (k := .u8) Try.underlying30 Try.underlying5 (by kernel_rfl) (by kernel_rfl) (by decide) h0
  obtain ⟨p1, k1, l1, e1, n1, m1, w1, f1⟩ := open_sliceT Try.underlying73 Try.underlying9 (by kernel_rfl) (hval 1 73 v1 rfl rfl) h1
  obtain rfl := e1 (plOf [p1]) 0 rfl
  have hb : Rows.uptoBulkAll [d0, d1] ≤ 1048576 := hb
  have w1 : k1 + (flat l1).length ≤ 1048576 := by have h := bulk_part (d := d1) (l := [d0, d1]) (by simp); omega
  refine (walk l0 n0 w0 p1 k1 l1 n1 m1 w1 W f1).mono fun e W' ⟨he, hg⟩ => ?_
  subst he
  exact ⟨_, rfl, law_post rfl (fun t ht => of_decide_eq_true (List.all_eq_true.1 inside t ht)) rfl hW' rfl hg⟩

theorem facts : joinedFacts Try.prog 14 Try.f14 (Rows.OpenSpec.upto Rows.polyPiecesSpec).bare Rows.polyPiecesUptoRow = true := by
  unfold joinedFacts
  rw [may, lifts, make]
  kernel_rfl

theorem over : Rows.polyPiecesUptoRow.holds Try.pinned (Rows.OpenSpec.upto Rows.polyPiecesSpec) :=
  OpenClaim.holds_of_cond 14 Try.f14 rfl rfl rfl rfl rfl rfl rfl ⟨rfl, rfl, rfl, rfl, rfl⟩ rfl rfl rfl rfl rfl (by kernel_rfl) Try.func14 facts
    (of_decide_eq_true (by kernel_rfl)) (by unfold Func.isWrapper; first | (rw [if_pos (by decide +kernel)]; kernel_rfl) | (rw [if_neg (by decide +kernel)]; exact ⟨rfl, rfl⟩))
    (fun os started H enc _ F => lifted os started H enc F)

/-- THE STATEMENT. -/
theorem proved : Rows.PolyPiecesUptoSaid :=
  over
#print axioms proved
end Go.Proofs.Ytjbagkimpmpfgaa.polyPieces
