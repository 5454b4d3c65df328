/- Whatever size and script it is given, ReplayPlays answers true, and what it is given reads as it did. Conditions: none. -/
import Derived.Test.YtjbagkimpmpfgaaRows
import Derived.WalkKit
import Derived.ProofKit
import Derived.OpenShut
import Derived.Test.YtjbagkimpmpfgaaOver
import Derived.Test.YtjbagkimpmpfgaaLaw
import Derived.Test.YtjbagkimpmpfgaaFrame
import Derived.Test.YtjbagkimpmpfgaaFrameS
import Derived.Test.YtjbagkimpmpfgaaFrameR
import Derived.Test.YtjbagkimpmpfgaaR19
namespace Go.Proofs.Ytjbagkimpmpfgaa.replayPlays
open Go.ChangeShapes Go.WideShapes Go.ChangeAt Go.RowKit
set_option linter.unusedVariables false

theorem own : ownKnob Try.prog.godebug = none := by kernel_rfl

theorem walk (a0 : Int) (w0 : (Lit.int .i64 a0).wf = true) (p1 : Mx.Place) (k1 : Nat) (l1 q1 : Nat → Int) (m1 : k1 ≤ maxLen) (w1 : ∀ j, j < k1 → (Lit.int .i64 (l1 j)).wf = true ∧ (Lit.int .u64 (q1 j)).wf = true) (w : World) (f1 : ∀ ν, Mx.MObj.fit p1 ν w (.view 2 [.rows 2 k1 (fun j => [.int .i64 (l1 j), .int .u64 (q1 j)])])) :
    Calls Try.prog 10 #[.int .i64 a0, Mx.C.den (plOf [p1]) (.sl 0 0 k1 2)] w fun e w' => e = .returned (.bool true) ∧ Below w.heap.size w w' := by
  have F : Mx.FitH (plOf [p1]) (Mx.hpL [.view 2 [.rows 2 k1 (fun j => [.int .i64 (l1 j), .int .u64 (q1 j)])]]) w := Mx.fit_views (fun i o hi => by
    match i, hi with
    | 0, hi => cases hi; exact f1 _
    | _ + 1, hi => simp at hi
    ) (fun i o hi => by
    match i, hi with
    | 0, hi => cases hi; exact ⟨fun j hj => ⟨rfl, fun x hx => by simp only [List.mem_cons, List.not_mem_nil, or_false] at hx; rcases hx with rfl | rfl <;> rfl⟩, trivial⟩
    | _ + 1, hi => simp at hi
    ) (fun o ho p h => by simp only [List.mem_cons, List.not_mem_nil, or_false] at ho; rcases ho with rfl <;> exact h)
  have h := Mx.law_of_view m10 (args := [.one (.int .i64 a0), .one (.sl 0 0 k1 2)]) (objs := [.view 2 [.rows 2 k1 (fun j => [.int .i64 (l1 j), .int .u64 (q1 j)])]]) rfl ⟨⟨(bounds_i64 w0).1, (bounds_i64 w0).2⟩, rfl, ⟨_, _, rfl, fun j hj => ⟨⟨(bounds_i64 (w1 j hj).1).1, (bounds_i64 (w1 j hj).1).2⟩, bounds_u64 (w1 j hj).2⟩⟩, m1, trivial⟩ F (by simp [Mx.V1.ok, Mx.C.ok, Mx.okS, Mx.Seg.ok, Mx.dom, Mx.hpL]) (fun o ho p h => by simp only [List.mem_cons, List.not_mem_nil, or_false] at ho; rcases ho with rfl <;> exact h)
  simp only [List.map, Mx.V1.den, Mx.denS, Mx.Seg.den, List.append_nil] at h
  exact h

theorem inside : (Try.f10.params.toList.all fun t => decide (t < Try.prog.types.size)) = true := by kernel_rfl
set_option maxRecDepth 100000 in
theorem lifted (os : Os) (started : os.Started) (H : Type) (enc : TypeId × Value → H) :
    ReturnsInHanded {} Try.checked os 10 .any (Rows.replayPlaysSpec.pre6 enc Try.prog Try.f10 Rows.replayPlaysRow.domain false) (Rows.replayPlaysSpec.post enc Try.prog Try.f10 false true false false) := by
  refine returnsInHanded_of_change (C := Try.checked) own started (by kernel_rfl) Try.func10
    (ChangeSpec.witness6 (enc := enc) (C := Try.checked) false ⟨#[], #[.int .i64 0, .slice none 0 0], []⟩ 8 (by kernel_rfl) (by kernel_rfl) (by kernel_rfl) (by kernel_rfl)) ?_
  intro W base args ds gs before hval0 hW hcnd _
  have hval : ∀ (j : Nat) t v, Try.f10.params[j]? = some t → args[j]? = some v → Value.okWide Try.prog W .any base t v := hval0
  have hW' := hW
  obtain ⟨p, q, hA0, hV, rfl, hfz, hnd⟩ := hW
  have hA : DataW.TrodAll enc Try.prog W 0 (fun _ => true) true Try.f10.params.toList args.toList ds p := hA0
  rw [Try.params10] at hA hval
  obtain ⟨v0, vs0, d0, ds0, p0, q0, hargs, rfl, rfl, h0, r0⟩ := trodAll_cons hA
  obtain ⟨v1, vs1, d1, ds1, p1, q1, rfl, rfl, rfl, h1, r1⟩ := trodAll_cons r0
  obtain ⟨rfl, rfl, rfl⟩ := trodAll_nil r1
  obtain rfl : args = #[v0, v1] := by cases args; simp_all
  obtain ⟨a0, rfl, rfl, rfl, w0⟩ := open_int Try.underlying3 (hval 0 3 v0 rfl rfl) h0
  obtain ⟨p1, k1, l1, q1, e1, m1, w1, f1⟩ := open_sliceR (k0 := .i64) (k1 := .u64) Try.underlying61 Try.underlying63 (by kernel_rfl) rfl rfl rfl rfl rfl rfl rfl Try.underlying3 Try.underlying47 (by kernel_rfl) (by kernel_rfl) (hval 1 61 v1 rfl rfl) h1
  obtain rfl := e1 (plOf [p1]) 0 rfl
  refine (walk a0 w0 p1 k1 l1 q1 m1 w1 W f1).mono fun e W' ⟨he, hg⟩ => ?_
  subst he
  exact ⟨_, rfl, law_post rfl (fun t ht => of_decide_eq_true (List.all_eq_true.1 inside t ht)) rfl hW' rfl hg⟩

theorem facts : joinedFacts Try.prog 10 Try.f10 Rows.replayPlaysSpec Rows.replayPlaysRow = true := by
  unfold joinedFacts
  rw [may, lifts, make]
  kernel_rfl

theorem over : Rows.replayPlaysRow.holds Try.pinned (OpenSpec.ofChange Rows.replayPlaysSpec) :=
  OpenClaim.holds_of_wide 10 Try.f10 rfl rfl rfl rfl rfl rfl rfl ⟨rfl, rfl, rfl, rfl, rfl⟩ rfl rfl rfl rfl rfl (by kernel_rfl) Try.func10 facts
    (of_decide_eq_true (by kernel_rfl)) (by unfold Func.isWrapper; first | (rw [if_pos (by decide +kernel)]; kernel_rfl) | (rw [if_neg (by decide +kernel)]; exact ⟨rfl, rfl⟩))
    (fun os started H enc _ => lifted os started H enc)

/-- THE STATEMENT. -/
theorem proved : Rows.ReplayPlaysSaid :=
  over
#print axioms proved
end Go.Proofs.Ytjbagkimpmpfgaa.replayPlays
