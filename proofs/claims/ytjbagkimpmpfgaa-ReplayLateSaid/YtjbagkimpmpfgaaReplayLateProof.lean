/- Whatever size, counters and questions it is given, ReplayLate answers true, and what it is given reads as it did. Conditions: none. -/
import Derived.Test.YtjbagkimpmpfgaaRows
import Derived.WalkKit
import Derived.ProofKit
import Derived.OpenShut
import Derived.Test.YtjbagkimpmpfgaaOver
import Derived.Test.YtjbagkimpmpfgaaLaw
import Derived.Test.YtjbagkimpmpfgaaFrame
import Derived.Test.YtjbagkimpmpfgaaFrameS
import Derived.Test.YtjbagkimpmpfgaaR17
namespace Go.Proofs.Ytjbagkimpmpfgaa.replayLate
open Go.ChangeShapes Go.WideShapes Go.ChangeAt Go.RowKit
set_option linter.unusedVariables false

theorem own : ownKnob Try.prog.godebug = none := by kernel_rfl

theorem walk (a0 : Int) (w0 : (Lit.int .i64 a0).wf = true) (p1 : Mx.Place) (k1 : Nat) (l1 : List Int) (n1 : l1.length = k1) (m1 : k1 ≤ maxLen) (w1 : ∀ x ∈ l1, (Lit.int .u64 x).wf = true) (p2 : Mx.Place) (k2 : Nat) (l2 : List Int) (n2 : l2.length = k2) (m2 : k2 ≤ maxLen) (w2 : ∀ x ∈ l2, (Lit.int .u64 x).wf = true) (w : World) (f1 : ∀ ν, Mx.MObj.fit p1 ν w (.view 1 [.ints .u64 l1 k1])) (f2 : ∀ ν, Mx.MObj.fit p2 ν w (.view 1 [.ints .u64 l2 k2])) :
    Calls Try.prog 12 #[.int .i64 a0, Mx.C.den (plOf [p1, p2]) (.sl 0 0 k1 1), Mx.C.den (plOf [p1, p2]) (.sl 1 0 k2 1)] w fun e w' => e = .returned (.bool true) ∧ Below w.heap.size w w' := by
  have F : Mx.FitH (plOf [p1, p2]) (Mx.hpL [.view 1 [.ints .u64 l1 k1], .view 1 [.ints .u64 l2 k2]]) w := Mx.fit_views (fun i o hi => by
    match i, hi with
    | 0, hi => cases hi; exact f1 _
    | 1, hi => cases hi; exact f2 _
    | _ + 2, hi => simp at hi
    ) (fun i o hi => by
    match i, hi with
    | 0, hi => cases hi; exact ⟨n1, trivial⟩
    | 1, hi => cases hi; exact ⟨n2, trivial⟩
    | _ + 2, hi => simp at hi
    ) (fun o ho p h => by simp only [List.mem_cons, List.not_mem_nil, or_false] at ho; rcases ho with rfl | rfl <;> exact h)
  have h := Mx.law_of_view m12 (args := [.one (.int .i64 a0), .one (.sl 0 0 k1 1), .one (.sl 1 0 k2 1)]) (objs := [.view 1 [.ints .u64 l1 k1], .view 1 [.ints .u64 l2 k2]]) rfl ⟨wfI w0, rfl, n1, fun x hx => bounds_u64 (w1 x hx), m1, rfl, n2, fun x hx => bounds_u64 (w2 x hx), m2, trivial⟩ F (by simp [Mx.V1.ok, Mx.C.ok, Mx.okS, Mx.Seg.ok, Mx.dom, Mx.hpL]) (fun o ho p h => by simp only [List.mem_cons, List.not_mem_nil, or_false] at ho; rcases ho with rfl | rfl <;> exact h)
  simp only [List.map, Mx.V1.den, Mx.denS, Mx.Seg.den, List.append_nil] at h
  exact h

theorem inside : (Try.f12.params.toList.all fun t => decide (t < Try.prog.types.size)) = true := by kernel_rfl
set_option maxRecDepth 100000 in
theorem lifted (os : Os) (started : os.Started) (H : Type) (enc : TypeId × Value → H) :
    ReturnsInHanded {} Try.checked os 12 .any (Rows.replayLateSpec.pre6 enc Try.prog Try.f12 Rows.replayLateRow.domain false) (Rows.replayLateSpec.post enc Try.prog Try.f12 false true false false) := by
  refine returnsInHanded_of_change (C := Try.checked) own started (by kernel_rfl) Try.func12
    (ChangeSpec.witness6 (enc := enc) (C := Try.checked) false ⟨#[], #[.int .i64 0, .slice none 0 0, .slice none 0 0], []⟩ 8 (by kernel_rfl) (by kernel_rfl) (by kernel_rfl) (by kernel_rfl)) ?_
  intro W base args ds gs before hval0 hW hcnd _
  have hval : ∀ (j : Nat) t v, Try.f12.params[j]? = some t → args[j]? = some v → Value.okWide Try.prog W .any base t v := hval0
  have hW' := hW
  obtain ⟨p, q, hA0, hV, rfl, hfz, hnd⟩ := hW
  have hA : DataW.TrodAll enc Try.prog W 0 (fun _ => true) true Try.f12.params.toList args.toList ds p := hA0
  rw [Try.params12] at hA hval
  obtain ⟨v0, vs0, d0, ds0, p0, q0, hargs, rfl, rfl, h0, r0⟩ := trodAll_cons hA
  obtain ⟨v1, vs1, d1, ds1, p1, q1, rfl, rfl, rfl, h1, r1⟩ := trodAll_cons r0
  obtain ⟨v2, vs2, d2, ds2, p2, q2, rfl, rfl, rfl, h2, r2⟩ := trodAll_cons r1
  obtain ⟨rfl, rfl, rfl⟩ := trodAll_nil r2
  obtain rfl : args = #[v0, v1, v2] := by cases args; simp_all
  obtain ⟨a0, rfl, rfl, rfl, w0⟩ := open_int Try.underlying3 (hval 0 3 v0 rfl rfl) h0
  obtain ⟨p1, k1, l1, e1, n1, m1, w1, f1⟩ := open_sliceI (k := .u64) Try.underlying48 Try.underlying47 (by kernel_rfl) (hval 1 48 v1 rfl rfl) h1
  obtain ⟨p2, k2, l2, e2, n2, m2, w2, f2⟩ := open_sliceI (k := .u64) Try.underlying48 Try.underlying47 (by kernel_rfl) (hval 2 48 v2 rfl rfl) h2
  obtain rfl := e1 (plOf [p1, p2]) 0 rfl
  obtain rfl := e2 (plOf [p1, p2]) 1 rfl
  refine (walk a0 w0 p1 k1 l1 n1 m1 w1 p2 k2 l2 n2 m2 w2 W f1 f2).mono fun e W' ⟨he, hg⟩ => ?_
  subst he
  exact ⟨_, rfl, law_post rfl (fun t ht => of_decide_eq_true (List.all_eq_true.1 inside t ht)) rfl hW' rfl hg⟩

theorem facts : joinedFacts Try.prog 12 Try.f12 Rows.replayLateSpec Rows.replayLateRow = true := by
  unfold joinedFacts
  rw [may, lifts, make]
  kernel_rfl

theorem over : Rows.replayLateRow.holds Try.pinned (OpenSpec.ofChange Rows.replayLateSpec) :=
  OpenClaim.holds_of_wide 12 Try.f12 rfl rfl rfl rfl rfl rfl rfl ⟨rfl, rfl, rfl, rfl, rfl⟩ rfl rfl rfl rfl rfl (by kernel_rfl) Try.func12 facts
    (of_decide_eq_true (by kernel_rfl)) (by unfold Func.isWrapper; first | (rw [if_pos (by decide +kernel)]; kernel_rfl) | (rw [if_neg (by decide +kernel)]; exact ⟨rfl, rfl⟩))
    (fun os started H enc _ => lifted os started H enc)

/-- THE STATEMENT. -/
theorem proved : Rows.ReplayLateSaid :=
  over
#print axioms proved
end Go.Proofs.Ytjbagkimpmpfgaa.replayLate
