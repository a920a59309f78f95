/- The law TreelabelCompares answers true for every input, and each argument reads behind the call as it read before. -/
import Derived.Test.YthjcmodhleoocaaMCmp3
import Derived.Test.YthjcmodhleoocaaRows
import Derived.WalkKit
import Derived.ProofKit
import Derived.OpenShut
import Derived.ShutString
import Derived.ChangeOld
import Derived.Below
import Derived.SizedLaws
import Derived.Lib.SmallJoins
set_option linter.unusedVariables false
set_option linter.unusedSimpArgs false
/- PureTreelabelCompares -/
namespace Go.Proofs.Ythjcmodhleoocaa.Pure
open Go.RowKit Go.Proofs.Ythjcmodhleoocaa.Q Go.Proofs.YthjcmodhleoocaaW.PrintWords Go.Proofs.YthjcmodhleoocaaW.PrintLast
theorem TreelabelCompares (a0 a1 a2 b0 b1 b2 : Int) : ∃ k, corporalaw10_TreelabelCompares.f k a0 a1 a2 b0 b1 b2 = some true := by
  refine Ev.rounds (g := fun k => corporalaw10_TreelabelCompares.f k a0 a1 a2 b0 b1 b2) ?_
  have hd : treelabel_Dominates.f a0 a1 a2 b0 b1 b2 = some (decide (a0 < b0 ∧ b1 < a1)) := by
    rw [treelabel_Dominates.f]; by_cases h : a0 < b0 <;> simp [h]
  have hd' : corporaref10_Dominates.f a0 a1 a2 b0 b1 b2 = some (decide (a0 < b0 ∧ b1 < a1)) := by
    rw [corporaref10_Dominates.f]; by_cases h : a0 < b0 <;> simp [h]
  have hp : treelabel_Precedes.f a0 a1 a2 b0 b1 b2 = some (decide (a0 < b0 ∧ a1 < b1)) := by
    rw [treelabel_Precedes.f]; by_cases h : a0 < b0 <;> simp [h]
  have hp' : corporaref10_Precedes.f a0 a1 a2 b0 b1 b2 = some (decide (a0 < b0 ∧ a1 < b1)) := by
    rw [corporaref10_Precedes.f]; by_cases h : a0 < b0 <;> simp [h]
  refine Ev.congr (fun k => by rw [corporalaw10_TreelabelCompares.f, hd, hd', hp, hp']) ?_
  refine ev_pos (beq_self_eq_true _) ?_
  refine ev_pos (beq_self_eq_true _) ?_
  exact Ev.bind awake_ev (Ev.now _)
end Go.Proofs.Ythjcmodhleoocaa.Pure
/- LawTreelabelCompares -/
namespace Go.Proofs.Ythjcmodhleoocaa.treelabelCompares
open Go.ChangeShapes Go.WideShapes Go.ChangeAt Go.RowKit
open Go.ChangeMaps (open_string shut_string)
set_option linter.unusedVariables false
theorem own : ownKnob Try.prog.godebug = none := by kernel_rfl
theorem laidOut : laidOutB Try.prog = true := by kernel_rfl
set_option maxRecDepth 100000 in
theorem lifted (os : Os) (started : os.Started) (H : Type) (enc : TypeId × Value → H) :
    ReturnsInHanded {} Try.checked os 7 .any (Rows.treelabelComparesSpec.pre6 enc Try.prog Try.f7 Rows.treelabelComparesRow.domain false) (Rows.treelabelComparesSpec.post enc Try.prog Try.f7 false true false false) := by
  refine returnsInHanded_of_change_sized (C := Try.checked) own started (by kernel_rfl) Try.func7
    (ChangeSpec.witness6 (enc := enc) (C := Try.checked) false ⟨#[], #[.agg #[.int .i64 0, .int .i64 0, .int .i64 0], .agg #[.int .i64 0, .int .i64 0, .int .i64 0]], []⟩ 8 (by kernel_rfl) (by kernel_rfl) (by kernel_rfl) (by kernel_rfl)) ?_
  intro W base args ds gs before hval0 hW hcnd hsz0 _
  have hsz : (DataW.weightsEach Try.prog (Try.f7.params.toList ++ Rows.treelabelComparesSpec.plain.varTypes Try.prog) (ds ++ gs)).all (· ≤ reachBytes) = true := hsz0
  have hval : ∀ (j : Nat) t v, Try.f7.params[j]? = some t → args[j]? = some v → Value.okWide Try.prog W .any base t v := hval0
  have hW' := hW
  obtain ⟨p, q, hA0, hV, rfl, hfz, hnd⟩ := hW
  have hA : DataW.TrodAll enc Try.prog W 0 (fun _ => true) true Try.f7.params.toList args.toList ds p := hA0
  rw [Try.params7] at hA hval hsz
  obtain ⟨v0, v1, d0, d1, p0, p1, rfl, rfl, rfl, h0, h1⟩ := trodAll_two hA
  obtain ⟨rfl, rfl⟩ := trodVars_none hV
  have k0 := h0
  have k1 := h1
  have lt0 : ∀ x ∈ p0, x.block < W.heap.size := by obtain ⟨m, hm⟩ := k0; exact DataW.trod_lt m _ _ _ hm
  have lt1 : ∀ x ∈ p1, x.block < W.heap.size := by obtain ⟨m, hm⟩ := k1; exact DataW.trod_lt m _ _ _ hm
  obtain ⟨x0, x1, x2, y0, y1, y2, m, rfl, rfl, rfl, hy0, hy1, hy2⟩ := Go.Joins.open_agg3 Try.underlying41 (by kernel_rfl) (by kernel_rfl) (hval 0 41 v0 rfl rfl) h0
  obtain ⟨a0, e0, _⟩ := DataW.trod_int Try.underlying3 hy0
  obtain ⟨a1, e1, _⟩ := DataW.trod_int Try.underlying3 hy1
  obtain ⟨a2, e2, _⟩ := DataW.trod_int Try.underlying3 hy2
  simp at e0 e1 e2
  subst e0 e1 e2
  obtain ⟨x0, x1, x2, z0, z1, z2, m', rfl, rfl, rfl, hz0, hz1, hz2⟩ := Go.Joins.open_agg3 Try.underlying41 (by kernel_rfl) (by kernel_rfl) (hval 1 41 v1 rfl rfl) h1
  obtain ⟨b0, e0, _⟩ := DataW.trod_int Try.underlying3 hz0
  obtain ⟨b1, e1, _⟩ := DataW.trod_int Try.underlying3 hz1
  obtain ⟨b2, e2, _⟩ := DataW.trod_int Try.underlying3 hz2
  simp at e0 e1 e2
  subst e0 e1 e2
  clear hA0 hval0 hsz0 hsz
  obtain ⟨k, hk⟩ := Pure.TreelabelCompares a0 a1 a2 b0 b1 b2
  refine (Q.corporalaw10_TreelabelCompares.calls k a0 a1 a2 b0 b1 b2 true W hk).mono fun e W' ⟨he, bel⟩ => ?_
  subst he
  exact ⟨_, rfl, _, _, _, [], _, [], hW', trodAll_mk1 (shut_bool Try.underlying4 _), (trodAll_cons_mk (Below.trod laidOut (by kernel_rfl) (of_decide_eq_true (by kernel_rfl)) k0 bel lt0) (trodAll_cons_mk (Below.trod laidOut (by kernel_rfl) (of_decide_eq_true (by kernel_rfl)) k1 bel lt1) trodAll_mk0)), rfl, bel.frame _, fun h => by cases h⟩
theorem over : Rows.treelabelComparesRow.holds Try.pinned (OpenSpec.ofChange Rows.treelabelComparesSpec) :=
  OpenClaim.holds_of_wide 7 Try.f7 rfl rfl rfl rfl rfl rfl rfl ⟨rfl, rfl, rfl, rfl, rfl⟩ rfl rfl rfl rfl rfl (by kernel_rfl) Try.func7 (by kernel_rfl)
    (of_decide_eq_true (by kernel_rfl)) (by unfold Func.isWrapper; first | (rw [if_pos (by decide +kernel)]; kernel_rfl) | (rw [if_neg (by decide +kernel)]; exact ⟨rfl, rfl⟩))
    (fun os started H enc _ => lifted os started H enc)
theorem proved : Rows.TreelabelComparesSaid := over
end Go.Proofs.Ythjcmodhleoocaa.treelabelCompares
namespace Go.Proofs.Ythjcmodhleoocaa
/-- The row, under a short name, for the claim. -/
theorem treelabelCompares_holds : Rows.TreelabelComparesSaid := treelabelCompares.proved
end Go.Proofs.Ythjcmodhleoocaa
