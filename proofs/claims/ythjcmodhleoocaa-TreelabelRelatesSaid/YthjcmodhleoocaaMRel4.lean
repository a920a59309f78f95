/- The law TreelabelRelates answers true for every input, and each argument reads behind the call as it read before. -/
import Derived.Test.YthjcmodhleoocaaMRel1
import Derived.Test.YthjcmodhleoocaaMRel2
import Derived.Test.YthjcmodhleoocaaMRel3
import Derived.Deep.Strs
import Derived.Deep.Slices
import Derived.Lib.SmallJoins
import Derived.ProofKit
import Derived.Test.YthjcmodhleoocaaRows
import Derived.WalkKit
import Derived.OpenShut
import Derived.ShutString
import Derived.ChangeOld
import Derived.Below
import Derived.SizedLaws
set_option linter.unusedVariables false
set_option linter.unusedSimpArgs false
/- FCorporalaw10TreelabelRelates -/
namespace Go.Proofs.Ythjcmodhleoocaa.Q
open Go.RowKit Go.Proofs.YthjcmodhleoocaaW.PrintWords Go.Proofs.YthjcmodhleoocaaW.PrintLast Go.Proofs.YthjcmodhleoocaaW.PrintMore
attribute [local go_sem] max2_int min2_int max_two min_two max_three min_three max_four min_four   -- for this text's walks alone
set_option linter.unusedVariables false
set_option linter.unusedSimpArgs false

/-! ### corporalaw10_TreelabelRelates: function 8 -/
def corporalaw10_TreelabelRelates.f (k : Nat) (l0 : List (S41)) (a1 : Int) (a2 : Int) : Option (Bool) := if (l0.length : Int) > 25 then (some true) else ((corporalaw10_own.f k l0).bind fun t334 => ((treelabel_Sisters.f k l0 a1 a2).bind fun t337 => ((corporaref10_Sisters.f k t334 a1 a2).bind fun t338 => (if (t337 == t338) = true then ((treelabel_Common.f k l0 a1 a2).bind fun t339 => ((corporaref10_Common.f k t334 a1 a2).bind fun t340 => (if t339 = t340 then ((corporalaw10_awake.f k).bind fun t341 => (some t341)) else (some false)))) else (some false)))))
theorem corporalaw10_TreelabelRelates.mono : ∀ a0 a1 a2 k, LeO (corporalaw10_TreelabelRelates.f k a0 a1 a2) (corporalaw10_TreelabelRelates.f (k + 1) a0 a1 a2) := by
 intro a0 a1 a2 k
 unfold corporalaw10_TreelabelRelates.f
 repeat' first
   | (with_reducible exact corporalaw10_awake.mono _)
   | (with_reducible exact corporalaw10_own.mono _ _)
   | (with_reducible exact corporaref10_Common.mono _ _ _ _)
   | (with_reducible exact corporaref10_Sisters.mono _ _ _ _)
   | (with_reducible exact treelabel_Common.mono _ _ _ _)
   | (with_reducible exact treelabel_Sisters.mono _ _ _ _)
   | (with_reducible exact LeO.refl _)
   | (with_reducible exact LeO.none _)
   | (with_reducible refine LeO.ite ?_ ?_)
   | (with_reducible refine LeO.bind ?_ (fun _ => ?_))
   | exact corporalaw10_awake.mono _
   | exact corporalaw10_own.mono _ _
   | exact corporaref10_Common.mono _ _ _ _
   | exact corporaref10_Sisters.mono _ _ _ _
   | exact treelabel_Common.mono _ _ _ _
   | exact treelabel_Sisters.mono _ _ _ _
   | exact LeO.none _
   | refine LeO.ite ?_ ?_
   | refine LeO.bind ?_ (fun _ => ?_)
set_option maxHeartbeats 8000000 in
set_option maxRecDepth 100000 in
theorem corporalaw10_TreelabelRelates.calls (k : Nat) (A0 : Option Addr) (c0 : Nat) (l0 : List (S41)) (a1 : Int) (a2 : Int) (r : Bool) (w : World) (hr0 : Kd.C k41 w A0 l0.length l0) (hc0 : l0.length ≤ c0) (h : corporalaw10_TreelabelRelates.f k l0 a1 a2 = some r) :
  Calls Try.prog 8 #[.slice A0 l0.length c0, .int .i64 a1, .int .i64 a2] w fun e w' => e = .returned (.bool r) ∧ Below w.heap.size w w' := by
 have HR0 := Aside0.mk hr0
 have HC0 := Aside0.mk hc0
 clear hr0 hc0
 have HB := Aside0.mk (Below.refl w.heap.size w)
 have H : (if (l0.length : Int) > 25 then (some true) else ((corporalaw10_own.f k l0).bind fun t334 => ((treelabel_Sisters.f k l0 a1 a2).bind fun t337 => ((corporaref10_Sisters.f k t334 a1 a2).bind fun t338 => (if (t337 == t338) = true then ((treelabel_Common.f k l0 a1 a2).bind fun t339 => ((corporaref10_Common.f k t334 a1 a2).bind fun t340 => (if t339 = t340 then ((corporalaw10_awake.f k).bind fun t341 => (some t341)) else (some false)))) else (some false)))))) = some r := h
 clear h
 by_cases c4 : (l0.length : Int) > 25
 ·rw [if_pos c4] at H
  have c4b0 : decide (25 < (l0.length : Int)) = true := decide_eq_true c4
  have c4b1 : decide (25 < l0.length) = true := decide_eq_true (by omega)
  clear c4
  obtain rfl := Option.some.inj H
  go_enter Try.func8, Try.ntmps8
  go_wp2
  go_ret
  exact ⟨by first | rfl | (simp [errW_none, errW_some] <;> rfl) | (simp [*, errW_none, errW_some] <;> rfl), by repeat (first | (with_reducible first | exact HB.out | apply below_alloc | apply pw_below_drewN | apply below_drew1) | exact HB.out)⟩
 ·rw [if_neg c4] at H
  have c4b0 : decide (25 < (l0.length : Int)) = false := decide_eq_false c4
  have c4b1 : decide (25 < l0.length) = false := decide_eq_false (by omega)
  clear c4
  replace H := Option.bind_eq_some_iff.mp H
  obtain ⟨t334, A50, H⟩ := H
  replace H : ((treelabel_Sisters.f k l0 a1 a2).bind fun t337 => ((corporaref10_Sisters.f k t334 a1 a2).bind fun t338 => (if (t337 == t338) = true then ((treelabel_Common.f k l0 a1 a2).bind fun t339 => ((corporaref10_Common.f k t334 a1 a2).bind fun t340 => (if t339 = t340 then ((corporalaw10_awake.f k).bind fun t341 => (some t341)) else (some false)))) else (some false)))) = some r := H
  have A5 := Aside0.mk A50
  clear A50
  replace H := Option.bind_eq_some_iff.mp H
  obtain ⟨t337, A60, H⟩ := H
  replace H : ((corporaref10_Sisters.f k t334 a1 a2).bind fun t338 => (if (t337 == t338) = true then ((treelabel_Common.f k l0 a1 a2).bind fun t339 => ((corporaref10_Common.f k t334 a1 a2).bind fun t340 => (if t339 = t340 then ((corporalaw10_awake.f k).bind fun t341 => (some t341)) else (some false)))) else (some false))) = some r := H
  have A6 := Aside0.mk A60
  clear A60
  replace H := Option.bind_eq_some_iff.mp H
  obtain ⟨t338, A70, H⟩ := H
  replace H : (if (t337 == t338) = true then ((treelabel_Common.f k l0 a1 a2).bind fun t339 => ((corporaref10_Common.f k t334 a1 a2).bind fun t340 => (if t339 = t340 then ((corporalaw10_awake.f k).bind fun t341 => (some t341)) else (some false)))) else (some false)) = some r := H
  have A7 := Aside0.mk A70
  clear A70
  by_cases c8 : (t337 == t338) = true
  ·rw [if_pos c8] at H
   have c8b0 : (t337 == t338) = true := c8
   (try (have c8b1 : decide (t337 = t338) = true := by simpa using c8))
   (try (have c8b2 : (t337 == t338) = true := by simpa using c8))
   clear c8
   replace H := Option.bind_eq_some_iff.mp H
   obtain ⟨t339, A90, H⟩ := H
   replace H : ((corporaref10_Common.f k t334 a1 a2).bind fun t340 => (if t339 = t340 then ((corporalaw10_awake.f k).bind fun t341 => (some t341)) else (some false))) = some r := H
   have A9 := Aside0.mk A90
   clear A90
   replace H := Option.bind_eq_some_iff.mp H
   obtain ⟨t340, A100, H⟩ := H
   replace H : (if t339 = t340 then ((corporalaw10_awake.f k).bind fun t341 => (some t341)) else (some false)) = some r := H
   have A10 := Aside0.mk A100
   clear A100
   by_cases c11 : t339 = t340
   ·rw [if_pos c11] at H
    have c11b0 : (t339 == t340) = true := beq_iff_eq.mpr c11
    have c11b1 : (t339 != t340) = false := bne_eq_false_iff_eq.mpr c11
    clear c11
    replace H := Option.bind_eq_some_iff.mp H
    obtain ⟨t341, A120, H⟩ := H
    replace H : (some t341) = some r := H
    have A12 := Aside0.mk A120
    clear A120
    obtain rfl := Option.some.inj H
    go_enter Try.func8, Try.ntmps8
    go_wp2_with (first | ((with_reducible refine gate_callee (f := 17) rfl ?_); refine goesL_ (some 12) rfl rfl Try.func17 (by kernel_rfl) rfl #[.slice A0 l0.length c0] rfl (by (try simp only [List.map_toArray, List.map_cons, List.map_nil]); first | done | rfl | (simp only [List.length_drop, List.length_take]; rfl)) ?_; (with_reducible refine (corporalaw10_own.calls k _ _ l0 t334 _ ?side1 ?side2 A5.out).mono ?_); (case side1 => repeat (first | exact HR0.out | (with_reducible refine Kd.C_alloc ?_ _) | (with_reducible refine Kd.C_drewN ?_ _) | (with_reducible refine Kd.C_drew ?_))); (case side2 => exact HC0.out); rintro e w13 ⟨v335, rfl, ho0, hb⟩; refine ⟨_, rfl, ?_⟩; have n0_ := Aside0.mk (Kd.R_lower ho0 (below_size (by repeat (first | (with_reducible first | exact HB.out | apply below_alloc | apply pw_below_drewN | apply below_drew1) | exact HB.out)))); have n1_ := Aside0.mk (below_step (by repeat (first | (with_reducible first | exact HB.out | apply below_alloc | apply pw_below_drewN | apply below_drew1) | exact HB.out)) hb); clear HB; have HO336 := n0_; have HB := n1_; clear n0_ n1_; (try clear hb); (try clear hb2); (try clear hk); (try clear hi); (try clear ho0)) | ((with_reducible refine gate_callee (f := 24) rfl ?_); refine goesL_ (some 16) rfl rfl Try.func24 (by kernel_rfl) rfl #[.slice A0 l0.length c0, .int .i64 a1, .int .i64 a2] rfl (by (try simp only [List.map_toArray, List.map_cons, List.map_nil]); first | done | rfl | (simp only [List.length_drop, List.length_take]; rfl)) ?_; (with_reducible refine (treelabel_Sisters.calls k _ _ l0 a1 a2 t337 _ ?side1 ?side2 A6.out).mono ?_); (case side1 => repeat (first | exact (Kd.C_below HR0.out HB.out) | (with_reducible refine Kd.C_alloc ?_ _) | (with_reducible refine Kd.C_drewN ?_ _) | (with_reducible refine Kd.C_drew ?_))); (case side2 => exact HC0.out); rintro e w14 ⟨rfl, hb⟩; refine ⟨_, rfl, ?_⟩; have n0_ := Aside0.mk (Kd.R_below (by (with_reducible repeat (first | apply Kd.R_alloc | apply Kd.R_drewN | apply Kd.R_drew)); exact HO336.out) hb); have n1_ := Aside0.mk (below_step (by repeat (first | (with_reducible first | exact HB.out | apply below_alloc | apply pw_below_drewN | apply below_drew1) | exact HB.out)) hb); clear HO336; clear HB; have HO336 := n0_; have HB := n1_; clear n0_ n1_; (try clear hb); (try clear hb2); (try clear hk); (try clear hi); obtain ⟨Ao15, co15, eo15⟩ := Kd.R_slice HO336.out; subst eo15) | ((with_reducible refine gate_callee (f := 25) rfl ?_); refine goesL_ (some 20) rfl rfl Try.func25 (by kernel_rfl) rfl #[.slice Ao15 t334.length co15, .int .i64 a1, .int .i64 a2] rfl (by (try simp only [List.map_toArray, List.map_cons, List.map_nil]); first | done | rfl | (simp only [List.length_drop, List.length_take]; rfl)) ?_; (with_reducible refine (corporaref10_Sisters.calls k _ _ t334 a1 a2 t338 _ ?side1 ?side2 A7.out).mono ?_); (case side1 => repeat (first | exact (Kd.R_reads' HO336.out).2.2 | (with_reducible refine Kd.C_alloc ?_ _) | (with_reducible refine Kd.C_drewN ?_ _) | (with_reducible refine Kd.C_drew ?_))); (case side2 => exact (Kd.R_reads' HO336.out).2.1); rintro e w16 ⟨rfl, hb⟩; refine ⟨_, rfl, ?_⟩; have n0_ := Aside0.mk (Kd.R_below (by (with_reducible repeat (first | apply Kd.R_alloc | apply Kd.R_drewN | apply Kd.R_drew)); exact HO336.out) hb); have n1_ := Aside0.mk (below_step (by repeat (first | (with_reducible first | exact HB.out | apply below_alloc | apply pw_below_drewN | apply below_drew1) | exact HB.out)) hb); clear HO336; clear HB; have HO336 := n0_; have HB := n1_; clear n0_ n1_; (try clear hb); (try clear hb2); (try clear hk); (try clear hi)) | (go_at_call 26; (with_reducible refine (treelabel_Common.calls k _ _ l0 a1 a2 t339 _ ?side1 ?side2 A9.out).mono ?_); (case side1 => repeat (first | exact (Kd.C_below HR0.out HB.out) | (with_reducible refine Kd.C_alloc ?_ _) | (with_reducible refine Kd.C_drewN ?_ _) | (with_reducible refine Kd.C_drew ?_))); (case side2 => exact HC0.out); rintro e w17 ⟨rfl, hb⟩; have n0_ := Aside0.mk (Kd.R_below (by (with_reducible repeat (first | apply Kd.R_alloc | apply Kd.R_drewN | apply Kd.R_drew)); exact HO336.out) hb); have n1_ := Aside0.mk (below_step (by repeat (first | (with_reducible first | exact HB.out | apply below_alloc | apply pw_below_drewN | apply below_drew1) | exact HB.out)) hb); clear HO336; clear HB; have HO336 := n0_; have HB := n1_; clear n0_ n1_; (try clear hb); (try clear hb2); (try clear hk); (try clear hi)) | (go_at_call 27; (with_reducible refine (corporaref10_Common.calls k _ _ t334 a1 a2 t340 _ ?side1 ?side2 A10.out).mono ?_); (case side1 => repeat (first | exact (Kd.R_reads' HO336.out).2.2 | (with_reducible refine Kd.C_alloc ?_ _) | (with_reducible refine Kd.C_drewN ?_ _) | (with_reducible refine Kd.C_drew ?_))); (case side2 => exact (Kd.R_reads' HO336.out).2.1); rintro e w18 ⟨rfl, hb⟩; have n0_ := Aside0.mk (Kd.R_below (by (with_reducible repeat (first | apply Kd.R_alloc | apply Kd.R_drewN | apply Kd.R_drew)); exact HO336.out) hb); have n1_ := Aside0.mk (below_step (by repeat (first | (with_reducible first | exact HB.out | apply below_alloc | apply pw_below_drewN | apply below_drew1) | exact HB.out)) hb); clear HO336; clear HB; have HO336 := n0_; have HB := n1_; clear n0_ n1_; (try clear hb); (try clear hb2); (try clear hk); (try clear hi)) | (go_at_call 14; (with_reducible refine (corporalaw10_awake.calls k  t341 _ A12.out).mono ?_); rintro e w19 ⟨rfl, hb⟩; have n0_ := Aside0.mk (Kd.R_below (by (with_reducible repeat (first | apply Kd.R_alloc | apply Kd.R_drewN | apply Kd.R_drew)); exact HO336.out) hb); have n1_ := Aside0.mk (below_step (by repeat (first | (with_reducible first | exact HB.out | apply below_alloc | apply pw_below_drewN | apply below_drew1) | exact HB.out)) hb); clear HO336; clear HB; have HO336 := n0_; have HB := n1_; clear n0_ n1_; (try clear hb); (try clear hb2); (try clear hk); (try clear hi)))
    go_ret
    exact ⟨by first | rfl | (simp [errW_none, errW_some] <;> rfl) | (simp [*, errW_none, errW_some] <;> rfl), by repeat (first | (with_reducible first | exact HB.out | apply below_alloc | apply pw_below_drewN | apply below_drew1) | exact HB.out)⟩
   ·rw [if_neg c11] at H
    have c11b0 : (t339 == t340) = false := beq_eq_false_iff_ne.mpr c11
    have c11b1 : (t339 != t340) = true := bne_iff_ne.mpr c11
    obtain rfl := Option.some.inj H
    go_enter Try.func8, Try.ntmps8
    go_wp2_with (first | ((with_reducible refine gate_callee (f := 17) rfl ?_); refine goesL_ (some 12) rfl rfl Try.func17 (by kernel_rfl) rfl #[.slice A0 l0.length c0] rfl (by (try simp only [List.map_toArray, List.map_cons, List.map_nil]); first | done | rfl | (simp only [List.length_drop, List.length_take]; rfl)) ?_; (with_reducible refine (corporalaw10_own.calls k _ _ l0 t334 _ ?side1 ?side2 A5.out).mono ?_); (case side1 => repeat (first | exact HR0.out | (with_reducible refine Kd.C_alloc ?_ _) | (with_reducible refine Kd.C_drewN ?_ _) | (with_reducible refine Kd.C_drew ?_))); (case side2 => exact HC0.out); rintro e w20 ⟨v335, rfl, ho0, hb⟩; refine ⟨_, rfl, ?_⟩; have n0_ := Aside0.mk (Kd.R_lower ho0 (below_size (by repeat (first | (with_reducible first | exact HB.out | apply below_alloc | apply pw_below_drewN | apply below_drew1) | exact HB.out)))); have n1_ := Aside0.mk (below_step (by repeat (first | (with_reducible first | exact HB.out | apply below_alloc | apply pw_below_drewN | apply below_drew1) | exact HB.out)) hb); clear HB; have HO336 := n0_; have HB := n1_; clear n0_ n1_; (try clear hb); (try clear hb2); (try clear hk); (try clear hi); (try clear ho0)) | ((with_reducible refine gate_callee (f := 24) rfl ?_); refine goesL_ (some 16) rfl rfl Try.func24 (by kernel_rfl) rfl #[.slice A0 l0.length c0, .int .i64 a1, .int .i64 a2] rfl (by (try simp only [List.map_toArray, List.map_cons, List.map_nil]); first | done | rfl | (simp only [List.length_drop, List.length_take]; rfl)) ?_; (with_reducible refine (treelabel_Sisters.calls k _ _ l0 a1 a2 t337 _ ?side1 ?side2 A6.out).mono ?_); (case side1 => repeat (first | exact (Kd.C_below HR0.out HB.out) | (with_reducible refine Kd.C_alloc ?_ _) | (with_reducible refine Kd.C_drewN ?_ _) | (with_reducible refine Kd.C_drew ?_))); (case side2 => exact HC0.out); rintro e w21 ⟨rfl, hb⟩; refine ⟨_, rfl, ?_⟩; have n0_ := Aside0.mk (Kd.R_below (by (with_reducible repeat (first | apply Kd.R_alloc | apply Kd.R_drewN | apply Kd.R_drew)); exact HO336.out) hb); have n1_ := Aside0.mk (below_step (by repeat (first | (with_reducible first | exact HB.out | apply below_alloc | apply pw_below_drewN | apply below_drew1) | exact HB.out)) hb); clear HO336; clear HB; have HO336 := n0_; have HB := n1_; clear n0_ n1_; (try clear hb); (try clear hb2); (try clear hk); (try clear hi); obtain ⟨Ao22, co22, eo22⟩ := Kd.R_slice HO336.out; subst eo22) | ((with_reducible refine gate_callee (f := 25) rfl ?_); refine goesL_ (some 20) rfl rfl Try.func25 (by kernel_rfl) rfl #[.slice Ao22 t334.length co22, .int .i64 a1, .int .i64 a2] rfl (by (try simp only [List.map_toArray, List.map_cons, List.map_nil]); first | done | rfl | (simp only [List.length_drop, List.length_take]; rfl)) ?_; (with_reducible refine (corporaref10_Sisters.calls k _ _ t334 a1 a2 t338 _ ?side1 ?side2 A7.out).mono ?_); (case side1 => repeat (first | exact (Kd.R_reads' HO336.out).2.2 | (with_reducible refine Kd.C_alloc ?_ _) | (with_reducible refine Kd.C_drewN ?_ _) | (with_reducible refine Kd.C_drew ?_))); (case side2 => exact (Kd.R_reads' HO336.out).2.1); rintro e w23 ⟨rfl, hb⟩; refine ⟨_, rfl, ?_⟩; have n0_ := Aside0.mk (Kd.R_below (by (with_reducible repeat (first | apply Kd.R_alloc | apply Kd.R_drewN | apply Kd.R_drew)); exact HO336.out) hb); have n1_ := Aside0.mk (below_step (by repeat (first | (with_reducible first | exact HB.out | apply below_alloc | apply pw_below_drewN | apply below_drew1) | exact HB.out)) hb); clear HO336; clear HB; have HO336 := n0_; have HB := n1_; clear n0_ n1_; (try clear hb); (try clear hb2); (try clear hk); (try clear hi)) | (go_at_call 26; (with_reducible refine (treelabel_Common.calls k _ _ l0 a1 a2 t339 _ ?side1 ?side2 A9.out).mono ?_); (case side1 => repeat (first | exact (Kd.C_below HR0.out HB.out) | (with_reducible refine Kd.C_alloc ?_ _) | (with_reducible refine Kd.C_drewN ?_ _) | (with_reducible refine Kd.C_drew ?_))); (case side2 => exact HC0.out); rintro e w24 ⟨rfl, hb⟩; have n0_ := Aside0.mk (Kd.R_below (by (with_reducible repeat (first | apply Kd.R_alloc | apply Kd.R_drewN | apply Kd.R_drew)); exact HO336.out) hb); have n1_ := Aside0.mk (below_step (by repeat (first | (with_reducible first | exact HB.out | apply below_alloc | apply pw_below_drewN | apply below_drew1) | exact HB.out)) hb); clear HO336; clear HB; have HO336 := n0_; have HB := n1_; clear n0_ n1_; (try clear hb); (try clear hb2); (try clear hk); (try clear hi)) | (go_at_call 27; (with_reducible refine (corporaref10_Common.calls k _ _ t334 a1 a2 t340 _ ?side1 ?side2 A10.out).mono ?_); (case side1 => repeat (first | exact (Kd.R_reads' HO336.out).2.2 | (with_reducible refine Kd.C_alloc ?_ _) | (with_reducible refine Kd.C_drewN ?_ _) | (with_reducible refine Kd.C_drew ?_))); (case side2 => exact (Kd.R_reads' HO336.out).2.1); rintro e w25 ⟨rfl, hb⟩; have n0_ := Aside0.mk (Kd.R_below (by (with_reducible repeat (first | apply Kd.R_alloc | apply Kd.R_drewN | apply Kd.R_drew)); exact HO336.out) hb); have n1_ := Aside0.mk (below_step (by repeat (first | (with_reducible first | exact HB.out | apply below_alloc | apply pw_below_drewN | apply below_drew1) | exact HB.out)) hb); clear HO336; clear HB; have HO336 := n0_; have HB := n1_; clear n0_ n1_; (try clear hb); (try clear hb2); (try clear hk); (try clear hi)))
    go_ret
    exact ⟨by first | rfl | (simp [errW_none, errW_some] <;> rfl) | (simp [*, errW_none, errW_some] <;> rfl), by repeat (first | (with_reducible first | exact HB.out | apply below_alloc | apply pw_below_drewN | apply below_drew1) | exact HB.out)⟩
  ·rw [if_neg c8] at H
   have c8b0 : (t337 == t338) = false := by simpa using c8
   (try (have c8b1 : decide (t337 = t338) = false := by simpa using c8))
   (try (have c8b2 : (t337 == t338) = false := by simpa using c8))
   (try (have c8b3 : ¬ (t337 = t338) := by simpa using c8))
   clear c8
   obtain rfl := Option.some.inj H
   go_enter Try.func8, Try.ntmps8
   go_wp2_with (first | ((with_reducible refine gate_callee (f := 17) rfl ?_); refine goesL_ (some 12) rfl rfl Try.func17 (by kernel_rfl) rfl #[.slice A0 l0.length c0] rfl (by (try simp only [List.map_toArray, List.map_cons, List.map_nil]); first | done | rfl | (simp only [List.length_drop, List.length_take]; rfl)) ?_; (with_reducible refine (corporalaw10_own.calls k _ _ l0 t334 _ ?side1 ?side2 A5.out).mono ?_); (case side1 => repeat (first | exact HR0.out | (with_reducible refine Kd.C_alloc ?_ _) | (with_reducible refine Kd.C_drewN ?_ _) | (with_reducible refine Kd.C_drew ?_))); (case side2 => exact HC0.out); rintro e w26 ⟨v335, rfl, ho0, hb⟩; refine ⟨_, rfl, ?_⟩; have n0_ := Aside0.mk (Kd.R_lower ho0 (below_size (by repeat (first | (with_reducible first | exact HB.out | apply below_alloc | apply pw_below_drewN | apply below_drew1) | exact HB.out)))); have n1_ := Aside0.mk (below_step (by repeat (first | (with_reducible first | exact HB.out | apply below_alloc | apply pw_below_drewN | apply below_drew1) | exact HB.out)) hb); clear HB; have HO336 := n0_; have HB := n1_; clear n0_ n1_; (try clear hb); (try clear hb2); (try clear hk); (try clear hi); (try clear ho0)) | ((with_reducible refine gate_callee (f := 24) rfl ?_); refine goesL_ (some 16) rfl rfl Try.func24 (by kernel_rfl) rfl #[.slice A0 l0.length c0, .int .i64 a1, .int .i64 a2] rfl (by (try simp only [List.map_toArray, List.map_cons, List.map_nil]); first | done | rfl | (simp only [List.length_drop, List.length_take]; rfl)) ?_; (with_reducible refine (treelabel_Sisters.calls k _ _ l0 a1 a2 t337 _ ?side1 ?side2 A6.out).mono ?_); (case side1 => repeat (first | exact (Kd.C_below HR0.out HB.out) | (with_reducible refine Kd.C_alloc ?_ _) | (with_reducible refine Kd.C_drewN ?_ _) | (with_reducible refine Kd.C_drew ?_))); (case side2 => exact HC0.out); rintro e w27 ⟨rfl, hb⟩; refine ⟨_, rfl, ?_⟩; have n0_ := Aside0.mk (Kd.R_below (by (with_reducible repeat (first | apply Kd.R_alloc | apply Kd.R_drewN | apply Kd.R_drew)); exact HO336.out) hb); have n1_ := Aside0.mk (below_step (by repeat (first | (with_reducible first | exact HB.out | apply below_alloc | apply pw_below_drewN | apply below_drew1) | exact HB.out)) hb); clear HO336; clear HB; have HO336 := n0_; have HB := n1_; clear n0_ n1_; (try clear hb); (try clear hb2); (try clear hk); (try clear hi); obtain ⟨Ao28, co28, eo28⟩ := Kd.R_slice HO336.out; subst eo28) | ((with_reducible refine gate_callee (f := 25) rfl ?_); refine goesL_ (some 20) rfl rfl Try.func25 (by kernel_rfl) rfl #[.slice Ao28 t334.length co28, .int .i64 a1, .int .i64 a2] rfl (by (try simp only [List.map_toArray, List.map_cons, List.map_nil]); first | done | rfl | (simp only [List.length_drop, List.length_take]; rfl)) ?_; (with_reducible refine (corporaref10_Sisters.calls k _ _ t334 a1 a2 t338 _ ?side1 ?side2 A7.out).mono ?_); (case side1 => repeat (first | exact (Kd.R_reads' HO336.out).2.2 | (with_reducible refine Kd.C_alloc ?_ _) | (with_reducible refine Kd.C_drewN ?_ _) | (with_reducible refine Kd.C_drew ?_))); (case side2 => exact (Kd.R_reads' HO336.out).2.1); rintro e w29 ⟨rfl, hb⟩; refine ⟨_, rfl, ?_⟩; have n0_ := Aside0.mk (Kd.R_below (by (with_reducible repeat (first | apply Kd.R_alloc | apply Kd.R_drewN | apply Kd.R_drew)); exact HO336.out) hb); have n1_ := Aside0.mk (below_step (by repeat (first | (with_reducible first | exact HB.out | apply below_alloc | apply pw_below_drewN | apply below_drew1) | exact HB.out)) hb); clear HO336; clear HB; have HO336 := n0_; have HB := n1_; clear n0_ n1_; (try clear hb); (try clear hb2); (try clear hk); (try clear hi)))
   go_ret
   exact ⟨by first | rfl | (simp [errW_none, errW_some] <;> rfl) | (simp [*, errW_none, errW_some] <;> rfl), by repeat (first | (with_reducible first | exact HB.out | apply below_alloc | apply pw_below_drewN | apply below_drew1) | exact HB.out)⟩

end Go.Proofs.Ythjcmodhleoocaa.Q
/- Up -/
namespace Go.Proofs.Ythjcmodhleoocaa.TP

theorem pigeon : ∀ (n : Nat) (f : Nat → Nat), (∀ i, i ≤ n → f i < n) → ∃ i j, i < j ∧ j ≤ n ∧ f i = f j := by
  intro n
  induction n with
  | zero => intro f h; exact absurd (h 0 (Nat.le_refl _)) (Nat.not_lt_zero _)
  | succ n ih =>
    intro f h
    by_cases hx : ∃ i, i ≤ n ∧ f i = f (n + 1)
    · obtain ⟨i, hi, e⟩ := hx
      exact ⟨i, n + 1, by omega, Nat.le_refl _, e⟩
    · have hne : ∀ i, i ≤ n → f i ≠ f (n + 1) := fun i hi e => hx ⟨i, hi, e⟩
      obtain ⟨i, j, hij, hj, e⟩ := ih (fun i => if f i = n then f (n + 1) else f i) (fun i hi => by
        have h1 := h i (by omega)
        have h2 := h (n + 1) (Nat.le_refl _)
        have h3 := hne i hi
        show (if f i = n then f (n + 1) else f i) < n
        split <;> omega)
      refine ⟨i, j, hij, by omega, ?_⟩
      have h3 := hne i (by omega)
      have h4 := hne j hj
      split at e <;> split at e <;> omega

/-- Distinct members of a list that all lie in another: no more of them. -/
theorem inj_le (n m : Nat) (f : Nat → Nat) (hf : ∀ i, i < n → f i < m) (hi : ∀ i j, i < n → j < n → f i = f j → i = j) : n ≤ m := by
  rcases Nat.lt_or_ge m n with h | h
  · obtain ⟨i, j, hij, hj, e⟩ := pigeon m f (fun i hi' => hf i (by omega))
    have := hi i j (by omega) (by omega) e
    omega
  · exact h

/-- The element at an index. -/
def rdi (ps : List Int) (x : Int) : Int := ps.getD x.toNat 0
/-- One step up; what is no node stays. -/
def stp (ps : List Int) (x : Int) : Int := if x < 0 then x else rdi ps x
def up (ps : List Int) : Nat → Int → Int
  | 0, x => x
  | m + 1, x => up ps m (stp ps x)
theorem stp_neg {ps : List Int} {x : Int} (h : x < 0) : stp ps x = x := if_pos h
theorem stp_nn {ps : List Int} {x : Int} (h : 0 ≤ x) : stp ps x = rdi ps x := if_neg (by omega)
theorem up_succ (ps : List Int) (m : Nat) (x : Int) : up ps (m + 1) x = up ps m (stp ps x) := rfl
theorem up_out (ps : List Int) (m : Nat) : ∀ x, up ps (m + 1) x = stp ps (up ps m x) := by
  induction m with
  | zero => intro x; rfl
  | succ m ih => intro x; rw [up_succ, ih]; rfl
theorem up_add (ps : List Int) (a b : Nat) (x : Int) : up ps (a + b) x = up ps a (up ps b x) := by
  induction a generalizing b x with
  | zero => rw [Nat.zero_add]; rfl
  | succ a ih => rw [show a + 1 + b = a + (b + 1) from by omega, ih, up_out, up_succ]
theorem up_neg {ps : List Int} {x : Int} (m : Nat) (h : x < 0) : up ps m x = x := by
  induction m with
  | zero => rfl
  | succ m ih => rw [up_succ, stp_neg h, ih]
theorem up_nn_of {ps : List Int} {x : Int} {a b : Nat} (hab : a ≤ b) (h : 0 ≤ up ps b x) : 0 ≤ up ps a x := by
  rcases Int.lt_or_le (up ps a x) 0 with h1 | h1
  · have : up ps b x = up ps a x := by rw [show b = (b - a) + a from by omega, up_add, up_neg _ h1]
    omega
  · exact h1

/-- All parents are nodes or -1. -/
def InR (ps : List Int) : Prop := ∀ x : Int, 0 ≤ x → x < ps.length → -1 ≤ rdi ps x ∧ rdi ps x < ps.length
theorem up_range {ps : List Int} (h : InR ps) {x : Int} (hx : -1 ≤ x) (hx' : x < ps.length) (m : Nat) : -1 ≤ up ps m x ∧ up ps m x < ps.length := by
  induction m with
  | zero => exact ⟨hx, hx'⟩
  | succ m ih =>
    rw [up_out]
    rcases Int.lt_or_le (up ps m x) 0 with h1 | h1
    · rw [stp_neg h1]; exact ih
    · rw [stp_nn h1]; exact h _ h1 ih.2

/-- A node from which the parents lead back to it. -/
def Cyc (ps : List Int) (x : Int) : Prop := 0 ≤ x ∧ ∃ m, 0 < m ∧ up ps m x = x
theorem cyc_mul {ps : List Int} {x : Int} {m : Nat} (h : up ps m x = x) (c : Nat) : up ps (c * m) x = x := by
  induction c with
  | zero => rw [Nat.zero_mul]; rfl
  | succ c ih => rw [Nat.succ_mul, up_add, h, ih]
theorem cyc_up_nn {ps : List Int} {x : Int} (h : Cyc ps x) (i : Nat) : 0 ≤ up ps i x := by
  obtain ⟨hx, m, hm, e⟩ := h
  have h1 := cyc_mul e i
  refine up_nn_of (b := i * m) (Nat.le_mul_of_pos_right i hm) ?_
  rw [h1]; exact hx
theorem cyc_up {ps : List Int} {x : Int} (h : Cyc ps x) (i : Nat) : Cyc ps (up ps i x) := by
  refine ⟨cyc_up_nn h i, ?_⟩
  obtain ⟨_, m, hm, e⟩ := h
  exact ⟨m, hm, by rw [← up_add, Nat.add_comm, up_add, e]⟩
/-- On a cycle every later point leads back. -/
theorem cyc_back {ps : List Int} {x : Int} (h : Cyc ps x) (i : Nat) : ∃ j, up ps j (up ps i x) = x := by
  obtain ⟨_, m, hm, e⟩ := h
  have h1 := cyc_mul e i
  have h2 : i ≤ i * m := Nat.le_mul_of_pos_right i hm
  exact ⟨i * m - i, by rw [← up_add, Nat.sub_add_cancel h2, h1]⟩
theorem natAbs_lt {x : Int} {n : Nat} (h0 : 0 ≤ x) (h1 : x < n) : x.toNat < n := by omega
/-- A repetition within the first n steps. -/
theorem up_repeat {ps : List Int} (h : InR ps) {x : Int} (hx : x < ps.length) (hn : ∀ i, i ≤ ps.length → 0 ≤ up ps i x) : ∃ i j, i < j ∧ j ≤ ps.length ∧ up ps i x = up ps j x := by
  have h0 : -1 ≤ x := by have := hn 0 (Nat.zero_le _); simp only [up] at this; omega
  obtain ⟨i, j, hij, hj, e⟩ := pigeon ps.length (fun i => (up ps i x).toNat) (fun i hi => natAbs_lt (hn i hi) (up_range h h0 hx i).2)
  have hi' := hn i (by omega)
  have hj' := hn j hj
  exact ⟨i, j, hij, hj, by have e2 : (up ps i x).toNat = (up ps j x).toNat := e; omega⟩
/-- The way back is no longer than the list. -/
theorem cyc_short {ps : List Int} (h : InR ps) {x : Int} (hx : x < ps.length) (hc : Cyc ps x) : ∃ m, 0 < m ∧ m ≤ ps.length ∧ up ps m x = x := by
  obtain ⟨i, j, hij, hj, e⟩ := up_repeat h hx (fun i _ => cyc_up_nn hc i)
  obtain ⟨b, hb⟩ := cyc_back hc i
  refine ⟨j - i, by omega, by omega, ?_⟩
  have h1 : up ps (b + j) x = x := by rw [up_add, ← e, hb]
  have h2 : up ps (b + i) x = x := by rw [up_add, hb]
  have h3 : b + j = (j - i) + (b + i) := by omega
  rw [h3, up_add, h2] at h1
  exact h1
/-- No cycle: every way ends. -/
theorem ends_of {ps : List Int} (h : InR ps) (hc : ∀ x : Int, 0 ≤ x → x < ps.length → ¬ Cyc ps x) {x : Int} (hx0 : 0 ≤ x) (hx : x < ps.length) : ∃ m, m ≤ ps.length ∧ up ps m x < 0 := by
  by_cases hn : ∃ i, i ≤ ps.length ∧ up ps i x < 0
  · exact hn
  · exfalso
    obtain ⟨i, j, hij, hj, e⟩ := up_repeat h hx (fun i hi => by
      rcases Int.lt_or_le (up ps i x) 0 with h1 | h1
      · exact absurd ⟨i, hi, h1⟩ hn
      · exact h1)
    have h0 : 0 ≤ up ps i x := by
      rcases Int.lt_or_le (up ps i x) 0 with h1 | h1
      · exact absurd ⟨i, by omega, h1⟩ hn
      · exact h1
    refine hc _ h0 (up_range h (by omega) hx i).2 ⟨h0, j - i, by omega, ?_⟩
    rw [← up_add, Nat.sub_add_cancel (by omega)]
    exact e.symm
end Go.Proofs.Ythjcmodhleoocaa.TP
/- TSpec -/
namespace Go.Proofs.Ythjcmodhleoocaa.TP

/-- Node x is y or an ancestor of y. -/
def Sub (ps : List Int) (x y : Nat) : Prop := ∃ m, up ps m (y : Int) = (x : Int)
theorem Sub.refl (ps : List Int) (x : Nat) : Sub ps x x := ⟨0, rfl⟩
theorem Sub.trans {ps : List Int} {x y z : Nat} (h : Sub ps x y) (k : Sub ps y z) : Sub ps x z := by
  obtain ⟨a, ha⟩ := h
  obtain ⟨b, hb⟩ := k
  exact ⟨a + b, by rw [up_add, hb, ha]⟩
/-- A forest: parents in range, no cycle. -/
structure Forest (ps : List Int) : Prop where
  rng : InR ps
  nc : ∀ j : Int, 0 ≤ j → j < ps.length → ¬ Cyc ps j
theorem rdi_nat (ps : List Int) (c : Nat) : rdi ps (c : Int) = ps.getD c 0 := by unfold rdi; rw [Int.toNat_natCast]
theorem mem_kd {ps : List Int} {i c : Nat} : c ∈ kd ps i ↔ c < ps.length ∧ rdi ps (c : Int) = (i : Int) := by unfold kd; rw [mem_kidsOf, rdi_nat]
theorem mem_kids {ps : List Int} {p : Int} {c : Nat} : c ∈ kidsOf ps p ↔ c < ps.length ∧ rdi ps (c : Int) = p := by rw [mem_kidsOf, rdi_nat]
theorem kidsFrom_nodup (ps : List Int) (p : Int) (j : Nat) : (kidsFrom ps p j).Nodup := by
  unfold kidsFrom
  exact List.Pairwise.filter _ (List.nodup_range')
theorem kidsOf_nodup (ps : List Int) (p : Int) : (kidsOf ps p).Nodup := kidsFrom_nodup ps p 0

theorem no_loop {ps : List Int} (hf : Forest ps) {x : Nat} (hx : x < ps.length) {m : Nat} (hm : 0 < m) : up ps m (x : Int) ≠ (x : Int) := fun e =>
  hf.nc x (by omega) (by omega) ⟨by omega, m, hm, e⟩
theorem Sub.anti {ps : List Int} (hf : Forest ps) {x y : Nat} (hx : x < ps.length) (h : Sub ps x y) (k : Sub ps y x) : x = y := by
  obtain ⟨a, ha⟩ := h
  obtain ⟨b, hb⟩ := k
  rcases Nat.eq_zero_or_pos (a + b) with h0 | h0
  · obtain rfl : a = 0 := by omega
    have : (y : Int) = (x : Int) := ha
    omega
  · exact absurd (show up ps (a + b) (x : Int) = x by rw [up_add, hb, ha]) (no_loop hf hx h0)
/-- Siblings (or roots) have no common descendant. -/
theorem sib_disj {ps : List Int} (hf : Forest ps) {p : Int} {c c' x : Nat} (hp : p < ps.length) (hc : rdi ps (c : Int) = p) (hc' : rdi ps (c' : Int) = p) (h : Sub ps c x) (h' : Sub ps c' x) : c = c' := by
  have key : ∀ (c c' : Nat) (a b : Nat), rdi ps (c : Int) = p → rdi ps (c' : Int) = p → up ps a (x : Int) = c → up ps b (x : Int) = c' → a < b → False := by
    intro c c' a b hc hc' ha hb hab
    obtain ⟨e, rfl⟩ : ∃ e, b = (e + 1) + a := ⟨b - a - 1, by omega⟩
    rw [up_add, ha, up_succ, stp_nn (by omega), hc] at hb
    rcases Int.lt_or_le p 0 with h1 | h1
    · rw [up_neg _ h1] at hb; omega
    · have h2 : up ps (e + 1) p = p := by rw [up_out, hb, stp_nn (by omega), hc']
      exact hf.nc p h1 hp ⟨h1, e + 1, by omega, h2⟩
  obtain ⟨a, ha⟩ := h
  obtain ⟨b, hb⟩ := h'
  rcases Nat.lt_trichotomy a b with h | h | h
  · exact (key c c' a b hc hc' ha hb h).elim
  · subst h; rw [ha] at hb; omega
  · exact (key c' c b a hc' hc hb ha h).elim
/-- A node's tree: itself, and its children's trees. -/
theorem sub_kids {ps : List Int} (hf : Forest ps) {i x : Nat} (hx : x < ps.length) : Sub ps i x ↔ x = i ∨ ∃ c, c ∈ kd ps i ∧ Sub ps c x := by
  constructor
  · rintro ⟨m, hm⟩
    cases m with
    | zero => left; have : (x : Int) = (i : Int) := hm; omega
    | succ m =>
      right
      rw [up_out] at hm
      have h0 : 0 ≤ up ps m (x : Int) := by
        rcases Int.lt_or_le (up ps m (x : Int)) 0 with h | h
        · rw [stp_neg h] at hm; omega
        · exact h
      have h1 := (up_range hf.rng (by omega) (by omega : (x : Int) < ps.length) m).2
      rw [stp_nn h0] at hm
      exact ⟨(up ps m (x : Int)).toNat, mem_kd.2 ⟨by omega, by rw [Int.toNat_of_nonneg h0]; exact hm⟩, m, (Int.toNat_of_nonneg h0).symm⟩
  · rintro (rfl | ⟨c, hc, m, hm⟩)
    · exact Sub.refl _ _
    · exact ⟨m + 1, by rw [up_out, hm, stp_nn (by omega)]; exact (mem_kd.1 hc).2⟩
theorem kid_not_sub {ps : List Int} (hf : Forest ps) {i c : Nat} (hi : i < ps.length) (hc : c ∈ kd ps i) : ¬ Sub ps c i := by
  rintro ⟨m, hm⟩
  refine no_loop hf hi (m := m + 1) (by omega) ?_
  rw [up_out, hm, stp_nn (by omega)]
  exact (mem_kd.1 hc).2

/-- How two different nodes' labels stand to each other. -/
def Ord (ps : List Int) (L : List Lab) (x y : Nat) : Prop := ∃ lx ly, L[x]? = some lx ∧ L[y]? = some ly ∧
  ((Sub ps x y ∧ lx.pre < ly.pre ∧ ly.post < lx.post) ∨ (Sub ps y x ∧ ly.pre < lx.pre ∧ lx.post < ly.post) ∨
    (¬ Sub ps x y ∧ ¬ Sub ps y x ∧ ((lx.pre < ly.pre ∧ lx.post < ly.post) ∨ (ly.pre < lx.pre ∧ ly.post < lx.post))))
theorem Ord.symm {ps : List Int} {L : List Lab} {x y : Nat} (h : Ord ps L x y) : Ord ps L y x := by
  obtain ⟨lx, ly, h1, h2, h3⟩ := h
  refine ⟨ly, lx, h2, h1, ?_⟩
  rcases h3 with h | h | ⟨a, b, c⟩
  · exact .inr (.inl h)
  · exact .inl h
  · exact .inr (.inr ⟨b, a, c.symm⟩)

/-- What has been numbered: the nodes of T, by numbers from s on. -/
structure Res (ps : List Int) (T : Nat → Prop) (dp : Nat → Nat → Prop) (s t : NS) : Prop where
  len : t.L.length = s.L.length
  up : Up s t
  out : ∀ x, ¬ T x → t.L[x]? = s.L[x]?
  ins : ∀ x, x < ps.length → T x → ∃ l, t.L[x]? = some l ∧ s.pre ≤ l.pre ∧ l.pre < t.pre ∧ s.post ≤ l.post ∧ l.post < t.post ∧ dp x l.dep
  ord : ∀ x y, x < ps.length → y < ps.length → T x → T y → x ≠ y → Ord ps t.L x y
  onto : ∀ v, s.pre ≤ v → v < t.pre → ∃ x, x < ps.length ∧ T x ∧ ∃ l, t.L[x]? = some l ∧ l.pre = v

/-- Depths: d levels above the trees of cs. -/
def DpL (ps : List Int) (cs : List Nat) (d : Nat) (x : Nat) (e : Nat) : Prop := ∃ c, c ∈ cs ∧ ∃ m, up ps m (x : Int) = (c : Int) ∧ e = d + m
def TL (ps : List Int) (cs : List Nat) (x : Nat) : Prop := ∃ c, c ∈ cs ∧ Sub ps c x

theorem res_nil (ps : List Int) (d : Nat) (s : NS) : Res ps (TL ps []) (DpL ps [] d) s s :=
  ⟨rfl, Up.refl s, fun _ _ => rfl, fun x _ ⟨c, hc, _⟩ => (by cases hc), fun x y _ _ ⟨c, hc, _⟩ => (by cases hc), fun v h1 h2 => by omega⟩

theorem res_cons {ps : List Int} (hf : Forest ps) {p : Int} (hp : p < ps.length) {c : Nat} {cs : List Nat} {d : Nat} {s m t : NS} (hc : rdi ps (c : Int) = p) (hcs : ∀ c' ∈ cs, rdi ps (c' : Int) = p) (hnd : c ∉ cs)
    (h1 : Res ps (TL ps [c]) (DpL ps [c] d) s m) (h2 : Res ps (TL ps cs) (DpL ps cs d) m t) : Res ps (TL ps (c :: cs)) (DpL ps (c :: cs) d) s t := by
  have hdis : ∀ x, Sub ps c x → ¬ TL ps cs x := by
    rintro x hx ⟨c', hc', hx'⟩
    have := sib_disj hf hp hc (hcs c' hc') hx hx'
    subst this
    exact hnd hc'
  have hone : ∀ x, TL ps [c] x ↔ Sub ps c x := fun x => ⟨fun ⟨c', h, h'⟩ => by rw [List.mem_singleton.1 h] at h'; exact h', fun h => ⟨c, List.mem_singleton.2 rfl, h⟩⟩
  have hsplit : ∀ x, TL ps (c :: cs) x ↔ Sub ps c x ∨ TL ps cs x := by
    intro x
    constructor
    · rintro ⟨c', h, h'⟩
      rcases List.mem_cons.1 h with rfl | h
      · exact .inl h'
      · exact .inr ⟨c', h, h'⟩
    · rintro (h | ⟨c', h, h'⟩)
      · exact ⟨c, List.mem_cons_self, h⟩
      · exact ⟨c', List.mem_cons_of_mem _ h, h'⟩
  have hkeep : ∀ x, Sub ps c x → t.L[x]? = m.L[x]? := fun x hx => h2.out x (hdis x hx)
  have u1 := h1.up; have u2 := h2.up
  refine ⟨h2.len.trans h1.len, u1.trans u2, fun x hx => ?_, fun x hx ht => ?_, fun x y hx hy hTx hTy hne => ?_, fun v hv hv' => ?_⟩
  · rw [hsplit] at hx
    rw [h2.out x (fun h => hx (.inr h)), h1.out x (fun h => hx (.inl ((hone x).1 h)))]
  · rw [hsplit] at ht
    rcases ht with h | h
    · obtain ⟨l, a, b, c', e, f, c2, hc2, k, hk, hkd⟩ := h1.ins x hx ((hone x).2 h)
      refine ⟨l, (hkeep x h).trans a, b, by have := u2.2.1; omega, e, by have := u2.2.2.1; omega, c2, ?_, k, hk, hkd⟩
      rw [List.mem_singleton.1 hc2]; exact List.mem_cons_self
    · obtain ⟨l, a, b, c', e, f, c2, hc2, k, hk, hkd⟩ := h2.ins x hx h
      exact ⟨l, a, by have := u1.2.1; omega, c', by have := u1.2.2.1; omega, f, c2, List.mem_cons_of_mem _ hc2, k, hk, hkd⟩
  · rw [hsplit] at hTx hTy
    have mixed : ∀ x y, x < ps.length → y < ps.length → Sub ps c x → TL ps cs y → Ord ps t.L x y := by
      intro x y hx hy h h'
      obtain ⟨lx, a, b, c', e, f, _⟩ := h1.ins x hx ((hone x).2 h)
      obtain ⟨ly, a', b', c'', e', f', _⟩ := h2.ins y hy h'
      refine ⟨lx, ly, (hkeep x h).trans a, a', .inr (.inr ⟨fun hs => hdis y (h.trans hs) h', fun hs => ?_, .inl ⟨by omega, by omega⟩⟩)⟩
      obtain ⟨c2, hc2, hy2⟩ := h'
      exact hdis x h ⟨c2, hc2, hy2.trans hs⟩
    rcases hTx with h | h <;> rcases hTy with h' | h'
    · obtain ⟨lx, ly, a, b, e⟩ := h1.ord x y hx hy ((hone x).2 h) ((hone y).2 h') hne
      exact ⟨lx, ly, (hkeep x h).trans a, (hkeep y h').trans b, e⟩
    · exact mixed x y hx hy h h'
    · exact (mixed y x hy hx h' h).symm
    · exact h2.ord x y hx hy h h' hne
  · rcases Nat.lt_or_ge v m.pre with h | h
    · obtain ⟨x, a, b, l, e, f⟩ := h1.onto v hv h
      exact ⟨x, a, (hsplit x).2 (.inl ((hone x).1 b)), l, (hkeep x ((hone x).1 b)).trans e, f⟩
    · obtain ⟨x, a, b, l, e, f⟩ := h2.onto v h hv'
      exact ⟨x, a, (hsplit x).2 (.inr b), l, e, f⟩

theorem res_node {ps : List Int} (hf : Forest ps) {i d : Nat} (hi : i < ps.length) {s m : NS} (hl : s.L.length = ps.length) (h : Res ps (TL ps (kd ps i)) (DpL ps (kd ps i) (d + 1)) (enter i d s) m) :
    Res ps (TL ps [i]) (DpL ps [i] d) s (leave i m) := by
  have hone : ∀ x, TL ps [i] x ↔ Sub ps i x := fun x => ⟨fun ⟨c', h, h'⟩ => by rw [List.mem_singleton.1 h] at h'; exact h', fun h => ⟨i, List.mem_singleton.2 rfl, h⟩⟩
  have hni : ¬ TL ps (kd ps i) i := by
    rintro ⟨c, hc, hs⟩
    exact kid_not_sub hf hi hc hs
  have hu := h.up
  have e1 : (enter i d s).pre = s.pre + 1 := rfl
  have e2 : (enter i d s).post = s.post := rfl
  have e3 : (leave i m).pre = m.pre := rfl
  have e4 : (leave i m).post = m.post + 1 := rfl
  obtain ⟨x0, hx0⟩ : ∃ x0, s.L[i]? = some x0 := ⟨_, List.getElem?_eq_getElem (by omega)⟩
  have hLi : (leave i m).L[i]? = some { pre := s.pre, post := m.post, dep := d } := by
    have h1 := h.out i hni
    have h2 : (enter i d s).L[i]? = some { x0 with pre := s.pre, dep := d } := by simp [enter, hx0]
    rw [h2] at h1
    simp [leave, h1]
  have hLo : ∀ x, x ≠ i → (leave i m).L[x]? = m.L[x]? := fun x hx => by simp [leave, Ne.symm hx]
  have hEo : ∀ x, x ≠ i → (enter i d s).L[x]? = s.L[x]? := fun x hx => by simp [enter, Ne.symm hx]
  have hcase : ∀ x, x < ps.length → Sub ps i x → x = i ∨ (x ≠ i ∧ TL ps (kd ps i) x) := by
    intro x hx hs
    by_cases e : x = i
    · exact .inl e
    · rcases (sub_kids hf hx).1 hs with e' | h'
      · exact absurd e' e
      · exact .inr ⟨e, h'⟩
  have hup : Up s (leave i m) := by
    obtain ⟨a, b, c, e⟩ := hu
    refine ⟨by rw [leave_len, a, enter_len], by rw [e3]; omega, by rw [e4]; omega, by rw [e3, e4]; omega⟩
  refine ⟨hup.1, hup, fun x hx => ?_, fun x hx ht => ?_, fun x y hx hy hTx hTy hne => ?_, fun v hv hv' => ?_⟩
  · rw [hone] at hx
    have hxi : x ≠ i := fun e => hx (e ▸ Sub.refl ps x)
    have hxk : ¬ TL ps (kd ps i) x := by
      rintro ⟨c, hc, k, hk⟩
      exact hx ⟨k + 1, by rw [up_out, hk, stp_nn (by omega)]; exact (mem_kd.1 hc).2⟩
    rw [hLo x hxi, h.out x hxk, hEo x hxi]
  · rcases hcase x hx ((hone x).1 ht) with rfl | ⟨hxi, hk⟩
    · have := hu.2.1; have := hu.2.2.1
      exact ⟨_, hLi, Nat.le_refl _, by rw [e3]; show s.pre < m.pre; omega, by show s.post ≤ m.post; omega, by rw [e4]; show m.post < m.post + 1; omega, x, List.mem_singleton.2 rfl, 0, rfl, rfl⟩
    · obtain ⟨l, a, b, c', e, f, c2, hc2, k, hk, hkd⟩ := h.ins x hx hk
      refine ⟨l, (hLo x hxi).trans a, by omega, by rw [e3]; exact c', by omega, by rw [e4]; omega, i, List.mem_singleton.2 rfl, k + 1, ?_, by omega⟩
      rw [up_out, hk, stp_nn (by omega)]; exact (mem_kd.1 hc2).2
  · have one : ∀ y, y < ps.length → y ≠ i → TL ps (kd ps i) y → Ord ps (leave i m).L i y := by
      intro y hy hyi hk
      obtain ⟨l, a, b, c', e, f, _⟩ := h.ins y hy hk
      obtain ⟨c, hc, k, hk2⟩ := hk
      exact ⟨_, l, hLi, (hLo y hyi).trans a, .inl ⟨⟨k + 1, by rw [up_out, hk2, stp_nn (by omega)]; exact (mem_kd.1 hc).2⟩, by show s.pre < l.pre; omega, f⟩⟩
    rcases hcase x hx ((hone x).1 hTx) with rfl | ⟨hxi, hk⟩ <;> rcases hcase y hy ((hone y).1 hTy) with rfl | ⟨hyi, hk'⟩
    · exact absurd rfl hne
    · exact one y hy hyi hk'
    · exact (one x hx hxi hk).symm
    · obtain ⟨lx, ly, a, b, e⟩ := h.ord x y hx hy hk hk' hne
      exact ⟨lx, ly, (hLo x hxi).trans a, (hLo y hyi).trans b, e⟩
  · rcases Nat.lt_or_ge s.pre v with h1 | h1
    · obtain ⟨x, a, b, l, e, f⟩ := h.onto v (by omega) (by rw [e3] at hv'; exact hv')
      have hxi : x ≠ i := fun e' => hni (e' ▸ b)
      obtain ⟨c, hc, k, hk2⟩ := b
      exact ⟨x, a, (hone x).2 ⟨k + 1, by rw [up_out, hk2, stp_nn (by omega)]; exact (mem_kd.1 hc).2⟩, l, (hLo x hxi).trans e, f⟩
    · exact ⟨i, hi, (hone i).2 (Sub.refl _ _), _, hLi, by show s.pre = v; omega⟩

/-- How deep a node lies. -/
def HasD (ps : List Int) (x : Int) (d : Nat) : Prop := 0 ≤ up ps d x ∧ up ps (d + 1) x < 0
theorem HasD.uniq {ps : List Int} {x : Int} {a b : Nat} (h : HasD ps x a) (k : HasD ps x b) : a = b := by
  rcases Nat.lt_trichotomy a b with h1 | h1 | h1
  · have := up_nn_of (show a + 1 ≤ b by omega) k.1; have := h.2; omega
  · exact h1
  · have := up_nn_of (show b + 1 ≤ a by omega) h.1; have := k.2; omega
theorem hasD_ex {ps : List Int} (hf : Forest ps) {x : Int} (hx0 : 0 ≤ x) (hx : x < ps.length) : ∃ d, d < ps.length ∧ HasD ps x d := by
  obtain ⟨m, hm, hneg⟩ := ends_of hf.rng hf.nc hx0 hx
  have key : ∀ m, up ps m x < 0 → ∃ d, d < m ∧ HasD ps x d := by
    intro m
    induction m with
    | zero => intro h; have : x < 0 := h; omega
    | succ m ih =>
      intro h
      rcases Int.lt_or_le (up ps m x) 0 with h1 | h1
      · obtain ⟨d, hd, h2⟩ := ih h1; exact ⟨d, by omega, h2⟩
      · exact ⟨m, by omega, h1, h⟩
  obtain ⟨d, hd, h2⟩ := key m hneg
  exact ⟨d, by omega, h2⟩
theorem HasD.kid {ps : List Int} {c : Nat} {i : Int} {d : Nat} (hc : rdi ps (c : Int) = i) (h : HasD ps i d) : HasD ps (c : Int) (d + 1) := by
  have e : stp ps (c : Int) = i := by rw [stp_nn (by omega)]; exact hc
  exact ⟨by rw [up_succ, e]; exact h.1, by rw [up_succ, e]; exact h.2⟩

/-- The numbering of a node's tree ends, and does what it should: enough levels are n less the node's depth. -/
theorem vis_res {ps : List Int} (hf : Forest ps) (k : Nat) : ∀ (i d D : Nat) (s : NS), i < ps.length → HasD ps (i : Int) D → ps.length ≤ D + k → s.L.length = ps.length →
    ∃ t, vis (kd ps) k i d s = some t ∧ Res ps (TL ps [i]) (DpL ps [i] d) s t := by
  induction k with
  | zero =>
    intro i d D s hi hD hk
    obtain ⟨d', hd', h'⟩ := hasD_ex hf (x := (i : Int)) (by omega) (by omega)
    have := hD.uniq h'
    omega
  | succ k ih =>
    intro i d D s hi hD hk hl
    have fold : ∀ (cs : List Nat), cs.Nodup → (∀ c ∈ cs, c ∈ kd ps i) → ∀ (s : NS), s.L.length = ps.length → ∃ t, cs.foldlM (fun s c => vis (kd ps) k c (d + 1) s) s = some t ∧ Res ps (TL ps cs) (DpL ps cs (d + 1)) s t := by
      intro cs
      induction cs with
      | nil => intro _ _ s _; exact ⟨s, rfl, res_nil ps (d + 1) s⟩
      | cons c cs ihc =>
        intro hnd hall s hl
        obtain ⟨hn1, hn2⟩ := List.nodup_cons.1 hnd
        have hck := mem_kd.1 (hall c List.mem_cons_self)
        obtain ⟨m, hm, hr⟩ := ih c (d + 1) (D + 1) s hck.1 (hD.kid hck.2) (by omega) hl
        obtain ⟨t, ht, hr2⟩ := ihc hn2 (fun c' h' => hall c' (List.mem_cons_of_mem _ h')) m (hr.len.trans hl)
        refine ⟨t, ?_, res_cons hf (p := (i : Int)) (by omega) hck.2 (fun c' h' => (mem_kd.1 (hall c' (List.mem_cons_of_mem _ h'))).2) hn1 hr hr2⟩
        rw [List.foldlM_cons, hm]
        exact ht
    obtain ⟨m, hm, hr⟩ := fold (kd ps i) (kidsOf_nodup _ _) (fun c h => h) (enter i d s) (by rw [enter_len]; exact hl)
    refine ⟨leave i m, ?_, res_node hf hi hl hr⟩
    rw [vis, if_pos (by omega), hm]
    rfl
theorem visL_res {ps : List Int} (hf : Forest ps) (k : Nat) (hk : ps.length ≤ k) : ∀ (cs : List Nat), cs.Nodup → (∀ c ∈ cs, c ∈ kidsOf ps (-1)) → ∀ (s : NS), s.L.length = ps.length →
    ∃ t, visL ps k cs 0 s = some t ∧ Res ps (TL ps cs) (DpL ps cs 0) s t := by
  intro cs
  induction cs with
  | nil => intro _ _ s _; exact ⟨s, rfl, res_nil ps 0 s⟩
  | cons c cs ihc =>
    intro hnd hall s hl
    obtain ⟨hn1, hn2⟩ := List.nodup_cons.1 hnd
    have hck := mem_kids.1 (hall c List.mem_cons_self)
    have hD : HasD ps (c : Int) 0 := ⟨by show (0 : Int) ≤ (c : Int); omega, by
      show stp ps (c : Int) < 0
      rw [stp_nn (by omega), hck.2]; omega⟩
    obtain ⟨m, hm, hr⟩ := vis_res hf k c 0 0 s hck.1 hD (by omega) hl
    obtain ⟨t, ht, hr2⟩ := ihc hn2 (fun c' h' => hall c' (List.mem_cons_of_mem _ h')) m (hr.len.trans hl)
    refine ⟨t, ?_, res_cons hf (p := -1) (by omega) hck.2 (fun c' h' => (mem_kids.1 (hall c' (List.mem_cons_of_mem _ h'))).2) hn1 hr hr2⟩
    rw [visL_cons, hm]
    exact ht

/-- The labels of a forest. -/
structure LabOf (ps : List Int) (L : List Lab) : Prop where
  len : L.length = ps.length
  dep : ∀ (x : Nat) (l : Lab), L[x]? = some l → HasD ps (x : Int) l.dep
  rng : ∀ (x : Nat) (l : Lab), L[x]? = some l → l.pre < ps.length ∧ l.post < ps.length
  ord : ∀ x y, x < ps.length → y < ps.length → x ≠ y → Ord ps L x y
  onto : ∀ v, v < ps.length → ∃ (x : Nat) (l : Lab), L[x]? = some l ∧ l.pre = v
theorem root_of {ps : List Int} (hf : Forest ps) {x : Nat} (hx : x < ps.length) : TL ps (kidsOf ps (-1)) x := by
  obtain ⟨d, hd, h1, h2⟩ := hasD_ex hf (x := (x : Int)) (by omega) (by omega)
  have hr := up_range hf.rng (by omega) (by omega : (x : Int) < ps.length) d
  have hr2 := up_range hf.rng (by omega) (by omega : (x : Int) < ps.length) (d + 1)
  rw [up_out, stp_nn h1] at h2 hr2
  exact ⟨(up ps d (x : Int)).toNat, mem_kids.2 ⟨by omega, by rw [Int.toNat_of_nonneg h1]; omega⟩, d, (Int.toNat_of_nonneg h1).symm⟩
/-- The numbering of a forest ends with its labels. -/
theorem num_res {ps : List Int} (hf : Forest ps) (k : Nat) (hk : ps.length ≤ k) : ∃ t, visL ps k (kidsOf ps (-1)) 0 ⟨List.replicate ps.length ⟨0, 0, 0⟩, 0, 0⟩ = some t ∧ t.pre = ps.length ∧ t.post = ps.length ∧ LabOf ps t.L := by
  obtain ⟨t, ht, hr⟩ := visL_res hf k hk (kidsOf ps (-1)) (kidsOf_nodup _ _) (fun c h => h) ⟨List.replicate ps.length ⟨0, 0, 0⟩, 0, 0⟩ (by rw [List.length_replicate])
  have hlen : t.L.length = ps.length := by rw [hr.len, List.length_replicate]
  have hin : ∀ x, x < ps.length → ∃ l, t.L[x]? = some l ∧ l.pre < t.pre ∧ l.post < t.post ∧ DpL ps (kidsOf ps (-1)) 0 x l.dep := fun x hx => by
    obtain ⟨l, a, _, b, _, c, e⟩ := hr.ins x hx (root_of hf hx)
    exact ⟨l, a, b, c, e⟩
  have hup := hr.up
  have hpp : t.pre = t.post := by have := hup.2.2.2; simp only at this; omega
  have h1 : ps.length ≤ t.pre := by
    refine inj_le ps.length t.pre (fun x => ((t.L[x]?).getD ⟨0, 0, 0⟩).pre) (fun x hx => ?_) (fun x y hx hy e => ?_)
    · obtain ⟨l, a, b, _⟩ := hin x hx
      show ((t.L[x]?).getD ⟨0, 0, 0⟩).pre < t.pre
      rw [a]; exact b
    · by_cases hxy : x = y
      · exact hxy
      · exfalso
        obtain ⟨lx, ly, a, b, c⟩ := hr.ord x y hx hy (root_of hf hx) (root_of hf hy) hxy
        have e' : ((t.L[x]?).getD ⟨0, 0, 0⟩).pre = ((t.L[y]?).getD ⟨0, 0, 0⟩).pre := e
        rw [a, b] at e'
        have e2 : lx.pre = ly.pre := e'
        omega
  have h2 : t.pre ≤ ps.length := by
    have hex : ∀ v, ∃ x, v < t.pre → x < ps.length ∧ ∃ l, t.L[x]? = some l ∧ l.pre = v := fun v => by
      by_cases hv : v < t.pre
      · obtain ⟨x, a, _, l, b, c⟩ := hr.onto v (Nat.zero_le _) hv
        exact ⟨x, fun _ => ⟨a, l, b, c⟩⟩
      · exact ⟨0, fun h => absurd h hv⟩
    refine inj_le t.pre ps.length (fun v => Classical.choose (hex v)) (fun v hv => (Classical.choose_spec (hex v) hv).1) (fun v w hv hw e => ?_)
    obtain ⟨_, l, a, b⟩ := Classical.choose_spec (hex v) hv
    obtain ⟨_, l', a', b'⟩ := Classical.choose_spec (hex w) hw
    have e' : Classical.choose (hex v) = Classical.choose (hex w) := e
    rw [e'] at a
    rw [a] at a'
    have : l = l' := Option.some.inj a'
    rw [← b, ← b', this]
  have h3 : t.pre = ps.length := by omega
  refine ⟨t, ht, h3, by omega, hlen, fun x l hl => ?_, fun x l hl => ?_, fun x y hx hy hne => hr.ord x y hx hy (root_of hf hx) (root_of hf hy) hne, fun v hv => ?_⟩
  · have hx : x < ps.length := by have := (List.getElem?_eq_some_iff.1 hl).1; omega
    obtain ⟨l', a, _, _, c, hc, m, hm, e⟩ := hin x hx
    rw [hl] at a
    obtain rfl := Option.some.inj a
    have hck := mem_kids.1 hc
    rw [Nat.zero_add] at e
    rw [e]
    exact ⟨by rw [hm]; omega, by rw [up_out, hm, stp_nn (by omega), hck.2]; omega⟩
  · have hx : x < ps.length := by have := (List.getElem?_eq_some_iff.1 hl).1; omega
    obtain ⟨l', a, b, c, _⟩ := hin x hx
    rw [hl] at a
    obtain rfl := Option.some.inj a
    omega
  · obtain ⟨x, _, _, l, b, c⟩ := hr.onto v (Nat.zero_le _) (by omega)
    exact ⟨x, l, b, c⟩
end Go.Proofs.Ythjcmodhleoocaa.TP
/- EvAid -/
namespace Go.Proofs.Ythjcmodhleoocaa.Q
open Go.RowKit Go.Proofs.YthjcmodhleoocaaW.PrintWords Go.Proofs.YthjcmodhleoocaaW.PrintLast

theorem ev_pos {α : Type} {c : Prop} [Decidable c] {f g : Nat → Option α} {r : α} (h : c) (e : Ev f r) : Ev (fun k => if c then f k else g k) r := Ev.congr (fun _ => if_pos h) e
theorem ev_neg {α : Type} {c : Prop} [Decidable c] {f g : Nat → Option α} {r : α} (h : ¬ c) (e : Ev g r) : Ev (fun k => if c then f k else g k) r := Ev.congr (fun _ => if_neg h) e
theorem ev_some {α β : Type} {a : α} {f : Nat → α → Option β} {r : β} (e : Ev (fun k => f k a) r) : Ev (fun k => (some a).bind (f k)) r := e
theorem ev_now {α : Type} {r r' : α} (h : r = r') : Ev (fun _ => some r) r' := by subst h; exact Ev.now r
theorem ev_eq {α : Type} {f : Nat → Option α} {r r' : α} (e : Ev f r) (h : r = r') : Ev f r' := h ▸ e
theorem wrap_up (i : Nat) (h : i ≤ 4611686018427387904) : wrap64 ((i : Int) + 1) = ((i + 1 : Nat) : Int) := by
  unfold wrap64; omega
theorem wrap_in (x : Int) (h0 : -4611686018427387904 ≤ x) (h : x ≤ 4611686018427387904) : wrap64 x = x := by
  unfold wrap64; omega
theorem rd_rdi (ps : List Int) (x : Int) : rd ps x = TP.rdi ps x := rfl
theorem rd_set_same {xs : List Int} {i v : Int} (h0 : 0 ≤ i) (h : i < xs.length) : rd (xs.set i.toNat v) i = v := by
  unfold rd
  rw [List.getD_eq_getElem?_getD, List.getElem?_set_self (by omega)]; rfl
theorem rd_set_ne {xs : List Int} {i j v : Int} (h0 : 0 ≤ i) (hj : 0 ≤ j) (h : i ≠ j) : rd (xs.set i.toNat v) j = rd xs j := by
  unfold rd
  rw [List.getD_eq_getElem?_getD, List.getElem?_set_ne (by omega), ← List.getD_eq_getElem?_getD]
theorem rd_replicate {n : Nat} {i v : Int} (h0 : 0 ≤ i) (h : i < n) : rd (List.replicate n v) i = v := by
  unfold rd
  rw [List.getD_eq_getElem?_getD, List.getElem?_replicate, if_pos (by omega)]; rfl
end Go.Proofs.Ythjcmodhleoocaa.Q
/- CheckLaw -/
namespace Go.Proofs.Ythjcmodhleoocaa.Q
open Go.RowKit Go.Proofs.YthjcmodhleoocaaW.PrintWords Go.Proofs.YthjcmodhleoocaaW.PrintLast
open Go.Proofs.Ythjcmodhleoocaa.TP

/-- The answer of a check of parents: (index, error). -/
def ChkR (ps : List Int) (r : Int × Int) : Prop :=
  (4096 < ps.length ∧ r = (0, 2)) ∨
  (ps.length ≤ 4096 ∧ ∃ i : Nat, i < ps.length ∧ (rdi ps i < -1 ∨ (ps.length : Int) ≤ rdi ps i) ∧ (∀ j : Nat, j < i → -1 ≤ rdi ps j ∧ rdi ps j < ps.length) ∧ r = ((i : Int), 8)) ∨
  (ps.length ≤ 4096 ∧ InR ps ∧ ∃ i : Int, i < ps.length ∧ Cyc ps i ∧ (∀ j : Int, j < ps.length → Cyc ps j → i ≤ j) ∧ r = (i, 12)) ∨
  (ps.length ≤ 4096 ∧ InR ps ∧ (∀ j : Int, 0 ≤ j → j < ps.length → ¬ Cyc ps j) ∧ r = (0, 0))
theorem ChkR.uniq {ps : List Int} {r r' : Int × Int} (h : ChkR ps r) (h' : ChkR ps r') : r = r' := by
  rcases h with ⟨a, rfl⟩ | ⟨a, i, hi, hb, hl, rfl⟩ | ⟨a, hr, i, hi, hc, hl, rfl⟩ | ⟨a, hr, hn, rfl⟩ <;> rcases h' with ⟨a', rfl⟩ | ⟨a', i', hi', hb', hl', rfl⟩ | ⟨a', hr', i', hi', hc', hl', rfl⟩ | ⟨a', hr', hn', rfl⟩
  · rfl
  · omega
  · omega
  · omega
  · omega
  · have h1 : ¬ i < i' := fun h => by have := hl' i h; omega
    have h2 : ¬ i' < i := fun h => by have := hl i' h; omega
    have : i = i' := by omega
    rw [this]
  · have := hr' i (by omega) (by omega); omega
  · have := hr' i (by omega) (by omega); omega
  · omega
  · have := hr i' (by omega) (by omega); omega
  · have h1 := hl i' hi' hc'
    have h2 := hl' i hi hc
    have : i = i' := by omega
    rw [this]
  · exact absurd hc (hn' i hc.1 hi)
  · omega
  · have := hr i' (by omega) (by omega); omega
  · exact absurd hc' (hn i' hc'.1 hi')
  · rfl
theorem inR_of {ps : List Int} (h : ∀ j : Nat, j < ps.length → -1 ≤ rdi ps j ∧ rdi ps j < ps.length) : InR ps := by
  intro x hx hx'
  have := h x.toNat (by omega)
  rwa [Int.toNat_of_nonneg hx] at this

/-- What is known between two walks: every visited node's way up is visited, and the least node on a cycle so far. -/
structure Seen (ps : List Int) (i : Nat) (seen : List Int) (least : Int) : Prop where
  len : seen.length = ps.length
  num : ∀ v : Int, 0 ≤ v → v < ps.length → 0 ≤ rd seen v ∧ rd seen v ≤ i
  closed : ∀ v : Int, 0 ≤ v → v < ps.length → rd seen v ≠ 0 → stp ps v < 0 ∨ rd seen (stp ps v) ≠ 0
  all : ∀ v : Int, 0 ≤ v → v < i → rd seen v ≠ 0
  least : (least = -1 ∧ ∀ v : Int, 0 ≤ v → v < ps.length → rd seen v ≠ 0 → ¬ Cyc ps v) ∨
    (0 ≤ least ∧ least < ps.length ∧ Cyc ps least ∧ ∀ v : Int, 0 ≤ v → v < ps.length → rd seen v ≠ 0 → Cyc ps v → least ≤ v)
theorem Seen.up {ps : List Int} {i : Nat} {seen : List Int} {least : Int} (h : Seen ps i seen least) (hr : InR ps) {v : Int} (hv : 0 ≤ v) (hv' : v < ps.length) (hs : rd seen v ≠ 0) (m : Nat) (hm : 0 ≤ TP.up ps m v) : rd seen (TP.up ps m v) ≠ 0 := by
  induction m with
  | zero => exact hs
  | succ m ih =>
    have h0 : 0 ≤ TP.up ps m v := up_nn_of (Nat.le_succ m) hm
    have h1 := ih h0
    rcases h.closed _ h0 (up_range hr (by omega) hv' m).2 h1 with h2 | h2
    · rw [up_out] at hm; omega
    · rw [up_out]; exact h2

/-- A walk from i has come t steps; seen0: what was seen before it. -/
structure Walk (ps : List Int) (i : Nat) (seen0 seen : List Int) (t : Nat) : Prop where
  len : seen.length = ps.length
  new : ∀ s, s < t → 0 ≤ TP.up ps s i ∧ rd seen0 (TP.up ps s i) = 0 ∧ rd seen (TP.up ps s i) = (i : Int) + 1
  old : ∀ v : Int, 0 ≤ v → v < ps.length → (∀ s, s < t → TP.up ps s i ≠ v) → rd seen v = rd seen0 v
  inj : ∀ s s', s < t → s' < s → TP.up ps s' i ≠ TP.up ps s i

theorem Walk.cases {ps : List Int} {i : Nat} {seen0 seen : List Int} {t : Nat} (h : Walk ps i seen0 seen t) {v : Int} (hv : 0 ≤ v) (hv' : v < ps.length) : (∃ s, s < t ∧ TP.up ps s i = v) ∨ rd seen v = rd seen0 v := by
  by_cases e : ∃ s, s < t ∧ TP.up ps s i = v
  · exact .inl e
  · exact .inr (h.old v hv hv' (fun s hs he => e ⟨s, hs, he⟩))
theorem Walk.start {ps : List Int} {i : Nat} {seen0 : List Int} (h : seen0.length = ps.length) : Walk ps i seen0 seen0 0 :=
  ⟨h, fun _ hs => absurd hs (Nat.not_lt_zero _), fun _ _ _ _ => rfl, fun _ _ hs => absurd hs (Nat.not_lt_zero _)⟩
theorem Walk.next {ps : List Int} {i : Nat} {seen0 seen : List Int} {t : Nat} (hr : InR ps) (hi : i < ps.length) (h : Walk ps i seen0 seen t) (h0 : 0 ≤ TP.up ps t i) (hz : rd seen (TP.up ps t i) = 0) :
    Walk ps i seen0 (seen.set (TP.up ps t i).toNat ((i : Int) + 1)) (t + 1) := by
  have hlt : TP.up ps t i < ps.length := (up_range hr (by omega) (by omega) t).2
  have hnew : ∀ s, s < t → TP.up ps s i ≠ TP.up ps t i := fun s hs e => by
    have := (h.new s hs).2.2
    rw [e, hz] at this
    omega
  refine ⟨by rw [List.length_set]; exact h.len, fun s hs => ?_, fun v hv hv' hne => ?_, fun s s' hs hs' => ?_⟩
  · rcases Nat.lt_or_ge s t with h1 | h1
    · have h2 := h.new s h1
      exact ⟨h2.1, h2.2.1, by rw [rd_set_ne h0 h2.1 (hnew s h1).symm]; exact h2.2.2⟩
    · obtain rfl : s = t := by omega
      refine ⟨h0, ?_, rd_set_same h0 (by rw [h.len]; exact hlt)⟩
      rw [← h.old _ h0 hlt hnew]; exact hz
  · rw [rd_set_ne h0 hv (hne t (by omega))]
    exact h.old v hv hv' (fun s hs => hne s (by omega))
  · rcases Nat.lt_or_ge s t with h1 | h1
    · exact h.inj s s' h1 hs'
    · obtain rfl : s = t := by omega
      exact hnew s' hs'
/-- A walk comes no further than there are nodes. -/
theorem Walk.short {ps : List Int} {i : Nat} {seen0 seen : List Int} {t : Nat} (hr : InR ps) (hi : i < ps.length) (h : Walk ps i seen0 seen t) : t ≤ ps.length := by
  refine inj_le t ps.length (fun s => (TP.up ps s i).toNat) (fun s hs => ?_) (fun a b ha hb e => ?_)
  · exact natAbs_lt (h.new s hs).1 (up_range hr (by omega) (by omega) s).2
  · have h1 := (h.new a ha).1
    have h2 := (h.new b hb).1
    have e' : TP.up ps a i = TP.up ps b i := by
      have e2 : (TP.up ps a i).toNat = (TP.up ps b i).toNat := e
      omega
    rcases Nat.lt_trichotomy a b with h3 | h3 | h3
    · exact absurd e' (h.inj b a hb h3)
    · exact h3
    · exact absurd e'.symm (h.inj a b ha h3)
/-- The walk has ended: what is seen now is closed, and node i is seen. -/
theorem Walk.closes {ps : List Int} {i : Nat} {seen0 seen : List Int} {t : Nat} {least : Int} (hr : InR ps) (hi : i < ps.length) (hs : Seen ps i seen0 least) (h : Walk ps i seen0 seen t) (hend : TP.up ps t i < 0 ∨ rd seen (TP.up ps t i) ≠ 0) :
    (∀ v : Int, 0 ≤ v → v < ps.length → 0 ≤ rd seen v ∧ rd seen v ≤ (i + 1 : Nat)) ∧ (∀ v : Int, 0 ≤ v → v < ps.length → rd seen v ≠ 0 → stp ps v < 0 ∨ rd seen (stp ps v) ≠ 0) ∧ (∀ v : Int, 0 ≤ v → v < (i + 1 : Nat) → rd seen v ≠ 0) := by
  have hold : ∀ v : Int, 0 ≤ v → v < ps.length → rd seen0 v ≠ 0 → rd seen v ≠ 0 := fun v hv hv' hn => by
    rcases h.cases hv hv' with ⟨s, hs1, e⟩ | e
    · have h2 := h.new s hs1
      rw [e] at h2; omega
    · rw [e]; exact hn
  refine ⟨fun v hv hv' => ?_, fun v hv hv' hn => ?_, fun v hv hv' => ?_⟩
  · rcases h.cases hv hv' with ⟨s, hs1, e⟩ | e
    · have h2 := h.new s hs1
      rw [e] at h2; omega
    · have := hs.num v hv hv'
      rw [e]; omega
  · rcases h.cases hv hv' with ⟨s, hs1, e⟩ | e
    · subst e
      rw [← up_out]
      rcases Nat.lt_or_ge (s + 1) t with h1 | h1
      · right; have := (h.new _ h1).2.2; omega
      · obtain rfl : s + 1 = t := by omega
        exact hend
    · rw [e] at hn
      rcases hs.closed v hv hv' hn with h1 | h1
      · exact .inl h1
      · have h2 : 0 ≤ stp ps v ∨ stp ps v < 0 := by omega
        rcases h2 with h2 | h2
        · right
          refine hold _ h2 ?_ h1
          rw [stp_nn hv]; exact (hr v hv hv').2
        · exact .inl h2
  · rcases Int.lt_or_le v i with h1 | h1
    · exact hold v hv (by omega) (hs.all v hv h1)
    · obtain rfl : v = i := by omega
      rcases Nat.eq_zero_or_pos t with h2 | h2
      · subst h2
        rcases hend with h3 | h3
        · simp only [TP.up] at h3; omega
        · exact h3
      · have := (h.new 0 h2).2.2
        simp only [TP.up] at this
        omega

/-- The walk ended outside, or at what was seen before: it met no cycle. -/
theorem Walk.plain {ps : List Int} {i : Nat} {seen0 seen : List Int} {t : Nat} {least : Int} (hr : InR ps) (hi : i < ps.length) (hs : Seen ps i seen0 least) (h : Walk ps i seen0 seen t)
    (hend : TP.up ps t i < 0 ∨ rd seen0 (TP.up ps t i) ≠ 0) : ∀ s, s < t → ¬ Cyc ps (TP.up ps s i) := by
  intro s hst hc
  have hcr : ∀ m, 0 ≤ TP.up ps (m + s) i := fun m => by rw [up_add]; exact cyc_up_nn hc m
  have ht0 : 0 ≤ TP.up ps t i := by have := hcr (t - s); rwa [Nat.sub_add_cancel (by omega)] at this
  rcases hend with h1 | h1
  · omega
  · obtain ⟨j, hj⟩ := cyc_back hc (t - s)
    rw [← up_add ps (t - s) s, Nat.sub_add_cancel (by omega)] at hj
    have h2 := hs.up hr ht0 (up_range hr (by omega) (by omega) t).2 h1 j (by rw [hj]; exact hc.1)
    rw [hj] at h2
    exact h2 (h.new s hst).2.1
theorem Walk.seen_plain {ps : List Int} {i : Nat} {seen0 seen : List Int} {t : Nat} {least : Int} (hr : InR ps) (hi : i < ps.length) (hs : Seen ps i seen0 least) (h : Walk ps i seen0 seen t)
    (hend : TP.up ps t i < 0 ∨ rd seen0 (TP.up ps t i) ≠ 0) : Seen ps (i + 1) seen least := by
  have hend' : TP.up ps t i < 0 ∨ rd seen (TP.up ps t i) ≠ 0 := by
    rcases hend with h1 | h1
    · exact .inl h1
    · rcases Int.lt_or_le (TP.up ps t i) 0 with h2 | h2
      · exact .inl h2
      · right
        rcases h.cases h2 (up_range hr (by omega) (by omega) t).2 with ⟨s, hs1, e⟩ | e
        · have := (h.new s hs1).2.2; rw [e] at this; omega
        · rw [e]; exact h1
  obtain ⟨h1, h2, h3⟩ := h.closes hr hi hs hend'
  refine ⟨h.len, h1, h2, h3, ?_⟩
  have hnc := h.plain hr hi hs hend
  rcases hs.least with ⟨e, hl⟩ | ⟨h4, h5, h6, hl⟩
  · refine .inl ⟨e, fun v hv hv' hn => ?_⟩
    rcases h.cases hv hv' with ⟨s, hs1, e⟩ | e
    · rw [← e]; exact hnc s hs1
    · rw [e] at hn; exact hl v hv hv' hn
  · refine .inr ⟨h4, h5, h6, fun v hv hv' hn hc => ?_⟩
    rcases h.cases hv hv' with ⟨s, hs1, e⟩ | e
    · rw [← e] at hc; exact absurd hc (hnc s hs1)
    · rw [e] at hn; exact hl v hv hv' hn hc
/-- The walk came back to a point of its own: the nodes on a cycle among the new ones are those that follow that point. -/
theorem Walk.ring {ps : List Int} {i : Nat} {seen0 seen : List Int} {t a : Nat} (h : Walk ps i seen0 seen t) (ha : a < t) (hback : TP.up ps t i = TP.up ps a i) :
    Cyc ps (TP.up ps a i) ∧ ∀ s, s < t → Cyc ps (TP.up ps s i) → ∃ m, m < t - a ∧ TP.up ps m (TP.up ps a i) = TP.up ps s i := by
  have hper : TP.up ps (t - a) (TP.up ps a i) = TP.up ps a i := by rw [← up_add, Nat.sub_add_cancel (by omega)]; exact hback
  refine ⟨⟨(h.new a ha).1, t - a, by omega, hper⟩, fun s hs hc => ?_⟩
  rcases Nat.lt_or_ge s a with h1 | h1
  · exfalso
    -- the cycle of up s i passes through up a i, whose ring stays within the later points
    obtain ⟨j, hj⟩ := cyc_back hc (a - s)
    rw [← up_add ps (a - s) s, Nat.sub_add_cancel (by omega)] at hj
    have hmod : TP.up ps j (TP.up ps a i) = TP.up ps (j % (t - a)) (TP.up ps a i) := by
      have e : j = j % (t - a) + (j / (t - a)) * (t - a) := by have := Nat.mod_add_div j (t - a); rw [Nat.mul_comm] at this; omega
      rw [e, up_add, cyc_mul hper]
      congr 1
      rw [Nat.add_mul_mod_self_right, Nat.mod_mod]
    have hlt : j % (t - a) < t - a := Nat.mod_lt _ (by omega)
    rw [hmod, ← up_add] at hj
    exact h.inj (j % (t - a) + a) s (by omega) (by omega) hj.symm
  · exact ⟨s - a, by omega, by rw [← up_add, Nat.sub_add_cancel h1]⟩
theorem Walk.seen_ring {ps : List Int} {i : Nat} {seen0 seen : List Int} {t a : Nat} {least least' : Int} (hr : InR ps) (hi : i < ps.length) (hs : Seen ps i seen0 least) (h : Walk ps i seen0 seen t) (ha : a < t) (hback : TP.up ps t i = TP.up ps a i)
    (hle : ∃ p, 0 < p ∧ TP.up ps p (TP.up ps a i) = TP.up ps a i ∧ (∀ m, m < p → least' ≤ TP.up ps m (TP.up ps a i)) ∧ (least = -1 ∨ least' ≤ least) ∧ ((least' = least ∧ least ≠ -1) ∨ ∃ m, least' = TP.up ps m (TP.up ps a i))) : Seen ps (i + 1) seen least' := by
  obtain ⟨hc, hring⟩ := h.ring ha hback
  obtain ⟨p, hp, hper, hall, hmin, hfrom⟩ := hle
  have ha0 := h.new a ha
  have hend' : TP.up ps t i < 0 ∨ rd seen (TP.up ps t i) ≠ 0 := .inr (by rw [hback, ha0.2.2]; omega)
  obtain ⟨h1, h2, h3⟩ := h.closes hr hi hs hend'
  have hax : TP.up ps a i < ps.length := (up_range hr (by omega) (by omega) a).2
  have hall' : ∀ m, least' ≤ TP.up ps m (TP.up ps a i) := fun m => by
    have e : m = m % p + (m / p) * p := by have := Nat.mod_add_div m p; rw [Nat.mul_comm] at this; omega
    rw [e, up_add, cyc_mul hper]
    have : m % p + m / p * p = m := e.symm
    refine hall (m % p) (Nat.mod_lt _ hp)
  have hnew : ∀ v : Int, 0 ≤ v → v < ps.length → rd seen v ≠ 0 → Cyc ps v → least' ≤ v := fun v hv hv' hn hcv => by
    rcases h.cases hv hv' with ⟨s, hs1, e⟩ | e
    · rw [← e] at hcv ⊢
      obtain ⟨m, _, hm⟩ := hring s hs1 hcv
      rw [← hm]; exact hall' m
    · rw [e] at hn
      rcases hs.least with ⟨e1, hl⟩ | ⟨h4, h5, h6, hl⟩
      · exact absurd hcv (hl v hv hv' hn)
      · have := hl v hv hv' hn hcv
        rcases hmin with h7 | h7 <;> omega
  refine ⟨h.len, h1, h2, h3, .inr ?_⟩
  rcases hfrom with ⟨e, hne⟩ | ⟨m, e⟩
  · subst e
    rcases hs.least with ⟨e1, _⟩ | ⟨h4, h5, h6, _⟩
    · exact absurd e1 hne
    · exact ⟨h4, h5, h6, hnew⟩
  · subst e
    exact ⟨cyc_up_nn hc m, (up_range hr (by omega) hax m).2, cyc_up hc m, hnew⟩

/-- The shortest way round. -/
theorem least_period {ps : List Int} {x : Int} (h : Cyc ps x) : ∃ p, 0 < p ∧ TP.up ps p x = x ∧ ∀ m, 0 < m → m < p → TP.up ps m x ≠ x := by
  obtain ⟨_, m, hm, e⟩ := h
  have key : ∀ m, 0 < m → TP.up ps m x = x → ∃ p, 0 < p ∧ TP.up ps p x = x ∧ ∀ j, 0 < j → j < p → TP.up ps j x ≠ x := by
    intro m
    induction m using Nat.strongRecOn with
    | _ m ih =>
      intro hm e
      by_cases hx : ∃ j, 0 < j ∧ j < m ∧ TP.up ps j x = x
      · obtain ⟨j, h1, h2, h3⟩ := hx
        exact ih j h2 h1 h3
      · exact ⟨m, hm, e, fun j h1 h2 h3 => hx ⟨j, h1, h2, h3⟩⟩
  exact key m hm e
end Go.Proofs.Ythjcmodhleoocaa.Q
/- NumEv -/
namespace Go.Proofs.Ythjcmodhleoocaa.Q
open Go.RowKit Go.Proofs.YthjcmodhleoocaaW.PrintWords Go.Proofs.YthjcmodhleoocaaW.PrintLast
open Go.Proofs.Ythjcmodhleoocaa.TP
theorem ev_uniq {α : Type} {g : Nat → Option α} {r r' : α} (h : Ev g r) (h' : Ev g r') : r = r' := by
  obtain ⟨K, hK⟩ := h
  obtain ⟨K', hK'⟩ := h'
  have h1 := hK (max K K') (Nat.le_max_left _ _)
  have h2 := hK' (max K K') (Nat.le_max_right _ _)
  rw [h1] at h2
  exact Option.some.inj h2
/-- The labels: with enough levels. -/
def HasNum (ps : List Int) (L : List Lab) : Prop := Ev (fun k => numL k ps) L
theorem HasNum.uniq {ps : List Int} {L L' : List Lab} (h : HasNum ps L) (h' : HasNum ps L') : L = L' := ev_uniq h h'
theorem num_ev {ps : List Int} (hn : ps.length ≤ 4096) (hf : Forest ps) : ∃ t, visL ps (lim ps.length) (kidsOf ps (-1)) 0 (blank ps.length) = some t ∧ t.pre ≤ 1000000 ∧ t.post ≤ 1000000 ∧ LabOf ps t.L ∧ HasNum ps t.L := by
  obtain ⟨t, ht, hp, hq, hL⟩ := num_res hf ps.length (Nat.le_refl _)
  have hl : lim ps.length = ps.length := lim_of (by omega)
  have ht' : visL ps (lim ps.length) (kidsOf ps (-1)) 0 (blank ps.length) = some t := by rw [hl]; exact ht
  exact ⟨t, ht', by omega, by omega, hL, Ev.of (fun k => numL_mono k ps) (numL_of (by omega) ht' (by omega) (by omega))⟩
theorem HasNum.lab {ps : List Int} {L : List Lab} (hn : ps.length ≤ 4096) (hf : Forest ps) (h : HasNum ps L) : LabOf ps L := by
  obtain ⟨t, _, _, _, h1, h2⟩ := num_ev hn hf
  rw [h.uniq h2]; exact h1
/-- A check that says OK: a forest. -/
theorem ChkR.forest {ps : List Int} {r : Int × Int} (h : ChkR ps r) (h0 : r.2 = 0) : ps.length ≤ 4096 ∧ Forest ps ∧ r.1 = 0 := by
  rcases h with ⟨a, rfl⟩ | ⟨a, i, hi, hb, hl, rfl⟩ | ⟨a, hr, i, hi, hc, hl, rfl⟩ | ⟨a, hr, hn, rfl⟩
  · cases h0
  · cases h0
  · cases h0
  · exact ⟨a, ⟨hr, hn⟩, rfl⟩
theorem ChkR.of_forest {ps : List Int} {r : Int × Int} (h : ChkR ps r) (hn : ps.length ≤ 4096) (hf : Forest ps) : r = (0, 0) := h.uniq (.inr (.inr (.inr ⟨hn, hf.rng, hf.nc, rfl⟩)))
theorem ChkR.cases {ps : List Int} {r : Int × Int} (h : ChkR ps r) : (r.2 = 0 ∧ r.1 = 0 ∧ ps.length ≤ 4096 ∧ Forest ps) ∨ (r.2 ≠ 0 ∧ ¬ (ps.length ≤ 4096 ∧ Forest ps)) := by
  by_cases h0 : r.2 = 0
  · obtain ⟨a, b, c⟩ := h.forest h0
    exact .inl ⟨h0, c, a, b⟩
  · refine .inr ⟨h0, fun hx => h0 ?_⟩
    rw [h.of_forest hx.1 hx.2]
end Go.Proofs.Ythjcmodhleoocaa.Q
/- CheckEv -/
namespace Go.Proofs.Ythjcmodhleoocaa.Q
open Go.RowKit Go.Proofs.YthjcmodhleoocaaW.PrintWords Go.Proofs.YthjcmodhleoocaaW.PrintLast
open Go.Proofs.Ythjcmodhleoocaa.TP

section
variable {ps : List Int}
/-- The loop around a cycle. -/
theorem chk_ring (hn : ps.length ≤ 4096) (hr : InR ps) {i : Nat} (hi : i < ps.length) {at_ : Int} {seen : List Int} {least : Int} {p : Nat} (hl0 : -1 ≤ least) (hat : 0 ≤ at_) (hat' : at_ < ps.length) (hp : 0 < p) (hper : TP.up ps p at_ = at_) (hmin : ∀ m, 0 < m → m < p → TP.up ps m at_ ≠ at_) (hcy : ∀ m, 0 ≤ TP.up ps m at_)
    (next : ∀ least', -1 ≤ least' → (∀ m, m < p → least' ≤ TP.up ps m at_) → (least = -1 ∨ least' ≤ least) → ((least' = least ∧ least ≠ -1) ∨ ∃ m, least' = TP.up ps m at_) → ∃ r, ChkR ps r ∧ Ev (fun k => treelabel_check.l1 k ps seen least' (ps.length : Int) (wrap64 ((i : Int) + 1))) r) (d : Nat) :
    ∀ (m : Nat) (lm : Int), m + d = p → -1 ≤ lm → (∀ j, j < m → lm ≤ TP.up ps j at_) → (least = -1 ∨ lm ≤ least) → (lm = least ∨ ∃ j, lm = TP.up ps j at_) → (0 < m → 0 ≤ lm) →
      ∃ r, ChkR ps r ∧ Ev (fun k => treelabel_check.l3 k ps seen lm at_ (TP.up ps m at_) (decide (m = 0)) (ps.length : Int) (i : Int)) r := by
  induction d with
  | zero =>
    intro m lm hm h0 hall hle hfrom hpos
    obtain rfl : m = p := by omega
    obtain ⟨r, hc, he⟩ := next lm h0 hall hle (by
      rcases hfrom with e | e
      · by_cases hl : least = -1
        · have := hpos hp; omega
        · exact .inl ⟨e, hl⟩
      · exact .inr e)
    refine ⟨r, hc, ?_⟩
    rw [hper, decide_eq_false (by omega)]
    refine Ev.step (fun k => by rw [treelabel_check.l3]) ?_
    refine ev_neg (by decide) ?_
    rw [show (at_ != at_) = false from by simp]
    refine Ev.step (fun k => by rw [treelabel_check.j6]) ?_
    exact ev_neg (by decide) he
  | succ d ih =>
    intro m lm hm h0 hall hle hfrom hpos
    have hx := hcy m
    have hx' : TP.up ps m at_ < ps.length := (up_range hr (by omega) hat' m).2
    have hnext : rd ps (TP.up ps m at_) = TP.up ps (m + 1) at_ := by rw [up_out, stp_nn hx]; rfl
    have go : ∀ lm', -1 ≤ lm' → (∀ j, j < m + 1 → lm' ≤ TP.up ps j at_) → (least = -1 ∨ lm' ≤ least) → (lm' = least ∨ ∃ j, lm' = TP.up ps j at_) → 0 ≤ lm' →
        ∃ r, ChkR ps r ∧ Ev (fun k => treelabel_check.l3 k ps seen lm' at_ (rd ps (TP.up ps m at_)) false (ps.length : Int) (i : Int)) r := fun lm' a b c e f => by
      obtain ⟨r, hc, he⟩ := ih (m + 1) lm' (by omega) a b c e (fun _ => f)
      rw [decide_eq_false (by omega)] at he
      exact ⟨r, hc, by rw [hnext]; exact he⟩
    have body : ∃ r, ChkR ps r ∧ Ev (fun k => treelabel_check.j6 k ps seen lm at_ (TP.up ps m at_) (ps.length : Int) (i : Int) true) r := by
      by_cases hneg : lm < 0
      · have hlm : lm = -1 := by omega
        have hm0 : m = 0 := by
          rcases Nat.eq_zero_or_pos m with h | h
          · exact h
          · have := hpos h; omega
        have hl1 : least = -1 := by
          rcases hle with h | h
          · exact h
          · rcases hfrom with h2 | ⟨j, h2⟩
            · omega
            · have := hcy j; omega
        obtain ⟨r, hc, he⟩ := go (TP.up ps m at_) (by omega) (fun j hj => by
          obtain rfl : j = m := by omega
          exact Int.le_refl _) (.inl hl1) (.inr ⟨m, rfl⟩) hx
        refine ⟨r, hc, Ev.step (fun k => by rw [treelabel_check.j6]) ?_⟩
        exact ev_pos rfl (ev_pos hneg (ev_pos hx (ev_pos hx' he)))
      · by_cases hlt : TP.up ps m at_ < lm
        · obtain ⟨r, hc, he⟩ := go (TP.up ps m at_) (by omega) (fun j hj => by
            rcases Nat.lt_or_ge j m with h | h
            · have := hall j h; omega
            · obtain rfl : j = m := by omega
              omega) (by rcases hle with h | h; exact .inl h; exact .inr (by omega)) (.inr ⟨m, rfl⟩) hx
          refine ⟨r, hc, Ev.step (fun k => by rw [treelabel_check.j6]) ?_⟩
          exact ev_pos rfl (ev_neg hneg (ev_pos hlt (ev_pos hx (ev_pos hx' he))))
        · obtain ⟨r, hc, he⟩ := go lm h0 (fun j hj => by
            rcases Nat.lt_or_ge j m with h | h
            · exact hall j h
            · obtain rfl : j = m := by omega
              omega) hle hfrom (by omega)
          refine ⟨r, hc, Ev.step (fun k => by rw [treelabel_check.j6]) ?_⟩
          exact ev_pos rfl (ev_neg hneg (ev_neg hlt (ev_pos hx (ev_pos hx' he))))
    obtain ⟨r, hc, he⟩ := body
    refine ⟨r, hc, Ev.step (fun k => by rw [treelabel_check.l3]) ?_⟩
    by_cases hm0 : m = 0
    · exact ev_pos (by simp [hm0]) he
    · refine ev_neg (by simp [hm0]) ?_
      rw [show (TP.up ps m at_ != at_) = true from by rw [bne_iff_ne]; exact hmin m (by omega) (by omega)]
      exact he

/-- The walk from a node, and what follows. -/
theorem chk_walk (hn : ps.length ≤ 4096) (hr : InR ps) {i : Nat} (hi : i < ps.length) {seen0 : List Int} {least : Int} (hs : Seen ps i seen0 least)
    (next : ∀ seen least', Seen ps (i + 1) seen least' → ∃ r, ChkR ps r ∧ Ev (fun k => treelabel_check.l1 k ps seen least' (ps.length : Int) (wrap64 ((i : Int) + 1))) r) (d : Nat) :
    ∀ (t : Nat) (seen : List Int), t + d = ps.length → Walk ps i seen0 seen t →
      ∃ r, ChkR ps r ∧ Ev (fun k => treelabel_check.l2 k ps seen least (i : Int) (TP.up ps t i) (ps.length : Int) (i : Int)) r := by
  have hw : wrap64 ((i : Int) + 1) = (i : Int) + 1 := wrap_in _ (by omega) (by omega)
  -- behind the walk
  have tail : ∀ (t : Nat) (seen : List Int), Walk ps i seen0 seen t → (TP.up ps t i < 0 ∨ rd seen (TP.up ps t i) ≠ 0) →
      ∃ r, ChkR ps r ∧ Ev (fun k => treelabel_check.j3 k ps seen least (i : Int) (TP.up ps t i) (ps.length : Int) (i : Int)) r := by
    intro t seen hwk hend
    have hlt : TP.up ps t i < ps.length := (up_range hr (by omega) (by omega) t).2
    by_cases hneg : TP.up ps t i < 0
    · obtain ⟨r, hc, he⟩ := next seen least (hwk.seen_plain hr hi hs (.inl hneg))
      refine ⟨r, hc, Ev.step (fun k => by rw [treelabel_check.j3]) ?_⟩
      refine ev_pos hneg ?_
      refine Ev.step (fun k => by rw [treelabel_check.j4]) ?_
      exact ev_pos rfl he
    · have h0 : 0 ≤ TP.up ps t i := by omega
      have hne : rd seen (TP.up ps t i) ≠ 0 := by rcases hend with h | h; omega; exact h
      by_cases hmine : rd seen (TP.up ps t i) = (i : Int) + 1
      · -- a cycle
        have hex : ∃ a, a < t ∧ TP.up ps a i = TP.up ps t i := by
          rcases hwk.cases h0 hlt with h | h
          · exact h
          · have := hs.num _ h0 hlt
            rw [← h, hmine] at this; omega
        obtain ⟨a, ha, hae⟩ := hex
        obtain ⟨hcy, _⟩ := hwk.ring ha hae.symm
        rw [hae] at hcy
        obtain ⟨p, hp, hper, hmin⟩ := least_period hcy
        have hl0 : -1 ≤ least := by rcases hs.least with ⟨e, _⟩ | ⟨e, _⟩ <;> omega
        obtain ⟨r, hc, he⟩ := chk_ring hn hr hi (seen := seen) (least := least) hl0 h0 hlt hp hper hmin (fun m => cyc_up_nn hcy m) (fun least' _ hall hle hfrom => by
          refine next seen least' (hwk.seen_ring hr hi hs ha hae.symm ⟨p, hp, by rw [hae]; exact hper, fun m hm => by rw [hae]; exact hall m hm, hle, ?_⟩)
          rw [hae]; exact hfrom) p 0 least (by omega) hl0 (fun j hj => absurd hj (Nat.not_lt_zero _)) (.inr (Int.le_refl _)) (.inl rfl) (fun h => absurd h (Nat.lt_irrefl 0))
        refine ⟨r, hc, Ev.step (fun k => by rw [treelabel_check.j3]) ?_⟩
        refine ev_neg hneg (ev_pos h0 (ev_pos (by rw [hwk.len]; exact hlt) ?_))
        rw [hw, show (rd seen (TP.up ps t i) != (i : Int) + 1) = false from by rw [bne_eq_false_iff_eq]; exact hmine]
        have he' : Ev (fun k => treelabel_check.l3 k ps seen least (TP.up ps t i) (TP.up ps t i) true (ps.length : Int) (i : Int)) r := he
        refine Ev.step (fun k => by rw [treelabel_check.j4]) ?_
        exact ev_neg (by decide) he'
      · have hold : rd seen0 (TP.up ps t i) ≠ 0 := by
          rcases hwk.cases h0 hlt with ⟨s, hs1, e⟩ | h
          · have := (hwk.new s hs1).2.2; rw [e] at this; exact absurd this hmine
          · rw [← h]; exact hne
        obtain ⟨r, hc, he⟩ := next seen least (hwk.seen_plain hr hi hs (.inr hold))
        refine ⟨r, hc, Ev.step (fun k => by rw [treelabel_check.j3]) ?_⟩
        refine ev_neg hneg (ev_pos h0 (ev_pos (by rw [hwk.len]; exact hlt) ?_))
        rw [hw, show (rd seen (TP.up ps t i) != (i : Int) + 1) = true from by rw [bne_iff_ne]; exact hmine]
        refine Ev.step (fun k => by rw [treelabel_check.j4]) ?_
        exact ev_pos rfl he
  induction d with
  | zero =>
    intro t seen ht hwk
    have hend : TP.up ps t i < 0 ∨ rd seen (TP.up ps t i) ≠ 0 := by
      rcases Int.lt_or_le (TP.up ps t i) 0 with h | h
      · exact .inl h
      · right
        intro hz
        have := (hwk.next hr hi h hz).short hr hi
        omega
    obtain ⟨r, hc, he⟩ := tail t seen hwk hend
    refine ⟨r, hc, Ev.step (fun k => by rw [treelabel_check.l2]) ?_⟩
    rcases Int.lt_or_le (TP.up ps t i) 0 with h | h
    · exact ev_neg (by omega) he
    · have hlt : TP.up ps t i < ps.length := (up_range hr (by omega) (by omega) t).2
      exact ev_pos h (ev_pos h (ev_pos (by rw [hwk.len]; exact hlt) (ev_neg (by rcases hend with h2 | h2; omega; exact h2) he)))
  | succ d ih =>
    intro t seen ht hwk
    have hlt : TP.up ps t i < ps.length := (up_range hr (by omega) (by omega) t).2
    rcases Int.lt_or_le (TP.up ps t i) 0 with h | h
    · obtain ⟨r, hc, he⟩ := tail t seen hwk (.inl h)
      refine ⟨r, hc, Ev.step (fun k => by rw [treelabel_check.l2]) ?_⟩
      exact ev_neg (by omega) he
    · by_cases hz : rd seen (TP.up ps t i) = 0
      · obtain ⟨r, hc, he⟩ := ih (t + 1) _ (by omega) (hwk.next hr hi h hz)
        refine ⟨r, hc, Ev.step (fun k => by rw [treelabel_check.l2]) ?_⟩
        refine ev_pos h (ev_pos h (ev_pos (by rw [hwk.len]; exact hlt) (ev_pos hz (ev_pos hlt ?_))))
        rw [hw, show rd ps (TP.up ps t i) = TP.up ps (t + 1) i from by rw [up_out, stp_nn h]; rfl]
        exact he
      · obtain ⟨r, hc, he⟩ := tail t seen hwk (.inr hz)
        refine ⟨r, hc, Ev.step (fun k => by rw [treelabel_check.l2]) ?_⟩
        exact ev_pos h (ev_pos h (ev_pos (by rw [hwk.len]; exact hlt) (ev_neg hz he)))

/-- The loop over all nodes. -/
theorem chk_all (hn : ps.length ≤ 4096) (hr : InR ps) (d : Nat) : ∀ (i : Nat) (seen : List Int) (least : Int), i + d = ps.length → Seen ps i seen least →
    ∃ r, ChkR ps r ∧ Ev (fun k => treelabel_check.l1 k ps seen least (ps.length : Int) (i : Int)) r := by
  induction d with
  | zero =>
    intro i seen least hi hs
    obtain rfl : i = ps.length := by omega
    rcases hs.least with ⟨e, hl⟩ | ⟨h4, h5, h6, hl⟩
    · refine ⟨(0, 0), .inr (.inr (.inr ⟨hn, hr, fun j h0 h1 => hl j h0 h1 (hs.all j h0 h1), rfl⟩)), ?_⟩
      refine Ev.step (fun k => by rw [treelabel_check.l1]) ?_
      exact ev_neg (by omega) (ev_neg (by omega) (Ev.now _))
    · refine ⟨(least, 12), .inr (.inr (.inl ⟨hn, hr, least, h5, h6, fun j hj hc => hl j hc.1 hj (hs.all j hc.1 hj) hc, rfl⟩)), ?_⟩
      refine Ev.step (fun k => by rw [treelabel_check.l1]) ?_
      exact ev_neg (by omega) (ev_pos h4 (Ev.now _))
  | succ d ih =>
    intro i seen least hi hs
    have hlt : i < ps.length := by omega
    obtain ⟨r, hc, he⟩ := chk_walk hn hr hlt hs (fun seen' least' hs' => by
      obtain ⟨r, hc, he⟩ := ih (i + 1) seen' least' (by omega) hs'
      exact ⟨r, hc, by rw [wrap_up i (by omega)]; exact he⟩) ps.length 0 seen (by omega) (Walk.start hs.len)
    refine ⟨r, hc, Ev.step (fun k => by rw [treelabel_check.l1]) ?_⟩
    exact ev_pos (by omega) he

/-- The loop that looks for a parent out of range. -/
theorem chk_range (hn : ps.length ≤ 4096) (d : Nat) : ∀ (i : Nat), i + d = ps.length → (∀ j : Nat, j < i → -1 ≤ rdi ps j ∧ rdi ps j < ps.length) →
    ∃ r, ChkR ps r ∧ Ev (fun k => treelabel_check.l0 k ps ps (ps.length : Int) (i : Int)) r := by
  induction d with
  | zero =>
    intro i hi hj
    obtain rfl : i = ps.length := by omega
    have hr := inR_of hj
    obtain ⟨r, hc, he⟩ := chk_all hn hr ps.length 0 (List.replicate ps.length 0) (-1) (by omega) ⟨by rw [List.length_replicate], fun v h0 h1 => by rw [rd_replicate h0 h1]; omega, fun v h0 h1 hne => absurd (rd_replicate h0 h1) hne, fun v h0 h1 => by omega, .inl ⟨rfl, fun v h0 h1 hne => absurd (rd_replicate h0 h1) hne⟩⟩
    refine ⟨r, hc, Ev.step (fun k => by rw [treelabel_check.l0]) ?_⟩
    refine ev_neg (by omega) (ev_pos (by omega) (ev_pos (by omega) ?_))
    rw [Int.toNat_natCast]
    exact he
  | succ d ih =>
    intro i hi hj
    have hlt : (i : Int) < ps.length := by omega
    by_cases h1 : rdi ps i < -1
    · refine ⟨(i, 8), .inr (.inl ⟨hn, i, by omega, .inl h1, hj, rfl⟩), ?_⟩
      refine Ev.step (fun k => by rw [treelabel_check.l0]) ?_
      exact ev_pos hlt (ev_pos (by omega) (ev_pos hlt (ev_pos h1 (Ev.now _))))
    · by_cases h2 : (ps.length : Int) ≤ rdi ps i
      · refine ⟨(i, 8), .inr (.inl ⟨hn, i, by omega, .inr h2, hj, rfl⟩), ?_⟩
        refine Ev.step (fun k => by rw [treelabel_check.l0]) ?_
        exact ev_pos hlt (ev_pos (by omega) (ev_pos hlt (ev_neg h1 (ev_pos h2 (Ev.now _)))))
      · obtain ⟨r, hc, he⟩ := ih (i + 1) (by omega) (fun j hji => by
          rcases Nat.lt_or_ge j i with h | h
          · exact hj j h
          · obtain rfl : j = i := by omega
            omega)
        refine ⟨r, hc, Ev.step (fun k => by rw [treelabel_check.l0]) ?_⟩
        refine ev_pos hlt (ev_pos (by omega) (ev_pos hlt (ev_neg h1 (ev_neg h2 ?_))))
        rw [wrap_up i (by omega)]
        exact he
/-- treelabel.check. -/
theorem check_ev (ps : List Int) : ∃ r, ChkR ps r ∧ Ev (fun k => treelabel_check.f k ps) r := by
  by_cases hn : 4096 < ps.length
  · exact ⟨(0, 2), .inl ⟨hn, rfl⟩, ev_pos (by omega) (Ev.now _)⟩
  · obtain ⟨r, hc, he⟩ := chk_range (ps := ps) (by omega) ps.length 0 (by omega) (fun j hj => absurd hj (Nat.not_lt_zero _))
    exact ⟨r, hc, ev_neg (by omega) he⟩
end
end Go.Proofs.Ythjcmodhleoocaa.Q
/- AssignEv -/
namespace Go.Proofs.Ythjcmodhleoocaa.Q
open Go.RowKit Go.Proofs.YthjcmodhleoocaaW.PrintWords Go.Proofs.YthjcmodhleoocaaW.PrintLast
open Go.Proofs.Ythjcmodhleoocaa.TP
/-- The children of p before index i. -/
def kidsTo (ps : List Int) (p : Int) (i : Nat) : List Nat := (List.range' 0 i).filter (fun j => ps.getD j 0 == p)
theorem kidsTo_zero (ps : List Int) (p : Int) : kidsTo ps p 0 = [] := rfl
theorem kidsTo_hit {ps : List Int} {p : Int} {i : Nat} (h : ps.getD i 0 = p) : kidsTo ps p (i + 1) = kidsTo ps p i ++ [i] := by
  unfold kidsTo
  rw [List.range'_1_concat, List.filter_append]
  rw [List.getD_eq_getElem?_getD] at h
  simp [h]
theorem kidsTo_miss {ps : List Int} {p : Int} {i : Nat} (h : ps.getD i 0 ≠ p) : kidsTo ps p (i + 1) = kidsTo ps p i := by
  unfold kidsTo
  rw [List.range'_1_concat, List.filter_append]
  rw [List.getD_eq_getElem?_getD] at h
  simp [h]
theorem kidsTo_all (ps : List Int) (p : Int) : kidsTo ps p ps.length = kidsOf ps p := rfl
theorem kidsTo_len (ps : List Int) (p : Int) (i : Nat) : (kidsTo ps p i).length ≤ i := by
  have := List.length_filter_le (fun j => ps.getD j 0 == p) (List.range' 0 i)
  unfold kidsTo
  simp at this ⊢; omega
/-- Natural numbers as whole numbers. -/
def ints (l : List Nat) : List Int := l.map Int.ofNat
theorem ints_nat (l : List Nat) : (ints l).map Int.toNat = l := by
  unfold ints
  rw [List.map_map]
  exact List.map_id'' (fun _ => rfl) l
theorem ints_nn (l : List Nat) : ∀ x ∈ ints l, (0 : Int) ≤ x := by
  intro x hx
  obtain ⟨y, _, rfl⟩ := List.mem_map.1 hx
  exact Int.natCast_nonneg y
theorem rd_L1_set_same {xs : List (List Int)} {i : Int} {v : List Int} (h0 : 0 ≤ i) (h : i < xs.length) : (xs.set i.toNat v).getD i.toNat [] = v := by
  rw [List.getD_eq_getElem?_getD, List.getElem?_set_self (by omega)]; rfl

theorem asg_loop {ps : List Int} (hn : ps.length ≤ 4096) (hf : Forest ps) {t : NS} (ht : visL ps (lim ps.length) (kidsOf ps (-1)) 0 (blank ps.length) = some t) (hp : t.pre ≤ 1000000) (hq : t.post ≤ 1000000) (d : Nat) :
    ∀ (i : Nat) (ch : List (List Int)), i + d = ps.length → ch.length = ps.length → (∀ v, v < ps.length → ch.getD v [] = ints (kidsTo ps (v : Int) i)) →
      Ev (fun k => treelabel_Assign.l0 k (ints (kidsTo ps (-1) i)) ps (ps.length : Int) (i : Int) ch (List.replicate ps.length z41) 0 0) (t.L.map lab41, 0, 0) := by
  induction d with
  | zero =>
    intro i ch hi hl hch
    obtain rfl : i = ps.length := by omega
    refine Ev.step (fun k => by rw [treelabel_Assign.l0]) ?_
    refine ev_neg (by omega) ?_
    have hkd : kdc ch = kd ps := by
      funext v
      unfold kdc
      by_cases hv : v < ps.length
      · rw [hch v hv, ints_nat, kidsTo_all]; rfl
      · rw [List.getD_eq_getElem?_getD, List.getElem?_eq_none (by omega)]
        show [] = kd ps v
        symm
        rw [List.eq_nil_iff_forall_not_mem]
        intro c hc
        have h1 := mem_kd.1 hc
        have h2 := hf.rng (c : Int) (by omega) (by omega)
        omega
    refine Ev.of (fun k => treelabel_Assign.l1_mono k _ _ _ _ _ _ _) (k := ps.length) ?_
    unfold treelabel_Assign.l1
    have hmem : ∀ c ∈ ch, ∃ v, v < ps.length ∧ c = ints (kidsTo ps (v : Int) ps.length) := by
      intro c hc
      obtain ⟨v, hv, rfl⟩ := List.getElem_of_mem hc
      refine ⟨v, by omega, ?_⟩
      rw [← hch v (by omega), List.getD_eq_getElem?_getD, List.getElem?_eq_getElem hv]; rfl
    rw [if_pos ⟨fun c hc x hx => by
        obtain ⟨v, _, rfl⟩ := hmem c hc
        exact ints_nn _ x hx, ints_nn _, by rw [hl, List.length_replicate], by rw [List.length_replicate]; omega, fun c hc => by
        obtain ⟨v, _, rfl⟩ := hmem c hc
        have := kidsTo_len ps (v : Int) ps.length
        simp only [ints, List.length_map]; omega, by
        have := kidsTo_len ps (-1) ps.length
        simp only [ints, List.length_map]; omega⟩]
    rw [ints_nat, kidsTo_all, hkd, List.length_replicate]
    have ht' : (kidsOf ps (-1)).foldlM (fun s c => vis (kd ps) (lim ps.length) c 0 s) (blank ps.length) = some t := ht
    rw [ht']
    simp only
    rw [if_pos ⟨hp, hq⟩]
  | succ d ih =>
    intro i ch hi hl hch
    have hlt : (i : Int) < ps.length := by omega
    have hr := hf.rng (i : Int) (by omega) hlt
    have hg : ps.getD i 0 = rdi ps (i : Int) := (rdi_nat ps i).symm
    refine Ev.step (fun k => by rw [treelabel_Assign.l0]) ?_
    refine ev_pos hlt (ev_pos (by omega) (ev_pos hlt ?_))
    by_cases hneg : rdi ps (i : Int) < 0
    · have hm1 : rdi ps (i : Int) = -1 := by omega
      refine ev_pos hneg (ev_pos ?_ ?_)
      · have := kidsTo_len ps (-1) i
        simp only [ints, List.length_map]; omega
      · have h1 := ih (i + 1) ch (by omega) hl (fun v hv => by rw [kidsTo_miss (by rw [hg]; omega)]; exact hch v hv)
        rw [kidsTo_hit (by rw [hg]; exact hm1)] at h1
        rw [wrap_up i (by omega)]
        have e : ints (kidsTo ps (-1) i) ++ [(i : Int)] = ints (kidsTo ps (-1) i ++ [i]) := by simp [ints]
        rw [e]; exact h1
    · have h0 : 0 ≤ rdi ps (i : Int) := by omega
      obtain ⟨q, hq'⟩ : ∃ q : Nat, rdi ps (i : Int) = (q : Int) := ⟨(rdi ps (i : Int)).toNat, by omega⟩
      have hqn : q < ps.length := by omega
      have hrow : rd_L1 ch (rdi ps (i : Int)) = ints (kidsTo ps (q : Int) i) := by
        unfold rd_L1
        rw [hq', Int.toNat_natCast]; exact hch q hqn
      refine ev_neg hneg (ev_pos h0 (ev_pos (by show rdi ps (i : Int) < (ch.length : Int); omega) (ev_pos ?_ ?_)))
      · show (rd_L1 ch (rdi ps (i : Int))).length < 17592186044416
        rw [hrow]
        have := kidsTo_len ps (q : Int) i
        simp only [ints, List.length_map]; omega
      · have h1 := ih (i + 1) (ch.set q (ints (kidsTo ps (q : Int) i) ++ [(i : Int)])) (by omega) (by rw [List.length_set]; exact hl) (fun v hv => by
          by_cases e : v = q
          · subst e
            rw [List.getD_eq_getElem?_getD, List.getElem?_set_self (by omega), kidsTo_hit (by rw [hg]; exact hq')]
            simp [ints]
          · rw [List.getD_eq_getElem?_getD, List.getElem?_set_ne (by omega), ← List.getD_eq_getElem?_getD, kidsTo_miss (by rw [hg]; omega)]
            exact hch v hv)
        rw [kidsTo_miss (by rw [hg]; omega)] at h1
        rw [wrap_up i (by omega)]
        show Ev (fun k => treelabel_Assign.l0 k (ints (kidsTo ps (-1) i)) ps (ps.length : Int) ((i + 1 : Nat) : Int) (ch.set (rdi ps (i : Int)).toNat (rd_L1 ch (rdi ps (i : Int)) ++ [(i : Int)])) (List.replicate ps.length z41) 0 0) (t.L.map lab41, 0, 0)
        rw [hrow, hq', Int.toNat_natCast]
        exact h1
/-- treelabel.Assign. -/
theorem asg_ev (ps : List Int) : ∃ r L, ChkR ps r ∧ (r.2 = 0 → HasNum ps L) ∧ (r.2 ≠ 0 → L = []) ∧ Ev (fun k => treelabel_Assign.f k ps) (L.map lab41, r.1, r.2) := by
  obtain ⟨r, hc, he⟩ := check_ev ps
  rcases hc.cases with ⟨h0, h1, hn, hf⟩ | ⟨h0, _⟩
  · obtain ⟨t, ht, hp, hq, _, hL⟩ := num_ev hn hf
    refine ⟨r, t.L, hc, fun _ => hL, fun h => absurd h0 h, ?_⟩
    refine Ev.bind he (ev_pos h0 (ev_pos (by omega) (ev_pos (by omega) ?_)))
    have h2 := asg_loop hn hf ht hp hq ps.length 0 (List.replicate ps.length []) (by omega) (by rw [List.length_replicate]) (fun v hv => by
      rw [List.getD_eq_getElem?_getD, List.getElem?_replicate, if_pos hv]; rfl)
    rw [h0, h1, Int.toNat_natCast]
    exact h2
  · refine ⟨r, [], hc, fun h => absurd h h0, fun _ => rfl, ?_⟩
    exact Ev.bind he (ev_neg h0 (Ev.now _))
end Go.Proofs.Ythjcmodhleoocaa.Q
/- ParentsEv -/
namespace Go.Proofs.Ythjcmodhleoocaa.Q
open Go.RowKit Go.Proofs.YthjcmodhleoocaaW.PrintWords Go.Proofs.YthjcmodhleoocaaW.PrintLast
open Go.Proofs.Ythjcmodhleoocaa.TP

/-- The answer of Parents: (parents, error), where some lists of parents have these labels. -/
structure PRes (n : Nat) (IsLab : List Int → Prop) (r : List Int × Int) : Prop where
  big : 4096 < n → r = ([], 2)
  small : n ≤ 4096 → (r.2 = 0 ∧ IsLab r.1) ∨ r = ([], 9)
  found : n ≤ 4096 → ∀ q, IsLab q → r = (q, 0)
theorem PRes.uniq {n : Nat} {IsLab : List Int → Prop} {r r' : List Int × Int} (h : PRes n IsLab r) (h' : PRes n IsLab r') : r = r' := by
  by_cases hn : 4096 < n
  · rw [h.big hn, h'.big hn]
  · have hn' : n ≤ 4096 := by omega
    rcases h.small hn' with ⟨h0, hl⟩ | h0
    · rw [h'.found hn' _ hl]
      exact Prod.ext rfl h0
    · rcases h'.small hn' with ⟨h1, hl⟩ | h1
      · rw [h.found hn' _ hl]
        exact Prod.ext rfl h1.symm
      · rw [h0, h1]
/-- These labels are those of q. -/
def IsLab (q : List Int) (L : List Lab) : Prop := q.length ≤ 4096 ∧ Forest q ∧ HasNum q L
theorem IsLab.lab {q : List Int} {L : List Lab} (h : IsLab q L) : LabOf q L := h.2.2.lab h.1 h.2.1
/-- An injective map of the first n numbers into themselves meets each. -/
theorem inj_onto {n : Nat} {f : Nat → Nat} (hf : ∀ i, i < n → f i < n) (hi : ∀ i j, i < n → j < n → f i = f j → i = j) {v : Nat} (hv : v < n) : ∃ i, i < n ∧ f i = v := by
  by_cases h : ∃ i, i < n ∧ f i = v
  · exact h
  · exfalso
    have hne : ∀ i, i < n → f i ≠ v := fun i hi' e => h ⟨i, hi', e⟩
    have := inj_le n (n - 1) (fun i => if v < f i then f i - 1 else f i) (fun i hi' => by
      have := hf i hi'; have := hne i hi'
      show (if v < f i then f i - 1 else f i) < n - 1
      split <;> omega) (fun i j hi' hj e => by
      have h1 := hne i hi'; have h2 := hne j hj
      refine hi i j hi' hj ?_
      have e' : (if v < f i then f i - 1 else f i) = (if v < f j then f j - 1 else f j) := e
      split at e' <;> split at e' <;> omega)
    omega
/-- A parent is an ancestor of the node before: the ways of a preorder. -/
theorem par_sub_prev {q : List Int} {L : List Lab} (hf : Forest q) (hL : LabOf q L) {v w p : Nat} {lv lw lp : Lab} (hv : L[v]? = some lv) (hw : L[w]? = some lw) (hp : L[p]? = some lp) (hvw : lv.pre + 1 = lw.pre) (hpar : rdi q (w : Int) = (p : Int)) : Sub q p v := by
  have hlt : ∀ x l, L[x]? = some l → x < q.length := fun x l h => by have := (List.getElem?_eq_some_iff.1 h).1; have := hL.len; omega
  have hpw : Sub q p w := ⟨1, by rw [up_succ, stp_nn (by omega), hpar]; rfl⟩
  have hne : p ≠ w := fun e => by
    subst e
    exact no_loop hf (hlt _ _ hw) (m := 1) (by omega) (by rw [up_succ, stp_nn (by omega), hpar]; rfl)
  obtain ⟨a, b, ha, hb, hord⟩ := hL.ord p w (hlt _ _ hp) (hlt _ _ hw) hne
  rw [hp] at ha; rw [hw] at hb
  obtain rfl := Option.some.inj ha
  obtain rfl := Option.some.inj hb
  have h1 : lp.pre < lw.pre ∧ lw.post < lp.post := by
    rcases hord with h | h | h
    · exact h.2
    · exact absurd (Sub.anti hf (hlt _ _ hp) hpw h.1) hne
    · exact absurd hpw h.1
  by_cases hpv : p = v
  · subst hpv; exact Sub.refl _ _
  · obtain ⟨a, b, ha, hb, hord2⟩ := hL.ord p v (hlt _ _ hp) (hlt _ _ hv) hpv
    rw [hp] at ha; rw [hv] at hb
    obtain rfl := Option.some.inj ha
    obtain rfl := Option.some.inj hb
    have hvw' : v ≠ w := fun e => by subst e; rw [hv] at hw; obtain rfl := Option.some.inj hw; omega
    obtain ⟨a, b, ha, hb, hord3⟩ := hL.ord v w (hlt _ _ hv) (hlt _ _ hw) hvw'
    rw [hv] at ha; rw [hw] at hb
    obtain rfl := Option.some.inj ha
    obtain rfl := Option.some.inj hb
    rcases hord2 with h | h | h
    · exact h.1
    · exfalso
      -- v above p: then its number is less than p's
      have : lp.pre < lv.pre ∨ lp.pre = lv.pre := by omega
      omega
    · exfalso
      have h2 : lp.pre < lv.pre ∧ lp.post < lv.post := by
        rcases h.2.2 with h3 | h3
        · exact h3
        · omega
      rcases hord3 with h3 | h3 | h3
      · -- v above w: so above p
        obtain ⟨m, hm⟩ := h3.1
        cases m with
        | zero => have : (w : Int) = (v : Int) := hm; omega
        | succ m =>
          rw [up_succ, stp_nn (by omega), hpar] at hm
          have hvp : Sub q v p := ⟨m, hm⟩
          exact h.2.1 hvp
      · omega
      · rcases h3.2.2 with h4 | h4 <;> omega
/-- A proper ancestor has the lesser number in preorder, the greater in postorder. -/
theorem lab_above {q : List Int} {L : List Lab} (hf : Forest q) (hL : LabOf q L) {x w : Nat} {lx lw : Lab} (hx : L[x]? = some lx) (hw : L[w]? = some lw) (h : Sub q x w) (hne : x ≠ w) : lx.pre < lw.pre ∧ lw.post < lx.post := by
  have hlt : ∀ x l, L[x]? = some l → x < q.length := fun x l h => by have := (List.getElem?_eq_some_iff.1 h).1; have := hL.len; omega
  obtain ⟨a, b, ha, hb, hord⟩ := hL.ord x w (hlt _ _ hx) (hlt _ _ hw) hne
  rw [hx] at ha; rw [hw] at hb
  obtain rfl := Option.some.inj ha
  obtain rfl := Option.some.inj hb
  rcases hord with h1 | h1 | h1
  · exact h1.2
  · exact absurd (Sub.anti hf (hlt _ _ hx) h h1.1) hne
  · exact absurd h h1.1
/-- And so it is told by the numbers. -/
theorem lab_above_iff {q : List Int} {L : List Lab} (hf : Forest q) (hL : LabOf q L) {x w : Nat} {lx lw : Lab} (hx : L[x]? = some lx) (hw : L[w]? = some lw) : (Sub q x w ∧ x ≠ w) ↔ (lx.pre < lw.pre ∧ lw.post < lx.post) := by
  have hlt : ∀ x l, L[x]? = some l → x < q.length := fun x l h => by have := (List.getElem?_eq_some_iff.1 h).1; have := hL.len; omega
  refine ⟨fun h => lab_above hf hL hx hw h.1 h.2, fun h => ?_⟩
  have hne : x ≠ w := fun e => by subst e; rw [hx] at hw; obtain rfl := Option.some.inj hw; omega
  obtain ⟨a, b, ha, hb, hord⟩ := hL.ord x w (hlt _ _ hx) (hlt _ _ hw) hne
  rw [hx] at ha; rw [hw] at hb
  obtain rfl := Option.some.inj ha
  obtain rfl := Option.some.inj hb
  rcases hord with h1 | h1 | h1
  · exact ⟨h1.1, hne⟩
  · omega
  · rcases h1.2.2 with h2 | h2 <;> omega
theorem lab_pre_inj {q : List Int} {L : List Lab} (hL : LabOf q L) {x w : Nat} {lx lw : Lab} (hx : L[x]? = some lx) (hw : L[w]? = some lw) (h : lx.pre = lw.pre) : x = w := by
  have hlt : ∀ x l, L[x]? = some l → x < q.length := fun x l h => by have := (List.getElem?_eq_some_iff.1 h).1; have := hL.len; omega
  by_cases hne : x = w
  · exact hne
  · exfalso
    obtain ⟨a, b, ha, hb, hord⟩ := hL.ord x w (hlt _ _ hx) (hlt _ _ hw) hne
    rw [hx] at ha; rw [hw] at hb
    obtain rfl := Option.some.inj ha
    obtain rfl := Option.some.inj hb
    rcases hord with h1 | h1 | h1
    · omega
    · omega
    · rcases h1.2.2 with h2 | h2 <;> omega
/-- An ancestor other than the node itself is the parent or above it. -/
theorem sub_par {q : List Int} {x w : Nat} (h : Sub q x w) (hne : x ≠ w) : 0 ≤ rdi q (w : Int) ∧ ∃ p : Nat, rdi q (w : Int) = (p : Int) ∧ Sub q x p := by
  obtain ⟨m, hm⟩ := h
  cases m with
  | zero => exact absurd (show x = w by have : (w : Int) = (x : Int) := hm; omega) hne
  | succ m =>
    rw [up_succ, stp_nn (by omega)] at hm
    have h0 : 0 ≤ rdi q (w : Int) := by
      rcases Int.lt_or_le (rdi q (w : Int)) 0 with h | h
      · rw [up_neg _ h] at hm; omega
      · exact h
    exact ⟨h0, (rdi q (w : Int)).toNat, by omega, m, by rw [Int.toNat_of_nonneg h0]; exact hm⟩

section
variable {Ll : List S41}
/-- The labels that were handed in are those of q. -/
def IsL (Ll : List S41) (q : List Int) : Prop := ∃ Lb, IsLab q Lb ∧ Ll = Lb.map lab41
theorem rd41 {Lb : List Lab} {j : Nat} {l : Lab} (h : Lb[j]? = some l) : rd_T41 (Lb.map lab41) (j : Int) = lab41 l := by
  unfold rd_T41
  rw [Int.toNat_natCast, List.getD_eq_getElem?_getD, List.getElem?_map, h]; rfl
theorem IsL.len {q : List Int} (h : IsL Ll q) : Ll.length = q.length ∧ q.length ≤ 4096 := by
  obtain ⟨Lb, hq, rfl⟩ := h
  exact ⟨by rw [List.length_map, hq.lab.len], hq.1⟩
theorem rd_T41_get {xs : List S41} {i : Nat} (h : i < xs.length) : rd_T41 xs (i : Int) = xs[i] := by
  unfold rd_T41
  rw [Int.toNat_natCast, List.getD_eq_getElem?_getD, List.getElem?_eq_getElem h]; rfl
theorem s41_test (a b : S41) : (!(a.f0 == b.f0) || (!(a.f1 == b.f1) || (!(a.f2 == b.f2)))) = true ↔ a ≠ b := by
  obtain ⟨a0, a1, a2⟩ := a
  obtain ⟨b0, b1, b2⟩ := b
  simp only [Bool.or_eq_true, Bool.not_eq_true', beq_eq_false_iff_ne, ne_eq, S41.mk.injEq]
  by_cases h0 : a0 = b0
  · by_cases h1 : a1 = b1
    · by_cases h2 : a2 = b2
      · simp [h0, h1, h2]
      · simp [h0, h1, h2]
    · simp [h0, h1]
  · simp [h0]
/-- The comparison of the labels found again. -/
theorem par_cmp {again : List S41} {par : List Int} (hn : Ll.length ≤ 4096) (hl : again.length = Ll.length) (d : Nat) : ∀ i : Nat, i + d = Ll.length → (∀ j, j < i → again[j]? = Ll[j]?) →
    ∃ r, ((r = (par, 0) ∧ again = Ll) ∨ (r = ([], 9) ∧ again ≠ Ll)) ∧ Ev (fun k => treelabel_Parents.l3 k Ll par again (again.length : Int) (i : Int)) r := by
  induction d with
  | zero =>
    intro i hi hj
    refine ⟨(par, 0), .inl ⟨rfl, ?_⟩, ?_⟩
    · refine List.ext_getElem? (fun j => ?_)
      rcases Nat.lt_or_ge j i with h | h
      · exact hj j h
      · rw [List.getElem?_eq_none (by omega), List.getElem?_eq_none (by omega)]
    · refine Ev.step (fun k => by rw [treelabel_Parents.l3]) ?_
      exact ev_neg (by omega) (Ev.now _)
  | succ d ih =>
    intro i hi hj
    have h1 : i < again.length := by omega
    have h2 : i < Ll.length := by omega
    by_cases e : again[i] = Ll[i]
    · obtain ⟨r, hr, he⟩ := ih (i + 1) (by omega) (fun j hji => by
        rcases Nat.lt_or_ge j i with h | h
        · exact hj j h
        · obtain rfl : j = i := by omega
          rw [List.getElem?_eq_getElem h1, List.getElem?_eq_getElem h2, e])
      refine ⟨r, hr, ?_⟩
      refine Ev.step (fun k => by rw [treelabel_Parents.l3]) ?_
      refine ev_pos (by omega) (ev_pos (by omega) (ev_pos (by omega) (ev_pos (by omega) (ev_neg ?_ ?_))))
      · rw [rd_T41_get h1, rd_T41_get h2, s41_test]; exact fun h => h e
      · rw [wrap_up i (by omega)]; exact he
    · refine ⟨([], 9), .inr ⟨rfl, fun h => e (by subst h; rfl)⟩, ?_⟩
      refine Ev.step (fun k => by rw [treelabel_Parents.l3]) ?_
      refine ev_pos (by omega) (ev_pos (by omega) (ev_pos (by omega) (ev_pos (by omega) (ev_pos ?_ (Ev.now _)))))
      rw [rd_T41_get h1, rd_T41_get h2, s41_test]; exact e
/-- What stands behind the loops: the candidate is numbered again, and compared. -/
theorem par_fin {par : List Int} (hn : Ll.length ≤ 4096) (hl : par.length = Ll.length) :
    ∃ r, ((r.2 = 0 ∧ IsL Ll r.1) ∨ r = ([], 9)) ∧ (IsL Ll par → r = (par, 0)) ∧
      Ev (fun k => (treelabel_Assign.f k par).bind fun bt172 => (if bt172.2.2 = 0 then (treelabel_Parents.l3 k Ll par bt172.1 (bt172.1.length : Int) 0) else (some (([] : List Int), 9)))) r := by
  obtain ⟨r0, L0, hc, h1, h2, he⟩ := asg_ev par
  rcases hc.cases with ⟨h0, _, hn0, hf⟩ | ⟨h0, hnf⟩
  · have hL0 := h1 h0
    have hlen : (L0.map lab41).length = Ll.length := by rw [List.length_map, (hL0.lab hn0 hf).len, hl]
    obtain ⟨r, hr, he2⟩ := par_cmp (Ll := Ll) (again := L0.map lab41) (par := par) hn hlen Ll.length 0 (by omega) (fun j hj => absurd hj (Nat.not_lt_zero _))
    refine ⟨r, ?_, fun hq => ?_, Ev.bind he (ev_pos h0 he2)⟩
    · rcases hr with ⟨rfl, e⟩ | ⟨rfl, _⟩
      · exact .inl ⟨rfl, L0, ⟨hn0, hf, hL0⟩, e.symm⟩
      · exact .inr rfl
    · rcases hr with ⟨rfl, e⟩ | ⟨rfl, e⟩
      · rfl
      · obtain ⟨Lb, hq1, hq2⟩ := hq
        rw [hq2, hL0.uniq hq1.2.2] at e
        exact absurd rfl e
  · refine ⟨([], 9), .inr rfl, fun hq => ?_, Ev.bind he (ev_neg h0 (Ev.now _))⟩
    obtain ⟨Lb, hq1, _⟩ := hq
    exact absurd ⟨hq1.1, hq1.2.1⟩ hnf

/-- What is known of the stack and of the parents found, where the labels are those of q. -/
structure CInv (q : List Int) (Lb : List Lab) (t : Nat) (par : List Int) (S : List Nat) : Prop where
  done : ∀ (x : Nat) (l : Lab), Lb[x]? = some l → l.pre < t → rd par (x : Int) = rdi q (x : Int)
  first : t = 0 → S = []
  prev : ∀ (v : Nat) (l : Lab), Lb[v]? = some l → l.pre + 1 = t → ∀ y, y < q.length → (y ∈ S ↔ Sub q y v)
  pw : List.Pairwise (Sub q) S
/-- The same within the inner loop, before node w. -/
structure WInv (q : List Int) (Lb : List Lab) (t : Nat) (S : List Nat) (w : Nat) : Prop where
  low : ∀ y, y ∈ S → ∃ l, Lb[y]? = some l ∧ l.pre < t
  pw : List.Pairwise (Sub q) S
  has : ∀ y, y < q.length → Sub q y w → y ≠ w → y ∈ S
theorem winv_start {q : List Int} {Lb : List Lab} {t : Nat} {par : List Int} {S : List Nat} {w : Nat} {lw : Lab} (hf : Forest q) (hL : LabOf q Lb) (h : CInv q Lb t par S) (hS : ∀ y, y ∈ S → y < q.length) (hw : Lb[w]? = some lw) (hwt : lw.pre = t) : WInv q Lb t S w := by
  have hlt : ∀ x l, Lb[x]? = some l → x < q.length := fun x l h => by have := (List.getElem?_eq_some_iff.1 h).1; have := hL.len; omega
  have hget : ∀ x, x < q.length → ∃ l, Lb[x]? = some l := fun x hx => ⟨_, List.getElem?_eq_getElem (by rw [hL.len]; exact hx)⟩
  rcases Nat.eq_zero_or_pos t with h0 | h0
  · have hS0 := h.first h0
    subst hS0
    refine ⟨fun y hy => (by cases hy), List.Pairwise.nil, fun y hy hs hne => ?_⟩
    obtain ⟨ly, hly⟩ := hget y hy
    have := lab_above hf hL hly hw hs hne
    omega
  · obtain ⟨v, lv, hv, hvp⟩ := hL.onto (t - 1) (by have := hL.rng w lw hw; omega)
    have hprev := h.prev v lv hv (by omega)
    refine ⟨fun y hy => ?_, h.pw, fun y hy hs hne => ?_⟩
    · have hyv := (hprev y (hS y hy)).1 hy
      obtain ⟨ly, hly⟩ := hget y (hS y hy)
      refine ⟨ly, hly, ?_⟩
      by_cases e : y = v
      · subst e; rw [hv] at hly; obtain rfl := Option.some.inj hly; omega
      · have := lab_above hf hL hly hv hyv e; omega
    · obtain ⟨_, p, hp, hyp⟩ := sub_par hs hne
      have hr := hf.rng (w : Int) (by omega) (by have := hlt w lw hw; omega)
      obtain ⟨lp, hlp⟩ := hget p (by omega)
      have hpv := par_sub_prev hf hL hv hw hlp (by omega) hp
      exact (hprev y hy).2 (hyp.trans hpv)
/-- The node at the top of the stack is the parent, once its number in postorder is the greater one. -/
theorem winv_top {q : List Int} {Lb : List Lab} {t : Nat} {S : List Nat} {x w : Nat} {lx lw : Lab} (hf : Forest q) (hL : LabOf q Lb) (h : WInv q Lb t (S ++ [x]) w) (hx : Lb[x]? = some lx) (hw : Lb[w]? = some lw) (hwt : lw.pre = t) (hpost : ¬ lx.post < lw.post) : rdi q (w : Int) = (x : Int) := by
  have hlt : ∀ x l, Lb[x]? = some l → x < q.length := fun x l h => by have := (List.getElem?_eq_some_iff.1 h).1; have := hL.len; omega
  obtain ⟨l, hl, hpre⟩ := h.low x (by simp)
  rw [hx] at hl; obtain rfl := Option.some.inj hl
  have hne : x ≠ w := fun e => by subst e; rw [hx] at hw; obtain rfl := Option.some.inj hw; omega
  obtain ⟨a, b, ha, hb, hord⟩ := hL.ord x w (hlt _ _ hx) (hlt _ _ hw) hne
  rw [hx] at ha; rw [hw] at hb
  obtain rfl := Option.some.inj ha
  obtain rfl := Option.some.inj hb
  have hsub : Sub q x w := by
    rcases hord with h1 | h1 | h1
    · exact h1.1
    · omega
    · rcases h1.2.2 with h2 | h2 <;> omega
  obtain ⟨h0, p, hp, hxp⟩ := sub_par hsub hne
  have hr := hf.rng (w : Int) (by omega) (by have := hlt w lw hw; omega)
  have hpw : Sub q p w := ⟨1, by rw [up_succ, stp_nn (by omega), hp]; rfl⟩
  have hpne : p ≠ w := fun e => no_loop hf (hlt w lw hw) (m := 1) (by omega) (by rw [up_succ, stp_nn (by omega), hp, e]; rfl)
  have hmem := h.has p (by omega) hpw hpne
  rcases List.mem_append.1 hmem with h1 | h1
  · have hpx : Sub q p x := (List.pairwise_append.1 h.pw).2.2 p h1 x (by simp)
    have := Sub.anti hf (hlt _ _ hx) hxp hpx
    rw [hp, this]
  · rw [List.mem_singleton.1 h1] at hp; exact hp
theorem winv_pop {q : List Int} {Lb : List Lab} {t : Nat} {S : List Nat} {x w : Nat} {lx lw : Lab} (hf : Forest q) (hL : LabOf q Lb) (h : WInv q Lb t (S ++ [x]) w) (hx : Lb[x]? = some lx) (hw : Lb[w]? = some lw) (hpost : lx.post < lw.post) : WInv q Lb t S w := by
  refine ⟨fun y hy => h.low y (List.mem_append_left _ hy), (List.pairwise_append.1 h.pw).1, fun y hy hs hne => ?_⟩
  rcases List.mem_append.1 (h.has y hy hs hne) with h1 | h1
  · exact h1
  · exfalso
    rw [List.mem_singleton.1 h1] at hs hne
    have := lab_above hf hL hx hw hs hne
    omega
/-- The next node's state. -/
theorem cinv_next {q : List Int} {Lb : List Lab} {t : Nat} {par par' : List Int} {S : List Nat} {w : Nat} {lw : Lab} (hf : Forest q) (hL : LabOf q Lb) (h : WInv q Lb t S w) (hdone : ∀ (x : Nat) (l : Lab), Lb[x]? = some l → l.pre < t → rd par (x : Int) = rdi q (x : Int)) (hw : Lb[w]? = some lw) (hwt : lw.pre = t)
    (hpar : rd par' (w : Int) = rdi q (w : Int)) (hold : ∀ x : Nat, x ≠ w → rd par' (x : Int) = rd par (x : Int)) (htop : (S = [] ) ∨ ∃ (S' : List Nat) (x : Nat), S = S' ++ [x] ∧ rdi q (w : Int) = (x : Int)) : CInv q Lb (t + 1) par' (S ++ [w]) := by
  have hlt : ∀ x l, Lb[x]? = some l → x < q.length := fun x l h => by have := (List.getElem?_eq_some_iff.1 h).1; have := hL.len; omega
  have hsubw : ∀ y, y ∈ S → Sub q y w := by
    intro y hy
    rcases htop with h0 | ⟨S', x, h0, hp⟩
    · rw [h0] at hy; cases hy
    · have hxw : Sub q x w := ⟨1, by rw [up_succ, stp_nn (by omega), hp]; rfl⟩
      rw [h0] at hy
      rcases List.mem_append.1 hy with h1 | h1
      · have hpw := h.pw
        rw [h0] at hpw
        exact ((List.pairwise_append.1 hpw).2.2 y h1 x (by simp)).trans hxw
      · rw [List.mem_singleton.1 h1]; exact hxw
  refine ⟨fun x l hx hlp => ?_, fun h0 => by omega, fun v l hv hvp y hy => ?_, ?_⟩
  · by_cases e : x = w
    · subst e; exact hpar
    · rw [hold x e]
      refine hdone x l hx ?_
      rcases Nat.lt_or_ge l.pre t with h1 | h1
      · exact h1
      · exact absurd (lab_pre_inj hL hx hw (by omega)) e
  · have hvw : v = w := lab_pre_inj hL hv hw (by omega)
    subst hvw
    constructor
    · intro hm
      rcases List.mem_append.1 hm with h1 | h1
      · exact hsubw y h1
      · rw [List.mem_singleton.1 h1]; exact Sub.refl _ _
    · intro hs
      by_cases e : y = v
      · rw [e]; simp
      · exact List.mem_append_left _ (h.has y hy hs e)
  · refine List.pairwise_append.2 ⟨h.pw, List.pairwise_singleton _ _, fun y hy z hz => ?_⟩
    rw [List.mem_singleton.1 hz]; exact hsubw y hy
end

section
variable {Ll : List S41}
theorem ints_len (S : List Nat) : (ints S).length = S.length := by simp [ints]
theorem ints_snoc (S : List Nat) (x : Nat) : ints (S ++ [x]) = ints S ++ [(x : Int)] := by simp [ints]
/-- The loop over the nodes in preorder, and the loop that strikes from the stack. -/
theorem par_loop {order : List Int} (hn : Ll.length ≤ 4096) (hol : order.length = Ll.length) (hord : ∀ v : Nat, v < Ll.length → ∃ j : Nat, j < Ll.length ∧ (rd_T41 Ll (j : Int)).f0 = (v : Int) ∧ rd order (v : Int) = (j : Int) + 1) (d : Nat) :
    ∀ (t : Nat) (par : List Int) (S : List Nat), t + d = Ll.length → par.length = Ll.length → (∀ y, y ∈ S → y < Ll.length) → S.length ≤ t → (∀ q Lb, IsLab q Lb → Ll = Lb.map lab41 → CInv q Lb t par S) →
      ∃ r, ((r.2 = 0 ∧ IsL Ll r.1) ∨ r = ([], 9)) ∧ (∀ q, IsL Ll q → r = (q, 0)) ∧ Ev (fun k => treelabel_Parents.l1 k Ll par (ints S) order (order.length : Int) (t : Int)) r := by
  induction d with
  | zero =>
    intro t par S ht hpl hS hSt hc
    obtain ⟨r, h1, h2, he⟩ := par_fin (Ll := Ll) hn hpl
    refine ⟨r, h1, fun q hq => ?_, ?_⟩
    · have hpar : par = q := by
        obtain ⟨hl1, hl2⟩ := hq.len
        obtain ⟨Lb, hq1, hq2⟩ := hq
        have hL := hq1.lab
        have hdone := (hc q Lb hq1 hq2).done
        refine List.ext_getElem? (fun j => ?_)
        rcases Nat.lt_or_ge j Ll.length with h | h
        · obtain ⟨l, hl⟩ : ∃ l, Lb[j]? = some l := ⟨_, List.getElem?_eq_getElem (by rw [hL.len]; omega)⟩
          have h3 := hdone j l hl (by have := hL.rng j l hl; omega)
          rw [rd_rdi, rdi_nat, rdi_nat, List.getD_eq_getElem?_getD, List.getD_eq_getElem?_getD, List.getElem?_eq_getElem (by omega), List.getElem?_eq_getElem (by omega)] at h3
          rw [List.getElem?_eq_getElem (by omega), List.getElem?_eq_getElem (by omega)]
          exact congrArg some h3
        · rw [List.getElem?_eq_none (by omega), List.getElem?_eq_none (by omega)]
      rw [h2 (hpar ▸ hq), hpar]
    · refine Ev.step (fun k => by rw [treelabel_Parents.l1]) ?_
      exact ev_neg (by omega) he
  | succ d ih =>
    intro t par S ht hpl hS hSt hc
    obtain ⟨w, hw, hpre, hrd⟩ := hord t (by omega)
    have hwr : wrap64 (rd order (t : Int) - 1) = (w : Int) := by rw [hrd, wrap_in _ (by omega) (by omega)]; omega
    -- the inner loop
    have inner : ∀ (m : Nat) (S : List Nat), S.length = m → (∀ y, y ∈ S → y < Ll.length) → S.length ≤ t → (∀ q Lb, IsLab q Lb → Ll = Lb.map lab41 → WInv q Lb t S w ∧ (∀ (x : Nat) (l : Lab), Lb[x]? = some l → l.pre < t → rd par (x : Int) = rdi q (x : Int))) →
        ∃ r, ((r.2 = 0 ∧ IsL Ll r.1) ∨ r = ([], 9)) ∧ (∀ q, IsL Ll q → r = (q, 0)) ∧ Ev (fun k => treelabel_Parents.l2 k Ll par (ints S) (w : Int) order (order.length : Int) (t : Int)) r := by
      intro m
      induction m with
      | zero =>
        intro S hm hS hSt hwi
        have hS0 : S = [] := List.eq_nil_of_length_eq_zero hm
        subst hS0
        obtain ⟨r, h1, h2, he⟩ := ih (t + 1) (par.set w (-1)) [w] (by omega) (by rw [List.length_set]; exact hpl) (fun y hy => by rw [List.mem_singleton.1 hy]; exact hw) (by simp) (fun q Lb hq1 hq2 => by
          obtain ⟨hwv, hdone⟩ := hwi q Lb hq1 hq2
          have hL := hq1.lab
          have hlq : Ll.length = q.length := by rw [hq2, List.length_map, hL.len]
          obtain ⟨lw, hlw⟩ : ∃ l, Lb[w]? = some l := ⟨_, List.getElem?_eq_getElem (by rw [hL.len]; omega)⟩
          have hwt : lw.pre = t := by rw [hq2, rd41 hlw] at hpre; exact Int.ofNat_inj.1 hpre
          refine cinv_next (S := []) hq1.2.1 hL hwv hdone hlw hwt ?_ (fun x hx => ?_) (.inl rfl)
          · have hs : rd (par.set w (-1)) (w : Int) = -1 := by
              have := rd_set_same (xs := par) (i := (w : Int)) (v := -1) (by omega) (by omega)
              rwa [Int.toNat_natCast] at this
            rw [hs]
            have hr := hq1.2.1.rng (w : Int) (by omega) (by omega)
            rcases Int.lt_or_le (rdi q (w : Int)) 0 with h | h
            · omega
            · exfalso
              have hp : rdi q (w : Int) = ((rdi q (w : Int)).toNat : Int) := by omega
              have hpw : Sub q (rdi q (w : Int)).toNat w := ⟨1, by rw [up_succ, stp_nn (by omega)]; exact hp⟩
              have hne : (rdi q (w : Int)).toNat ≠ w := fun e => no_loop hq1.2.1 (by omega : w < q.length) (m := 1) (by omega) (by rw [up_succ, stp_nn (by omega)]; show rdi q (w : Int) = (w : Int); omega)
              have := hwv.has _ (by omega) hpw hne
              cases this
          · have := rd_set_ne (xs := par) (i := (w : Int)) (j := (x : Int)) (v := -1) (by omega) (by omega) (by omega)
            rwa [Int.toNat_natCast] at this)
        refine ⟨r, h1, h2, ?_⟩
        refine Ev.step (fun k => by rw [treelabel_Parents.l2]) ?_
        refine ev_neg (by rw [ints_len]; simp) (ev_pos (by omega) (ev_pos (by omega) (ev_pos (by rw [ints_len]; simp) ?_)))
        rw [wrap_up t (by omega), Int.toNat_natCast]
        exact he
      | succ m ihm =>
        intro S hm hS hSt hwi
        obtain ⟨S', x, rfl⟩ : ∃ S' x, S = S' ++ [x] := by
          rcases List.eq_nil_or_concat S with h | ⟨S', x, h⟩
          · rw [h] at hm; simp at hm
          · exact ⟨S', x, by rw [h, List.concat_eq_append]⟩
        have hSl : S'.length = m := by simpa using hm
        have hx : x < Ll.length := hS x (by simp)
        have hil : ((ints (S' ++ [x])).length : Int) = (m : Int) + 1 := by rw [ints_len, List.length_append, hSl]; simp
        have hidx : wrap64 (((ints (S' ++ [x])).length : Int) - 1) = (m : Int) := by
          have : m ≤ 4096 := by simp at hSt; omega
          rw [hil, wrap_in _ (by omega) (by omega)]; omega
        have htop : rd (ints (S' ++ [x])) (m : Int) = (x : Int) := by
          unfold rd
          rw [Int.toNat_natCast, ints_snoc, List.getD_eq_getElem?_getD, List.getElem?_append_right (by rw [ints_len]; omega), ints_len, hSl]
          simp
        have hstep : ∀ r, Ev (fun k => (if (rd_T41 Ll (x : Int)).f1 < (rd_T41 Ll (w : Int)).f1 then (if (m : Int) ≤ ((ints (S' ++ [x])).length : Int) then (treelabel_Parents.l2 k Ll par ((ints (S' ++ [x])).take ((m : Int) : Int).toNat) (w : Int) order (order.length : Int) (t : Int)) else none) else (if (w : Int) < (par.length : Int) then (if (ints (S' ++ [x])).length < 17592186044416 then (treelabel_Parents.l1 k Ll ((par.set ((w : Int) : Int).toNat (-1)).set ((w : Int) : Int).toNat (x : Int)) (ints (S' ++ [x]) ++ [(w : Int)]) order (order.length : Int) (wrap64 ((t : Int) + 1))) else none) else none))) r →
            Ev (fun k => treelabel_Parents.l2 k Ll par (ints (S' ++ [x])) (w : Int) order (order.length : Int) (t : Int)) r := by
          intro r h
          refine Ev.step (fun k => by rw [treelabel_Parents.l2]) ?_
          refine ev_pos (by rw [hil]; omega) ?_
          rw [hidx, htop]
          exact ev_pos (by omega) (ev_pos (by rw [hil]; omega) (ev_pos (by omega) (ev_pos (by omega) (ev_pos (by omega) (ev_pos (by omega) h)))))
        by_cases hpost : (rd_T41 Ll (x : Int)).f1 < (rd_T41 Ll (w : Int)).f1
        · obtain ⟨r, h1, h2, he⟩ := ihm S' hSl (fun y hy => hS y (List.mem_append_left _ hy)) (by simp at hSt; omega) (fun q Lb hq1 hq2 => by
            obtain ⟨hwv, hdone⟩ := hwi q Lb hq1 hq2
            have hL := hq1.lab
            have hlq : Ll.length = q.length := by rw [hq2, List.length_map, hL.len]
            obtain ⟨lw, hlw⟩ : ∃ l, Lb[w]? = some l := ⟨_, List.getElem?_eq_getElem (by rw [hL.len]; omega)⟩
            obtain ⟨lx, hlx⟩ : ∃ l, Lb[x]? = some l := ⟨_, List.getElem?_eq_getElem (by rw [hL.len]; omega)⟩
            rw [hq2, rd41 hlx, rd41 hlw] at hpost
            exact ⟨winv_pop hq1.2.1 hL hwv hlx hlw (Int.ofNat_lt.1 hpost), hdone⟩)
          refine ⟨r, h1, h2, hstep r (ev_pos hpost (ev_pos (by rw [hil]; omega) ?_))⟩
          have htake : (ints (S' ++ [x])).take ((m : Int) : Int).toNat = ints S' := by
            rw [Int.toNat_natCast, ints_snoc, List.take_left' (by rw [ints_len, hSl])]
          show Ev (fun k => treelabel_Parents.l2 k Ll par ((ints (S' ++ [x])).take ((m : Int) : Int).toNat) (w : Int) order (order.length : Int) (t : Int)) r
          rw [htake]; exact he
        · obtain ⟨r, h1, h2, he⟩ := ih (t + 1) ((par.set w (-1)).set w (x : Int)) (S' ++ [x] ++ [w]) (by omega) (by rw [List.length_set, List.length_set]; exact hpl) (fun y hy => by
            rcases List.mem_append.1 hy with h | h
            · exact hS y h
            · rw [List.mem_singleton.1 h]; exact hw) (by simp at hSt ⊢; omega) (fun q Lb hq1 hq2 => by
            obtain ⟨hwv, hdone⟩ := hwi q Lb hq1 hq2
            have hL := hq1.lab
            have hlq : Ll.length = q.length := by rw [hq2, List.length_map, hL.len]
            obtain ⟨lw, hlw⟩ : ∃ l, Lb[w]? = some l := ⟨_, List.getElem?_eq_getElem (by rw [hL.len]; omega)⟩
            obtain ⟨lx, hlx⟩ : ∃ l, Lb[x]? = some l := ⟨_, List.getElem?_eq_getElem (by rw [hL.len]; omega)⟩
            have hwt : lw.pre = t := by rw [hq2, rd41 hlw] at hpre; exact Int.ofNat_inj.1 hpre
            rw [hq2, rd41 hlx, rd41 hlw] at hpost
            have hpar := winv_top hq1.2.1 hL hwv hlx hlw hwt (fun h => hpost (Int.ofNat_lt.2 h))
            refine cinv_next (S := S' ++ [x]) hq1.2.1 hL hwv hdone hlw hwt ?_ (fun z hz => ?_) (.inr ⟨S', x, rfl, hpar⟩)
            · have := rd_set_same (xs := par.set w (-1)) (i := (w : Int)) (v := (x : Int)) (by omega) (by rw [List.length_set]; omega)
              rw [Int.toNat_natCast] at this
              rw [this, hpar]
            · have h3 := rd_set_ne (xs := par.set w (-1)) (i := (w : Int)) (j := (z : Int)) (v := (x : Int)) (by omega) (by omega) (by omega)
              have h4 := rd_set_ne (xs := par) (i := (w : Int)) (j := (z : Int)) (v := -1) (by omega) (by omega) (by omega)
              rw [Int.toNat_natCast] at h3 h4
              rw [h3, h4])
          refine ⟨r, h1, h2, hstep r (ev_neg hpost (ev_pos (by omega) (ev_pos ?_ ?_)))⟩
          · rw [ints_len]; simp at hSt ⊢; omega
          · rw [wrap_up t (by omega), Int.toNat_natCast, ← ints_snoc]
            exact he
    obtain ⟨r, h1, h2, he⟩ := inner S.length S rfl hS hSt (fun q Lb hq1 hq2 => by
      have hci := hc q Lb hq1 hq2
      have hL := hq1.lab
      have hlq : Ll.length = q.length := by rw [hq2, List.length_map, hL.len]
      obtain ⟨lw, hlw⟩ : ∃ l, Lb[w]? = some l := ⟨_, List.getElem?_eq_getElem (by rw [hL.len]; omega)⟩
      have hwt : lw.pre = t := by rw [hq2, rd41 hlw] at hpre; exact Int.ofNat_inj.1 hpre
      exact ⟨winv_start hq1.2.1 hL hci (fun y hy => by rw [← hlq]; exact hS y hy) hlw hwt, hci.done⟩)
    refine ⟨r, h1, h2, ?_⟩
    refine Ev.step (fun k => by rw [treelabel_Parents.l1]) ?_
    refine ev_pos (by omega) (ev_pos (by omega) (ev_pos (by omega) ?_))
    rw [hwr]; exact he

/-- The loop that puts the nodes in the order of their first numbers. -/
theorem par_order (hn : Ll.length ≤ 4096) (d : Nat) : ∀ (i : Nat) (order : List Int), i + d = Ll.length → order.length = Ll.length →
    (∀ j : Nat, j < i → 0 ≤ (rd_T41 Ll (j : Int)).f0 ∧ (rd_T41 Ll (j : Int)).f0 < Ll.length) → (∀ a b : Nat, a < i → b < i → (rd_T41 Ll (a : Int)).f0 = (rd_T41 Ll (b : Int)).f0 → a = b) →
    (∀ v : Nat, v < Ll.length → (rd order (v : Int) = 0 ∧ ∀ j : Nat, j < i → (rd_T41 Ll (j : Int)).f0 ≠ (v : Int)) ∨ ∃ j : Nat, j < i ∧ (rd_T41 Ll (j : Int)).f0 = (v : Int) ∧ rd order (v : Int) = (j : Int) + 1) →
      ∃ r, ((r.2 = 0 ∧ IsL Ll r.1) ∨ r = ([], 9)) ∧ (∀ q, IsL Ll q → r = (q, 0)) ∧ Ev (fun k => treelabel_Parents.l0 k Ll (Ll.length : Int) order Ll (Ll.length : Int) (i : Int)) r := by
  induction d with
  | zero =>
    intro i order hi hol hrng hinj hord
    obtain rfl : i = Ll.length := by omega
    have hall : ∀ v : Nat, v < Ll.length → ∃ j : Nat, j < Ll.length ∧ (rd_T41 Ll (j : Int)).f0 = (v : Int) ∧ rd order (v : Int) = (j : Int) + 1 := by
      intro v hv
      rcases hord v hv with ⟨_, h2⟩ | h
      · exfalso
        obtain ⟨j, hj, e⟩ := inj_onto (n := Ll.length) (f := fun j => ((rd_T41 Ll (j : Int)).f0).toNat) (fun j hj => natAbs_lt (hrng j hj).1 (hrng j hj).2) (fun a b ha hb e => hinj a b ha hb (by
          have := (hrng a ha).1; have := (hrng b hb).1
          have e2 : ((rd_T41 Ll (a : Int)).f0).toNat = ((rd_T41 Ll (b : Int)).f0).toNat := e
          omega)) hv
        have e2 : ((rd_T41 Ll (j : Int)).f0).toNat = v := e
        exact h2 j hj (by have := (hrng j hj).1; omega)
      · exact h
    obtain ⟨r, h1, h2, he⟩ := par_loop hn hol hall Ll.length 0 (List.replicate Ll.length 0) [] (by omega) (by rw [List.length_replicate]) (fun y hy => by cases hy) (Nat.le_refl _) (fun q Lb _ _ => ⟨fun x l _ h => absurd h (Nat.not_lt_zero _), fun _ => rfl, fun v l _ h => by omega, List.Pairwise.nil⟩)
    refine ⟨r, h1, h2, ?_⟩
    refine Ev.step (fun k => by rw [treelabel_Parents.l0]) ?_
    refine ev_neg (by omega) (ev_pos (by omega) (ev_pos (by omega) ?_))
    rw [Int.toNat_natCast]
    exact he
  | succ d ih =>
    intro i order hi hol hrng hinj hord
    have hlt : i < Ll.length := by omega
    -- labels of a forest have first numbers that fit
    have hno : ∀ q, IsL Ll q → 0 ≤ (rd_T41 Ll (i : Int)).f0 ∧ (rd_T41 Ll (i : Int)).f0 < Ll.length ∧ ∀ j : Nat, j < i → (rd_T41 Ll (j : Int)).f0 ≠ (rd_T41 Ll (i : Int)).f0 := by
      intro q hq
      obtain ⟨hl1, _⟩ := hq.len
      obtain ⟨Lb, hq1, hq2⟩ := hq
      have hL := hq1.lab
      obtain ⟨l, hl⟩ : ∃ l, Lb[i]? = some l := ⟨_, List.getElem?_eq_getElem (by rw [hL.len]; omega)⟩
      have hr := hL.rng i l hl
      rw [hl1]
      rw [hq2, rd41 hl]
      refine ⟨Int.natCast_nonneg _, Int.ofNat_lt.2 hr.1, fun j hj => ?_⟩
      obtain ⟨l', hl'⟩ : ∃ l, Lb[j]? = some l := ⟨_, List.getElem?_eq_getElem (by rw [hL.len]; omega)⟩
      rw [rd41 hl']
      intro e
      have := lab_pre_inj hL hl' hl (Int.ofNat_inj.1 e)
      omega
    by_cases h1 : (rd_T41 Ll (i : Int)).f0 < 0
    · refine ⟨([], 9), .inr rfl, fun q hq => absurd (hno q hq).1 (by omega), ?_⟩
      refine Ev.step (fun k => by rw [treelabel_Parents.l0]) ?_
      exact ev_pos (by omega) (ev_pos (by omega) (ev_pos (by omega) (ev_pos h1 (Ev.now _))))
    · by_cases h2 : (rd_T41 Ll (i : Int)).f0 ≥ (Ll.length : Int)
      · refine ⟨([], 9), .inr rfl, fun q hq => absurd (hno q hq).2.1 (by omega), ?_⟩
        refine Ev.step (fun k => by rw [treelabel_Parents.l0]) ?_
        exact ev_pos (by omega) (ev_pos (by omega) (ev_pos (by omega) (ev_neg h1 (ev_pos h2 (Ev.now _)))))
      · obtain ⟨v, hv⟩ : ∃ v : Nat, (rd_T41 Ll (i : Int)).f0 = (v : Int) := ⟨((rd_T41 Ll (i : Int)).f0).toNat, by omega⟩
        have hvn : v < Ll.length := by omega
        rcases hord v hvn with ⟨hz, hnew⟩ | ⟨j, hj, hjv, hjo⟩
        · obtain ⟨r, h3, h4, he⟩ := ih (i + 1) (order.set v ((i : Int) + 1)) (by omega) (by rw [List.length_set]; exact hol) (fun j hj => by
            rcases Nat.lt_or_ge j i with h | h
            · exact hrng j h
            · obtain rfl : j = i := by omega
              omega) (fun a b ha hb e => by
            rcases Nat.lt_or_ge a i with h | h <;> rcases Nat.lt_or_ge b i with h' | h'
            · exact hinj a b h h' e
            · obtain rfl : b = i := by omega
              exact absurd (e.trans hv) (hnew a h)
            · obtain rfl : a = i := by omega
              exact absurd (e.symm.trans hv) (hnew b h')
            · omega) (fun u hu => by
            by_cases e : u = v
            · subst e
              right
              refine ⟨i, by omega, hv, ?_⟩
              have := rd_set_same (xs := order) (i := (u : Int)) (v := (i : Int) + 1) (by omega) (by omega)
              rwa [Int.toNat_natCast] at this
            · have hne := rd_set_ne (xs := order) (i := (v : Int)) (j := (u : Int)) (v := (i : Int) + 1) (by omega) (by omega) (by omega)
              rw [Int.toNat_natCast] at hne
              rw [hne]
              rcases hord u hu with ⟨a, b⟩ | ⟨j, a, b, c⟩
              · left
                refine ⟨a, fun j hj => ?_⟩
                rcases Nat.lt_or_ge j i with h | h
                · exact b j h
                · obtain rfl : j = i := by omega
                  rw [hv]; omega
              · exact .inr ⟨j, by omega, b, c⟩)
          refine ⟨r, h3, h4, ?_⟩
          refine Ev.step (fun k => by rw [treelabel_Parents.l0]) ?_
          refine ev_pos (by omega) (ev_pos (by omega) (ev_pos (by omega) (ev_neg h1 (ev_neg h2 (ev_pos (by omega) (ev_pos (by omega) (ev_pos (by rw [hv]; exact hz) ?_)))))))
          rw [hv, Int.toNat_natCast, wrap_up i (by omega)]
          have e1 : ((i + 1 : Nat) : Int) = (i : Int) + 1 := by omega
          rw [e1] at he ⊢
          exact he
        · refine ⟨([], 9), .inr rfl, fun q hq => absurd (hjv.trans hv.symm) ((hno q hq).2.2 j hj), ?_⟩
          refine Ev.step (fun k => by rw [treelabel_Parents.l0]) ?_
          exact ev_pos (by omega) (ev_pos (by omega) (ev_pos (by omega) (ev_neg h1 (ev_neg h2 (ev_pos (by omega) (ev_pos (by omega) (ev_neg (by rw [hv, hjo]; omega) (Ev.now _))))))))
/-- treelabel.Parents. -/
theorem parents_ev (Ll : List S41) : ∃ r, PRes Ll.length (IsL Ll) r ∧ Ev (fun k => treelabel_Parents.f k Ll) r := by
  by_cases hn : 4096 < Ll.length
  · exact ⟨([], 2), ⟨fun _ => rfl, fun h => absurd h (by omega), fun h => absurd h (by omega)⟩, ev_pos (by omega) (Ev.now _)⟩
  · obtain ⟨r, h1, h2, he⟩ := par_order (Ll := Ll) (by omega) Ll.length 0 (List.replicate Ll.length 0) (by omega) (by rw [List.length_replicate]) (fun j hj => absurd hj (Nat.not_lt_zero _)) (fun a b ha => absurd ha (Nat.not_lt_zero _)) (fun v hv => .inl ⟨rd_replicate (by omega) (by omega), fun j hj => absurd hj (Nat.not_lt_zero _)⟩)
    refine ⟨r, ⟨fun h => absurd h hn, fun _ => h1, fun _ => h2⟩, ev_neg (by omega) (ev_pos (by omega) (ev_pos (by omega) ?_))⟩
    rw [Int.toNat_natCast]
    exact he
end
end Go.Proofs.Ythjcmodhleoocaa.Q
/- RefAssignEv -/
namespace Go.Proofs.Ythjcmodhleoocaa.Q
open Go.RowKit Go.Proofs.YthjcmodhleoocaaW.PrintWords Go.Proofs.YthjcmodhleoocaaW.PrintLast
open Go.Proofs.Ythjcmodhleoocaa.TP
section
variable {ps : List Int}
theorem rcyc_loop (hn : ps.length ≤ 4096) (hr : InR ps) {i : Int} (hi0 : 0 ≤ i) (hi : i < ps.length) (d : Nat) : ∀ (m : Nat), m + d = ps.length → (∀ j, 0 < j → j ≤ m → TP.up ps j i ≠ i) → 0 ≤ TP.up ps m i →
    ∃ b, (b = true ↔ Cyc ps i) ∧ Ev (fun k => corporaref10_cyclic.l0 k ps i (TP.up ps m i) (ps.length : Int) (m : Int)) b := by
  induction d with
  | zero =>
    intro m hm hne h0
    refine ⟨false, ⟨fun h => (by cases h), fun hc => ?_⟩, ?_⟩
    · obtain ⟨p, h1, h2, h3⟩ := cyc_short hr hi hc
      exact absurd h3 (hne p h1 (by omega))
    · refine Ev.step (fun k => by rw [corporaref10_cyclic.l0]) ?_
      exact ev_neg (by omega) (Ev.now _)
  | succ d ih =>
    intro m hm hne h0
    have hlt : TP.up ps m i < ps.length := (up_range hr (by omega) hi m).2
    have hnx : rd ps (TP.up ps m i) = TP.up ps (m + 1) i := by rw [up_out, stp_nn h0]; rfl
    by_cases h1 : TP.up ps (m + 1) i < 0
    · refine ⟨false, ⟨fun h => (by cases h), fun hc => ?_⟩, ?_⟩
      · have := cyc_up_nn hc (m + 1); omega
      · refine Ev.step (fun k => by rw [corporaref10_cyclic.l0]) ?_
        exact ev_pos (by omega) (ev_pos h0 (ev_pos hlt (ev_pos (by rw [hnx]; exact h1) (Ev.now _))))
    · by_cases h2 : TP.up ps (m + 1) i = i
      · refine ⟨true, ⟨fun _ => ⟨hi0, m + 1, by omega, h2⟩, fun _ => rfl⟩, ?_⟩
        refine Ev.step (fun k => by rw [corporaref10_cyclic.l0]) ?_
        exact ev_pos (by omega) (ev_pos h0 (ev_pos hlt (ev_neg (by rw [hnx]; exact h1) (ev_pos (by rw [hnx]; exact h2) (Ev.now _)))))
      · obtain ⟨b, hb, he⟩ := ih (m + 1) (by omega) (fun j hj hj' => by
          rcases Nat.lt_or_ge j (m + 1) with h | h
          · exact hne j hj (by omega)
          · obtain rfl : j = m + 1 := by omega
            exact h2) (by omega)
        refine ⟨b, hb, ?_⟩
        refine Ev.step (fun k => by rw [corporaref10_cyclic.l0]) ?_
        refine ev_pos (by omega) (ev_pos h0 (ev_pos hlt (ev_neg (by rw [hnx]; exact h1) (ev_neg (by rw [hnx]; exact h2) ?_))))
        rw [hnx, wrap_up m (by omega)]
        exact he
theorem rcyc_ev (hn : ps.length ≤ 4096) (hr : InR ps) {i : Int} (hi0 : 0 ≤ i) (hi : i < ps.length) : ∃ b, (b = true ↔ Cyc ps i) ∧ Ev (fun k => corporaref10_cyclic.f k ps i) b :=
  rcyc_loop hn hr hi0 hi ps.length 0 (by omega) (fun j h1 h2 => by omega) hi0
theorem rasg_cyc (hn : ps.length ≤ 4096) (hr : InR ps) (hnum : (∀ j : Int, 0 ≤ j → j < ps.length → ¬ Cyc ps j) → ∃ L, HasNum ps L) (d : Nat) : ∀ (i : Nat), i + d = ps.length → (∀ j : Int, 0 ≤ j → j < i → ¬ Cyc ps j) →
    ∃ r L, ChkR ps r ∧ (r.2 = 0 → HasNum ps L) ∧ (r.2 ≠ 0 → L = []) ∧ Ev (fun k => corporaref10_Assign.l1 k ps (ps.length : Int) (i : Int)) (L.map lab43, r.1, r.2) := by
  induction d with
  | zero =>
    intro i hi hj
    obtain rfl : i = ps.length := by omega
    obtain ⟨L, hL⟩ := hnum hj
    refine ⟨(0, 0), L, .inr (.inr (.inr ⟨hn, hr, hj, rfl⟩)), fun _ => hL, fun h => absurd rfl h, ?_⟩
    refine Ev.step (fun k => by rw [corporaref10_Assign.l1]) ?_
    refine ev_neg (by omega) (ev_pos (by omega) (ev_pos (by omega) ?_))
    exact Ev.bind hL (Ev.now _)
  | succ d ih =>
    intro i hi hj
    obtain ⟨b, hb, he⟩ := rcyc_ev hn hr (i := (i : Int)) (by omega) (by omega)
    cases b with
    | true =>
      refine ⟨((i : Int), 12), [], .inr (.inr (.inl ⟨hn, hr, (i : Int), by omega, hb.1 rfl, fun j hj' hc => ?_, rfl⟩)), fun h => (by cases h), fun _ => rfl, ?_⟩
      · rcases Int.lt_or_le j i with h | h
        · exact absurd hc (hj j hc.1 h)
        · exact h
      · refine Ev.step (fun k => by rw [corporaref10_Assign.l1]) ?_
        exact ev_pos (by omega) (Ev.bind he (ev_pos rfl (Ev.now _)))
    | false =>
      obtain ⟨r, L, hc, h1, h2, he2⟩ := ih (i + 1) (by omega) (fun j h0 h1 => by
        rcases Int.lt_or_le j i with h | h
        · exact hj j h0 h
        · obtain rfl : j = i := by omega
          intro hc; have := hb.2 hc; cases this)
      refine ⟨r, L, hc, h1, h2, ?_⟩
      refine Ev.step (fun k => by rw [corporaref10_Assign.l1]) ?_
      refine ev_pos (by omega) (Ev.bind he (ev_neg (by decide) ?_))
      rw [wrap_up i (by omega)]
      exact he2
theorem rasg_range (hn : ps.length ≤ 4096) (hnum : InR ps → (∀ j : Int, 0 ≤ j → j < ps.length → ¬ Cyc ps j) → ∃ L, HasNum ps L) (d : Nat) : ∀ (i : Nat), i + d = ps.length → (∀ j : Nat, j < i → -1 ≤ rdi ps j ∧ rdi ps j < ps.length) →
    ∃ r L, ChkR ps r ∧ (r.2 = 0 → HasNum ps L) ∧ (r.2 ≠ 0 → L = []) ∧ Ev (fun k => corporaref10_Assign.l0 k ps ps (ps.length : Int) (i : Int)) (L.map lab43, r.1, r.2) := by
  induction d with
  | zero =>
    intro i hi hj
    obtain rfl : i = ps.length := by omega
    have hr := inR_of hj
    obtain ⟨r, L, hc, h1, h2, he⟩ := rasg_cyc hn hr (hnum hr) ps.length 0 (by omega) (fun j h0 h1 => by omega)
    refine ⟨r, L, hc, h1, h2, ?_⟩
    refine Ev.step (fun k => by rw [corporaref10_Assign.l0]) ?_
    exact ev_neg (by omega) he
  | succ d ih =>
    intro i hi hj
    have hlt : (i : Int) < ps.length := by omega
    by_cases h1 : rdi ps i < -1
    · refine ⟨((i : Int), 8), [], .inr (.inl ⟨hn, i, by omega, .inl h1, hj, rfl⟩), fun h => (by cases h), fun _ => rfl, ?_⟩
      refine Ev.step (fun k => by rw [corporaref10_Assign.l0]) ?_
      exact ev_pos hlt (ev_pos (by omega) (ev_pos hlt (ev_pos h1 (Ev.now _))))
    · by_cases h2 : (ps.length : Int) ≤ rdi ps i
      · refine ⟨((i : Int), 8), [], .inr (.inl ⟨hn, i, by omega, .inr h2, hj, rfl⟩), fun h => (by cases h), fun _ => rfl, ?_⟩
        refine Ev.step (fun k => by rw [corporaref10_Assign.l0]) ?_
        exact ev_pos hlt (ev_pos (by omega) (ev_pos hlt (ev_neg h1 (ev_pos h2 (Ev.now _)))))
      · obtain ⟨r, L, hc, h3, h4, he⟩ := ih (i + 1) (by omega) (fun j hji => by
          rcases Nat.lt_or_ge j i with h | h
          · exact hj j h
          · obtain rfl : j = i := by omega
            omega)
        refine ⟨r, L, hc, h3, h4, ?_⟩
        refine Ev.step (fun k => by rw [corporaref10_Assign.l0]) ?_
        refine ev_pos hlt (ev_pos (by omega) (ev_pos hlt (ev_neg h1 (ev_neg h2 ?_))))
        rw [wrap_up i (by omega)]
        exact he
/-- The reference's Assign. -/
theorem rasg_ev (ps : List Int) (hnum : ps.length ≤ 4096 → InR ps → (∀ j : Int, 0 ≤ j → j < ps.length → ¬ Cyc ps j) → ∃ L, HasNum ps L) :
    ∃ r L, ChkR ps r ∧ (r.2 = 0 → HasNum ps L) ∧ (r.2 ≠ 0 → L = []) ∧ Ev (fun k => corporaref10_Assign.f k ps) (L.map lab43, r.1, r.2) := by
  by_cases hn : 4096 < ps.length
  · exact ⟨(0, 2), [], .inl ⟨hn, rfl⟩, fun h => (by cases h), fun _ => rfl, ev_pos (by omega) (Ev.now _)⟩
  · obtain ⟨r, L, hc, h1, h2, he⟩ := rasg_range (ps := ps) (by omega) (hnum (by omega)) ps.length 0 (by omega) (fun j hj => absurd hj (Nat.not_lt_zero _))
    exact ⟨r, L, hc, h1, h2, ev_neg (by omega) he⟩
end
end Go.Proofs.Ythjcmodhleoocaa.Q
/- RefParentsEv -/
namespace Go.Proofs.Ythjcmodhleoocaa.Q
open Go.RowKit Go.Proofs.YthjcmodhleoocaaW.PrintWords Go.Proofs.YthjcmodhleoocaaW.PrintLast
open Go.Proofs.Ythjcmodhleoocaa.TP
theorem rasg_ev' (ps : List Int) : ∃ r L, ChkR ps r ∧ (r.2 = 0 → HasNum ps L) ∧ (r.2 ≠ 0 → L = []) ∧ Ev (fun k => corporaref10_Assign.f k ps) (L.map lab43, r.1, r.2) :=
  rasg_ev ps (fun hn hr hcy => by
    obtain ⟨t, _, _, _, _, hL⟩ := num_ev hn ⟨hr, hcy⟩
    exact ⟨t.L, hL⟩)
theorem rdom_eq (a b : S43) : corporaref10_Dominates.f a.f0 a.f1 a.f2 b.f0 b.f1 b.f2 = some (decide (a.f0 < b.f0 ∧ b.f1 < a.f1)) := by
  unfold corporaref10_Dominates.f
  by_cases h : a.f0 < b.f0
  · rw [if_pos h]; simp [h]
  · rw [if_neg h]; simp [h]
/-- An ancestor that is at least as deep as the parent is the parent. -/
theorem deep_par {q : List Int} {L : List Lab} (hL : LabOf q L) {y p : Nat} {ly lp : Lab} (hy : L[y]? = some ly) (hp : L[p]? = some lp) (h : Sub q y p) : ly.dep ≤ lp.dep ∧ (ly.dep = lp.dep → y = p) := by
  obtain ⟨m, hm⟩ := h
  have h1 := hL.dep y ly hy
  have h2 := hL.dep p lp hp
  have h3 : HasD q (p : Int) (ly.dep + m) := ⟨by rw [up_add, hm]; exact h1.1, by rw [show ly.dep + m + 1 = (ly.dep + 1) + m from by omega, up_add, hm]; exact h1.2⟩
  have h4 := h2.uniq h3
  refine ⟨by omega, fun e => ?_⟩
  obtain rfl : m = 0 := by omega
  have : (p : Int) = (y : Int) := hm
  omega

section
variable {Ll : List S43}
def IsL43 (Ll : List S43) (q : List Int) : Prop := ∃ Lb, IsLab q Lb ∧ Ll = Lb.map lab43
theorem rd43 {Lb : List Lab} {j : Nat} {l : Lab} (h : Lb[j]? = some l) : rd_T43 (Lb.map lab43) (j : Int) = lab43 l := by
  unfold rd_T43
  rw [Int.toNat_natCast, List.getD_eq_getElem?_getD, List.getElem?_map, h]; rfl
theorem IsL43.len {q : List Int} (h : IsL43 Ll q) : Ll.length = q.length ∧ q.length ≤ 4096 := by
  obtain ⟨Lb, hq, rfl⟩ := h
  exact ⟨by rw [List.length_map, hq.lab.len], hq.1⟩
theorem rd_T43_get {xs : List S43} {i : Nat} (h : i < xs.length) : rd_T43 xs (i : Int) = xs[i] := by
  unfold rd_T43
  rw [Int.toNat_natCast, List.getD_eq_getElem?_getD, List.getElem?_eq_getElem h]; rfl
theorem s43_test (a b : S43) : (!(a.f0 == b.f0) || (!(a.f1 == b.f1) || (!(a.f2 == b.f2)))) = true ↔ a ≠ b := by
  obtain ⟨a0, a1, a2⟩ := a
  obtain ⟨b0, b1, b2⟩ := b
  simp only [Bool.or_eq_true, Bool.not_eq_true', beq_eq_false_iff_ne, ne_eq, S43.mk.injEq]
  by_cases h0 : a0 = b0
  · by_cases h1 : a1 = b1
    · by_cases h2 : a2 = b2
      · simp [h0, h1, h2]
      · simp [h0, h1, h2]
    · simp [h0, h1]
  · simp [h0]
theorem rpar_cmp {again : List S43} {par : List Int} (hn : Ll.length ≤ 4096) (hl : again.length = Ll.length) (d : Nat) : ∀ i : Nat, i + d = Ll.length → (∀ j, j < i → again[j]? = Ll[j]?) →
    ∃ r, ((r = (par, 0) ∧ again = Ll) ∨ (r = ([], 9) ∧ again ≠ Ll)) ∧ Ev (fun k => corporaref10_Parents.l2 k Ll par again (Ll.length : Int) (i : Int)) r := by
  induction d with
  | zero =>
    intro i hi hj
    refine ⟨(par, 0), .inl ⟨rfl, ?_⟩, ?_⟩
    · refine List.ext_getElem? (fun j => ?_)
      rcases Nat.lt_or_ge j i with h | h
      · exact hj j h
      · rw [List.getElem?_eq_none (by omega), List.getElem?_eq_none (by omega)]
    · refine Ev.step (fun k => by rw [corporaref10_Parents.l2]) ?_
      exact ev_neg (by omega) (Ev.now _)
  | succ d ih =>
    intro i hi hj
    have h1 : i < again.length := by omega
    have h2 : i < Ll.length := by omega
    by_cases e : again[i] = Ll[i]
    · obtain ⟨r, hr, he⟩ := ih (i + 1) (by omega) (fun j hji => by
        rcases Nat.lt_or_ge j i with h | h
        · exact hj j h
        · obtain rfl : j = i := by omega
          rw [List.getElem?_eq_getElem h1, List.getElem?_eq_getElem h2, e])
      refine ⟨r, hr, ?_⟩
      refine Ev.step (fun k => by rw [corporaref10_Parents.l2]) ?_
      refine ev_pos (by omega) (ev_pos (by omega) (ev_pos (by omega) (ev_pos (by omega) (ev_neg ?_ ?_))))
      · rw [rd_T43_get h1, rd_T43_get h2, s43_test]; exact fun h => h e
      · rw [wrap_up i (by omega)]; exact he
    · refine ⟨([], 9), .inr ⟨rfl, fun h => e (by subst h; rfl)⟩, ?_⟩
      refine Ev.step (fun k => by rw [corporaref10_Parents.l2]) ?_
      refine ev_pos (by omega) (ev_pos (by omega) (ev_pos (by omega) (ev_pos (by omega) (ev_pos ?_ (Ev.now _)))))
      rw [rd_T43_get h1, rd_T43_get h2, s43_test]; exact e
theorem rpar_fin {par : List Int} (hn : Ll.length ≤ 4096) (hl : par.length = Ll.length) :
    ∃ r, ((r.2 = 0 ∧ IsL43 Ll r.1) ∨ r = ([], 9)) ∧ (IsL43 Ll par → r = (par, 0)) ∧
      Ev (fun k => (corporaref10_Assign.f k par).bind fun bt => (if bt.2.2 = 0 then (corporaref10_Parents.l2 k Ll par bt.1 (Ll.length : Int) 0) else (some (([] : List Int), 9)))) r := by
  obtain ⟨r0, L0, hc, h1, h2, he⟩ := rasg_ev' par
  rcases hc.cases with ⟨h0, _, hn0, hf⟩ | ⟨h0, hnf⟩
  · have hL0 := h1 h0
    have hlen : (L0.map lab43).length = Ll.length := by rw [List.length_map, (hL0.lab hn0 hf).len, hl]
    obtain ⟨r, hr, he2⟩ := rpar_cmp (Ll := Ll) (again := L0.map lab43) (par := par) hn hlen Ll.length 0 (by omega) (fun j hj => absurd hj (Nat.not_lt_zero _))
    refine ⟨r, ?_, fun hq => ?_, Ev.bind he (ev_pos h0 he2)⟩
    · rcases hr with ⟨rfl, e⟩ | ⟨rfl, _⟩
      · exact .inl ⟨rfl, L0, ⟨hn0, hf, hL0⟩, e.symm⟩
      · exact .inr rfl
    · rcases hr with ⟨rfl, e⟩ | ⟨rfl, e⟩
      · rfl
      · obtain ⟨Lb, hq1, hq2⟩ := hq
        rw [hq2, hL0.uniq hq1.2.2] at e
        exact absurd rfl e
  · refine ⟨([], 9), .inr rfl, fun hq => ?_, Ev.bind he (ev_neg h0 (Ev.now _))⟩
    obtain ⟨Lb, hq1, _⟩ := hq
    exact absurd ⟨hq1.1, hq1.2.1⟩ hnf
/-- Does label j dominate label w? -/
def Dom (Ll : List S43) (j w : Nat) : Prop := (rd_T43 Ll (j : Int)).f0 < (rd_T43 Ll (w : Int)).f0 ∧ (rd_T43 Ll (w : Int)).f1 < (rd_T43 Ll (j : Int)).f1
/-- The best of the first j nodes. -/
def Best (Ll : List S43) (w j : Nat) (best : Int) : Prop := (best = -1 ∧ ∀ i, i < j → ¬ Dom Ll i w) ∨ ∃ b : Nat, best = (b : Int) ∧ b < j ∧ Dom Ll b w ∧ ∀ i, i < j → Dom Ll i w → (rd_T43 Ll (i : Int)).f2 ≤ (rd_T43 Ll (b : Int)).f2
theorem best_par {w : Nat} (hw : w < Ll.length) {best : Int} (h : Best Ll w Ll.length best) (q : List Int) (Lb : List Lab) (hq : IsLab q Lb) (e : Ll = Lb.map lab43) : best = rdi q (w : Int) := by
  have hL := hq.lab
  have hlq : Ll.length = q.length := by rw [e, List.length_map, hL.len]
  have hget : ∀ x, x < q.length → ∃ l, Lb[x]? = some l := fun x hx => ⟨_, List.getElem?_eq_getElem (by rw [hL.len]; exact hx)⟩
  obtain ⟨lw, hlw⟩ := hget w (by omega)
  have hdom : ∀ j, j < q.length → (Dom Ll j w ↔ (Sub q j w ∧ j ≠ w)) := by
    intro j hj
    obtain ⟨lj, hlj⟩ := hget j hj
    rw [lab_above_iff hq.2.1 hL hlj hlw]
    unfold Dom
    rw [e, rd43 hlj, rd43 hlw]
    simp only [lab43]
    omega
  have hr := hq.2.1.rng (w : Int) (by omega) (by omega)
  by_cases hneg : rdi q (w : Int) < 0
  · rcases h with ⟨h1, _⟩ | ⟨b, h1, hb, hd, _⟩
    · omega
    · exfalso
      have := (hdom b (by omega)).1 hd
      have := (sub_par this.1 this.2).1
      omega
  · obtain ⟨p, hp⟩ : ∃ p : Nat, rdi q (w : Int) = (p : Int) := ⟨(rdi q (w : Int)).toNat, by omega⟩
    have hpw : Sub q p w := ⟨1, by rw [up_succ, stp_nn (by omega)]; exact hp⟩
    have hpne : p ≠ w := fun e => no_loop hq.2.1 (by omega : w < q.length) (m := 1) (by omega) (by rw [up_succ, stp_nn (by omega)]; show rdi q (w : Int) = (w : Int); omega)
    have hdp := (hdom p (by omega)).2 ⟨hpw, hpne⟩
    rcases h with ⟨h1, hno⟩ | ⟨b, h1, hb, hd, hmax⟩
    · exact absurd hdp (hno p (by omega))
    · have h2 := (hdom b (by omega)).1 hd
      obtain ⟨_, p', hp', hbp⟩ := sub_par h2.1 h2.2
      obtain rfl : p' = p := by omega
      obtain ⟨lb, hlb⟩ := hget b (by omega)
      obtain ⟨lp, hlp⟩ := hget p' (by omega)
      have h3 := deep_par hL hlb hlp hbp
      have h4 := hmax p' (by omega) hdp
      rw [e, rd43 hlp, rd43 hlb] at h4
      simp only [lab43] at h4
      have := h3.2 (by omega)
      rw [h1, this, hp]
theorem rpar_loop (hn : Ll.length ≤ 4096) (d : Nat) : ∀ (i : Nat) (par : List Int), i + d = Ll.length → par.length = i → (∀ q Lb, IsLab q Lb → Ll = Lb.map lab43 → ∀ j : Nat, j < i → rd par (j : Int) = rdi q (j : Int)) →
    ∃ r, ((r.2 = 0 ∧ IsL43 Ll r.1) ∨ r = ([], 9)) ∧ (∀ q, IsL43 Ll q → r = (q, 0)) ∧ Ev (fun k => corporaref10_Parents.l0 k Ll par Ll (Ll.length : Int) (i : Int)) r := by
  induction d with
  | zero =>
    intro i par hi hpl hc
    obtain rfl : i = Ll.length := by omega
    obtain ⟨r, h1, h2, he⟩ := rpar_fin (Ll := Ll) hn hpl
    refine ⟨r, h1, fun q hq => ?_, ?_⟩
    · have hpar : par = q := by
        obtain ⟨hl1, hl2⟩ := hq.len
        obtain ⟨Lb, hq1, hq2⟩ := hq
        refine List.ext_getElem? (fun j => ?_)
        rcases Nat.lt_or_ge j Ll.length with h | h
        · have h3 := hc q Lb hq1 hq2 j h
          rw [rd_rdi, rdi_nat, rdi_nat, List.getD_eq_getElem?_getD, List.getD_eq_getElem?_getD, List.getElem?_eq_getElem (by omega), List.getElem?_eq_getElem (by omega)] at h3
          rw [List.getElem?_eq_getElem (by omega), List.getElem?_eq_getElem (by omega)]
          exact congrArg some h3
        · rw [List.getElem?_eq_none (by omega), List.getElem?_eq_none (by omega)]
      rw [h2 (hpar ▸ hq), hpar]
    · refine Ev.step (fun k => by rw [corporaref10_Parents.l0]) ?_
      exact ev_neg (by omega) he
  | succ d ih =>
    intro i par hi hpl hc
    have hlt : i < Ll.length := by omega
    have inner : ∀ (e j : Nat) (best : Int), j + e = Ll.length → Best Ll i j best →
        ∃ r, ((r.2 = 0 ∧ IsL43 Ll r.1) ∨ r = ([], 9)) ∧ (∀ q, IsL43 Ll q → r = (q, 0)) ∧ Ev (fun k => corporaref10_Parents.l1 k Ll par best Ll (Ll.length : Int) (i : Int) Ll (Ll.length : Int) (j : Int) ((rd_T43 Ll (i : Int)).f0) ((rd_T43 Ll (i : Int)).f1) ((rd_T43 Ll (i : Int)).f2)) r := by
      intro e
      induction e with
      | zero =>
        intro j best hj hb
        obtain rfl : j = Ll.length := by omega
        obtain ⟨r, h1, h2, he⟩ := ih (i + 1) (par ++ [best]) (by omega) (by simp [hpl]) (fun q Lb hq1 hq2 x hx => by
          rcases Nat.lt_or_ge x i with h | h
          · have := hc q Lb hq1 hq2 x h
            rw [← this]
            unfold rd
            rw [Int.toNat_natCast, List.getD_eq_getElem?_getD, List.getElem?_append_left (by omega), ← List.getD_eq_getElem?_getD]
          · obtain rfl : x = i := by omega
            rw [← best_par hlt hb q Lb hq1 hq2]
            unfold rd
            rw [Int.toNat_natCast, List.getD_eq_getElem?_getD, List.getElem?_append_right (by omega)]
            simp [hpl])
        refine ⟨r, h1, h2, ?_⟩
        refine Ev.step (fun k => by rw [corporaref10_Parents.l1]) ?_
        refine ev_neg (by omega) (ev_pos (by omega) ?_)
        rw [wrap_up i (by omega)]; exact he
      | succ e ihe =>
        intro j best hj hb
        have hstep : ∀ best' r, (if (decide ((rd_T43 Ll (j : Int)).f0 < (rd_T43 Ll (i : Int)).f0 ∧ (rd_T43 Ll (i : Int)).f1 < (rd_T43 Ll (j : Int)).f1)) = true then (if best < 0 then (j : Int) else if (rd_T43 Ll (j : Int)).f2 > (rd_T43 Ll best).f2 then (j : Int) else best) else best) = best' → (0 ≤ best → best < Ll.length) →
            Ev (fun k => corporaref10_Parents.l1 k Ll par best' Ll (Ll.length : Int) (i : Int) Ll (Ll.length : Int) ((j + 1 : Nat) : Int) ((rd_T43 Ll (i : Int)).f0) ((rd_T43 Ll (i : Int)).f1) ((rd_T43 Ll (i : Int)).f2)) r →
            Ev (fun k => corporaref10_Parents.l1 k Ll par best Ll (Ll.length : Int) (i : Int) Ll (Ll.length : Int) (j : Int) ((rd_T43 Ll (i : Int)).f0) ((rd_T43 Ll (i : Int)).f1) ((rd_T43 Ll (i : Int)).f2)) r := by
          intro best' r hbe hbr he
          refine Ev.step (fun k => by rw [corporaref10_Parents.l1]) ?_
          refine ev_pos (by omega) (ev_pos (by omega) (ev_pos (by omega) ?_))
          rw [rdom_eq, wrap_up j (by omega)]
          refine ev_some (f := fun k t => _) ?_
          by_cases h1 : (decide ((rd_T43 Ll (j : Int)).f0 < (rd_T43 Ll (i : Int)).f0 ∧ (rd_T43 Ll (i : Int)).f1 < (rd_T43 Ll (j : Int)).f1)) = true
          · rw [if_pos h1] at hbe
            refine ev_pos h1 ?_
            by_cases h2 : best < 0
            · rw [if_pos h2] at hbe; subst hbe
              exact ev_pos h2 he
            · rw [if_neg h2] at hbe
              refine ev_neg h2 (ev_pos (by omega) (ev_pos (hbr (by omega)) ?_))
              by_cases h3 : (rd_T43 Ll (j : Int)).f2 > (rd_T43 Ll best).f2
              · rw [if_pos h3] at hbe; subst hbe
                exact ev_pos h3 he
              · rw [if_neg h3] at hbe; subst hbe
                exact ev_neg h3 he
          · rw [if_neg h1] at hbe; subst hbe
            exact ev_neg h1 he
        have hbr : 0 ≤ best → best < Ll.length := by
          rcases hb with ⟨h, _⟩ | ⟨b, h, hbj, _⟩
          · omega
          · omega
        have hnew : Best Ll i (j + 1) (if (decide ((rd_T43 Ll (j : Int)).f0 < (rd_T43 Ll (i : Int)).f0 ∧ (rd_T43 Ll (i : Int)).f1 < (rd_T43 Ll (j : Int)).f1)) = true then (if best < 0 then (j : Int) else if (rd_T43 Ll (j : Int)).f2 > (rd_T43 Ll best).f2 then (j : Int) else best) else best) := by
          by_cases h1 : Dom Ll j i
          · have hd1 : (decide ((rd_T43 Ll (j : Int)).f0 < (rd_T43 Ll (i : Int)).f0 ∧ (rd_T43 Ll (i : Int)).f1 < (rd_T43 Ll (j : Int)).f1)) = true := decide_eq_true (show _ ∧ _ from h1)
            rw [if_pos hd1]
            rcases hb with ⟨rfl, hno⟩ | ⟨b, rfl, hbj, hbd, hmax⟩
            · rw [if_pos (by omega)]
              exact .inr ⟨j, rfl, by omega, h1, fun x hx hd => by
                rcases Nat.lt_or_ge x j with h | h
                · exact absurd hd (hno x h)
                · obtain rfl : x = j := by omega
                  exact Int.le_refl _⟩
            · rw [if_neg (by omega)]
              by_cases h3 : (rd_T43 Ll (j : Int)).f2 > (rd_T43 Ll (b : Int)).f2
              · rw [if_pos h3]
                exact .inr ⟨j, rfl, by omega, h1, fun x hx hd => by
                  rcases Nat.lt_or_ge x j with h | h
                  · have := hmax x h hd; omega
                  · obtain rfl : x = j := by omega
                    exact Int.le_refl _⟩
              · rw [if_neg h3]
                exact .inr ⟨b, rfl, by omega, hbd, fun x hx hd => by
                  rcases Nat.lt_or_ge x j with h | h
                  · exact hmax x h hd
                  · obtain rfl : x = j := by omega
                    omega⟩
          · have hd1 : ¬ (decide ((rd_T43 Ll (j : Int)).f0 < (rd_T43 Ll (i : Int)).f0 ∧ (rd_T43 Ll (i : Int)).f1 < (rd_T43 Ll (j : Int)).f1)) = true := fun h => h1 (show _ ∧ _ from of_decide_eq_true h)
            rw [if_neg hd1]
            rcases hb with ⟨rfl, hno⟩ | ⟨b, rfl, hbj, hbd, hmax⟩
            · exact .inl ⟨rfl, fun x hx hd => by
                rcases Nat.lt_or_ge x j with h | h
                · exact hno x h hd
                · obtain rfl : x = j := by omega
                  exact h1 hd⟩
            · exact .inr ⟨b, rfl, by omega, hbd, fun x hx hd => by
                rcases Nat.lt_or_ge x j with h | h
                · exact hmax x h hd
                · obtain rfl : x = j := by omega
                  exact absurd hd h1⟩
        obtain ⟨r, h1, h2, he⟩ := ihe (j + 1) _ (by omega) hnew
        exact ⟨r, h1, h2, hstep _ r rfl hbr he⟩
    obtain ⟨r, h1, h2, he⟩ := inner Ll.length 0 (-1) (by omega) (.inl ⟨rfl, fun x hx => absurd hx (Nat.not_lt_zero _)⟩)
    refine ⟨r, h1, h2, ?_⟩
    refine Ev.step (fun k => by rw [corporaref10_Parents.l0]) ?_
    exact ev_pos (by omega) (ev_pos (by omega) (ev_pos (by omega) he))
theorem rparents_ev (Ll : List S43) : ∃ r, PRes Ll.length (IsL43 Ll) r ∧ Ev (fun k => corporaref10_Parents.f k Ll) r := by
  by_cases hn : 4096 < Ll.length
  · exact ⟨([], 2), ⟨fun _ => rfl, fun h => absurd h (by omega), fun h => absurd h (by omega)⟩, ev_pos (by omega) (Ev.now _)⟩
  · obtain ⟨r, h1, h2, he⟩ := rpar_loop (Ll := Ll) (by omega) Ll.length 0 [] (by omega) rfl (fun q Lb _ _ j hj => absurd hj (Nat.not_lt_zero _))
    exact ⟨r, ⟨fun h => absurd h hn, fun _ => h1, fun _ => h2⟩, ev_neg (by omega) he⟩
end
end Go.Proofs.Ythjcmodhleoocaa.Q
/- OwnEv -/
namespace Go.Proofs.Ythjcmodhleoocaa.Q
open Go.RowKit Go.Proofs.YthjcmodhleoocaaW.PrintWords Go.Proofs.YthjcmodhleoocaaW.PrintLast
open Go.Proofs.Ythjcmodhleoocaa.TP
def conv (x : S41) : S43 := ⟨x.f0, x.f1, x.f2⟩
theorem own_loop {Ll : List S41} (hn : Ll.length ≤ 4096) (d : Nat) : ∀ i : Nat, i + d = Ll.length → Ev (fun k => corporalaw10_own.l0 k ((Ll.take i).map conv) Ll (Ll.length : Int) (i : Int)) (Ll.map conv) := by
  induction d with
  | zero =>
    intro i hi
    refine Ev.step (fun k => by rw [corporalaw10_own.l0]) ?_
    refine ev_neg (by omega) (ev_now ?_)
    rw [List.take_of_length_le (by omega)]
  | succ d ih =>
    intro i hi
    refine Ev.step (fun k => by rw [corporalaw10_own.l0]) ?_
    refine ev_pos (by omega) (ev_pos (by omega) (ev_pos (by omega) (ev_pos (by rw [List.length_map, List.length_take]; omega) ?_)))
    have hlt : i < Ll.length := by omega
    have h := ih (i + 1) (by omega)
    rw [List.take_succ_eq_append_getElem hlt, List.map_append] at h
    rw [wrap_up i (by omega), rd_T41_get hlt]
    exact h
theorem own_ev {Ll : List S41} (hn : Ll.length ≤ 4096) : Ev (fun k => corporalaw10_own.f k Ll) (Ll.map conv) := own_loop hn Ll.length 0 (by omega)
theorem conv_lab (x : Lab) : conv (lab41 x) = lab43 x := rfl
theorem isL_conv {Ll : List S41} {q : List Int} : IsL Ll q ↔ IsL43 (Ll.map conv) q := by
  constructor
  · rintro ⟨Lb, h, rfl⟩
    exact ⟨Lb, h, by rw [List.map_map]; rfl⟩
  · rintro ⟨Lb, h, e⟩
    refine ⟨Lb, h, ?_⟩
    have h2 := congrArg (List.map (fun x : S43 => (⟨x.f0, x.f1, x.f2⟩ : S41))) e
    rw [List.map_map, List.map_map] at h2
    have e1 : (fun x : S43 => (⟨x.f0, x.f1, x.f2⟩ : S41)) ∘ conv = id := rfl
    rw [e1, List.map_id] at h2
    exact h2
/-- Both Parents answer alike. -/
theorem both_parents {Ll : List S41} (hn : Ll.length ≤ 4096) : ∃ r, PRes Ll.length (IsL Ll) r ∧ r.1.length ≤ 4096 ∧ Ev (fun k => treelabel_Parents.f k Ll) r ∧ Ev (fun k => corporaref10_Parents.f k (Ll.map conv)) r := by
  obtain ⟨r, hr, he⟩ := parents_ev Ll
  obtain ⟨r', hr', he'⟩ := rparents_ev (Ll.map conv)
  have h2 : PRes Ll.length (IsL Ll) r' := by
    rw [List.length_map] at hr'
    exact ⟨hr'.big, fun h => by
      rcases hr'.small h with ⟨a, b⟩ | a
      · exact .inl ⟨a, isL_conv.2 b⟩
      · exact .inr a, fun h q hq => hr'.found h q (isL_conv.1 hq)⟩
  obtain rfl := hr.uniq h2
  refine ⟨r, hr, ?_, he, he'⟩
  rcases hr.small hn with ⟨_, h⟩ | h
  · have := h.len; omega
  · rw [h]; simp
end Go.Proofs.Ythjcmodhleoocaa.Q
/- CommonEv -/
namespace Go.Proofs.Ythjcmodhleoocaa.Q
open Go.RowKit Go.Proofs.YthjcmodhleoocaaW.PrintWords Go.Proofs.YthjcmodhleoocaaW.PrintLast
open Go.Proofs.Ythjcmodhleoocaa.TP
/-- x lies on the way up from j. -/
def SubI (q : List Int) (x j : Int) : Prop := ∃ m, TP.up q m j = x
/-- The first node on the way up from i that lies on the way up from j; -1 if there is none. -/
def CSpec (q : List Int) (i j c : Int) : Prop := (∃ m, TP.up q m i = c ∧ 0 ≤ c ∧ SubI q c j ∧ ∀ m', m' < m → ¬ SubI q (TP.up q m' i) j) ∨ (c = -1 ∧ ∀ m, 0 ≤ TP.up q m i → ¬ SubI q (TP.up q m i) j)
theorem CSpec.uniq {q : List Int} {i j c c' : Int} (h : CSpec q i j c) (h' : CSpec q i j c') : c = c' := by
  rcases h with ⟨m, h1, h2, h3, h4⟩ | ⟨h1, h2⟩ <;> rcases h' with ⟨m', h1', h2', h3', h4'⟩ | ⟨h1', h2'⟩
  · rcases Nat.lt_trichotomy m m' with h | h | h
    · exact absurd (h1 ▸ h3) (h4' m h)
    · subst h; rw [← h1, ← h1']
    · exact absurd (h1' ▸ h3') (h4 m' h)
  · exact absurd (h1 ▸ h3) (h2' m (by omega))
  · exact absurd (h1' ▸ h3') (h2 m' (by omega))
  · omega
theorem dom_eq (a b : S41) : treelabel_Dominates.f a.f0 a.f1 a.f2 b.f0 b.f1 b.f2 = some (decide (a.f0 < b.f0 ∧ b.f1 < a.f1)) := by
  unfold treelabel_Dominates.f
  by_cases h : a.f0 < b.f0
  · rw [if_pos h]; simp [h]
  · rw [if_neg h]; simp [h]
theorem prec_eq (a b : S41) : treelabel_Precedes.f a.f0 a.f1 a.f2 b.f0 b.f1 b.f2 = some (decide (a.f0 < b.f0 ∧ a.f1 < b.f1)) := by
  unfold treelabel_Precedes.f
  by_cases h : a.f0 < b.f0
  · rw [if_pos h]; simp [h]
  · rw [if_neg h]; simp [h]
theorem subI_nat {q : List Int} {x j : Nat} : SubI q (x : Int) (j : Int) ↔ Sub q x j := Iff.rfl
/-- What parentsOf says. -/
theorem parentsOf_ev (Ll : List S41) (i j : Int) {r : List Int × Int} (he : Ev (fun k => treelabel_Parents.f k Ll) r) : Ev (fun k => treelabel_parentsOf.f k Ll i j) (r.1, decide (r.2 = 0 ∧ (0 ≤ i ∧ i < Ll.length) ∧ (0 ≤ j ∧ j < Ll.length))) := by
  refine Ev.bind he ?_
  by_cases h0 : r.2 = 0
  · refine ev_pos h0 ?_
    by_cases h1 : i ≥ 0
    · refine ev_pos h1 ?_
      by_cases h2 : i < (Ll.length : Int)
      · refine ev_pos h2 ?_
        by_cases h3 : j ≥ 0
        · refine ev_pos h3 (ev_now ?_)
          simp [h0, h1, h2, h3]
        · exact ev_neg h3 (ev_now (by simp [h3]))
      · exact ev_neg h2 (ev_now (by simp [h2]))
    · exact ev_neg h1 (ev_now (by simp [h1]))
  · exact ev_neg h0 (ev_now (by simp [h0]))
theorem common_loop {Ll : List S41} {q : List Int} (hq : IsL Ll q) {i j : Nat} (hi : i < q.length) (hj : j < q.length) (d : Nat) : ∀ m D : Nat, HasD q (i : Int) D → m + d = D + 1 → (∀ m', m' < m → ¬ SubI q (TP.up q m' (i : Int)) (j : Int)) →
    ∃ c, CSpec q (i : Int) (j : Int) c ∧ Ev (fun k => treelabel_Common.l0 k Ll (TP.up q m (i : Int)) (j : Int) q) c := by
  obtain ⟨hl1, hl2⟩ := hq.len
  obtain ⟨Lb, hq1, hq2⟩ := hq
  have hL := hq1.lab
  have hf := hq1.2.1
  have hget : ∀ x, x < q.length → ∃ l, Lb[x]? = some l := fun x hx => ⟨_, List.getElem?_eq_getElem (by rw [hL.len]; exact hx)⟩
  induction d with
  | zero =>
    intro m D hD hm hno
    obtain rfl : m = D + 1 := by omega
    have hneg := hD.2
    have hr := up_range hf.rng (by omega) (by omega : (i : Int) < q.length) (D + 1)
    refine ⟨-1, .inr ⟨rfl, fun m' hm' => ?_⟩, ?_⟩
    · rcases Nat.lt_or_ge m' (D + 1) with h | h
      · exact hno m' h
      · have := up_nn_of h hm'; omega
    · refine Ev.step (fun k => by rw [treelabel_Common.l0]) ?_
      exact ev_neg (by omega) (ev_now (by omega))
  | succ d ih =>
    intro m D hD hm hno
    have h0 : 0 ≤ TP.up q m (i : Int) := up_nn_of (show m ≤ D by omega) hD.1
    have hlt : TP.up q m (i : Int) < q.length := (up_range hf.rng (by omega) (by omega : (i : Int) < q.length) m).2
    obtain ⟨x, hx⟩ : ∃ x : Nat, TP.up q m (i : Int) = (x : Int) := ⟨(TP.up q m (i : Int)).toNat, by omega⟩
    have hxn : x < q.length := by omega
    by_cases hxj : x = j
    · refine ⟨TP.up q m (i : Int), .inl ⟨m, rfl, h0, ⟨0, by rw [hx, hxj]; rfl⟩, hno⟩, ?_⟩
      refine Ev.step (fun k => by rw [treelabel_Common.l0]) ?_
      exact ev_pos h0 (ev_pos (by rw [hx, hxj]) (Ev.now _))
    · obtain ⟨lx, hlx⟩ := hget x hxn
      obtain ⟨lj, hlj⟩ := hget j hj
      have hiff := lab_above_iff hf hL hlx hlj
      have hd : ((rd_T41 Ll (x : Int)).f0 < (rd_T41 Ll (j : Int)).f0 ∧ (rd_T41 Ll (j : Int)).f1 < (rd_T41 Ll (x : Int)).f1) ↔ Sub q x j := by
        rw [hq2, rd41 hlx, rd41 hlj]
        simp only [lab41]
        constructor
        · intro h; exact (hiff.2 (by omega)).1
        · intro h; have := hiff.1 ⟨h, hxj⟩; omega
      by_cases hs : Sub q x j
      · refine ⟨TP.up q m (i : Int), .inl ⟨m, rfl, h0, by rw [hx]; exact hs, hno⟩, ?_⟩
        refine Ev.step (fun k => by rw [treelabel_Common.l0]) ?_
        refine ev_pos h0 (ev_neg (by rw [hx]; omega) (ev_pos h0 (ev_pos (by omega) (ev_pos (by omega) (ev_pos (by omega) ?_)))))
        rw [hx, dom_eq]
        exact ev_some (f := fun k t => _) (ev_pos (decide_eq_true (hd.2 hs)) (Ev.now _))
      · obtain ⟨c, hc, he⟩ := ih (m + 1) D hD (by omega) (fun m' hm' => by
          rcases Nat.lt_or_ge m' m with h | h
          · exact hno m' h
          · obtain rfl : m' = m := by omega
            rw [hx]; exact hs)
        refine ⟨c, hc, ?_⟩
        refine Ev.step (fun k => by rw [treelabel_Common.l0]) ?_
        refine ev_pos h0 (ev_neg (by rw [hx]; omega) (ev_pos h0 (ev_pos (by omega) (ev_pos (by omega) (ev_pos (by omega) ?_)))))
        have hnx : rd q (x : Int) = TP.up q (m + 1) (i : Int) := by rw [up_out, hx, stp_nn (by omega)]; rfl
        rw [hx, dom_eq]
        refine ev_some (f := fun k t => _) (ev_neg (fun h => hs (hd.1 (of_decide_eq_true h))) (ev_pos (by omega) ?_))
        show Ev (fun k => treelabel_Common.l0 k Ll (rd q (x : Int)) (j : Int) q) c
        rw [hnx]; exact he
/-- treelabel.Common at nodes of a forest. -/
theorem common_ev {Ll : List S41} {q : List Int} (hq : IsL Ll q) {i j : Nat} (hi : i < q.length) (hj : j < q.length) : ∃ c, CSpec q (i : Int) (j : Int) c ∧ Ev (fun k => treelabel_Common.f k Ll (i : Int) (j : Int)) c := by
  obtain ⟨hl1, hl2⟩ := hq.len
  obtain ⟨r, hr, he⟩ := parents_ev Ll
  obtain rfl := hr.found (by omega) q hq
  obtain ⟨D, _, hD⟩ := hasD_ex (by obtain ⟨Lb, h, _⟩ := hq; exact h.2.1) (x := (i : Int)) (by omega) (by omega)
  obtain ⟨c, hc, he2⟩ := common_loop hq hi hj (D + 1) 0 D hD (by omega) (fun m' h => absurd h (Nat.not_lt_zero _))
  refine ⟨c, hc, Ev.bind (parentsOf_ev Ll _ _ he) (ev_pos ?_ he2)⟩
  simp; omega
/-- treelabel.Sisters at nodes of a forest. -/
theorem sisters_ev {Ll : List S41} {q : List Int} (hq : IsL Ll q) {i j : Nat} (hi : i < q.length) (hj : j < q.length) : Ev (fun k => treelabel_Sisters.f k Ll (i : Int) (j : Int)) (decide (i ≠ j ∧ rdi q (i : Int) = rdi q (j : Int))) := by
  obtain ⟨hl1, hl2⟩ := hq.len
  obtain ⟨r, hr, he⟩ := parents_ev Ll
  obtain rfl := hr.found (by omega) q hq
  refine Ev.bind (parentsOf_ev Ll _ _ he) (ev_pos (by simp; omega) ?_)
  by_cases e : i = j
  · exact ev_pos (by omega) (ev_now (by simp [e]))
  · refine ev_neg (by omega) (ev_pos (by omega) (ev_pos (by show (i : Int) < (q.length : Int); omega) (ev_pos (by omega) (ev_pos (by show (j : Int) < (q.length : Int); omega) (ev_now ?_)))))
    rw [rd_rdi, rd_rdi]
    by_cases h : rdi q (i : Int) = rdi q (j : Int)
    · simp [h, e]
    · simp [h, e]
/-- Where the labels are those of no forest, or an index is none. -/
theorem common_none {Ll : List S41} {r : List Int × Int} (he : Ev (fun k => treelabel_Parents.f k Ll) r) {i j : Int} (h : ¬ (r.2 = 0 ∧ (0 ≤ i ∧ i < Ll.length) ∧ (0 ≤ j ∧ j < Ll.length))) : Ev (fun k => treelabel_Common.f k Ll i j) (-1) :=
  Ev.bind (parentsOf_ev Ll i j he) (ev_neg (by simpa using h) (Ev.now _))
theorem sisters_none {Ll : List S41} {r : List Int × Int} (he : Ev (fun k => treelabel_Parents.f k Ll) r) {i j : Int} (h : ¬ (r.2 = 0 ∧ (0 ≤ i ∧ i < Ll.length) ∧ (0 ≤ j ∧ j < Ll.length))) : Ev (fun k => treelabel_Sisters.f k Ll i j) false :=
  Ev.bind (parentsOf_ev Ll i j he) (ev_neg (by simpa using h) (Ev.now _))
end Go.Proofs.Ythjcmodhleoocaa.Q
/- PureTreelabelRelates -/
namespace Go.Proofs.Ythjcmodhleoocaa.Pure
open Go.RowKit Go.Proofs.Ythjcmodhleoocaa.Q Go.Proofs.YthjcmodhleoocaaW.PrintWords Go.Proofs.YthjcmodhleoocaaW.PrintLast
open Go.Proofs.Ythjcmodhleoocaa.TP
/-- The inner loop: is x on the way up from j? -/
theorem rcommon_inner {q : List Int} (hf : Forest q) {x j : Nat} (hx : x < q.length) (hj : j < q.length) (d : Nat) : ∀ s D : Nat, HasD q (j : Int) D → s + d = D + 1 → (∀ s', s' < s → TP.up q s' (j : Int) ≠ (x : Int)) →
    (Sub q x j ∧ Ev (fun k => corporaref10_Common.l1 k (j : Int) q (x : Int) (TP.up q s (j : Int))) (x : Int)) ∨
    (¬ Sub q x j ∧ ∀ c, Ev (fun k => corporaref10_Common.l0 k (j : Int) q (rd q (x : Int))) c → Ev (fun k => corporaref10_Common.l1 k (j : Int) q (x : Int) (TP.up q s (j : Int))) c) := by
  induction d with
  | zero =>
    intro s D hD hs hno
    obtain rfl : s = D + 1 := by omega
    have hneg := hD.2
    refine .inr ⟨fun ⟨m, hm⟩ => ?_, fun c hc => ?_⟩
    · rcases Nat.lt_or_ge m (D + 1) with h | h
      · exact hno m h hm
      · have := up_nn_of h (by rw [hm]; omega : 0 ≤ TP.up q m (j : Int)); omega
    · refine Ev.step (fun k => by rw [corporaref10_Common.l1]) ?_
      exact ev_neg (by omega) (ev_pos (by omega) (ev_pos (by omega) hc))
  | succ d ih =>
    intro s D hD hs hno
    have h0 : 0 ≤ TP.up q s (j : Int) := up_nn_of (show s ≤ D by omega) hD.1
    have hlt : TP.up q s (j : Int) < q.length := (up_range hf.rng (by omega) (by omega : (j : Int) < q.length) s).2
    by_cases e : TP.up q s (j : Int) = (x : Int)
    · refine .inl ⟨⟨s, e⟩, ?_⟩
      refine Ev.step (fun k => by rw [corporaref10_Common.l1]) ?_
      exact ev_pos h0 (ev_pos e.symm (Ev.now _))
    · have hnx : rd q (TP.up q s (j : Int)) = TP.up q (s + 1) (j : Int) := by rw [up_out, stp_nn h0]; rfl
      have step : ∀ c, Ev (fun k => corporaref10_Common.l1 k (j : Int) q (x : Int) (TP.up q (s + 1) (j : Int))) c → Ev (fun k => corporaref10_Common.l1 k (j : Int) q (x : Int) (TP.up q s (j : Int))) c := by
        intro c hc
        refine Ev.step (fun k => by rw [corporaref10_Common.l1]) ?_
        refine ev_pos h0 (ev_neg (fun h => e h.symm) (ev_pos h0 (ev_pos hlt ?_)))
        rw [hnx]; exact hc
      rcases ih (s + 1) D hD (by omega) (fun s' hs' => by
        rcases Nat.lt_or_ge s' s with h | h
        · exact hno s' h
        · obtain rfl : s' = s := by omega
          exact e) with ⟨h1, h2⟩ | ⟨h1, h2⟩
      · exact .inl ⟨h1, step _ h2⟩
      · exact .inr ⟨h1, fun c hc => step _ (h2 c hc)⟩
theorem rcommon_loop {q : List Int} (hf : Forest q) {i j : Nat} (hi : i < q.length) (hj : j < q.length) (d : Nat) : ∀ m D : Nat, HasD q (i : Int) D → m + d = D + 1 → (∀ m', m' < m → ¬ SubI q (TP.up q m' (i : Int)) (j : Int)) →
    ∃ c, CSpec q (i : Int) (j : Int) c ∧ Ev (fun k => corporaref10_Common.l0 k (j : Int) q (TP.up q m (i : Int))) c := by
  induction d with
  | zero =>
    intro m D hD hm hno
    obtain rfl : m = D + 1 := by omega
    have hneg := hD.2
    have hr := up_range hf.rng (by omega) (by omega : (i : Int) < q.length) (D + 1)
    refine ⟨-1, .inr ⟨rfl, fun m' hm' => ?_⟩, ?_⟩
    · rcases Nat.lt_or_ge m' (D + 1) with h | h
      · exact hno m' h
      · have := up_nn_of h hm'; omega
    · refine Ev.step (fun k => by rw [corporaref10_Common.l0]) ?_
      exact ev_neg (by omega) (Ev.now _)
  | succ d ih =>
    intro m D hD hm hno
    have h0 : 0 ≤ TP.up q m (i : Int) := up_nn_of (show m ≤ D by omega) hD.1
    have hlt : TP.up q m (i : Int) < q.length := (up_range hf.rng (by omega) (by omega : (i : Int) < q.length) m).2
    obtain ⟨x, hx⟩ : ∃ x : Nat, TP.up q m (i : Int) = (x : Int) := ⟨(TP.up q m (i : Int)).toNat, by omega⟩
    obtain ⟨Dj, _, hDj⟩ := hasD_ex hf (x := (j : Int)) (by omega) (by omega)
    have hnx : rd q (x : Int) = TP.up q (m + 1) (i : Int) := by rw [up_out, hx, stp_nn (by omega)]; rfl
    rcases rcommon_inner hf (x := x) (by omega) hj (Dj + 1) 0 Dj hDj (by omega) (fun s' h => absurd h (Nat.not_lt_zero _)) with ⟨h1, h2⟩ | ⟨h1, h2⟩
    · refine ⟨TP.up q m (i : Int), .inl ⟨m, rfl, h0, by rw [hx]; exact h1, hno⟩, ?_⟩
      refine Ev.step (fun k => by rw [corporaref10_Common.l0]) ?_
      refine ev_pos h0 ?_
      rw [hx]; exact h2
    · obtain ⟨c, hc, he⟩ := ih (m + 1) D hD (by omega) (fun m' hm' => by
        rcases Nat.lt_or_ge m' m with h | h
        · exact hno m' h
        · obtain rfl : m' = m := by omega
          rw [hx]; exact h1)
      refine ⟨c, hc, ?_⟩
      refine Ev.step (fun k => by rw [corporaref10_Common.l0]) ?_
      refine ev_pos h0 ?_
      rw [hx]
      exact h2 c (by rw [hnx]; exact he)
theorem rcommon_ev {Ll : List S43} {r : List Int × Int} (he : Ev (fun k => corporaref10_Parents.f k Ll) r) (i j : Int) (hok : r.2 = 0 ∧ (0 ≤ i ∧ i < r.1.length) ∧ (0 ≤ j ∧ j < r.1.length)) {c : Int} (hc : Ev (fun k => corporaref10_Common.l0 k j r.1 i) c) : Ev (fun k => corporaref10_Common.f k Ll i j) c := by
  obtain ⟨h0, h1, h2⟩ := hok
  refine Ev.bind he (ev_pos h0 (ev_neg (by omega) (ev_neg (by omega) (ev_neg (by omega) ?_))))
  refine Ev.step (fun k => by rw [corporaref10_Common.j0]) ?_
  exact ev_neg (by simp; omega) hc
theorem rcommon_none {Ll : List S43} {r : List Int × Int} (he : Ev (fun k => corporaref10_Parents.f k Ll) r) {i j : Int} (hno : ¬ (r.2 = 0 ∧ (0 ≤ i ∧ i < r.1.length) ∧ (0 ≤ j ∧ j < r.1.length))) : Ev (fun k => corporaref10_Common.f k Ll i j) (-1) := by
  have tail : Ev (fun k => corporaref10_Common.j0 k i j r.1 true) (-1) := by
    refine Ev.step (fun k => by rw [corporaref10_Common.j0]) ?_
    exact ev_pos rfl (Ev.now _)
  refine Ev.bind he ?_
  by_cases h0 : r.2 = 0
  · refine ev_pos h0 ?_
    by_cases h1 : i < 0
    · exact ev_pos h1 tail
    · refine ev_neg h1 ?_
      by_cases h2 : i ≥ (r.1.length : Int)
      · exact ev_pos h2 tail
      · refine ev_neg h2 ?_
        by_cases h3 : j < 0
        · exact ev_pos h3 tail
        · refine ev_neg h3 ?_
          rw [decide_eq_true (by omega : j ≥ (r.1.length : Int))]; exact tail
  · exact ev_neg h0 tail
theorem rsisters_ev {Ll : List S43} {r : List Int × Int} (he : Ev (fun k => corporaref10_Parents.f k Ll) r) (i j : Int) : Ev (fun k => corporaref10_Sisters.f k Ll i j) (decide (r.2 = 0 ∧ (0 ≤ i ∧ i < r.1.length) ∧ (0 ≤ j ∧ j < r.1.length) ∧ i ≠ j ∧ rd r.1 i = rd r.1 j)) := by
  refine Ev.bind he ?_
  by_cases h0 : r.2 = 0
  · refine ev_pos h0 ?_
    by_cases h1 : i ≥ 0
    · refine ev_pos h1 ?_
      by_cases h2 : i < (r.1.length : Int)
      · refine ev_pos h2 ?_
        by_cases h3 : j ≥ 0
        · refine ev_pos h3 ?_
          by_cases h4 : j < (r.1.length : Int)
          · refine ev_pos h4 ?_
            by_cases h5 : i = j
            · exact ev_pos h5 (ev_now (by simp [h5]))
            · refine ev_neg h5 (ev_pos h1 (ev_pos h3 (ev_now ?_)))
              by_cases h6 : rd r.1 i = rd r.1 j
              · simp [h0, h1, h2, h3, h4, h5, h6]
              · simp [h6]
          · exact ev_neg h4 (ev_now (by simp [h4]))
        · exact ev_neg h3 (ev_now (by simp [h3]))
      · exact ev_neg h2 (ev_now (by simp [h2]))
    · exact ev_neg h1 (ev_now (by simp [h1]))
  · exact ev_neg h0 (ev_now (by simp [h0]))
theorem TreelabelRelates (Ll : List S41) (i j : Int) : ∃ k, corporalaw10_TreelabelRelates.f k Ll i j = some true := by
  refine Ev.rounds (g := fun k => corporalaw10_TreelabelRelates.f k Ll i j) ?_
  by_cases hn : (Ll.length : Int) > 25
  · exact ev_pos hn (Ev.now _)
  · refine ev_neg hn ?_
    obtain ⟨r, hr, hl, he, he'⟩ := both_parents (Ll := Ll) (by omega)
    have hlen : r.2 = 0 → r.1.length = Ll.length := fun h0 => by
      rcases hr.small (by omega) with ⟨_, h⟩ | h
      · have := h.len; omega
      · rw [h] at h0; cases h0
    refine Ev.bind (own_ev (by omega)) ?_
    by_cases hok : r.2 = 0 ∧ (0 ≤ i ∧ i < Ll.length) ∧ (0 ≤ j ∧ j < Ll.length)
    · obtain ⟨h0, h1, h2⟩ := hok
      have hq : IsL Ll r.1 := by
        rcases hr.small (by omega) with ⟨_, h⟩ | h
        · exact h
        · rw [h] at h0; cases h0
      have hl0 := hlen h0
      obtain ⟨a, ha⟩ : ∃ a : Nat, i = (a : Int) := ⟨i.toNat, by omega⟩
      obtain ⟨b, hb⟩ : ∃ b : Nat, j = (b : Int) := ⟨j.toNat, by omega⟩
      subst ha; subst hb
      have hf : Forest r.1 := by obtain ⟨Lb, h, _⟩ := hq; exact h.2.1
      obtain ⟨c, hc, hce⟩ := common_ev hq (i := a) (j := b) (by omega) (by omega)
      obtain ⟨D, _, hD⟩ := hasD_ex hf (x := (a : Int)) (by omega) (by omega)
      obtain ⟨c', hc', hce'⟩ := rcommon_loop hf (i := a) (j := b) (by omega) (by omega) (D + 1) 0 D hD (by omega) (fun m' h => absurd h (Nat.not_lt_zero _))
      obtain rfl := hc.uniq hc'
      have hs := rsisters_ev he' (a : Int) (b : Int)
      have e1 : decide (r.2 = 0 ∧ (0 ≤ (a : Int) ∧ (a : Int) < r.1.length) ∧ (0 ≤ (b : Int) ∧ (b : Int) < r.1.length) ∧ (a : Int) ≠ (b : Int) ∧ rd r.1 (a : Int) = rd r.1 (b : Int)) = decide (a ≠ b ∧ rdi r.1 (a : Int) = rdi r.1 (b : Int)) := by
        apply decide_eq_decide.2
        constructor
        · rintro ⟨_, _, _, h, h'⟩; exact ⟨by omega, h'⟩
        · rintro ⟨h, h'⟩; exact ⟨h0, by omega, by omega, by omega, h'⟩
      rw [e1] at hs
      refine Ev.bind (sisters_ev hq (by omega) (by omega)) (Ev.bind hs (ev_pos (by simp) (Ev.bind hce (Ev.bind (rcommon_ev he' _ _ ⟨h0, by omega, by omega⟩ hce') (ev_pos rfl (Ev.bind awake_ev (Ev.now _)))))))
    · have hno : ¬ (r.2 = 0 ∧ (0 ≤ i ∧ i < r.1.length) ∧ (0 ≤ j ∧ j < r.1.length)) := fun h => hok (by have := hlen h.1; exact ⟨h.1, by omega, by omega⟩)
      have hs := rsisters_ev he' i j
      rw [decide_eq_false (fun h => hno ⟨h.1, h.2.1, h.2.2.1⟩)] at hs
      exact Ev.bind (sisters_none he hok) (Ev.bind hs (ev_pos rfl (Ev.bind (common_none he hok) (Ev.bind (rcommon_none he' hno) (ev_pos rfl (Ev.bind awake_ev (Ev.now _)))))))
end Go.Proofs.Ythjcmodhleoocaa.Pure
/- RowAid -/
namespace Go.Proofs.Ythjcmodhleoocaa.Q
open Go.RowKit Go.Proofs.YthjcmodhleoocaaW.PrintWords Go.Proofs.YthjcmodhleoocaaW.PrintLast
open Go.ChangeShapes Go.WideShapes Go.ChangeAt Go.Deep

theorem label_cells {H : Type} {enc : TypeId × Value → H} {W : World} {spare : Nat → Bool} {held : Bool} {fuel : Nat} {cs : List Value} {x : DataW H × List MemPlace} (h : DataW.trod enc Try.prog W 0 spare held fuel 41 cs = some x) : ∃ a b c : Int, cs = [.int .i64 a, .int .i64 b, .int .i64 c] := by
  obtain ⟨y0, y1, y2, n, _, hl, h0, h1, h2⟩ := trod_struct3 Try.underlying41 h
  have e3 : Try.prog.cellsOf 41 = 3 := by kernel_rfl
  have e1 : Try.prog.cellsOf 3 = 1 := by kernel_rfl
  rw [e3] at hl
  match cs, hl with
  | [v0, v1, v2], _ =>
    simp only [e1] at h0 h1 h2
    obtain ⟨a, ha, _⟩ := DataW.trod_int Try.underlying3 h0
    obtain ⟨b, hb, _⟩ := DataW.trod_int Try.underlying3 h1
    obtain ⟨c, hc, _⟩ := DataW.trod_int Try.underlying3 h2
    simp at ha hb hc
    exact ⟨a, b, c, by rw [ha, hb, hc]⟩

theorem labels_in {H : Type} {enc : TypeId × Value → H} {W : World} {held : Bool} {a : Option Addr} {len cap : Nat} {d : DataW H} {p : List MemPlace} (h : DataW.Trod enc Try.prog W 0 (fun _ => true) held 23 (.slice a len cap) d p) :
    ∃ Ll : List S41, Ll.length = len ∧ len ≤ cap ∧ Kd.C k41 W a Ll.length Ll := by
  obtain ⟨fuel, hf⟩ := h
  rcases open_slice Try.underlying23 hf with ⟨hcs, _⟩ | ⟨ad, len', cap', m, n, D, Pl, hcs, _, hl, hm, hmm, _, hx⟩
  · simp [Value.cells] at hcs
    obtain ⟨rfl, rfl, rfl⟩ := hcs
    exact ⟨[], rfl, Nat.le_refl _, Kd.C_nil k41 W⟩
  · simp [Value.cells] at hcs
    obtain ⟨rfl, rfl, rfl⟩ := hcs
    have e3 : Try.prog.cellsOf 41 = 3 := by kernel_rfl
    have hm' : m = cap := by simpa using hmm
    have each : ∀ i, i < len → ∃ x : S41, W.cell? (ad.add (i * 3)) = some (.int .i64 x.f0) ∧ W.cell? (ad.add (i * 3 + 1)) = some (.int .i64 x.f1) ∧ W.cell? (ad.add (i * 3 + 2)) = some (.int .i64 x.f2) := by
      intro i hi
      obtain ⟨cs', h1, h2⟩ := hx i (by omega)
      rw [e3] at h1
      obtain ⟨x0, x1, x2, rfl⟩ := label_cells h2
      obtain ⟨_, _, hcell⟩ := World.cells?_some h1
      have c0 := hcell 0 (by omega)
      have c1 := hcell 1 (by omega)
      have c2 := hcell 2 (by omega)
      rw [Deep.add_add] at c0 c1 c2
      exact ⟨⟨x0, x1, x2⟩, by simpa using c0, by simpa using c1, by simpa using c2⟩
    haveI : Inhabited S41 := ⟨z41⟩
    obtain ⟨f, hfx⟩ := choose_lt each
    have hlen : ((List.range len).map f).length ≤ 9223372036854775807 := by
      have h1 : len ≤ maxLen := by omega
      unfold maxLen at h1
      rw [List.length_map, List.length_range]; omega
    refine ⟨(List.range len).map f, by simp, hl, rfl, hlen, fun hp => ⟨ad, rfl, fun j x hj => ?_⟩⟩
    have hjl : j < len := by have := (List.getElem?_eq_some_iff.1 hj).1; simpa using this
    rw [List.getElem?_map, List.getElem?_range hjl] at hj
    obtain rfl := Option.some.inj hj
    obtain ⟨c0, c1, c2⟩ := hfx j hjl
    refine ⟨[.int .i64 (f j).f0, .int .i64 (f j).f1, .int .i64 (f j).f2], rfl, k41_mk W (f j), fun i u hu => ?_⟩
    have hsz : k41.sz = 3 := rfl
    rw [hsz]
    match i, hu with
    | 0, hu => obtain rfl := Option.some.inj hu; exact c0
    | 1, hu => obtain rfl := Option.some.inj hu; exact c1
    | 2, hu => obtain rfl := Option.some.inj hu; exact c2
end Go.Proofs.Ythjcmodhleoocaa.Q
/- LawTreelabelRelates -/
namespace Go.Proofs.Ythjcmodhleoocaa.treelabelRelates
open Go.ChangeShapes Go.WideShapes Go.ChangeAt Go.RowKit
open Go.ChangeMaps (open_string shut_string)
set_option linter.unusedVariables false
theorem own : ownKnob Try.prog.godebug = none := by kernel_rfl
theorem laidOut : laidOutB Try.prog = true := by kernel_rfl
set_option maxRecDepth 100000 in
theorem lifted (os : Os) (started : os.Started) (H : Type) (enc : TypeId × Value → H) :
    ReturnsInHanded {} Try.checked os 8 .any (Rows.treelabelRelatesSpec.pre6 enc Try.prog Try.f8 Rows.treelabelRelatesRow.domain false) (Rows.treelabelRelatesSpec.post enc Try.prog Try.f8 false true false false) := by
  refine returnsInHanded_of_change_sized (C := Try.checked) own started (by kernel_rfl) Try.func8
    (ChangeSpec.witness6 (enc := enc) (C := Try.checked) false ⟨#[], #[.slice none 0 0, .int .i64 0, .int .i64 0], []⟩ 8 (by kernel_rfl) (by kernel_rfl) (by kernel_rfl) (by kernel_rfl)) ?_
  intro W base args ds gs before hval0 hW hcnd hsz0 _
  have hsz : (DataW.weightsEach Try.prog (Try.f8.params.toList ++ Rows.treelabelRelatesSpec.plain.varTypes Try.prog) (ds ++ gs)).all (· ≤ reachBytes) = true := hsz0
  have hval : ∀ (j : Nat) t v, Try.f8.params[j]? = some t → args[j]? = some v → Value.okWide Try.prog W .any base t v := hval0
  have hW' := hW
  obtain ⟨p, q, hA0, hV, rfl, hfz, hnd⟩ := hW
  have hA : DataW.TrodAll enc Try.prog W 0 (fun _ => true) true Try.f8.params.toList args.toList ds p := hA0
  rw [Try.params8] at hA hval hsz
  obtain ⟨v0, v1, v2, d0, d1, d2, p0, p1, p2, rfl, rfl, rfl, h0, h1, h2⟩ := trodAll_three hA
  obtain ⟨rfl, rfl⟩ := trodVars_none hV
  obtain ⟨a0, len0, cap0, rfl⟩ := okWide_slice Try.underlying23 (hval 0 23 v0 rfl rfl)
  obtain ⟨i1, rfl, rfl, rfl, w1⟩ := open_int Try.underlying3 (hval 1 3 v1 rfl rfl) h1
  obtain ⟨i2, rfl, rfl, rfl, w2⟩ := open_int Try.underlying3 (hval 2 3 v2 rfl rfl) h2
  have k0 := h0
  have lt0 : ∀ x ∈ p0, x.block < W.heap.size := by obtain ⟨m, hm⟩ := k0; exact DataW.trod_lt m _ _ _ hm
  obtain ⟨Ll, hLl, hcap, hC⟩ := Q.labels_in h0
  subst hLl
  clear hA0 hval0 hsz0 hsz
  obtain ⟨k, hk⟩ := Pure.TreelabelRelates Ll i1 i2
  refine (Q.corporalaw10_TreelabelRelates.calls k a0 cap0 Ll i1 i2 true W hC hcap hk).mono fun e W' ⟨he, bel⟩ => ?_
  subst he
  exact ⟨_, rfl, _, _, _, [], _, [], hW', trodAll_mk1 (shut_bool Try.underlying4 _), (trodAll_cons_mk (Below.trod laidOut (by kernel_rfl) (of_decide_eq_true (by kernel_rfl)) k0 bel lt0) (trodAll_cons_mk (Below.trod laidOut (by kernel_rfl) (of_decide_eq_true (by kernel_rfl)) h1 bel (fun x h => by cases h)) (trodAll_cons_mk (Below.trod laidOut (by kernel_rfl) (of_decide_eq_true (by kernel_rfl)) h2 bel (fun x h => by cases h)) trodAll_mk0))), rfl, bel.frame _, fun h => by cases h⟩
theorem over : Rows.treelabelRelatesRow.holds Try.pinned (OpenSpec.ofChange Rows.treelabelRelatesSpec) :=
  OpenClaim.holds_of_wide 8 Try.f8 rfl rfl rfl rfl rfl rfl rfl ⟨rfl, rfl, rfl, rfl, rfl⟩ rfl rfl rfl rfl rfl (by kernel_rfl) Try.func8 (by kernel_rfl)
    (of_decide_eq_true (by kernel_rfl)) (by unfold Func.isWrapper; first | (rw [if_pos (by decide +kernel)]; kernel_rfl) | (rw [if_neg (by decide +kernel)]; exact ⟨rfl, rfl⟩))
    (fun os started H enc _ => lifted os started H enc)
theorem proved : Rows.TreelabelRelatesSaid := over
end Go.Proofs.Ythjcmodhleoocaa.treelabelRelates
namespace Go.Proofs.Ythjcmodhleoocaa
/-- The row, under a short name, for the claim. -/
theorem treelabelRelates_holds : Rows.TreelabelRelatesSaid := treelabelRelates.proved
end Go.Proofs.Ythjcmodhleoocaa
