/- The law TreelabelCommon answers true for every input, and each argument reads behind the call as it read before. (Part 3.) -/
import Derived.Test.YthjcmodhleoocaaMCmn1
import Derived.Test.YthjcmodhleoocaaMCmn2
import Derived.Handy
set_option linter.unusedVariables false
set_option linter.unusedSimpArgs false
/- FTreelabelSisters -/
namespace Go.Proofs.Ythjcmodhleoocaa.Q
open Go.RowKit Go.Proofs.YthjcmodhleoocaaW.PrintWords Go.Proofs.YthjcmodhleoocaaW.PrintLast Go.Proofs.YthjcmodhleoocaaW.PrintMore
attribute [local go_sem] max2_int min2_int max_two min_two max_three min_three max_four min_four   -- for this text's walks alone
set_option linter.unusedVariables false
set_option linter.unusedSimpArgs false

/-! ### treelabel_Sisters: function 24 -/
def treelabel_Sisters.f (k : Nat) (l0 : List (S41)) (a1 : Int) (a2 : Int) : Option (Bool) := (treelabel_parentsOf.f k l0 a1 a2).bind fun bt316 => (if bt316.2 = true then (if a1 = a2 then (some false) else (if 0 ≤ a1 then (if a1 < (bt316.1.length : Int) then (if 0 ≤ a2 then (if a2 < (bt316.1.length : Int) then (some ((rd bt316.1 a1) == (rd bt316.1 a2))) else (none)) else (none)) else (none)) else (none))) else (some false))
theorem treelabel_Sisters.mono : ∀ a0 a1 a2 k, LeO (treelabel_Sisters.f k a0 a1 a2) (treelabel_Sisters.f (k + 1) a0 a1 a2) := by
 intro a0 a1 a2 k
 unfold treelabel_Sisters.f
 repeat' first
   | (with_reducible exact treelabel_parentsOf.mono _ _ _ _)
   | (with_reducible exact LeO.refl _)
   | (with_reducible exact LeO.none _)
   | (with_reducible refine LeO.ite ?_ ?_)
   | (with_reducible refine LeO.bind ?_ (fun _ => ?_))
   | exact treelabel_parentsOf.mono _ _ _ _
   | exact LeO.none _
   | refine LeO.ite ?_ ?_
   | refine LeO.bind ?_ (fun _ => ?_)
set_option maxHeartbeats 8000000 in
set_option maxRecDepth 100000 in
theorem treelabel_Sisters.calls (k : Nat) (A0 : Option Addr) (c0 : Nat) (l0 : List (S41)) (a1 : Int) (a2 : Int) (r : Bool) (w : World) (hr0 : Kd.C k41 w A0 l0.length l0) (hc0 : l0.length ≤ c0) (h : treelabel_Sisters.f k l0 a1 a2 = some r) :
  Calls Try.prog 24 #[.slice A0 l0.length c0, .int .i64 a1, .int .i64 a2] w fun e w' => e = .returned (.bool r) ∧ Below w.heap.size w w' := by
 have HR0 := Aside0.mk hr0
 have HC0 := Aside0.mk hc0
 clear hr0 hc0
 have HB := Aside0.mk (Below.refl w.heap.size w)
 have H : ((treelabel_parentsOf.f k l0 a1 a2).bind fun bt316 => (if bt316.2 = true then (if a1 = a2 then (some false) else (if 0 ≤ a1 then (if a1 < (bt316.1.length : Int) then (if 0 ≤ a2 then (if a2 < (bt316.1.length : Int) then (some ((rd bt316.1 a1) == (rd bt316.1 a2))) else (none)) else (none)) else (none)) else (none))) else (some false))) = some r := h
 clear h
 replace H := Option.bind_eq_some_iff.mp H
 obtain ⟨⟨t316, t317⟩, A40, H⟩ := H
 replace H : (if t317 = true then (if a1 = a2 then (some false) else (if 0 ≤ a1 then (if a1 < (t316.length : Int) then (if 0 ≤ a2 then (if a2 < (t316.length : Int) then (some ((rd t316 a1) == (rd t316 a2))) else (none)) else (none)) else (none)) else (none))) else (some false)) = some r := H
 have A4 := Aside0.mk A40
 clear A40
 by_cases c5 : t317 = true
 ·subst c5
  have H1 : (if a1 = a2 then (some false) else (if 0 ≤ a1 then (if a1 < (t316.length : Int) then (if 0 ≤ a2 then (if a2 < (t316.length : Int) then (some ((rd t316 a1) == (rd t316 a2))) else (none)) else (none)) else (none)) else (none))) = some r := by rw [if_pos rfl] at H; exact H
  clear H
  have H := H1
  clear H1
  by_cases c6 : a1 = a2
  ·rw [if_pos c6] at H
   have c6b0 : (a1 == a2) = true := beq_iff_eq.mpr c6
   have c6b1 : (a1 != a2) = false := bne_eq_false_iff_eq.mpr c6
   clear c6
   obtain rfl := Option.some.inj H
   go_enter Try.func24, Try.ntmps24
   go_wp2_with (first | (go_at_call 36; (with_reducible refine (treelabel_parentsOf.calls k _ _ l0 a1 a2 t316 true _ ?side1 ?side2 A4.out).mono ?_); (case side1 => repeat (first | exact HR0.out | (with_reducible refine Kd.C_alloc ?_ _) | (with_reducible refine Kd.C_drewN ?_ _) | (with_reducible refine Kd.C_drew ?_))); (case side2 => exact HC0.out); rintro e w7 ⟨v318, rfl, ho0, hb⟩; have n0_ := Aside0.mk (Kd.R_lower ho0 (below_size (by repeat (first | (with_reducible first | exact HB.out | apply below_alloc | apply pw_below_drewN | apply below_drew1) | exact HB.out)))); have n1_ := Aside0.mk (below_step (by repeat (first | (with_reducible first | exact HB.out | apply below_alloc | apply pw_below_drewN | apply below_drew1) | exact HB.out)) hb); clear HB; have HO319 := n0_; have HB := n1_; clear n0_ n1_; (try clear hb); (try clear hb2); (try clear hk); (try clear hi); (try clear ho0)))
   repeat (go_quiet (first | (go_at_call 36; (with_reducible refine (treelabel_parentsOf.calls k _ _ l0 a1 a2 t316 true _ ?side1 ?side2 A4.out).mono ?_); (case side1 => repeat (first | exact HR0.out | (with_reducible refine Kd.C_alloc ?_ _) | (with_reducible refine Kd.C_drewN ?_ _) | (with_reducible refine Kd.C_drew ?_))); (case side2 => exact HC0.out); rintro e w7 ⟨v318, rfl, ho0, hb⟩; have n0_ := Aside0.mk (Kd.R_lower ho0 (below_size (by repeat (first | (with_reducible first | exact HB.out | apply below_alloc | apply pw_below_drewN | apply below_drew1) | exact HB.out)))); have n1_ := Aside0.mk (below_step (by repeat (first | (with_reducible first | exact HB.out | apply below_alloc | apply pw_below_drewN | apply below_drew1) | exact HB.out)) hb); clear HB; have HO319 := n0_; have HB := n1_; clear n0_ n1_; (try clear hb); (try clear hb2); (try clear hk); (try clear hi); (try clear ho0))); try go_wp2_with (first | (go_at_call 36; (with_reducible refine (treelabel_parentsOf.calls k _ _ l0 a1 a2 t316 true _ ?side1 ?side2 A4.out).mono ?_); (case side1 => repeat (first | exact HR0.out | (with_reducible refine Kd.C_alloc ?_ _) | (with_reducible refine Kd.C_drewN ?_ _) | (with_reducible refine Kd.C_drew ?_))); (case side2 => exact HC0.out); rintro e w7 ⟨v318, rfl, ho0, hb⟩; have n0_ := Aside0.mk (Kd.R_lower ho0 (below_size (by repeat (first | (with_reducible first | exact HB.out | apply below_alloc | apply pw_below_drewN | apply below_drew1) | exact HB.out)))); have n1_ := Aside0.mk (below_step (by repeat (first | (with_reducible first | exact HB.out | apply below_alloc | apply pw_below_drewN | apply below_drew1) | exact HB.out)) hb); clear HB; have HO319 := n0_; have HB := n1_; clear n0_ n1_; (try clear hb); (try clear hb2); (try clear hk); (try clear hi); (try clear ho0))))
   go_ret
   exact ⟨by first | rfl | (simp [errW_none, errW_some] <;> rfl) | (simp [*, errW_none, errW_some] <;> rfl), by repeat (first | (with_reducible first | exact HB.out | apply below_alloc | apply pw_below_drewN | apply below_drew1) | exact HB.out)⟩
  ·rw [if_neg c6] at H
   have c6b0 : (a1 == a2) = false := beq_eq_false_iff_ne.mpr c6
   have c6b1 : (a1 != a2) = true := bne_iff_ne.mpr c6
   by_cases c8 : 0 ≤ a1
   ·rw [if_pos c8] at H
    have c8b0 : decide (0 ≤ a1) = true := decide_eq_true c8
    clear c8
    by_cases c9 : a1 < (t316.length : Int)
    ·rw [if_pos c9] at H
     have c9b0 : decide (a1 < (t316.length : Int)) = true := decide_eq_true c9
     clear c9
     by_cases c10 : 0 ≤ a2
     ·rw [if_pos c10] at H
      have c10b0 : decide (0 ≤ a2) = true := decide_eq_true c10
      clear c10
      by_cases c11 : a2 < (t316.length : Int)
      ·rw [if_pos c11] at H
       have c11b0 : decide (a2 < (t316.length : Int)) = true := decide_eq_true c11
       clear c11
       obtain rfl := Option.some.inj H
       go_enter Try.func24, Try.ntmps24
       go_wp2_with (first | (go_at_call 36; (with_reducible refine (treelabel_parentsOf.calls k _ _ l0 a1 a2 t316 true _ ?side1 ?side2 A4.out).mono ?_); (case side1 => repeat (first | exact HR0.out | (with_reducible refine Kd.C_alloc ?_ _) | (with_reducible refine Kd.C_drewN ?_ _) | (with_reducible refine Kd.C_drew ?_))); (case side2 => exact HC0.out); rintro e w12 ⟨v318, rfl, ho0, hb⟩; have n0_ := Aside0.mk (Kd.R_lower ho0 (below_size (by repeat (first | (with_reducible first | exact HB.out | apply below_alloc | apply pw_below_drewN | apply below_drew1) | exact HB.out)))); have n1_ := Aside0.mk (below_step (by repeat (first | (with_reducible first | exact HB.out | apply below_alloc | apply pw_below_drewN | apply below_drew1) | exact HB.out)) hb); clear HB; have HO319 := n0_; have HB := n1_; clear n0_ n1_; (try clear hb); (try clear hb2); (try clear hk); (try clear hi); (try clear ho0); obtain ⟨Ao13, co13, eo13⟩ := Kd.R_slice HO319.out; subst eo13; have p320 : 0 ≤ (a1 : Int) := of_decide_eq_true (by first | (with_reducible assumption) | assumption); have q320 : a1 < (t316.length : Int) := of_decide_eq_true (by first | (with_reducible assumption) | assumption); obtain ⟨ad320, e320, hx320_0⟩ := Kd.at_int (Kd.R_reads' HO319.out).2.2 a1 p320 q320; cases e320; replace p320 := eq_true p320; replace q320 := eq_true q320; have p321 : 0 ≤ (a2 : Int) := of_decide_eq_true (by first | (with_reducible assumption) | assumption); have q321 : a2 < (t316.length : Int) := of_decide_eq_true (by first | (with_reducible assumption) | assumption); obtain ⟨ad321, e321, hx321_0⟩ := Kd.at_int (Kd.R_reads' HO319.out).2.2 a2 p321 q321; obtain rfl : ad320 = ad321 := (by injection e321); replace p321 := eq_true p321; replace q321 := eq_true q321))
       repeat (go_quiet (first | (go_at_call 36; (with_reducible refine (treelabel_parentsOf.calls k _ _ l0 a1 a2 t316 true _ ?side1 ?side2 A4.out).mono ?_); (case side1 => repeat (first | exact HR0.out | (with_reducible refine Kd.C_alloc ?_ _) | (with_reducible refine Kd.C_drewN ?_ _) | (with_reducible refine Kd.C_drew ?_))); (case side2 => exact HC0.out); rintro e w12 ⟨v318, rfl, ho0, hb⟩; have n0_ := Aside0.mk (Kd.R_lower ho0 (below_size (by repeat (first | (with_reducible first | exact HB.out | apply below_alloc | apply pw_below_drewN | apply below_drew1) | exact HB.out)))); have n1_ := Aside0.mk (below_step (by repeat (first | (with_reducible first | exact HB.out | apply below_alloc | apply pw_below_drewN | apply below_drew1) | exact HB.out)) hb); clear HB; have HO319 := n0_; have HB := n1_; clear n0_ n1_; (try clear hb); (try clear hb2); (try clear hk); (try clear hi); (try clear ho0); obtain ⟨Ao13, co13, eo13⟩ := Kd.R_slice HO319.out; subst eo13; have p320 : 0 ≤ (a1 : Int) := of_decide_eq_true (by first | (with_reducible assumption) | assumption); have q320 : a1 < (t316.length : Int) := of_decide_eq_true (by first | (with_reducible assumption) | assumption); obtain ⟨ad320, e320, hx320_0⟩ := Kd.at_int (Kd.R_reads' HO319.out).2.2 a1 p320 q320; cases e320; replace p320 := eq_true p320; replace q320 := eq_true q320; have p321 : 0 ≤ (a2 : Int) := of_decide_eq_true (by first | (with_reducible assumption) | assumption); have q321 : a2 < (t316.length : Int) := of_decide_eq_true (by first | (with_reducible assumption) | assumption); obtain ⟨ad321, e321, hx321_0⟩ := Kd.at_int (Kd.R_reads' HO319.out).2.2 a2 p321 q321; obtain rfl : ad320 = ad321 := (by injection e321); replace p321 := eq_true p321; replace q321 := eq_true q321)); try go_wp2_with (first | (go_at_call 36; (with_reducible refine (treelabel_parentsOf.calls k _ _ l0 a1 a2 t316 true _ ?side1 ?side2 A4.out).mono ?_); (case side1 => repeat (first | exact HR0.out | (with_reducible refine Kd.C_alloc ?_ _) | (with_reducible refine Kd.C_drewN ?_ _) | (with_reducible refine Kd.C_drew ?_))); (case side2 => exact HC0.out); rintro e w12 ⟨v318, rfl, ho0, hb⟩; have n0_ := Aside0.mk (Kd.R_lower ho0 (below_size (by repeat (first | (with_reducible first | exact HB.out | apply below_alloc | apply pw_below_drewN | apply below_drew1) | exact HB.out)))); have n1_ := Aside0.mk (below_step (by repeat (first | (with_reducible first | exact HB.out | apply below_alloc | apply pw_below_drewN | apply below_drew1) | exact HB.out)) hb); clear HB; have HO319 := n0_; have HB := n1_; clear n0_ n1_; (try clear hb); (try clear hb2); (try clear hk); (try clear hi); (try clear ho0); obtain ⟨Ao13, co13, eo13⟩ := Kd.R_slice HO319.out; subst eo13; have p320 : 0 ≤ (a1 : Int) := of_decide_eq_true (by first | (with_reducible assumption) | assumption); have q320 : a1 < (t316.length : Int) := of_decide_eq_true (by first | (with_reducible assumption) | assumption); obtain ⟨ad320, e320, hx320_0⟩ := Kd.at_int (Kd.R_reads' HO319.out).2.2 a1 p320 q320; cases e320; replace p320 := eq_true p320; replace q320 := eq_true q320; have p321 : 0 ≤ (a2 : Int) := of_decide_eq_true (by first | (with_reducible assumption) | assumption); have q321 : a2 < (t316.length : Int) := of_decide_eq_true (by first | (with_reducible assumption) | assumption); obtain ⟨ad321, e321, hx321_0⟩ := Kd.at_int (Kd.R_reads' HO319.out).2.2 a2 p321 q321; obtain rfl : ad320 = ad321 := (by injection e321); replace p321 := eq_true p321; replace q321 := eq_true q321)))
       go_ret
       exact ⟨by first | rfl | (simp [errW_none, errW_some] <;> rfl) | (simp [*, errW_none, errW_some] <;> rfl), by repeat (first | (with_reducible first | exact HB.out | apply below_alloc | apply pw_below_drewN | apply below_drew1) | exact HB.out)⟩
      ·rw [if_neg c11] at H
       exact absurd H (by simp)
     ·rw [if_neg c10] at H
      exact absurd H (by simp)
    ·rw [if_neg c9] at H
     exact absurd H (by simp)
   ·rw [if_neg c8] at H
    exact absurd H (by simp)
 ·replace c5 := Bool.eq_false_iff.mpr c5
  subst c5
  have H1 : (some false) = some r := by rw [if_neg (show ¬ (false = true) by decide)] at H; exact H
  clear H
  have H := H1
  clear H1
  obtain rfl := Option.some.inj H
  go_enter Try.func24, Try.ntmps24
  go_wp2_with (first | (go_at_call 36; (with_reducible refine (treelabel_parentsOf.calls k _ _ l0 a1 a2 t316 false _ ?side1 ?side2 A4.out).mono ?_); (case side1 => repeat (first | exact HR0.out | (with_reducible refine Kd.C_alloc ?_ _) | (with_reducible refine Kd.C_drewN ?_ _) | (with_reducible refine Kd.C_drew ?_))); (case side2 => exact HC0.out); rintro e w14 ⟨v318, rfl, ho0, hb⟩; have n0_ := Aside0.mk (Kd.R_lower ho0 (below_size (by repeat (first | (with_reducible first | exact HB.out | apply below_alloc | apply pw_below_drewN | apply below_drew1) | exact HB.out)))); have n1_ := Aside0.mk (below_step (by repeat (first | (with_reducible first | exact HB.out | apply below_alloc | apply pw_below_drewN | apply below_drew1) | exact HB.out)) hb); clear HB; have HO319 := n0_; have HB := n1_; clear n0_ n1_; (try clear hb); (try clear hb2); (try clear hk); (try clear hi); (try clear ho0)))
  repeat (go_quiet (first | (go_at_call 36; (with_reducible refine (treelabel_parentsOf.calls k _ _ l0 a1 a2 t316 false _ ?side1 ?side2 A4.out).mono ?_); (case side1 => repeat (first | exact HR0.out | (with_reducible refine Kd.C_alloc ?_ _) | (with_reducible refine Kd.C_drewN ?_ _) | (with_reducible refine Kd.C_drew ?_))); (case side2 => exact HC0.out); rintro e w14 ⟨v318, rfl, ho0, hb⟩; have n0_ := Aside0.mk (Kd.R_lower ho0 (below_size (by repeat (first | (with_reducible first | exact HB.out | apply below_alloc | apply pw_below_drewN | apply below_drew1) | exact HB.out)))); have n1_ := Aside0.mk (below_step (by repeat (first | (with_reducible first | exact HB.out | apply below_alloc | apply pw_below_drewN | apply below_drew1) | exact HB.out)) hb); clear HB; have HO319 := n0_; have HB := n1_; clear n0_ n1_; (try clear hb); (try clear hb2); (try clear hk); (try clear hi); (try clear ho0))); try go_wp2_with (first | (go_at_call 36; (with_reducible refine (treelabel_parentsOf.calls k _ _ l0 a1 a2 t316 false _ ?side1 ?side2 A4.out).mono ?_); (case side1 => repeat (first | exact HR0.out | (with_reducible refine Kd.C_alloc ?_ _) | (with_reducible refine Kd.C_drewN ?_ _) | (with_reducible refine Kd.C_drew ?_))); (case side2 => exact HC0.out); rintro e w14 ⟨v318, rfl, ho0, hb⟩; have n0_ := Aside0.mk (Kd.R_lower ho0 (below_size (by repeat (first | (with_reducible first | exact HB.out | apply below_alloc | apply pw_below_drewN | apply below_drew1) | exact HB.out)))); have n1_ := Aside0.mk (below_step (by repeat (first | (with_reducible first | exact HB.out | apply below_alloc | apply pw_below_drewN | apply below_drew1) | exact HB.out)) hb); clear HB; have HO319 := n0_; have HB := n1_; clear n0_ n1_; (try clear hb); (try clear hb2); (try clear hk); (try clear hi); (try clear ho0))))
  go_ret
  exact ⟨by first | rfl | (simp [errW_none, errW_some] <;> rfl) | (simp [*, errW_none, errW_some] <;> rfl), by repeat (first | (with_reducible first | exact HB.out | apply below_alloc | apply pw_below_drewN | apply below_drew1) | exact HB.out)⟩

end Go.Proofs.Ythjcmodhleoocaa.Q
/- FCorporalaw10TreelabelCommon -/
namespace Go.Proofs.Ythjcmodhleoocaa.Q
open Go.RowKit Go.Proofs.YthjcmodhleoocaaW.PrintWords Go.Proofs.YthjcmodhleoocaaW.PrintLast Go.Proofs.YthjcmodhleoocaaW.PrintMore
attribute [local go_sem] max2_int min2_int max_two min_two max_three min_three max_four min_four   -- for this text's walks alone
set_option linter.unusedVariables false
set_option linter.unusedSimpArgs false

/-! ### corporalaw10_TreelabelCommon: function 9 -/
mutual
def corporalaw10_TreelabelCommon.j0 : Nat → List Int → Int → Int → Int → List (S41) → Bool → Option (Bool)
 | 0, _, _, _, _, _, _ => none
 | k + 1, x0, x1, x2, x7, x8, x45 => if x45 = true then (some true) else ((treelabel_Common.f k x8 x1 x2).bind fun t206 => (if (x8.length : Int) = x7 then ((treelabel_Common.f k x8 x2 x1).bind fun t207 => (if t207 = t206 then ((treelabel_Sisters.f k x8 x1 x2).bind fun t208 => (if x1 = x2 then (if (t208 != false) = true then (corporalaw10_TreelabelCommon.j1 k x1 x2 x7 x8 t206 true) else (corporalaw10_TreelabelCommon.j1 k x1 x2 x7 x8 t206 (decide (t206 ≥ x7)))) else (if 0 ≤ x1 then (if x1 < (x0.length : Int) then (if 0 ≤ x2 then (if x2 < (x0.length : Int) then (if (t208 != ((rd x0 x1) == (rd x0 x2))) = true then (corporalaw10_TreelabelCommon.j1 k x1 x2 x7 x8 t206 true) else (corporalaw10_TreelabelCommon.j1 k x1 x2 x7 x8 t206 (decide (t206 ≥ x7)))) else (none)) else (none)) else (none)) else (none)))) else (corporalaw10_TreelabelCommon.j1 k x1 x2 x7 x8 t206 true))) else (corporalaw10_TreelabelCommon.j1 k x1 x2 x7 x8 t206 true)))
def corporalaw10_TreelabelCommon.j1 : Nat → Int → Int → Int → List (S41) → Int → Bool → Option (Bool)
 | 0, _, _, _, _, _, _ => none
 | k + 1, x1, x2, x7, x8, x11, x87 => if x87 = true then (some false) else (corporalaw10_TreelabelCommon.l0 k x1 x2 x7 x8 x11 0)
def corporalaw10_TreelabelCommon.l0 : Nat → Int → Int → Int → List (S41) → Int → Int → Option (Bool)
 | 0, _, _, _, _, _, _ => none
 | k + 1, x1, x2, x7, x8, x11, x12 => if x12 < x7 then (if x12 = x1 then (if x12 = x2 then (corporalaw10_TreelabelCommon.j3 k x1 x2 x7 x8 x11 x12 true) else (if 0 ≤ x12 then (if x12 < (x8.length : Int) then (if 0 ≤ x2 then (if x2 < (x8.length : Int) then ((treelabel_Dominates.f ((rd_T41 x8 x12).f0) ((rd_T41 x8 x12).f1) ((rd_T41 x8 x12).f2) ((rd_T41 x8 x2).f0) ((rd_T41 x8 x2).f1) ((rd_T41 x8 x2).f2)).bind fun t213 => (corporalaw10_TreelabelCommon.j3 k x1 x2 x7 x8 x11 x12 t213)) else (none)) else (none)) else (none)) else (none))) else (if 0 ≤ x12 then (if x12 < (x8.length : Int) then (if 0 ≤ x1 then (if x1 < (x8.length : Int) then ((treelabel_Dominates.f ((rd_T41 x8 x12).f0) ((rd_T41 x8 x12).f1) ((rd_T41 x8 x12).f2) ((rd_T41 x8 x1).f0) ((rd_T41 x8 x1).f1) ((rd_T41 x8 x1).f2)).bind fun t216 => (if t216 = true then (if x12 = x2 then (corporalaw10_TreelabelCommon.j3 k x1 x2 x7 x8 x11 x12 true) else (if 0 ≤ x2 then (if x2 < (x8.length : Int) then ((treelabel_Dominates.f ((rd_T41 x8 x12).f0) ((rd_T41 x8 x12).f1) ((rd_T41 x8 x12).f2) ((rd_T41 x8 x2).f0) ((rd_T41 x8 x2).f1) ((rd_T41 x8 x2).f2)).bind fun t219 => (corporalaw10_TreelabelCommon.j3 k x1 x2 x7 x8 x11 x12 t219)) else (none)) else (none))) else (corporalaw10_TreelabelCommon.j3 k x1 x2 x7 x8 x11 x12 false))) else (none)) else (none)) else (none)) else (none))) else ((corporalaw10_awake.f k).bind fun t223 => (some t223))
def corporalaw10_TreelabelCommon.j3 : Nat → Int → Int → Int → List (S41) → Int → Int → Bool → Option (Bool)
 | 0, _, _, _, _, _, _, _ => none
 | k + 1, x1, x2, x7, x8, x11, x12, x13 => if x11 < 0 then (if x13 = true then (corporalaw10_TreelabelCommon.j4 k x1 x2 x7 x8 x11 x12 true) else (if x11 ≥ 0 then (if x11 = x12 then (corporalaw10_TreelabelCommon.j4 k x1 x2 x7 x8 x11 x12 (!x13)) else (corporalaw10_TreelabelCommon.j4 k x1 x2 x7 x8 x11 x12 false)) else (if x11 = x12 then (corporalaw10_TreelabelCommon.j4 k x1 x2 x7 x8 x11 x12 (!x13)) else (corporalaw10_TreelabelCommon.j4 k x1 x2 x7 x8 x11 x12 false)))) else (if x11 ≥ 0 then (if x13 = true then (if x12 = x11 then (if x11 = x12 then (corporalaw10_TreelabelCommon.j4 k x1 x2 x7 x8 x11 x12 (!x13)) else (corporalaw10_TreelabelCommon.j4 k x1 x2 x7 x8 x11 x12 false)) else (if 0 ≤ x12 then (if x12 < (x8.length : Int) then (if 0 ≤ x11 then (if x11 < (x8.length : Int) then ((treelabel_Dominates.f ((rd_T41 x8 x12).f0) ((rd_T41 x8 x12).f1) ((rd_T41 x8 x12).f2) ((rd_T41 x8 x11).f0) ((rd_T41 x8 x11).f1) ((rd_T41 x8 x11).f2)).bind fun t222 => (if t222 = true then (if x11 = x12 then (corporalaw10_TreelabelCommon.j4 k x1 x2 x7 x8 x11 x12 (!x13)) else (corporalaw10_TreelabelCommon.j4 k x1 x2 x7 x8 x11 x12 false)) else (corporalaw10_TreelabelCommon.j4 k x1 x2 x7 x8 x11 x12 true))) else (none)) else (none)) else (none)) else (none))) else (if x11 = x12 then (corporalaw10_TreelabelCommon.j4 k x1 x2 x7 x8 x11 x12 (!x13)) else (corporalaw10_TreelabelCommon.j4 k x1 x2 x7 x8 x11 x12 false))) else (if x11 = x12 then (corporalaw10_TreelabelCommon.j4 k x1 x2 x7 x8 x11 x12 (!x13)) else (corporalaw10_TreelabelCommon.j4 k x1 x2 x7 x8 x11 x12 false)))
def corporalaw10_TreelabelCommon.j4 : Nat → Int → Int → Int → List (S41) → Int → Int → Bool → Option (Bool)
 | 0, _, _, _, _, _, _, _ => none
 | k + 1, x1, x2, x7, x8, x11, x12, x160 => if x160 = true then (some false) else (corporalaw10_TreelabelCommon.l0 k x1 x2 x7 x8 x11 (wrap64 (x12 + 1)))
end
def corporalaw10_TreelabelCommon.f (k : Nat) (l0 : List Int) (a1 : Int) (a2 : Int) : Option (Bool) := (treelabel_Assign.f k l0).bind fun bt201 => (if (l0.length : Int) > 40 then (corporalaw10_TreelabelCommon.j0 k l0 a1 a2 (l0.length : Int) bt201.1 true) else (if bt201.2.2 = 0 then (if a1 < 0 then (corporalaw10_TreelabelCommon.j0 k l0 a1 a2 (l0.length : Int) bt201.1 true) else (if a1 ≥ (l0.length : Int) then (corporalaw10_TreelabelCommon.j0 k l0 a1 a2 (l0.length : Int) bt201.1 true) else (if a2 < 0 then (corporalaw10_TreelabelCommon.j0 k l0 a1 a2 (l0.length : Int) bt201.1 true) else (corporalaw10_TreelabelCommon.j0 k l0 a1 a2 (l0.length : Int) bt201.1 (decide (a2 ≥ (l0.length : Int))))))) else (corporalaw10_TreelabelCommon.j0 k l0 a1 a2 (l0.length : Int) bt201.1 true)))
theorem corporalaw10_TreelabelCommon.mono_l : ∀ k, (∀ y0 y1 y2 y3 y4 y5, LeO (corporalaw10_TreelabelCommon.j0 k y0 y1 y2 y3 y4 y5) (corporalaw10_TreelabelCommon.j0 (k + 1) y0 y1 y2 y3 y4 y5)) ∧ (∀ y0 y1 y2 y3 y4 y5, LeO (corporalaw10_TreelabelCommon.j1 k y0 y1 y2 y3 y4 y5) (corporalaw10_TreelabelCommon.j1 (k + 1) y0 y1 y2 y3 y4 y5)) ∧ (∀ y0 y1 y2 y3 y4 y5, LeO (corporalaw10_TreelabelCommon.l0 k y0 y1 y2 y3 y4 y5) (corporalaw10_TreelabelCommon.l0 (k + 1) y0 y1 y2 y3 y4 y5)) ∧ (∀ y0 y1 y2 y3 y4 y5 y6, LeO (corporalaw10_TreelabelCommon.j3 k y0 y1 y2 y3 y4 y5 y6) (corporalaw10_TreelabelCommon.j3 (k + 1) y0 y1 y2 y3 y4 y5 y6)) ∧ (∀ y0 y1 y2 y3 y4 y5 y6, LeO (corporalaw10_TreelabelCommon.j4 k y0 y1 y2 y3 y4 y5 y6) (corporalaw10_TreelabelCommon.j4 (k + 1) y0 y1 y2 y3 y4 y5 y6))
 | 0 => ⟨fun _ _ _ _ _ _ r h => by simp [corporalaw10_TreelabelCommon.j0] at h, fun _ _ _ _ _ _ r h => by simp [corporalaw10_TreelabelCommon.j1] at h, fun _ _ _ _ _ _ r h => by simp [corporalaw10_TreelabelCommon.l0] at h, fun _ _ _ _ _ _ _ r h => by simp [corporalaw10_TreelabelCommon.j3] at h, fun _ _ _ _ _ _ _ r h => by simp [corporalaw10_TreelabelCommon.j4] at h⟩
 | k + 1 => by
  obtain ⟨ih0, ih1, ih2, ih3, ih4⟩ := corporalaw10_TreelabelCommon.mono_l k
  refine ⟨?_, ?_, ?_, ?_, ?_⟩
  ·intro y0 y1 y2 y3 y4 y5
   unfold corporalaw10_TreelabelCommon.j0
   repeat' first
   | (with_reducible exact ih0 _ _ _ _ _ _)
   | (with_reducible exact ih1 _ _ _ _ _ _)
   | (with_reducible exact ih2 _ _ _ _ _ _)
   | (with_reducible exact ih3 _ _ _ _ _ _ _)
   | (with_reducible exact ih4 _ _ _ _ _ _ _)
   | (with_reducible exact corporalaw10_awake.mono _)
   | (with_reducible exact treelabel_Assign.mono _ _)
   | (with_reducible exact treelabel_Common.mono _ _ _ _)
   | (with_reducible exact treelabel_Sisters.mono _ _ _ _)
   | (with_reducible exact LeO.refl _)
   | (with_reducible exact LeO.none _)
   | (with_reducible refine LeO.ite ?_ ?_)
   | (with_reducible refine LeO.bind ?_ (fun _ => ?_))
   | exact ih0 _ _ _ _ _ _
   | exact ih1 _ _ _ _ _ _
   | exact ih2 _ _ _ _ _ _
   | exact ih3 _ _ _ _ _ _ _
   | exact ih4 _ _ _ _ _ _ _
   | exact corporalaw10_awake.mono _
   | exact treelabel_Assign.mono _ _
   | exact treelabel_Common.mono _ _ _ _
   | exact treelabel_Sisters.mono _ _ _ _
   | exact LeO.none _
   | refine LeO.ite ?_ ?_
   | refine LeO.bind ?_ (fun _ => ?_)
  ·intro y0 y1 y2 y3 y4 y5
   unfold corporalaw10_TreelabelCommon.j1
   repeat' first
   | (with_reducible exact ih0 _ _ _ _ _ _)
   | (with_reducible exact ih1 _ _ _ _ _ _)
   | (with_reducible exact ih2 _ _ _ _ _ _)
   | (with_reducible exact ih3 _ _ _ _ _ _ _)
   | (with_reducible exact ih4 _ _ _ _ _ _ _)
   | (with_reducible exact corporalaw10_awake.mono _)
   | (with_reducible exact treelabel_Assign.mono _ _)
   | (with_reducible exact treelabel_Common.mono _ _ _ _)
   | (with_reducible exact treelabel_Sisters.mono _ _ _ _)
   | (with_reducible exact LeO.refl _)
   | (with_reducible exact LeO.none _)
   | (with_reducible refine LeO.ite ?_ ?_)
   | (with_reducible refine LeO.bind ?_ (fun _ => ?_))
   | exact ih0 _ _ _ _ _ _
   | exact ih1 _ _ _ _ _ _
   | exact ih2 _ _ _ _ _ _
   | exact ih3 _ _ _ _ _ _ _
   | exact ih4 _ _ _ _ _ _ _
   | exact corporalaw10_awake.mono _
   | exact treelabel_Assign.mono _ _
   | exact treelabel_Common.mono _ _ _ _
   | exact treelabel_Sisters.mono _ _ _ _
   | exact LeO.none _
   | refine LeO.ite ?_ ?_
   | refine LeO.bind ?_ (fun _ => ?_)
  ·intro y0 y1 y2 y3 y4 y5
   unfold corporalaw10_TreelabelCommon.l0
   repeat' first
   | (with_reducible exact ih0 _ _ _ _ _ _)
   | (with_reducible exact ih1 _ _ _ _ _ _)
   | (with_reducible exact ih2 _ _ _ _ _ _)
   | (with_reducible exact ih3 _ _ _ _ _ _ _)
   | (with_reducible exact ih4 _ _ _ _ _ _ _)
   | (with_reducible exact corporalaw10_awake.mono _)
   | (with_reducible exact treelabel_Assign.mono _ _)
   | (with_reducible exact treelabel_Common.mono _ _ _ _)
   | (with_reducible exact treelabel_Sisters.mono _ _ _ _)
   | (with_reducible exact LeO.refl _)
   | (with_reducible exact LeO.none _)
   | (with_reducible refine LeO.ite ?_ ?_)
   | (with_reducible refine LeO.bind ?_ (fun _ => ?_))
   | exact ih0 _ _ _ _ _ _
   | exact ih1 _ _ _ _ _ _
   | exact ih2 _ _ _ _ _ _
   | exact ih3 _ _ _ _ _ _ _
   | exact ih4 _ _ _ _ _ _ _
   | exact corporalaw10_awake.mono _
   | exact treelabel_Assign.mono _ _
   | exact treelabel_Common.mono _ _ _ _
   | exact treelabel_Sisters.mono _ _ _ _
   | exact LeO.none _
   | refine LeO.ite ?_ ?_
   | refine LeO.bind ?_ (fun _ => ?_)
  ·intro y0 y1 y2 y3 y4 y5 y6
   unfold corporalaw10_TreelabelCommon.j3
   repeat' first
   | (with_reducible exact ih0 _ _ _ _ _ _)
   | (with_reducible exact ih1 _ _ _ _ _ _)
   | (with_reducible exact ih2 _ _ _ _ _ _)
   | (with_reducible exact ih3 _ _ _ _ _ _ _)
   | (with_reducible exact ih4 _ _ _ _ _ _ _)
   | (with_reducible exact corporalaw10_awake.mono _)
   | (with_reducible exact treelabel_Assign.mono _ _)
   | (with_reducible exact treelabel_Common.mono _ _ _ _)
   | (with_reducible exact treelabel_Sisters.mono _ _ _ _)
   | (with_reducible exact LeO.refl _)
   | (with_reducible exact LeO.none _)
   | (with_reducible refine LeO.ite ?_ ?_)
   | (with_reducible refine LeO.bind ?_ (fun _ => ?_))
   | exact ih0 _ _ _ _ _ _
   | exact ih1 _ _ _ _ _ _
   | exact ih2 _ _ _ _ _ _
   | exact ih3 _ _ _ _ _ _ _
   | exact ih4 _ _ _ _ _ _ _
   | exact corporalaw10_awake.mono _
   | exact treelabel_Assign.mono _ _
   | exact treelabel_Common.mono _ _ _ _
   | exact treelabel_Sisters.mono _ _ _ _
   | exact LeO.none _
   | refine LeO.ite ?_ ?_
   | refine LeO.bind ?_ (fun _ => ?_)
  ·intro y0 y1 y2 y3 y4 y5 y6
   unfold corporalaw10_TreelabelCommon.j4
   repeat' first
   | (with_reducible exact ih0 _ _ _ _ _ _)
   | (with_reducible exact ih1 _ _ _ _ _ _)
   | (with_reducible exact ih2 _ _ _ _ _ _)
   | (with_reducible exact ih3 _ _ _ _ _ _ _)
   | (with_reducible exact ih4 _ _ _ _ _ _ _)
   | (with_reducible exact corporalaw10_awake.mono _)
   | (with_reducible exact treelabel_Assign.mono _ _)
   | (with_reducible exact treelabel_Common.mono _ _ _ _)
   | (with_reducible exact treelabel_Sisters.mono _ _ _ _)
   | (with_reducible exact LeO.refl _)
   | (with_reducible exact LeO.none _)
   | (with_reducible refine LeO.ite ?_ ?_)
   | (with_reducible refine LeO.bind ?_ (fun _ => ?_))
   | exact ih0 _ _ _ _ _ _
   | exact ih1 _ _ _ _ _ _
   | exact ih2 _ _ _ _ _ _
   | exact ih3 _ _ _ _ _ _ _
   | exact ih4 _ _ _ _ _ _ _
   | exact corporalaw10_awake.mono _
   | exact treelabel_Assign.mono _ _
   | exact treelabel_Common.mono _ _ _ _
   | exact treelabel_Sisters.mono _ _ _ _
   | exact LeO.none _
   | refine LeO.ite ?_ ?_
   | refine LeO.bind ?_ (fun _ => ?_)
theorem corporalaw10_TreelabelCommon.mono : ∀ a0 a1 a2 k, LeO (corporalaw10_TreelabelCommon.f k a0 a1 a2) (corporalaw10_TreelabelCommon.f (k + 1) a0 a1 a2) := by
 intro a0 a1 a2 k
 obtain ⟨ih0, ih1, ih2, ih3, ih4⟩ := corporalaw10_TreelabelCommon.mono_l k
 unfold corporalaw10_TreelabelCommon.f
 repeat' first
   | (with_reducible exact ih0 _ _ _ _ _ _)
   | (with_reducible exact ih1 _ _ _ _ _ _)
   | (with_reducible exact ih2 _ _ _ _ _ _)
   | (with_reducible exact ih3 _ _ _ _ _ _ _)
   | (with_reducible exact ih4 _ _ _ _ _ _ _)
   | (with_reducible exact corporalaw10_awake.mono _)
   | (with_reducible exact treelabel_Assign.mono _ _)
   | (with_reducible exact treelabel_Common.mono _ _ _ _)
   | (with_reducible exact treelabel_Sisters.mono _ _ _ _)
   | (with_reducible exact LeO.refl _)
   | (with_reducible exact LeO.none _)
   | (with_reducible refine LeO.ite ?_ ?_)
   | (with_reducible refine LeO.bind ?_ (fun _ => ?_))
   | exact ih0 _ _ _ _ _ _
   | exact ih1 _ _ _ _ _ _
   | exact ih2 _ _ _ _ _ _
   | exact ih3 _ _ _ _ _ _ _
   | exact ih4 _ _ _ _ _ _ _
   | exact corporalaw10_awake.mono _
   | exact treelabel_Assign.mono _ _
   | exact treelabel_Common.mono _ _ _ _
   | exact treelabel_Sisters.mono _ _ _ _
   | exact LeO.none _
   | refine LeO.ite ?_ ?_
   | refine LeO.bind ?_ (fun _ => ?_)
def corporalaw10_TreelabelCommon.T6 : Bool × List (List Nat × List Nat) := (true, [([], []), ([0], [0]), ([], []), ([1, 2], [1, 2]), ([3], [3]), ([4], [4]), ([4], [4]), ([4], [4]), ([5, 6, 7, 4, 4], [4, 5, 6, 7]), ([4], [4]), ([8, 9, 4], [4, 8, 9]), ([4, 10], [4, 10]), ([11, 8], [11]), ([12], [12]), ([12], [12]), ([12], [12]), ([13, 14, 15, 12, 12], [12, 13, 14, 15]), ([12], [12]), ([12], [12]), ([17, 18, 12], [12, 17, 18]), ([19, 16, 12], [12, 19]), ([20], [20]), ([20], [20]), ([21, 22, 20], [20, 21, 22]), ([23, 20], [20, 23]), ([20], [20]), ([20], [20]), ([25, 26, 20], [20, 25, 26]), ([27, 20], [20, 27]), ([24, 28, 20], [20, 24, 28]), ([20, 29, 12], [12, 20, 29]), ([16, 30, 12], [12, 16, 30]), ([12, 31], [12, 31]), ([32, 20], [32]), ([33], [33]), ([33], [33]), ([34, 35, 33], [33, 34, 35]), ([33, 36], [33, 36])])
def corporalaw10_TreelabelCommon.B6 : List Nat := [0, 1, 0, 7, 15, 31, 31, 31, 255, 31, 1023, 2047, 4095, 8191, 8191, 8191, 65535, 8191, 8191, 401407, 1048575, 2097151, 2097151, 8388607, 16777215, 2097151, 2097151, 102760447, 236978175, 536870911, 1073741823, 2147483647, 4294967295, 8589934591, 17179869183, 17179869183, 68719476735, 137438953471]
theorem corporalaw10_TreelabelCommon.tab6 : rtab .any (opsOf Try.f9 6) = corporalaw10_TreelabelCommon.T6 := by kernel_rfl
theorem corporalaw10_TreelabelCommon.bits6 : waitsOk corporalaw10_TreelabelCommon.T6.2 corporalaw10_TreelabelCommon.B6 = true := by kernel_rfl
def corporalaw10_TreelabelCommon.T11 : Bool × List (List Nat × List Nat) := (true, [([], []), ([], []), ([0, 1], [0, 1]), ([2], [2]), ([3], [3]), ([3], [3]), ([4, 5, 3], [3, 4, 5]), ([6, 3], [3, 6]), ([3], [3]), ([3], [3]), ([8, 9, 3], [3, 8, 9]), ([10, 3], [3, 10]), ([7, 11, 3, 3], [3, 7, 11]), ([3, 12], [3, 12]), ([13, 12], [13]), ([14], [14]), ([14], [14]), ([15, 16, 14], [14, 15, 16]), ([17, 14, 14], [14, 17]), ([18], [18]), ([18], [18]), ([19, 20, 18], [18, 19, 20]), ([21, 18], [18, 21]), ([18], [18]), ([18], [18]), ([23, 24, 18], [18, 23, 24]), ([25, 18], [18, 25]), ([22, 26, 18, 18], [18, 22, 26]), ([18, 27, 14], [14, 18, 27]), ([14, 28], [14, 28]), ([29, 27, 0, 1, 2, 3, 4, 5, 6, 7, 8, 9, 10, 11, 12, 13, 14, 15, 16, 17, 18, 19, 20, 21, 22, 23, 24, 25, 26, 27, 28, 29], [29])])
def corporalaw10_TreelabelCommon.B11 : List Nat := [0, 0, 3, 7, 15, 15, 63, 127, 15, 15, 783, 1807, 4095, 8191, 16383, 32767, 32767, 131071, 262143, 524287, 524287, 2097151, 4194303, 524287, 524287, 25690111, 59244543, 134217727, 268435455, 536870911, 1073741823]
theorem corporalaw10_TreelabelCommon.tab11 : rtab .any (opsOf Try.f9 11) = corporalaw10_TreelabelCommon.T11 := by kernel_rfl
theorem corporalaw10_TreelabelCommon.bits11 : waitsOk corporalaw10_TreelabelCommon.T11.2 corporalaw10_TreelabelCommon.B11 = true := by kernel_rfl
def corporalaw10_TreelabelCommon.T12 : Bool × List (List Nat × List Nat) := (true, [([], []), ([0], [0]), ([1], [1]), ([2], [2]), ([2, 3], [2, 3]), ([4, 2], [4]), ([5], [5]), ([6, 5], [5, 6]), ([7, 5, 5], [5, 7]), ([8], [8]), ([8, 9, 5], [5, 8, 9]), ([10, 8, 5], [5, 10]), ([11], [11]), ([11], [11]), ([12, 13, 11], [11, 12, 13]), ([11, 14, 5], [5, 11, 14]), ([15, 11, 5], [5, 15]), ([16], [16]), ([16], [16]), ([17, 18, 16], [16, 17, 18]), ([19, 16], [16, 19]), ([16], [16]), ([16], [16]), ([21, 22, 16], [16, 21, 22]), ([23, 16], [16, 23]), ([20, 24, 16, 16], [16, 20, 24]), ([25, 16], [16, 25]), ([16, 26, 5], [5, 16, 26]), ([5, 27], [5, 27]), ([28, 25], [28]), ([29], [29]), ([29], [29]), ([30, 31, 29], [29, 30, 31]), ([32, 29, 29], [29, 32]), ([33], [33]), ([34, 33], [33, 34]), ([33, 35, 29], [29, 33, 35]), ([29, 36], [29, 36])])
def corporalaw10_TreelabelCommon.B12 : List Nat := [0, 1, 3, 7, 15, 31, 63, 127, 255, 511, 1023, 2047, 4095, 4095, 16383, 32767, 65535, 131071, 131071, 524287, 1048575, 131071, 131071, 6422527, 14811135, 33554431, 67108863, 134217727, 268435455, 536870911, 1073741823, 1073741823, 4294967295, 8589934591, 17179869183, 34359738367, 68719476735, 137438953471]
theorem corporalaw10_TreelabelCommon.tab12 : rtab .any (opsOf Try.f9 12) = corporalaw10_TreelabelCommon.T12 := by kernel_rfl
theorem corporalaw10_TreelabelCommon.bits12 : waitsOk corporalaw10_TreelabelCommon.T12.2 corporalaw10_TreelabelCommon.B12 = true := by kernel_rfl
set_option maxHeartbeats 8000000 in
set_option maxRecDepth 100000 in
theorem corporalaw10_TreelabelCommon.calls (k : Nat) (A0 : Option Addr) (c0 : Nat) (l0 : List Int) (a1 : Int) (a2 : Int) (r : Bool) (w : World) (hr0 : Kd.C (Kd.int .i64) w A0 l0.length l0) (hc0 : l0.length ≤ c0) (h : corporalaw10_TreelabelCommon.f k l0 a1 a2 = some r) :
  Calls Try.prog 9 #[.slice A0 l0.length c0, .int .i64 a1, .int .i64 a2] w fun e w' => e = .returned (.bool r) ∧ Below w.heap.size w w' := by
 have hu41 := Try.underlying41
 have HR0 := Aside0.mk hr0
 have HC0 := Aside0.mk hc0
 clear hr0 hc0
 have HB := Aside0.mk (Below.refl w.heap.size w)
 have H : ((treelabel_Assign.f k l0).bind fun bt201 => (if (l0.length : Int) > 40 then (corporalaw10_TreelabelCommon.j0 k l0 a1 a2 (l0.length : Int) bt201.1 true) else (if bt201.2.2 = 0 then (if a1 < 0 then (corporalaw10_TreelabelCommon.j0 k l0 a1 a2 (l0.length : Int) bt201.1 true) else (if a1 ≥ (l0.length : Int) then (corporalaw10_TreelabelCommon.j0 k l0 a1 a2 (l0.length : Int) bt201.1 true) else (if a2 < 0 then (corporalaw10_TreelabelCommon.j0 k l0 a1 a2 (l0.length : Int) bt201.1 true) else (corporalaw10_TreelabelCommon.j0 k l0 a1 a2 (l0.length : Int) bt201.1 (decide (a2 ≥ (l0.length : Int))))))) else (corporalaw10_TreelabelCommon.j0 k l0 a1 a2 (l0.length : Int) bt201.1 true)))) = some r := h
 clear h
 replace H := Option.bind_eq_some_iff.mp H
 obtain ⟨⟨t201, t202, t203⟩, A40, H⟩ := H
 replace H : (if (l0.length : Int) > 40 then (corporalaw10_TreelabelCommon.j0 k l0 a1 a2 (l0.length : Int) t201 true) else (if t203 = 0 then (if a1 < 0 then (corporalaw10_TreelabelCommon.j0 k l0 a1 a2 (l0.length : Int) t201 true) else (if a1 ≥ (l0.length : Int) then (corporalaw10_TreelabelCommon.j0 k l0 a1 a2 (l0.length : Int) t201 true) else (if a2 < 0 then (corporalaw10_TreelabelCommon.j0 k l0 a1 a2 (l0.length : Int) t201 true) else (corporalaw10_TreelabelCommon.j0 k l0 a1 a2 (l0.length : Int) t201 (decide (a2 ≥ (l0.length : Int))))))) else (corporalaw10_TreelabelCommon.j0 k l0 a1 a2 (l0.length : Int) t201 true))) = some r := H
 have A4 := Aside0.mk A40
 clear A40
 have HC5 := Aside0.mk H
 clear H
 go_enter Try.func9, Try.ntmps9
 go_upto_region 3 with (first | ((with_reducible refine gate_callee (f := 11) rfl ?_); refine goesL_ (some 18) rfl rfl Try.func11 (by kernel_rfl) rfl #[.slice A0 l0.length c0] rfl (by (try simp only [List.map_toArray, List.map_cons, List.map_nil]); first | done | rfl | (simp only [List.length_drop, List.length_take]; rfl)) ?_; (with_reducible refine (treelabel_Assign.calls k _ _ l0 t201 t202 t203 _ ?side1 ?side2 A4.out).mono ?_); (case side1 => repeat (first | exact HR0.out | (with_reducible refine Kd.C_alloc ?_ _) | (with_reducible refine Kd.C_drewN ?_ _) | (with_reducible refine Kd.C_drew ?_))); (case side2 => exact HC0.out); rintro e w6 ⟨v204, rfl, ho0, hb⟩; refine ⟨_, rfl, ?_⟩; have n0_ := Aside0.mk (Kd.R_lower ho0 (below_size (by repeat (first | (with_reducible first | exact HB.out | apply below_alloc | apply pw_below_drewN | apply below_drew1) | exact HB.out)))); have n1_ := Aside0.mk (below_step (by repeat (first | (with_reducible first | exact HB.out | apply below_alloc | apply pw_below_drewN | apply below_drew1) | exact HB.out)) hb); clear HB; have HO205 := n0_; have HB := n1_; clear n0_ n1_; (try clear hb); (try clear hb2); (try clear hk); (try clear hi); (try clear ho0)))
 (try simp only [Act.put, List.setIfInBounds_toArray, List.set_cons_zero, List.set_cons_succ])
 go_cut [45] (fun v45 wc => ∃ (kq : Nat) (x45_4 : Bool), v45 = .bool x45_4 ∧ Aside0 (corporalaw10_TreelabelCommon.j0 kq l0 a1 a2 (l0.length : Int) t201 x45_4 = some r) ∧ Aside0 (kq ≤ k) ∧ Aside0 (Kd.R k41 41 wc w.heap.size (fun _ => True) v204 t201) ∧ Aside0 (Below w.heap.size w wc))
 case first => as_aux_lemma =>
  have H := HC5.out
  clear HC5
  by_cases c7 : (l0.length : Int) > 40
  ·rw [if_pos c7] at H
   have c7b0 : decide (40 < (l0.length : Int)) = true := decide_eq_true c7
   have c7b1 : decide (40 < l0.length) = true := decide_eq_true (by omega)
   clear c7
   (first | rw [c7b0] | (simp only [i64_w, i32_w]; rw [c7b0]) | skip)
   have H' := Aside0.mk H
   clear H
   go_wp2
   go_meet
   case rel => exact ⟨_, (true), (by first | rfl | (simp; done) | (simp [*]; done)), H', ⟨by first | omega | exact Nat.le_refl _⟩, ⟨by (with_reducible repeat (first | apply Kd.R_alloc | apply Kd.R_drewN | apply Kd.R_drew)); exact HO205.out⟩, ⟨by repeat (first | (with_reducible first | exact HB.out | apply below_alloc | apply pw_below_drewN | apply below_drew1) | exact HB.out)⟩⟩
  ·rw [if_neg c7] at H
   have c7b0 : decide (40 < (l0.length : Int)) = false := decide_eq_false c7
   have c7b1 : decide (40 < l0.length) = false := decide_eq_false (by omega)
   clear c7
   (first | rw [c7b0] | (simp only [i64_w, i32_w]; rw [c7b0]) | skip)
   by_cases c8 : t203 = 0
   ·rw [if_pos c8] at H
    have c8b0 : (t203 == 0) = true := beq_iff_eq.mpr c8
    have c8b1 : (t203 != 0) = false := bne_eq_false_iff_eq.mpr c8
    clear c8
    by_cases c9 : a1 < 0
    ·rw [if_pos c9] at H
     have c9b0 : decide (a1 < 0) = true := decide_eq_true c9
     clear c9
     have H' := Aside0.mk H
     clear H
     go_wp2
     go_meet
     case rel => exact ⟨_, (true), (by first | rfl | (simp; done) | (simp [*]; done)), H', ⟨by first | omega | exact Nat.le_refl _⟩, ⟨by (with_reducible repeat (first | apply Kd.R_alloc | apply Kd.R_drewN | apply Kd.R_drew)); exact HO205.out⟩, ⟨by repeat (first | (with_reducible first | exact HB.out | apply below_alloc | apply pw_below_drewN | apply below_drew1) | exact HB.out)⟩⟩
    ·rw [if_neg c9] at H
     have c9b0 : decide (a1 < 0) = false := decide_eq_false c9
     clear c9
     by_cases c10 : a1 ≥ (l0.length : Int)
     ·rw [if_pos c10] at H
      have c10b0 : decide ((l0.length : Int) ≤ a1) = true := decide_eq_true c10
      clear c10
      have H' := Aside0.mk H
      clear H
      go_wp2
      go_meet
      case rel => exact ⟨_, (true), (by first | rfl | (simp; done) | (simp [*]; done)), H', ⟨by first | omega | exact Nat.le_refl _⟩, ⟨by (with_reducible repeat (first | apply Kd.R_alloc | apply Kd.R_drewN | apply Kd.R_drew)); exact HO205.out⟩, ⟨by repeat (first | (with_reducible first | exact HB.out | apply below_alloc | apply pw_below_drewN | apply below_drew1) | exact HB.out)⟩⟩
     ·rw [if_neg c10] at H
      have c10b0 : decide ((l0.length : Int) ≤ a1) = false := decide_eq_false c10
      clear c10
      by_cases c11 : a2 < 0
      ·rw [if_pos c11] at H
       have c11b0 : decide (a2 < 0) = true := decide_eq_true c11
       clear c11
       have H' := Aside0.mk H
       clear H
       go_wp2
       go_meet
       case rel => exact ⟨_, (true), (by first | rfl | (simp; done) | (simp [*]; done)), H', ⟨by first | omega | exact Nat.le_refl _⟩, ⟨by (with_reducible repeat (first | apply Kd.R_alloc | apply Kd.R_drewN | apply Kd.R_drew)); exact HO205.out⟩, ⟨by repeat (first | (with_reducible first | exact HB.out | apply below_alloc | apply pw_below_drewN | apply below_drew1) | exact HB.out)⟩⟩
      ·rw [if_neg c11] at H
       have c11b0 : decide (a2 < 0) = false := decide_eq_false c11
       clear c11
       have H' := Aside0.mk H
       clear H
       go_wp2
       go_meet
       case rel => exact ⟨_, (decide (a2 ≥ (l0.length : Int))), (by first | rfl | (simp; done) | (simp [*]; done)), H', ⟨by first | omega | exact Nat.le_refl _⟩, ⟨by (with_reducible repeat (first | apply Kd.R_alloc | apply Kd.R_drewN | apply Kd.R_drew)); exact HO205.out⟩, ⟨by repeat (first | (with_reducible first | exact HB.out | apply below_alloc | apply pw_below_drewN | apply below_drew1) | exact HB.out)⟩⟩
   ·rw [if_neg c8] at H
    have c8b0 : (t203 == 0) = false := beq_eq_false_iff_ne.mpr c8
    have c8b1 : (t203 != 0) = true := bne_iff_ne.mpr c8
    have H' := Aside0.mk H
    clear H
    go_wp2
    go_meet
    case rel => exact ⟨_, (true), (by first | rfl | (simp; done) | (simp [*]; done)), H', ⟨by first | omega | exact Nat.le_refl _⟩, ⟨by (with_reducible repeat (first | apply Kd.R_alloc | apply Kd.R_drewN | apply Kd.R_drew)); exact HO205.out⟩, ⟨by repeat (first | (with_reducible first | exact HB.out | apply below_alloc | apply pw_below_drewN | apply below_drew1) | exact HB.out)⟩⟩
 case rest =>
  clear HC5
  try clear c1
  try clear p2
  try clear c7
  try clear c7b0
  try clear c7b1
  try clear c8
  try clear c8b0
  try clear c8b1
  try clear c9
  try clear c9b0
  try clear c10
  try clear c10b0
  try clear c11
  try clear c11b0
  obtain ⟨kq, x45_4, rfl, HA, HJ4, HO_8, HB⟩ := hcut
  cases kq with
  | zero => exact absurd HA.out (by simp [corporalaw10_TreelabelCommon.j0])
  | succ kj4 =>
   have H := HA.out
   clear HA
   simp only [corporalaw10_TreelabelCommon.j0] at H
   by_cases c12 : x45_4 = true
   ·subst c12
    have H1 : (some true) = some r := by rw [if_pos rfl] at H; exact H
    clear H
    have H := H1
    clear H1
    obtain rfl := Option.some.inj H
    go_wp2
    go_ret
    exact ⟨by first | rfl | (simp [errW_none, errW_some] <;> rfl) | (simp [*, errW_none, errW_some] <;> rfl), by repeat (first | (with_reducible first | exact HB.out | apply below_alloc | apply pw_below_drewN | apply below_drew1) | exact HB.out)⟩
   ·replace c12 := Bool.eq_false_iff.mpr c12
    subst c12
    have H1 : ((treelabel_Common.f kj4 t201 a1 a2).bind fun t206 => (if (t201.length : Int) = (l0.length : Int) then ((treelabel_Common.f kj4 t201 a2 a1).bind fun t207 => (if t207 = t206 then ((treelabel_Sisters.f kj4 t201 a1 a2).bind fun t208 => (if a1 = a2 then (if (t208 != false) = true then (corporalaw10_TreelabelCommon.j1 kj4 a1 a2 (l0.length : Int) t201 t206 true) else (corporalaw10_TreelabelCommon.j1 kj4 a1 a2 (l0.length : Int) t201 t206 (decide (t206 ≥ (l0.length : Int))))) else (if 0 ≤ a1 then (if a1 < (l0.length : Int) then (if 0 ≤ a2 then (if a2 < (l0.length : Int) then (if (t208 != ((rd l0 a1) == (rd l0 a2))) = true then (corporalaw10_TreelabelCommon.j1 kj4 a1 a2 (l0.length : Int) t201 t206 true) else (corporalaw10_TreelabelCommon.j1 kj4 a1 a2 (l0.length : Int) t201 t206 (decide (t206 ≥ (l0.length : Int))))) else (none)) else (none)) else (none)) else (none)))) else (corporalaw10_TreelabelCommon.j1 kj4 a1 a2 (l0.length : Int) t201 t206 true))) else (corporalaw10_TreelabelCommon.j1 kj4 a1 a2 (l0.length : Int) t201 t206 true))) = some r := by rw [if_neg (show ¬ (false = true) by decide)] at H; exact H
    clear H
    have H := H1
    clear H1
    replace H := Option.bind_eq_some_iff.mp H
    obtain ⟨t206, A130, H⟩ := H
    replace H : (if (t201.length : Int) = (l0.length : Int) then ((treelabel_Common.f kj4 t201 a2 a1).bind fun t207 => (if t207 = t206 then ((treelabel_Sisters.f kj4 t201 a1 a2).bind fun t208 => (if a1 = a2 then (if (t208 != false) = true then (corporalaw10_TreelabelCommon.j1 kj4 a1 a2 (l0.length : Int) t201 t206 true) else (corporalaw10_TreelabelCommon.j1 kj4 a1 a2 (l0.length : Int) t201 t206 (decide (t206 ≥ (l0.length : Int))))) else (if 0 ≤ a1 then (if a1 < (l0.length : Int) then (if 0 ≤ a2 then (if a2 < (l0.length : Int) then (if (t208 != ((rd l0 a1) == (rd l0 a2))) = true then (corporalaw10_TreelabelCommon.j1 kj4 a1 a2 (l0.length : Int) t201 t206 true) else (corporalaw10_TreelabelCommon.j1 kj4 a1 a2 (l0.length : Int) t201 t206 (decide (t206 ≥ (l0.length : Int))))) else (none)) else (none)) else (none)) else (none)))) else (corporalaw10_TreelabelCommon.j1 kj4 a1 a2 (l0.length : Int) t201 t206 true))) else (corporalaw10_TreelabelCommon.j1 kj4 a1 a2 (l0.length : Int) t201 t206 true)) = some r := H
    have A13 := Aside0.mk A130
    clear A130
    have HC14 := Aside0.mk H
    clear H
    obtain ⟨Ao15, co15, eo15⟩ := Kd.R_slice HO_8.out
    subst eo15
    go_upto_region 6 with (first | ((with_reducible refine gate_callee (f := 26) rfl ?_); refine goesL_ (some 49) rfl rfl Try.func26 (by kernel_rfl) rfl #[.slice Ao15 t201.length co15, .int .i64 a1, .int .i64 a2] rfl (by (try simp only [List.map_toArray, List.map_cons, List.map_nil]); first | done | rfl | (simp only [List.length_drop, List.length_take]; rfl)) ?_; (with_reducible refine (treelabel_Common.calls kj4 _ _ t201 a1 a2 t206 _ ?side1 ?side2 A13.out).mono ?_); (case side1 => repeat (first | exact (Kd.R_reads' HO_8.out).2.2 | (with_reducible refine Kd.C_alloc ?_ _) | (with_reducible refine Kd.C_drewN ?_ _) | (with_reducible refine Kd.C_drew ?_))); (case side2 => exact (Kd.R_reads' HO_8.out).2.1); rintro e w16 ⟨rfl, hb⟩; refine ⟨_, rfl, ?_⟩; have n0_ := Aside0.mk (Kd.R_below (by (with_reducible repeat (first | apply Kd.R_alloc | apply Kd.R_drewN | apply Kd.R_drew)); exact HO_8.out) hb); have n1_ := Aside0.mk (below_step (by repeat (first | (with_reducible first | exact HB.out | apply below_alloc | apply pw_below_drewN | apply below_drew1) | exact HB.out)) hb); clear HO_8; clear HB; have HO_8 := n0_; have HB := n1_; clear n0_ n1_; (try clear hb); (try clear hb2); (try clear hk); (try clear hi)))
    (try simp only [Act.put, List.setIfInBounds_toArray, List.set_cons_zero, List.set_cons_succ])
    go_cut [87] (fun v87 wc => ∃ (kq : Nat) (x87_13 : Bool), v87 = .bool x87_13 ∧ Aside0 (corporalaw10_TreelabelCommon.j1 kq a1 a2 (l0.length : Int) t201 t206 x87_13 = some r) ∧ Aside0 (kq ≤ kj4) ∧ Aside0 (Kd.R k41 41 wc w.heap.size (fun _ => True) (.slice Ao15 t201.length co15) t201) ∧ Aside0 (Below w.heap.size w wc))
    case first => as_aux_lemma =>
     have H := HC14.out
     clear HC14
     by_cases c17 : (t201.length : Int) = (l0.length : Int)
     ·rw [if_pos c17] at H
      have c17b0 : ((t201.length : Int) == (l0.length : Int)) = true := beq_iff_eq.mpr c17
      have c17b1 : ((t201.length : Int) != (l0.length : Int)) = false := bne_eq_false_iff_eq.mpr c17
      have c17b2 : (t201.length == l0.length) = true := by first | simpa using c17 | (simp at c17 ⊢; omega)
      clear c17
      (first | rw [c17b0] | (simp only [i64_w, i32_w]; rw [c17b0]) | skip)
      replace H := Option.bind_eq_some_iff.mp H
      obtain ⟨t207, A180, H⟩ := H
      replace H : (if t207 = t206 then ((treelabel_Sisters.f kj4 t201 a1 a2).bind fun t208 => (if a1 = a2 then (if (t208 != false) = true then (corporalaw10_TreelabelCommon.j1 kj4 a1 a2 (l0.length : Int) t201 t206 true) else (corporalaw10_TreelabelCommon.j1 kj4 a1 a2 (l0.length : Int) t201 t206 (decide (t206 ≥ (l0.length : Int))))) else (if 0 ≤ a1 then (if a1 < (l0.length : Int) then (if 0 ≤ a2 then (if a2 < (l0.length : Int) then (if (t208 != ((rd l0 a1) == (rd l0 a2))) = true then (corporalaw10_TreelabelCommon.j1 kj4 a1 a2 (l0.length : Int) t201 t206 true) else (corporalaw10_TreelabelCommon.j1 kj4 a1 a2 (l0.length : Int) t201 t206 (decide (t206 ≥ (l0.length : Int))))) else (none)) else (none)) else (none)) else (none)))) else (corporalaw10_TreelabelCommon.j1 kj4 a1 a2 (l0.length : Int) t201 t206 true)) = some r := H
      have A18 := Aside0.mk A180
      clear A180
      by_cases c19 : t207 = t206
      ·rw [if_pos c19] at H
       have c19b0 : (t207 == t206) = true := beq_iff_eq.mpr c19
       have c19b1 : (t207 != t206) = false := bne_eq_false_iff_eq.mpr c19
       clear c19
       replace H := Option.bind_eq_some_iff.mp H
       obtain ⟨t208, A200, H⟩ := H
       replace H : (if a1 = a2 then (if (t208 != false) = true then (corporalaw10_TreelabelCommon.j1 kj4 a1 a2 (l0.length : Int) t201 t206 true) else (corporalaw10_TreelabelCommon.j1 kj4 a1 a2 (l0.length : Int) t201 t206 (decide (t206 ≥ (l0.length : Int))))) else (if 0 ≤ a1 then (if a1 < (l0.length : Int) then (if 0 ≤ a2 then (if a2 < (l0.length : Int) then (if (t208 != ((rd l0 a1) == (rd l0 a2))) = true then (corporalaw10_TreelabelCommon.j1 kj4 a1 a2 (l0.length : Int) t201 t206 true) else (corporalaw10_TreelabelCommon.j1 kj4 a1 a2 (l0.length : Int) t201 t206 (decide (t206 ≥ (l0.length : Int))))) else (none)) else (none)) else (none)) else (none))) = some r := H
       have A20 := Aside0.mk A200
       clear A200
       by_cases c21 : a1 = a2
       ·rw [if_pos c21] at H
        have c21b0 : (a1 == a2) = true := beq_iff_eq.mpr c21
        have c21b1 : (a1 != a2) = false := bne_eq_false_iff_eq.mpr c21
        clear c21
        by_cases c22 : (t208 != false) = true
        ·rw [if_pos c22] at H
         have c22b0 : (t208 != false) = true := c22
         (try (have c22b1 : decide (t208 = false) = false := by simpa using c22))
         (try (have c22b2 : (t208 == false) = false := by simpa using c22))
         (try (have c22b3 : ¬ (t208 = false) := by simpa using c22))
         clear c22
         have H' := Aside0.mk H
         clear H
         try go_wp2
         have n0_ := Aside0.mk (Kd.R_drew HO_8.out)
         have n1_ := Aside0.mk (below_drew1 HB.out)
         clear HO_8
         clear HB
         have HO_8 := n0_
         have HB := n1_
         clear n0_ n1_
         refine start_ (n := 38) (S := fun w' => True) (ds := []) #[false, false, false, false, false, false, false, false, false, false, false, false, false, false, false, false, false, false, false, false, false, false, false, false, false, false, false, false, false, false, false, false, false, false, false, false, false, false] (by kernel_rfl) rfl rfl trivial (fun hHeld => ?_); refine with_tabW corporalaw10_TreelabelCommon.tab6 corporalaw10_TreelabelCommon.bits6 (fun HT_ HW_ => ?_)
         generalize w16.drew = w23 at HO_8 HB hHeld ⊢
         refine pw_ 0 50 HT_.out (h := ?_)
         refine pw_ 1 51 HT_.out (h := ?_)
         refine pw_ 2 52 HT_.out (h := ?_)
         refine pw_ 3 53 HT_.out (h := ?_)
         refine pw_ 4 54 HT_.out (h := ?_)
         refine pw_ 5 55 HT_.out (h := ?_)
         refine pw_ 6 56 HT_.out (h := ?_)
         refine pw_ 7 57 HT_.out (h := ?_)
         refine pw_ 9 59 HT_.out (h := ?_)
         refine one_ (i := 8) (N := some 58) #[true, true, true, true, true, true, true, true, true, true, false, false, false, false, false, false, false, false, false, false, false, false, false, false, false, false, false, false, false, false, false, false, false, false, false, false, false, false] rfl rfl (one_of HT_.out (by kernel_rfl)) (by decide) (fun K hK => ?_)
         refine goes_ Try.func26 (by kernel_rfl) rfl #[.slice Ao15 t201.length co15, .int .i64 a2, .int .i64 a1] (by rfl) rfl rfl (by (try simp only [List.map_toArray, List.map_cons, List.map_nil]); first | done | rfl | (simp only [List.length_drop, List.length_take]; rfl)) ?_
         with_reducible refine (treelabel_Common.calls kj4 _ _ t201 a2 a1 t207 _ ?side1 ?side2 A18.out).mono ?_
         (case side1 => repeat (first | exact (Kd.R_reads' HO_8.out).2.2 | (with_reducible refine Kd.C_alloc ?_ _) | (with_reducible refine Kd.C_drewN ?_ _) | (with_reducible refine Kd.C_drew ?_)))
         (case side2 => exact (Kd.R_reads' HO_8.out).2.1)
         rintro e w24 ⟨rfl, hb⟩
         refine ⟨_, rfl, ?_⟩
         have n0_ := Aside0.mk (Kd.R_below (by (with_reducible repeat (first | apply Kd.R_alloc | apply Kd.R_drewN | apply Kd.R_drew)); exact HO_8.out) hb)
         have n1_ := Aside0.mk (below_step (by repeat (first | (with_reducible first | exact HB.out | apply below_alloc | apply pw_below_drewN | apply below_drew1) | exact HB.out)) hb)
         clear HO_8
         clear HB
         have HO_8 := n0_
         have HB := n1_
         clear n0_ n1_
         (try clear hb)
         (try clear hb2)
         (try clear hk)
         (try clear hi)
         refine hK.out _ _ trivial (fun hHeld => ?_)
         clear hK K
         refine norm_ (a' := ?_) ?_ ?_
         rotate_left
         ·show Act.put _ (some 58) _ = _
          simp only [Act.put, List.setIfInBounds_toArray, List.set_cons_zero, List.set_cons_succ, i64_w, i32_w]
          rfl
         refine pw_ 10 60 HT_.out (h := ?_)
         refine pw_ 11 61 HT_.out (h := ?_)
         refine pw_ 12 62 HT_.out (h := ?_)
         refine pw_ 13 63 HT_.out (h := ?_)
         refine pw_ 14 64 HT_.out (h := ?_)
         refine pw_ 15 65 HT_.out (h := ?_)
         refine pw_ 17 67 HT_.out (h := ?_)
         refine pw_ 18 68 HT_.out (h := ?_)
         refine pw_ 19 69 HT_.out (h := ?_)
         refine one_ (i := 16) (N := some 66) #[true, true, true, true, true, true, true, true, true, true, true, true, true, true, true, true, true, true, true, true, false, false, false, false, false, false, false, false, false, false, false, false, false, false, false, false, false, false] rfl rfl (one_of HT_.out (by kernel_rfl)) (by decide) (fun K hK => ?_)
         refine goes_ Try.func24 (by kernel_rfl) rfl #[.slice Ao15 t201.length co15, .int .i64 a1, .int .i64 a2] (by rfl) rfl rfl (by (try simp only [List.map_toArray, List.map_cons, List.map_nil]); first | done | rfl | (simp only [List.length_drop, List.length_take]; rfl)) ?_
         with_reducible refine (treelabel_Sisters.calls kj4 _ _ t201 a1 a2 t208 _ ?side1 ?side2 A20.out).mono ?_
         (case side1 => repeat (first | exact (Kd.R_reads' HO_8.out).2.2 | (with_reducible refine Kd.C_alloc ?_ _) | (with_reducible refine Kd.C_drewN ?_ _) | (with_reducible refine Kd.C_drew ?_)))
         (case side2 => exact (Kd.R_reads' HO_8.out).2.1)
         rintro e w25 ⟨rfl, hb⟩
         refine ⟨_, rfl, ?_⟩
         have n0_ := Aside0.mk (Kd.R_below (by (with_reducible repeat (first | apply Kd.R_alloc | apply Kd.R_drewN | apply Kd.R_drew)); exact HO_8.out) hb)
         have n1_ := Aside0.mk (below_step (by repeat (first | (with_reducible first | exact HB.out | apply below_alloc | apply pw_below_drewN | apply below_drew1) | exact HB.out)) hb)
         clear HO_8
         clear HB
         have HO_8 := n0_
         have HB := n1_
         clear n0_ n1_
         (try clear hb)
         (try clear hb2)
         (try clear hk)
         (try clear hi)
         refine hK.out _ _ trivial (fun hHeld => ?_)
         clear hK K
         refine norm_ (a' := ?_) ?_ ?_
         rotate_left
         ·show Act.put _ (some 66) _ = _
          simp only [Act.put, List.setIfInBounds_toArray, List.set_cons_zero, List.set_cons_succ, i64_w, i32_w]
          rfl
         refine pw_ 20 70 HT_.out (h := ?_)
         refine pn_ 21 71 HT_.out (h := ?_)
         refine pn_ 22 72 HT_.out (h := ?_)
         refine pn_ 23 73 HT_.out (h := ?_)
         refine pn_ 24 74 HT_.out (h := ?_)
         refine pn_ 25 75 HT_.out (h := ?_)
         refine pn_ 26 76 HT_.out (h := ?_)
         refine pn_ 27 77 HT_.out (h := ?_)
         refine pn_ 28 78 HT_.out (h := ?_)
         refine pn_ 29 79 HT_.out (h := ?_)
         refine pw_ 30 80 HT_.out (h := ?_)
         refine pw_ 31 81 HT_.out (h := ?_)
         refine pw_ 32 82 HT_.out (h := ?_)
         refine pw_ 33 83 HT_.out (h := ?_)
         refine pn_ 34 84 HT_.out (h := ?_)
         refine pn_ 35 85 HT_.out (h := ?_)
         refine pn_ 36 86 HT_.out (h := ?_)
         refine pw_ 37 87 HT_.out (h := ?_)
         refine done_ (done_of HT_.out (by kernel_rfl)) ?_
         try go_wp2
         go_meet
         case rel => exact ⟨_, (true), (by first | rfl | (simp; done) | (simp [*]; done)), H', ⟨by have := HJ4.out; first | omega | exact Nat.le_refl _⟩, ⟨by (with_reducible repeat (first | apply Kd.R_alloc | apply Kd.R_drewN | apply Kd.R_drew)); exact HO_8.out⟩, ⟨by repeat (first | (with_reducible first | exact HB.out | apply below_alloc | apply pw_below_drewN | apply below_drew1) | exact HB.out)⟩⟩
        ·rw [if_neg c22] at H
         have c22b0 : (t208 != false) = false := by simpa using c22
         (try (have c22b1 : decide (t208 = false) = true := by simpa using c22))
         (try (have c22b2 : (t208 == false) = true := by simpa using c22))
         clear c22
         have H' := Aside0.mk H
         clear H
         try go_wp2
         have n0_ := Aside0.mk (Kd.R_drew HO_8.out)
         have n1_ := Aside0.mk (below_drew1 HB.out)
         clear HO_8
         clear HB
         have HO_8 := n0_
         have HB := n1_
         clear n0_ n1_
         refine start_ (n := 38) (S := fun w' => True) (ds := []) #[false, false, false, false, false, false, false, false, false, false, false, false, false, false, false, false, false, false, false, false, false, false, false, false, false, false, false, false, false, false, false, false, false, false, false, false, false, false] (by kernel_rfl) rfl rfl trivial (fun hHeld => ?_); refine with_tabW corporalaw10_TreelabelCommon.tab6 corporalaw10_TreelabelCommon.bits6 (fun HT_ HW_ => ?_)
         generalize w16.drew = w26 at HO_8 HB hHeld ⊢
         refine pw_ 0 50 HT_.out (h := ?_)
         refine pw_ 1 51 HT_.out (h := ?_)
         refine pw_ 2 52 HT_.out (h := ?_)
         refine pw_ 3 53 HT_.out (h := ?_)
         refine pw_ 4 54 HT_.out (h := ?_)
         refine pw_ 5 55 HT_.out (h := ?_)
         refine pw_ 6 56 HT_.out (h := ?_)
         refine pw_ 7 57 HT_.out (h := ?_)
         refine pw_ 9 59 HT_.out (h := ?_)
         refine one_ (i := 8) (N := some 58) #[true, true, true, true, true, true, true, true, true, true, false, false, false, false, false, false, false, false, false, false, false, false, false, false, false, false, false, false, false, false, false, false, false, false, false, false, false, false] rfl rfl (one_of HT_.out (by kernel_rfl)) (by decide) (fun K hK => ?_)
         refine goes_ Try.func26 (by kernel_rfl) rfl #[.slice Ao15 t201.length co15, .int .i64 a2, .int .i64 a1] (by rfl) rfl rfl (by (try simp only [List.map_toArray, List.map_cons, List.map_nil]); first | done | rfl | (simp only [List.length_drop, List.length_take]; rfl)) ?_
         with_reducible refine (treelabel_Common.calls kj4 _ _ t201 a2 a1 t207 _ ?side1 ?side2 A18.out).mono ?_
         (case side1 => repeat (first | exact (Kd.R_reads' HO_8.out).2.2 | (with_reducible refine Kd.C_alloc ?_ _) | (with_reducible refine Kd.C_drewN ?_ _) | (with_reducible refine Kd.C_drew ?_)))
         (case side2 => exact (Kd.R_reads' HO_8.out).2.1)
         rintro e w27 ⟨rfl, hb⟩
         refine ⟨_, rfl, ?_⟩
         have n0_ := Aside0.mk (Kd.R_below (by (with_reducible repeat (first | apply Kd.R_alloc | apply Kd.R_drewN | apply Kd.R_drew)); exact HO_8.out) hb)
         have n1_ := Aside0.mk (below_step (by repeat (first | (with_reducible first | exact HB.out | apply below_alloc | apply pw_below_drewN | apply below_drew1) | exact HB.out)) hb)
         clear HO_8
         clear HB
         have HO_8 := n0_
         have HB := n1_
         clear n0_ n1_
         (try clear hb)
         (try clear hb2)
         (try clear hk)
         (try clear hi)
         refine hK.out _ _ trivial (fun hHeld => ?_)
         clear hK K
         refine norm_ (a' := ?_) ?_ ?_
         rotate_left
         ·show Act.put _ (some 58) _ = _
          simp only [Act.put, List.setIfInBounds_toArray, List.set_cons_zero, List.set_cons_succ, i64_w, i32_w]
          rfl
         refine pw_ 10 60 HT_.out (h := ?_)
         refine pw_ 11 61 HT_.out (h := ?_)
         refine pw_ 12 62 HT_.out (h := ?_)
         refine pw_ 13 63 HT_.out (h := ?_)
         refine pw_ 14 64 HT_.out (h := ?_)
         refine pw_ 15 65 HT_.out (h := ?_)
         refine pw_ 17 67 HT_.out (h := ?_)
         refine pw_ 18 68 HT_.out (h := ?_)
         refine pw_ 19 69 HT_.out (h := ?_)
         refine one_ (i := 16) (N := some 66) #[true, true, true, true, true, true, true, true, true, true, true, true, true, true, true, true, true, true, true, true, false, false, false, false, false, false, false, false, false, false, false, false, false, false, false, false, false, false] rfl rfl (one_of HT_.out (by kernel_rfl)) (by decide) (fun K hK => ?_)
         refine goes_ Try.func24 (by kernel_rfl) rfl #[.slice Ao15 t201.length co15, .int .i64 a1, .int .i64 a2] (by rfl) rfl rfl (by (try simp only [List.map_toArray, List.map_cons, List.map_nil]); first | done | rfl | (simp only [List.length_drop, List.length_take]; rfl)) ?_
         with_reducible refine (treelabel_Sisters.calls kj4 _ _ t201 a1 a2 t208 _ ?side1 ?side2 A20.out).mono ?_
         (case side1 => repeat (first | exact (Kd.R_reads' HO_8.out).2.2 | (with_reducible refine Kd.C_alloc ?_ _) | (with_reducible refine Kd.C_drewN ?_ _) | (with_reducible refine Kd.C_drew ?_)))
         (case side2 => exact (Kd.R_reads' HO_8.out).2.1)
         rintro e w28 ⟨rfl, hb⟩
         refine ⟨_, rfl, ?_⟩
         have n0_ := Aside0.mk (Kd.R_below (by (with_reducible repeat (first | apply Kd.R_alloc | apply Kd.R_drewN | apply Kd.R_drew)); exact HO_8.out) hb)
         have n1_ := Aside0.mk (below_step (by repeat (first | (with_reducible first | exact HB.out | apply below_alloc | apply pw_below_drewN | apply below_drew1) | exact HB.out)) hb)
         clear HO_8
         clear HB
         have HO_8 := n0_
         have HB := n1_
         clear n0_ n1_
         (try clear hb)
         (try clear hb2)
         (try clear hk)
         (try clear hi)
         refine hK.out _ _ trivial (fun hHeld => ?_)
         clear hK K
         refine norm_ (a' := ?_) ?_ ?_
         rotate_left
         ·show Act.put _ (some 66) _ = _
          simp only [Act.put, List.setIfInBounds_toArray, List.set_cons_zero, List.set_cons_succ, i64_w, i32_w]
          rfl
         refine pw_ 20 70 HT_.out (h := ?_)
         refine pn_ 21 71 HT_.out (h := ?_)
         refine pn_ 22 72 HT_.out (h := ?_)
         refine pn_ 23 73 HT_.out (h := ?_)
         refine pn_ 24 74 HT_.out (h := ?_)
         refine pn_ 25 75 HT_.out (h := ?_)
         refine pn_ 26 76 HT_.out (h := ?_)
         refine pn_ 27 77 HT_.out (h := ?_)
         refine pn_ 28 78 HT_.out (h := ?_)
         refine pn_ 29 79 HT_.out (h := ?_)
         refine pw_ 30 80 HT_.out (h := ?_)
         refine pw_ 31 81 HT_.out (h := ?_)
         refine pw_ 32 82 HT_.out (h := ?_)
         refine pw_ 33 83 HT_.out (h := ?_)
         refine pw_ 34 84 HT_.out (h := ?_)
         refine pw_ 35 85 HT_.out (h := ?_)
         refine pw_ 36 86 HT_.out (h := ?_)
         refine pw_ 37 87 HT_.out (h := ?_)
         refine done_ (done_of HT_.out (by kernel_rfl)) ?_
         try go_wp2
         go_meet
         case rel => exact ⟨_, (decide (t206 ≥ (l0.length : Int))), (by first | rfl | (simp; done) | (simp [*]; done)), H', ⟨by have := HJ4.out; first | omega | exact Nat.le_refl _⟩, ⟨by (with_reducible repeat (first | apply Kd.R_alloc | apply Kd.R_drewN | apply Kd.R_drew)); exact HO_8.out⟩, ⟨by repeat (first | (with_reducible first | exact HB.out | apply below_alloc | apply pw_below_drewN | apply below_drew1) | exact HB.out)⟩⟩
       ·rw [if_neg c21] at H
        have c21b0 : (a1 == a2) = false := beq_eq_false_iff_ne.mpr c21
        have c21b1 : (a1 != a2) = true := bne_iff_ne.mpr c21
        by_cases c29 : 0 ≤ a1
        ·rw [if_pos c29] at H
         have c29b0 : decide (0 ≤ a1) = true := decide_eq_true c29
         clear c29
         by_cases c30 : a1 < (l0.length : Int)
         ·rw [if_pos c30] at H
          have c30b0 : decide (a1 < (l0.length : Int)) = true := decide_eq_true c30
          clear c30
          by_cases c31 : 0 ≤ a2
          ·rw [if_pos c31] at H
           have c31b0 : decide (0 ≤ a2) = true := decide_eq_true c31
           clear c31
           by_cases c32 : a2 < (l0.length : Int)
           ·rw [if_pos c32] at H
            have c32b0 : decide (a2 < (l0.length : Int)) = true := decide_eq_true c32
            clear c32
            by_cases c33 : (t208 != ((rd l0 a1) == (rd l0 a2))) = true
            ·rw [if_pos c33] at H
             have c33b0 : (t208 != ((rd l0 a1) == (rd l0 a2))) = true := c33
             (try (have c33b1 : decide (t208 = ((rd l0 a1) == (rd l0 a2))) = false := by simpa using c33))
             (try (have c33b2 : (t208 == ((rd l0 a1) == (rd l0 a2))) = false := by simpa using c33))
             (try (have c33b3 : ¬ (t208 = ((rd l0 a1) == (rd l0 a2))) := by simpa using c33))
             clear c33
             have H' := Aside0.mk H
             clear H
             try go_wp2
             have n0_ := Aside0.mk (Kd.R_drew HO_8.out)
             have n1_ := Aside0.mk (below_drew1 HB.out)
             clear HO_8
             clear HB
             have HO_8 := n0_
             have HB := n1_
             clear n0_ n1_
             have p209 : 0 ≤ (a1 : Int) := of_decide_eq_true (by first | (with_reducible assumption) | assumption)
             have q209 : a1 < (l0.length : Int) := of_decide_eq_true (by first | (with_reducible assumption) | assumption)
             obtain ⟨ad209, e209, hx209_0⟩ := Kd.at_int HR0.out a1 p209 q209
             have hw209_0 := hx209_0
             cases e209
             replace hx209_0 := (HB.out.cell (World.block_lt_of_cell? w _ hx209_0)).trans hx209_0
             replace p209 := eq_true p209
             replace q209 := eq_true q209
             have p210 : 0 ≤ (a2 : Int) := of_decide_eq_true (by first | (with_reducible assumption) | assumption)
             have q210 : a2 < (l0.length : Int) := of_decide_eq_true (by first | (with_reducible assumption) | assumption)
             obtain ⟨ad210, e210, hx210_0⟩ := Kd.at_int HR0.out a2 p210 q210
             have hw210_0 := hx210_0
             obtain rfl : ad209 = ad210 := (by injection e210)
             replace hx210_0 := (HB.out.cell (World.block_lt_of_cell? w _ hx210_0)).trans hx210_0
             replace p210 := eq_true p210
             replace q210 := eq_true q210
             refine start_ (n := 38) (S := fun w' => w'.cell? (ad209.add (a1).toNat) = some (.int .i64 (rd l0 a1)) ∧ w'.cell? (ad209.add (a2).toNat) = some (.int .i64 (rd l0 a2))) (ds := []) #[false, false, false, false, false, false, false, false, false, false, false, false, false, false, false, false, false, false, false, false, false, false, false, false, false, false, false, false, false, false, false, false, false, false, false, false, false, false] (by kernel_rfl) rfl rfl ⟨((HB.out.cell (World.block_lt_of_cell? w _ hw209_0)).trans hw209_0), ((HB.out.cell (World.block_lt_of_cell? w _ hw210_0)).trans hw210_0)⟩ (fun hHeld => ?_); refine with_tabW corporalaw10_TreelabelCommon.tab6 corporalaw10_TreelabelCommon.bits6 (fun HT_ HW_ => ?_)
             generalize w16.drew = w34 at HO_8 HB hx209_0 hx210_0 hHeld ⊢
             refine pw_ 0 50 HT_.out (h := ?_)
             refine pw_ 1 51 HT_.out (h := ?_)
             refine pw_ 2 52 HT_.out (h := ?_)
             refine pw_ 3 53 HT_.out (h := ?_)
             refine pw_ 4 54 HT_.out (h := ?_)
             refine pw_ 5 55 HT_.out (h := ?_)
             refine pw_ 6 56 HT_.out (h := ?_)
             refine pw_ 7 57 HT_.out (h := ?_)
             refine pw_ 9 59 HT_.out (h := ?_)
             refine one_ (i := 8) (N := some 58) #[true, true, true, true, true, true, true, true, true, true, false, false, false, false, false, false, false, false, false, false, false, false, false, false, false, false, false, false, false, false, false, false, false, false, false, false, false, false] rfl rfl (one_of HT_.out (by kernel_rfl)) (by decide) (fun K hK => ?_)
             refine goes_ Try.func26 (by kernel_rfl) rfl #[.slice Ao15 t201.length co15, .int .i64 a2, .int .i64 a1] (by rfl) rfl rfl (by (try simp only [List.map_toArray, List.map_cons, List.map_nil]); first | done | rfl | (simp only [List.length_drop, List.length_take]; rfl)) ?_
             with_reducible refine (treelabel_Common.calls kj4 _ _ t201 a2 a1 t207 _ ?side1 ?side2 A18.out).mono ?_
             (case side1 => repeat (first | exact (Kd.R_reads' HO_8.out).2.2 | (with_reducible refine Kd.C_alloc ?_ _) | (with_reducible refine Kd.C_drewN ?_ _) | (with_reducible refine Kd.C_drew ?_)))
             (case side2 => exact (Kd.R_reads' HO_8.out).2.1)
             rintro e w35 ⟨rfl, hb⟩
             refine ⟨_, rfl, ?_⟩
             have n0_ := Aside0.mk (Kd.R_below (by (with_reducible repeat (first | apply Kd.R_alloc | apply Kd.R_drewN | apply Kd.R_drew)); exact HO_8.out) hb)
             have n1_ := Aside0.mk (below_step (by repeat (first | (with_reducible first | exact HB.out | apply below_alloc | apply pw_below_drewN | apply below_drew1) | exact HB.out)) hb)
             clear HO_8
             clear HB
             have HO_8 := n0_
             have HB := n1_
             clear n0_ n1_
             (try clear hb)
             (try clear hb2)
             (try clear hk)
             (try clear hi)
             refine hK.out _ _ ⟨((HB.out.cell (World.block_lt_of_cell? w _ hw209_0)).trans hw209_0), ((HB.out.cell (World.block_lt_of_cell? w _ hw210_0)).trans hw210_0)⟩ (fun hHeld => ?_)
             clear hK K
             refine norm_ (a' := ?_) ?_ ?_
             rotate_left
             ·show Act.put _ (some 58) _ = _
              simp only [Act.put, List.setIfInBounds_toArray, List.set_cons_zero, List.set_cons_succ, i64_w, i32_w]
              rfl
             refine pw_ 10 60 HT_.out (h := ?_)
             refine pw_ 11 61 HT_.out (h := ?_)
             refine pw_ 12 62 HT_.out (h := ?_)
             refine pw_ 13 63 HT_.out (h := ?_)
             refine pw_ 14 64 HT_.out (h := ?_)
             refine pw_ 15 65 HT_.out (h := ?_)
             refine pw_ 17 67 HT_.out (h := ?_)
             refine pw_ 18 68 HT_.out (h := ?_)
             refine pw_ 19 69 HT_.out (h := ?_)
             refine one_ (i := 16) (N := some 66) #[true, true, true, true, true, true, true, true, true, true, true, true, true, true, true, true, true, true, true, true, false, false, false, false, false, false, false, false, false, false, false, false, false, false, false, false, false, false] rfl rfl (one_of HT_.out (by kernel_rfl)) (by decide) (fun K hK => ?_)
             refine goes_ Try.func24 (by kernel_rfl) rfl #[.slice Ao15 t201.length co15, .int .i64 a1, .int .i64 a2] (by rfl) rfl rfl (by (try simp only [List.map_toArray, List.map_cons, List.map_nil]); first | done | rfl | (simp only [List.length_drop, List.length_take]; rfl)) ?_
             with_reducible refine (treelabel_Sisters.calls kj4 _ _ t201 a1 a2 t208 _ ?side1 ?side2 A20.out).mono ?_
             (case side1 => repeat (first | exact (Kd.R_reads' HO_8.out).2.2 | (with_reducible refine Kd.C_alloc ?_ _) | (with_reducible refine Kd.C_drewN ?_ _) | (with_reducible refine Kd.C_drew ?_)))
             (case side2 => exact (Kd.R_reads' HO_8.out).2.1)
             rintro e w36 ⟨rfl, hb⟩
             refine ⟨_, rfl, ?_⟩
             have n0_ := Aside0.mk (Kd.R_below (by (with_reducible repeat (first | apply Kd.R_alloc | apply Kd.R_drewN | apply Kd.R_drew)); exact HO_8.out) hb)
             have n1_ := Aside0.mk (below_step (by repeat (first | (with_reducible first | exact HB.out | apply below_alloc | apply pw_below_drewN | apply below_drew1) | exact HB.out)) hb)
             clear HO_8
             clear HB
             have HO_8 := n0_
             have HB := n1_
             clear n0_ n1_
             (try clear hb)
             (try clear hb2)
             (try clear hk)
             (try clear hi)
             refine hK.out _ _ ⟨((HB.out.cell (World.block_lt_of_cell? w _ hw209_0)).trans hw209_0), ((HB.out.cell (World.block_lt_of_cell? w _ hw210_0)).trans hw210_0)⟩ (fun hHeld => ?_)
             clear hK K
             refine norm_ (a' := ?_) ?_ ?_
             rotate_left
             ·show Act.put _ (some 66) _ = _
              simp only [Act.put, List.setIfInBounds_toArray, List.set_cons_zero, List.set_cons_succ, i64_w, i32_w]
              rfl
             refine pw_ 20 70 HT_.out (h := ?_)
             refine pw_ 21 71 HT_.out (h := ?_)
             refine pw_ 22 72 HT_.out (h := ?_)
             refine pw_ 23 73 HT_.out (h := ?_)
             refine pw_ 25 75 HT_.out (h := ?_)
             refine pw_ 26 76 HT_.out (h := ?_)
             refine pw_ 27 77 HT_.out (h := ?_)
             refine take_ (i := 24) (N := some 74) (v := ?_) (a' := ?_) #[true, true, true, true, true, true, true, true, true, true, true, true, true, true, true, true, true, true, true, true, true, true, true, true, true, true, true, true, false, false, false, false, false, false, false, false, false, false] rfl rfl (take_ofW HT_.out HW_.out (by kernel_rfl)) (fun _ _ _ h => h) (Or.inl ⟨by rfl, ?_⟩) hHeld ?_ ?_
             rotate_left
             ·rintro w' ⟨s0, s1⟩
              go_simp
              with_reducible rfl
             rotate_left
             ·simp only [Act.put, List.setIfInBounds_toArray, List.set_cons_zero, List.set_cons_succ, i64_w, i32_w]
              rfl
             refine take_ (i := 28) (N := some 78) (v := ?_) (a' := ?_) #[true, true, true, true, true, true, true, true, true, true, true, true, true, true, true, true, true, true, true, true, true, true, true, true, true, true, true, true, true, false, false, false, false, false, false, false, false, false] rfl rfl (take_ofW HT_.out HW_.out (by kernel_rfl)) (fun _ _ _ h => h) (Or.inl ⟨by rfl, ?_⟩) hHeld ?_ ?_
             rotate_left
             ·rintro w' ⟨s0, s1⟩
              go_simp
              with_reducible rfl
             rotate_left
             ·simp only [Act.put, List.setIfInBounds_toArray, List.set_cons_zero, List.set_cons_succ, i64_w, i32_w]
              rfl
             refine pw_ 29 79 HT_.out (h := ?_)
             refine pw_ 30 80 HT_.out (h := ?_)
             refine pw_ 31 81 HT_.out (h := ?_)
             refine pw_ 32 82 HT_.out (h := ?_)
             refine pw_ 33 83 HT_.out (h := ?_)
             refine pn_ 34 84 HT_.out (h := ?_)
             refine pn_ 35 85 HT_.out (h := ?_)
             refine pn_ 36 86 HT_.out (h := ?_)
             refine pw_ 37 87 HT_.out (h := ?_)
             refine done_ (done_of HT_.out (by kernel_rfl)) ?_
             try go_wp2
             go_meet
             case rel => exact ⟨_, (true), (by first | rfl | (simp; done) | (simp [*]; done)), H', ⟨by have := HJ4.out; first | omega | exact Nat.le_refl _⟩, ⟨by (with_reducible repeat (first | apply Kd.R_alloc | apply Kd.R_drewN | apply Kd.R_drew)); exact HO_8.out⟩, ⟨by repeat (first | (with_reducible first | exact HB.out | apply below_alloc | apply pw_below_drewN | apply below_drew1) | exact HB.out)⟩⟩
            ·rw [if_neg c33] at H
             have c33b0 : (t208 != ((rd l0 a1) == (rd l0 a2))) = false := by simpa using c33
             (try (have c33b1 : decide (t208 = ((rd l0 a1) == (rd l0 a2))) = true := by simpa using c33))
             (try (have c33b2 : (t208 == ((rd l0 a1) == (rd l0 a2))) = true := by simpa using c33))
             clear c33
             have H' := Aside0.mk H
             clear H
             try go_wp2
             have n0_ := Aside0.mk (Kd.R_drew HO_8.out)
             have n1_ := Aside0.mk (below_drew1 HB.out)
             clear HO_8
             clear HB
             have HO_8 := n0_
             have HB := n1_
             clear n0_ n1_
             have p209 : 0 ≤ (a1 : Int) := of_decide_eq_true (by first | (with_reducible assumption) | assumption)
             have q209 : a1 < (l0.length : Int) := of_decide_eq_true (by first | (with_reducible assumption) | assumption)
             obtain ⟨ad209, e209, hx209_0⟩ := Kd.at_int HR0.out a1 p209 q209
             have hw209_0 := hx209_0
             cases e209
             replace hx209_0 := (HB.out.cell (World.block_lt_of_cell? w _ hx209_0)).trans hx209_0
             replace p209 := eq_true p209
             replace q209 := eq_true q209
             have p210 : 0 ≤ (a2 : Int) := of_decide_eq_true (by first | (with_reducible assumption) | assumption)
             have q210 : a2 < (l0.length : Int) := of_decide_eq_true (by first | (with_reducible assumption) | assumption)
             obtain ⟨ad210, e210, hx210_0⟩ := Kd.at_int HR0.out a2 p210 q210
             have hw210_0 := hx210_0
             obtain rfl : ad209 = ad210 := (by injection e210)
             replace hx210_0 := (HB.out.cell (World.block_lt_of_cell? w _ hx210_0)).trans hx210_0
             replace p210 := eq_true p210
             replace q210 := eq_true q210
             refine start_ (n := 38) (S := fun w' => w'.cell? (ad209.add (a1).toNat) = some (.int .i64 (rd l0 a1)) ∧ w'.cell? (ad209.add (a2).toNat) = some (.int .i64 (rd l0 a2))) (ds := []) #[false, false, false, false, false, false, false, false, false, false, false, false, false, false, false, false, false, false, false, false, false, false, false, false, false, false, false, false, false, false, false, false, false, false, false, false, false, false] (by kernel_rfl) rfl rfl ⟨((HB.out.cell (World.block_lt_of_cell? w _ hw209_0)).trans hw209_0), ((HB.out.cell (World.block_lt_of_cell? w _ hw210_0)).trans hw210_0)⟩ (fun hHeld => ?_); refine with_tabW corporalaw10_TreelabelCommon.tab6 corporalaw10_TreelabelCommon.bits6 (fun HT_ HW_ => ?_)
             generalize w16.drew = w37 at HO_8 HB hx209_0 hx210_0 hHeld ⊢
             refine pw_ 0 50 HT_.out (h := ?_)
             refine pw_ 1 51 HT_.out (h := ?_)
             refine pw_ 2 52 HT_.out (h := ?_)
             refine pw_ 3 53 HT_.out (h := ?_)
             refine pw_ 4 54 HT_.out (h := ?_)
             refine pw_ 5 55 HT_.out (h := ?_)
             refine pw_ 6 56 HT_.out (h := ?_)
             refine pw_ 7 57 HT_.out (h := ?_)
             refine pw_ 9 59 HT_.out (h := ?_)
             refine one_ (i := 8) (N := some 58) #[true, true, true, true, true, true, true, true, true, true, false, false, false, false, false, false, false, false, false, false, false, false, false, false, false, false, false, false, false, false, false, false, false, false, false, false, false, false] rfl rfl (one_of HT_.out (by kernel_rfl)) (by decide) (fun K hK => ?_)
             refine goes_ Try.func26 (by kernel_rfl) rfl #[.slice Ao15 t201.length co15, .int .i64 a2, .int .i64 a1] (by rfl) rfl rfl (by (try simp only [List.map_toArray, List.map_cons, List.map_nil]); first | done | rfl | (simp only [List.length_drop, List.length_take]; rfl)) ?_
             with_reducible refine (treelabel_Common.calls kj4 _ _ t201 a2 a1 t207 _ ?side1 ?side2 A18.out).mono ?_
             (case side1 => repeat (first | exact (Kd.R_reads' HO_8.out).2.2 | (with_reducible refine Kd.C_alloc ?_ _) | (with_reducible refine Kd.C_drewN ?_ _) | (with_reducible refine Kd.C_drew ?_)))
             (case side2 => exact (Kd.R_reads' HO_8.out).2.1)
             rintro e w38 ⟨rfl, hb⟩
             refine ⟨_, rfl, ?_⟩
             have n0_ := Aside0.mk (Kd.R_below (by (with_reducible repeat (first | apply Kd.R_alloc | apply Kd.R_drewN | apply Kd.R_drew)); exact HO_8.out) hb)
             have n1_ := Aside0.mk (below_step (by repeat (first | (with_reducible first | exact HB.out | apply below_alloc | apply pw_below_drewN | apply below_drew1) | exact HB.out)) hb)
             clear HO_8
             clear HB
             have HO_8 := n0_
             have HB := n1_
             clear n0_ n1_
             (try clear hb)
             (try clear hb2)
             (try clear hk)
             (try clear hi)
             refine hK.out _ _ ⟨((HB.out.cell (World.block_lt_of_cell? w _ hw209_0)).trans hw209_0), ((HB.out.cell (World.block_lt_of_cell? w _ hw210_0)).trans hw210_0)⟩ (fun hHeld => ?_)
             clear hK K
             refine norm_ (a' := ?_) ?_ ?_
             rotate_left
             ·show Act.put _ (some 58) _ = _
              simp only [Act.put, List.setIfInBounds_toArray, List.set_cons_zero, List.set_cons_succ, i64_w, i32_w]
              rfl
             refine pw_ 10 60 HT_.out (h := ?_)
             refine pw_ 11 61 HT_.out (h := ?_)
             refine pw_ 12 62 HT_.out (h := ?_)
             refine pw_ 13 63 HT_.out (h := ?_)
             refine pw_ 14 64 HT_.out (h := ?_)
             refine pw_ 15 65 HT_.out (h := ?_)
             refine pw_ 17 67 HT_.out (h := ?_)
             refine pw_ 18 68 HT_.out (h := ?_)
             refine pw_ 19 69 HT_.out (h := ?_)
             refine one_ (i := 16) (N := some 66) #[true, true, true, true, true, true, true, true, true, true, true, true, true, true, true, true, true, true, true, true, false, false, false, false, false, false, false, false, false, false, false, false, false, false, false, false, false, false] rfl rfl (one_of HT_.out (by kernel_rfl)) (by decide) (fun K hK => ?_)
             refine goes_ Try.func24 (by kernel_rfl) rfl #[.slice Ao15 t201.length co15, .int .i64 a1, .int .i64 a2] (by rfl) rfl rfl (by (try simp only [List.map_toArray, List.map_cons, List.map_nil]); first | done | rfl | (simp only [List.length_drop, List.length_take]; rfl)) ?_
             with_reducible refine (treelabel_Sisters.calls kj4 _ _ t201 a1 a2 t208 _ ?side1 ?side2 A20.out).mono ?_
             (case side1 => repeat (first | exact (Kd.R_reads' HO_8.out).2.2 | (with_reducible refine Kd.C_alloc ?_ _) | (with_reducible refine Kd.C_drewN ?_ _) | (with_reducible refine Kd.C_drew ?_)))
             (case side2 => exact (Kd.R_reads' HO_8.out).2.1)
             rintro e w39 ⟨rfl, hb⟩
             refine ⟨_, rfl, ?_⟩
             have n0_ := Aside0.mk (Kd.R_below (by (with_reducible repeat (first | apply Kd.R_alloc | apply Kd.R_drewN | apply Kd.R_drew)); exact HO_8.out) hb)
             have n1_ := Aside0.mk (below_step (by repeat (first | (with_reducible first | exact HB.out | apply below_alloc | apply pw_below_drewN | apply below_drew1) | exact HB.out)) hb)
             clear HO_8
             clear HB
             have HO_8 := n0_
             have HB := n1_
             clear n0_ n1_
             (try clear hb)
             (try clear hb2)
             (try clear hk)
             (try clear hi)
             refine hK.out _ _ ⟨((HB.out.cell (World.block_lt_of_cell? w _ hw209_0)).trans hw209_0), ((HB.out.cell (World.block_lt_of_cell? w _ hw210_0)).trans hw210_0)⟩ (fun hHeld => ?_)
             clear hK K
             refine norm_ (a' := ?_) ?_ ?_
             rotate_left
             ·show Act.put _ (some 66) _ = _
              simp only [Act.put, List.setIfInBounds_toArray, List.set_cons_zero, List.set_cons_succ, i64_w, i32_w]
              rfl
             refine pw_ 20 70 HT_.out (h := ?_)
             refine pw_ 21 71 HT_.out (h := ?_)
             refine pw_ 22 72 HT_.out (h := ?_)
             refine pw_ 23 73 HT_.out (h := ?_)
             refine pw_ 25 75 HT_.out (h := ?_)
             refine pw_ 26 76 HT_.out (h := ?_)
             refine pw_ 27 77 HT_.out (h := ?_)
             refine take_ (i := 24) (N := some 74) (v := ?_) (a' := ?_) #[true, true, true, true, true, true, true, true, true, true, true, true, true, true, true, true, true, true, true, true, true, true, true, true, true, true, true, true, false, false, false, false, false, false, false, false, false, false] rfl rfl (take_ofW HT_.out HW_.out (by kernel_rfl)) (fun _ _ _ h => h) (Or.inl ⟨by rfl, ?_⟩) hHeld ?_ ?_
             rotate_left
             ·rintro w' ⟨s0, s1⟩
              go_simp
              with_reducible rfl
             rotate_left
             ·simp only [Act.put, List.setIfInBounds_toArray, List.set_cons_zero, List.set_cons_succ, i64_w, i32_w]
              rfl
             refine take_ (i := 28) (N := some 78) (v := ?_) (a' := ?_) #[true, true, true, true, true, true, true, true, true, true, true, true, true, true, true, true, true, true, true, true, true, true, true, true, true, true, true, true, true, false, false, false, false, false, false, false, false, false] rfl rfl (take_ofW HT_.out HW_.out (by kernel_rfl)) (fun _ _ _ h => h) (Or.inl ⟨by rfl, ?_⟩) hHeld ?_ ?_
             rotate_left
             ·rintro w' ⟨s0, s1⟩
              go_simp
              with_reducible rfl
             rotate_left
             ·simp only [Act.put, List.setIfInBounds_toArray, List.set_cons_zero, List.set_cons_succ, i64_w, i32_w]
              rfl
             refine pw_ 29 79 HT_.out (h := ?_)
             refine pw_ 30 80 HT_.out (h := ?_)
             refine pw_ 31 81 HT_.out (h := ?_)
             refine pw_ 32 82 HT_.out (h := ?_)
             refine pw_ 33 83 HT_.out (h := ?_)
             refine pw_ 34 84 HT_.out (h := ?_)
             refine pw_ 35 85 HT_.out (h := ?_)
             refine pw_ 36 86 HT_.out (h := ?_)
             refine pw_ 37 87 HT_.out (h := ?_)
             refine done_ (done_of HT_.out (by kernel_rfl)) ?_
             try go_wp2
             go_meet
             case rel => exact ⟨_, (decide (t206 ≥ (l0.length : Int))), (by first | rfl | (simp; done) | (simp [*]; done)), H', ⟨by have := HJ4.out; first | omega | exact Nat.le_refl _⟩, ⟨by (with_reducible repeat (first | apply Kd.R_alloc | apply Kd.R_drewN | apply Kd.R_drew)); exact HO_8.out⟩, ⟨by repeat (first | (with_reducible first | exact HB.out | apply below_alloc | apply pw_below_drewN | apply below_drew1) | exact HB.out)⟩⟩
           ·rw [if_neg c32] at H
            exact absurd H (by simp)
          ·rw [if_neg c31] at H
           exact absurd H (by simp)
         ·rw [if_neg c30] at H
          exact absurd H (by simp)
        ·rw [if_neg c29] at H
         exact absurd H (by simp)
      ·rw [if_neg c19] at H
       have c19b0 : (t207 == t206) = false := beq_eq_false_iff_ne.mpr c19
       have c19b1 : (t207 != t206) = true := bne_iff_ne.mpr c19
       have H' := Aside0.mk H
       clear H
       try go_wp2
       have n0_ := Aside0.mk (Kd.R_drew HO_8.out)
       have n1_ := Aside0.mk (below_drew1 HB.out)
       clear HO_8
       clear HB
       have HO_8 := n0_
       have HB := n1_
       clear n0_ n1_
       refine start_ (n := 38) (S := fun w' => True) (ds := []) #[false, false, false, false, false, false, false, false, false, false, false, false, false, false, false, false, false, false, false, false, false, false, false, false, false, false, false, false, false, false, false, false, false, false, false, false, false, false] (by kernel_rfl) rfl rfl trivial (fun hHeld => ?_); refine with_tabW corporalaw10_TreelabelCommon.tab6 corporalaw10_TreelabelCommon.bits6 (fun HT_ HW_ => ?_)
       generalize w16.drew = w40 at HO_8 HB hHeld ⊢
       refine pw_ 0 50 HT_.out (h := ?_)
       refine pw_ 1 51 HT_.out (h := ?_)
       refine pw_ 2 52 HT_.out (h := ?_)
       refine pw_ 3 53 HT_.out (h := ?_)
       refine pw_ 4 54 HT_.out (h := ?_)
       refine pw_ 5 55 HT_.out (h := ?_)
       refine pw_ 6 56 HT_.out (h := ?_)
       refine pw_ 7 57 HT_.out (h := ?_)
       refine pw_ 9 59 HT_.out (h := ?_)
       refine one_ (i := 8) (N := some 58) #[true, true, true, true, true, true, true, true, true, true, false, false, false, false, false, false, false, false, false, false, false, false, false, false, false, false, false, false, false, false, false, false, false, false, false, false, false, false] rfl rfl (one_of HT_.out (by kernel_rfl)) (by decide) (fun K hK => ?_)
       refine goes_ Try.func26 (by kernel_rfl) rfl #[.slice Ao15 t201.length co15, .int .i64 a2, .int .i64 a1] (by rfl) rfl rfl (by (try simp only [List.map_toArray, List.map_cons, List.map_nil]); first | done | rfl | (simp only [List.length_drop, List.length_take]; rfl)) ?_
       with_reducible refine (treelabel_Common.calls kj4 _ _ t201 a2 a1 t207 _ ?side1 ?side2 A18.out).mono ?_
       (case side1 => repeat (first | exact (Kd.R_reads' HO_8.out).2.2 | (with_reducible refine Kd.C_alloc ?_ _) | (with_reducible refine Kd.C_drewN ?_ _) | (with_reducible refine Kd.C_drew ?_)))
       (case side2 => exact (Kd.R_reads' HO_8.out).2.1)
       rintro e w41 ⟨rfl, hb⟩
       refine ⟨_, rfl, ?_⟩
       have n0_ := Aside0.mk (Kd.R_below (by (with_reducible repeat (first | apply Kd.R_alloc | apply Kd.R_drewN | apply Kd.R_drew)); exact HO_8.out) hb)
       have n1_ := Aside0.mk (below_step (by repeat (first | (with_reducible first | exact HB.out | apply below_alloc | apply pw_below_drewN | apply below_drew1) | exact HB.out)) hb)
       clear HO_8
       clear HB
       have HO_8 := n0_
       have HB := n1_
       clear n0_ n1_
       (try clear hb)
       (try clear hb2)
       (try clear hk)
       (try clear hi)
       refine hK.out _ _ trivial (fun hHeld => ?_)
       clear hK K
       refine norm_ (a' := ?_) ?_ ?_
       rotate_left
       ·show Act.put _ (some 58) _ = _
        simp only [Act.put, List.setIfInBounds_toArray, List.set_cons_zero, List.set_cons_succ, i64_w, i32_w]
        rfl
       refine pw_ 10 60 HT_.out (h := ?_)
       refine pw_ 11 61 HT_.out (h := ?_)
       refine pw_ 12 62 HT_.out (h := ?_)
       refine pn_ 13 63 HT_.out (h := ?_)
       refine pn_ 14 64 HT_.out (h := ?_)
       refine pn_ 15 65 HT_.out (h := ?_)
       refine pn_ 16 66 HT_.out (h := ?_)
       refine pn_ 17 67 HT_.out (h := ?_)
       refine pn_ 18 68 HT_.out (h := ?_)
       refine pn_ 19 69 HT_.out (h := ?_)
       refine pn_ 20 70 HT_.out (h := ?_)
       refine pn_ 21 71 HT_.out (h := ?_)
       refine pn_ 22 72 HT_.out (h := ?_)
       refine pn_ 23 73 HT_.out (h := ?_)
       refine pn_ 24 74 HT_.out (h := ?_)
       refine pn_ 25 75 HT_.out (h := ?_)
       refine pn_ 26 76 HT_.out (h := ?_)
       refine pn_ 27 77 HT_.out (h := ?_)
       refine pn_ 28 78 HT_.out (h := ?_)
       refine pn_ 29 79 HT_.out (h := ?_)
       refine pn_ 30 80 HT_.out (h := ?_)
       refine pn_ 31 81 HT_.out (h := ?_)
       refine pw_ 32 82 HT_.out (h := ?_)
       refine pw_ 33 83 HT_.out (h := ?_)
       refine pn_ 34 84 HT_.out (h := ?_)
       refine pn_ 35 85 HT_.out (h := ?_)
       refine pn_ 36 86 HT_.out (h := ?_)
       refine pw_ 37 87 HT_.out (h := ?_)
       refine done_ (done_of HT_.out (by kernel_rfl)) ?_
       try go_wp2
       go_meet
       case rel => exact ⟨_, (true), (by first | rfl | (simp; done) | (simp [*]; done)), H', ⟨by have := HJ4.out; first | omega | exact Nat.le_refl _⟩, ⟨by (with_reducible repeat (first | apply Kd.R_alloc | apply Kd.R_drewN | apply Kd.R_drew)); exact HO_8.out⟩, ⟨by repeat (first | (with_reducible first | exact HB.out | apply below_alloc | apply pw_below_drewN | apply below_drew1) | exact HB.out)⟩⟩
     ·rw [if_neg c17] at H
      have c17b0 : ((t201.length : Int) == (l0.length : Int)) = false := beq_eq_false_iff_ne.mpr c17
      have c17b1 : ((t201.length : Int) != (l0.length : Int)) = true := bne_iff_ne.mpr c17
      have c17b2 : (t201.length == l0.length) = false := by first | simpa using c17 | (simp at c17 ⊢; omega)
      (first | rw [c17b0] | (simp only [i64_w, i32_w]; rw [c17b0]) | skip)
      have H' := Aside0.mk H
      clear H
      try go_wp2
      have n0_ := Aside0.mk (Kd.R_drew HO_8.out)
      have n1_ := Aside0.mk (below_drew1 HB.out)
      clear HO_8
      clear HB
      have HO_8 := n0_
      have HB := n1_
      clear n0_ n1_
      refine start_ (n := 38) (S := fun w' => True) (ds := []) #[false, false, false, false, false, false, false, false, false, false, false, false, false, false, false, false, false, false, false, false, false, false, false, false, false, false, false, false, false, false, false, false, false, false, false, false, false, false] (by kernel_rfl) rfl rfl trivial (fun hHeld => ?_); refine with_tabW corporalaw10_TreelabelCommon.tab6 corporalaw10_TreelabelCommon.bits6 (fun HT_ HW_ => ?_)
      generalize w16.drew = w42 at HO_8 HB hHeld ⊢
      refine pw_ 0 50 HT_.out (h := ?_)
      refine pw_ 1 51 HT_.out (h := ?_)
      refine pw_ 2 52 HT_.out (h := ?_)
      refine pw_ 3 53 HT_.out (h := ?_)
      refine pw_ 4 54 HT_.out (h := ?_)
      refine pn_ 5 55 HT_.out (h := ?_)
      refine pn_ 6 56 HT_.out (h := ?_)
      refine pn_ 7 57 HT_.out (h := ?_)
      refine pn_ 8 58 HT_.out (h := ?_)
      refine pn_ 9 59 HT_.out (h := ?_)
      refine pn_ 10 60 HT_.out (h := ?_)
      refine pw_ 11 61 HT_.out (h := ?_)
      refine pw_ 12 62 HT_.out (h := ?_)
      refine pn_ 13 63 HT_.out (h := ?_)
      refine pn_ 14 64 HT_.out (h := ?_)
      refine pn_ 15 65 HT_.out (h := ?_)
      refine pn_ 16 66 HT_.out (h := ?_)
      refine pn_ 17 67 HT_.out (h := ?_)
      refine pn_ 18 68 HT_.out (h := ?_)
      refine pn_ 19 69 HT_.out (h := ?_)
      refine pn_ 20 70 HT_.out (h := ?_)
      refine pn_ 21 71 HT_.out (h := ?_)
      refine pn_ 22 72 HT_.out (h := ?_)
      refine pn_ 23 73 HT_.out (h := ?_)
      refine pn_ 24 74 HT_.out (h := ?_)
      refine pn_ 25 75 HT_.out (h := ?_)
      refine pn_ 26 76 HT_.out (h := ?_)
      refine pn_ 27 77 HT_.out (h := ?_)
      refine pn_ 28 78 HT_.out (h := ?_)
      refine pn_ 29 79 HT_.out (h := ?_)
      refine pn_ 30 80 HT_.out (h := ?_)
      refine pn_ 31 81 HT_.out (h := ?_)
      refine pw_ 32 82 HT_.out (h := ?_)
      refine pw_ 33 83 HT_.out (h := ?_)
      refine pn_ 34 84 HT_.out (h := ?_)
      refine pn_ 35 85 HT_.out (h := ?_)
      refine pn_ 36 86 HT_.out (h := ?_)
      refine pw_ 37 87 HT_.out (h := ?_)
      refine done_ (done_of HT_.out (by kernel_rfl)) ?_
      try go_wp2
      go_meet
      case rel => exact ⟨_, (true), (by first | rfl | (simp; done) | (simp [*]; done)), H', ⟨by have := HJ4.out; first | omega | exact Nat.le_refl _⟩, ⟨by (with_reducible repeat (first | apply Kd.R_alloc | apply Kd.R_drewN | apply Kd.R_drew)); exact HO_8.out⟩, ⟨by repeat (first | (with_reducible first | exact HB.out | apply below_alloc | apply pw_below_drewN | apply below_drew1) | exact HB.out)⟩⟩
    case rest =>
     clear HC14
     try clear c1
     try clear c2
     try clear p2
     try clear c3
     try clear c17
     try clear c17b0
     try clear c17b1
     try clear c17b2
     try clear c19
     try clear c19b0
     try clear c19b1
     try clear c26
     try clear c29
     try clear c30
     try clear c31
     try clear c32
     obtain ⟨kq, x87_13, rfl, HA, HJ13, HO_8, HB⟩ := hcut
     cases kq with
     | zero => exact absurd HA.out (by simp [corporalaw10_TreelabelCommon.j1])
     | succ kj13 =>
      have H := HA.out
      clear HA
      simp only [corporalaw10_TreelabelCommon.j1] at H
      by_cases c43 : x87_13 = true
      ·subst c43
       have H1 : (some false) = some r := by rw [if_pos rfl] at H; exact H
       clear H
       have H := H1
       clear H1
       obtain rfl := Option.some.inj H
       go_wp2
       go_ret
       exact ⟨by first | rfl | (simp [errW_none, errW_some] <;> rfl) | (simp [*, errW_none, errW_some] <;> rfl), by repeat (first | (with_reducible first | exact HB.out | apply below_alloc | apply pw_below_drewN | apply below_drew1) | exact HB.out)⟩
      ·replace c43 := Bool.eq_false_iff.mpr c43
       subst c43
       have H1 : (corporalaw10_TreelabelCommon.l0 kj13 a1 a2 (l0.length : Int) t201 t206 0) = some r := by rw [if_neg (show ¬ (false = true) by decide)] at H; exact H
       clear H
       have H := H1
       clear H1
       have H' := Aside0.mk H
       clear H
       go_wp2
       go_loopg [12] kj13 (fun kq v12 w' => ∃ (x12_3 : Int), v12 = .int .i64 x12_3 ∧ Aside0 (corporalaw10_TreelabelCommon.l0 kq a1 a2 (l0.length : Int) t201 t206 x12_3 = some r) ∧ Aside0 (kq ≤ kj13) ∧ Aside0 (Kd.R k41 41 w' w.heap.size (fun _ => True) (.slice Ao15 t201.length co15) t201) ∧ Aside0 (Below w.heap.size w w'))
       case atStart => exact ⟨(0), (by first | rfl | (simp; done) | (simp [*]; done)), H', ⟨Nat.le_refl _⟩, ⟨by (with_reducible repeat (first | apply Kd.R_alloc | apply Kd.R_drewN | apply Kd.R_drew)); exact HO_8.out⟩, ⟨by repeat (first | (with_reducible first | exact HB.out | apply below_alloc | apply pw_below_drewN | apply below_drew1) | exact HB.out)⟩⟩
       case round =>
        clear H'
        try clear c1
        try clear c2
        try clear p2
        try clear c3
        try clear c4
        try clear c17
        try clear c17b0
        try clear c17b1
        try clear c17b2
        try clear c19
        try clear c19b0
        try clear c19b1
        try clear c26
        try clear c29
        try clear c30
        try clear c31
        try clear c32
        try clear c43
        try clear p2
        obtain ⟨x12_3, rfl, HA, HK3, HO_8, HB⟩ := hrel
        cases gk with
        | zero => exact absurd HA.out (by simp [corporalaw10_TreelabelCommon.l0])
        | succ k3 =>
         have H := HA.out
         clear HA
         simp only [corporalaw10_TreelabelCommon.l0] at H
         by_cases c44 : x12_3 < (l0.length : Int)
         ·rw [if_pos c44] at H
          have c44b0 : decide (x12_3 < (l0.length : Int)) = true := decide_eq_true c44
          clear c44
          have HC45 := Aside0.mk H
          clear H
          go_upto_region 11 with (fail)
          go_cut [13] (fun v13 wc => ∃ (kq : Nat) (x13_44 : Bool), v13 = .bool x13_44 ∧ Aside0 (corporalaw10_TreelabelCommon.j3 kq a1 a2 (l0.length : Int) t201 t206 x12_3 x13_44 = some r) ∧ Aside0 (kq ≤ k3) ∧ Aside0 (Kd.R k41 41 wc w.heap.size (fun _ => True) (.slice Ao15 t201.length co15) t201) ∧ Aside0 (Below w.heap.size w wc))
          case first => as_aux_lemma =>
           have H := HC45.out
           clear HC45
           by_cases c46 : x12_3 = a1
           ·rw [if_pos c46] at H
            have c46b0 : (x12_3 == a1) = true := beq_iff_eq.mpr c46
            have c46b1 : (x12_3 != a1) = false := bne_eq_false_iff_eq.mpr c46
            clear c46
            (first | rw [c46b0] | (simp only [i64_w, i32_w]; rw [c46b0]) | skip)
            by_cases c47 : x12_3 = a2
            ·rw [if_pos c47] at H
             have c47b0 : (x12_3 == a2) = true := beq_iff_eq.mpr c47
             have c47b1 : (x12_3 != a2) = false := bne_eq_false_iff_eq.mpr c47
             clear c47
             have H' := Aside0.mk H
             clear H
             try go_wp2
             have n0_ := Aside0.mk (Kd.R_drew HO_8.out)
             have n1_ := Aside0.mk (below_drew1 HB.out)
             clear HO_8
             clear HB
             have HO_8 := n0_
             have HB := n1_
             clear n0_ n1_
             refine start_ (n := 31) (S := fun w' => True) (ds := []) #[false, false, false, false, false, false, false, false, false, false, false, false, false, false, false, false, false, false, false, false, false, false, false, false, false, false, false, false, false, false, false] (by kernel_rfl) rfl rfl trivial (fun hHeld => ?_); refine with_tabW corporalaw10_TreelabelCommon.tab11 corporalaw10_TreelabelCommon.bits11 (fun HT_ HW_ => ?_)
             generalize wr.drew = w48 at HO_8 HB hHeld ⊢
             refine pw_ 0 93 HT_.out (h := ?_)
             refine pw_ 1 94 HT_.out (h := ?_)
             refine pw_ 2 95 HT_.out (h := ?_)
             refine pw_ 3 96 HT_.out (h := ?_)
             refine pn_ 4 97 HT_.out (h := ?_)
             refine pn_ 5 98 HT_.out (h := ?_)
             refine pn_ 6 99 HT_.out (h := ?_)
             refine pn_ 7 100 HT_.out (h := ?_)
             refine pn_ 8 101 HT_.out (h := ?_)
             refine pn_ 9 102 HT_.out (h := ?_)
             refine pn_ 10 103 HT_.out (h := ?_)
             refine pn_ 11 104 HT_.out (h := ?_)
             refine pn_ 12 105 HT_.out (h := ?_)
             refine pw_ 13 106 HT_.out (h := ?_)
             refine pw_ 14 107 HT_.out (h := ?_)
             refine pw_ 15 108 HT_.out (h := ?_)
             refine pw_ 16 109 HT_.out (h := ?_)
             refine pw_ 17 110 HT_.out (h := ?_)
             refine pw_ 18 111 HT_.out (h := ?_)
             refine pn_ 19 112 HT_.out (h := ?_)
             refine pn_ 20 113 HT_.out (h := ?_)
             refine pn_ 21 114 HT_.out (h := ?_)
             refine pn_ 22 115 HT_.out (h := ?_)
             refine pn_ 23 116 HT_.out (h := ?_)
             refine pn_ 24 117 HT_.out (h := ?_)
             refine pn_ 25 118 HT_.out (h := ?_)
             refine pn_ 26 119 HT_.out (h := ?_)
             refine pn_ 27 120 HT_.out (h := ?_)
             refine pw_ 28 121 HT_.out (h := ?_)
             refine pw_ 29 122 HT_.out (h := ?_)
             refine pw_ 30 13 HT_.out (h := ?_)
             refine done_ (done_of HT_.out (by kernel_rfl)) ?_
             try go_wp2
             go_meet
             case rel => exact ⟨_, (true), (by first | rfl | (simp; done) | (simp [*]; done)), H', ⟨by have := HJ4.out; have := HJ13.out; have := HK3.out; first | omega | exact Nat.le_refl _⟩, ⟨by (with_reducible repeat (first | apply Kd.R_alloc | apply Kd.R_drewN | apply Kd.R_drew)); exact HO_8.out⟩, ⟨by repeat (first | (with_reducible first | exact HB.out | apply below_alloc | apply pw_below_drewN | apply below_drew1) | exact HB.out)⟩⟩
            ·rw [if_neg c47] at H
             have c47b0 : (x12_3 == a2) = false := beq_eq_false_iff_ne.mpr c47
             have c47b1 : (x12_3 != a2) = true := bne_iff_ne.mpr c47
             by_cases c49 : 0 ≤ x12_3
             ·rw [if_pos c49] at H
              have c49b0 : decide (0 ≤ x12_3) = true := decide_eq_true c49
              clear c49
              by_cases c50 : x12_3 < (t201.length : Int)
              ·rw [if_pos c50] at H
               have c50b0 : decide (x12_3 < (t201.length : Int)) = true := decide_eq_true c50
               clear c50
               by_cases c51 : 0 ≤ a2
               ·rw [if_pos c51] at H
                have c51b0 : decide (0 ≤ a2) = true := decide_eq_true c51
                clear c51
                by_cases c52 : a2 < (t201.length : Int)
                ·rw [if_pos c52] at H
                 have c52b0 : decide (a2 < (t201.length : Int)) = true := decide_eq_true c52
                 clear c52
                 replace H := Option.bind_eq_some_iff.mp H
                 obtain ⟨t213, A530, H⟩ := H
                 replace H : (corporalaw10_TreelabelCommon.j3 k3 a1 a2 (l0.length : Int) t201 t206 x12_3 t213) = some r := H
                 have A53 := Aside0.mk A530
                 clear A530
                 have H' := Aside0.mk H
                 clear H
                 try go_wp2
                 have n0_ := Aside0.mk (Kd.R_drew HO_8.out)
                 have n1_ := Aside0.mk (below_drew1 HB.out)
                 clear HO_8
                 clear HB
                 have HO_8 := n0_
                 have HB := n1_
                 clear n0_ n1_
                 have p211 : 0 ≤ (x12_3 : Int) := of_decide_eq_true (by first | (with_reducible assumption) | assumption)
                 have q211 : x12_3 < (t201.length : Int) := of_decide_eq_true (by first | (with_reducible assumption) | assumption)
                 obtain ⟨ad211, e211, hx211_0, hx211_1, hx211_2⟩ := at_T41 (Kd.R_reads' HO_8.out).2.2 x12_3 p211 q211
                 cases e211
                 replace p211 := eq_true p211
                 replace q211 := eq_true q211
                 have p212 : 0 ≤ (a2 : Int) := of_decide_eq_true (by first | (with_reducible assumption) | assumption)
                 have q212 : a2 < (t201.length : Int) := of_decide_eq_true (by first | (with_reducible assumption) | assumption)
                 obtain ⟨ad212, e212, hx212_0, hx212_1, hx212_2⟩ := at_T41 (Kd.R_reads' HO_8.out).2.2 a2 p212 q212
                 obtain rfl : ad211 = ad212 := (by injection e212)
                 replace p212 := eq_true p212
                 replace q212 := eq_true q212
                 refine start_ (n := 31) (S := fun w' => w'.cell? (ad211.add ((x12_3).toNat * 3)) = some (.int .i64 ((rd_T41 t201 x12_3).f0)) ∧ w'.cell? ⟨(ad211.add ((x12_3).toNat * 3)).block, (ad211.add ((x12_3).toNat * 3)).off + 1, none⟩ = some (.int .i64 ((rd_T41 t201 x12_3).f1)) ∧ w'.cell? ⟨(ad211.add ((x12_3).toNat * 3)).block, (ad211.add ((x12_3).toNat * 3)).off + 2, none⟩ = some (.int .i64 ((rd_T41 t201 x12_3).f2)) ∧ w'.cell? (ad211.add ((a2).toNat * 3)) = some (.int .i64 ((rd_T41 t201 a2).f0)) ∧ w'.cell? ⟨(ad211.add ((a2).toNat * 3)).block, (ad211.add ((a2).toNat * 3)).off + 1, none⟩ = some (.int .i64 ((rd_T41 t201 a2).f1)) ∧ w'.cell? ⟨(ad211.add ((a2).toNat * 3)).block, (ad211.add ((a2).toNat * 3)).off + 2, none⟩ = some (.int .i64 ((rd_T41 t201 a2).f2))) (ds := []) #[false, false, false, false, false, false, false, false, false, false, false, false, false, false, false, false, false, false, false, false, false, false, false, false, false, false, false, false, false, false, false] (by kernel_rfl) rfl rfl ⟨hx211_0, hx211_1, hx211_2, hx212_0, hx212_1, hx212_2⟩ (fun hHeld => ?_); refine with_tabW corporalaw10_TreelabelCommon.tab11 corporalaw10_TreelabelCommon.bits11 (fun HT_ HW_ => ?_)
                 generalize wr.drew = w54 at HO_8 HB hx211_0 hx211_1 hx211_2 hx212_0 hx212_1 hx212_2 hHeld ⊢
                 refine pw_ 0 93 HT_.out (h := ?_)
                 refine pw_ 1 94 HT_.out (h := ?_)
                 refine pw_ 2 95 HT_.out (h := ?_)
                 refine pw_ 3 96 HT_.out (h := ?_)
                 refine pn_ 4 97 HT_.out (h := ?_)
                 refine pn_ 5 98 HT_.out (h := ?_)
                 refine pn_ 6 99 HT_.out (h := ?_)
                 refine pn_ 7 100 HT_.out (h := ?_)
                 refine pn_ 8 101 HT_.out (h := ?_)
                 refine pn_ 9 102 HT_.out (h := ?_)
                 refine pn_ 10 103 HT_.out (h := ?_)
                 refine pn_ 11 104 HT_.out (h := ?_)
                 refine pn_ 12 105 HT_.out (h := ?_)
                 refine pw_ 13 106 HT_.out (h := ?_)
                 refine pw_ 14 107 HT_.out (h := ?_)
                 refine pw_ 15 108 HT_.out (h := ?_)
                 refine pw_ 16 109 HT_.out (h := ?_)
                 refine pw_ 17 110 HT_.out (h := ?_)
                 refine pw_ 18 111 HT_.out (h := ?_)
                 refine pw_ 19 112 HT_.out (h := ?_)
                 refine pw_ 20 113 HT_.out (h := ?_)
                 refine pw_ 21 114 HT_.out (h := ?_)
                 refine pw_ 23 116 HT_.out (h := ?_)
                 refine pw_ 24 117 HT_.out (h := ?_)
                 refine pw_ 25 118 HT_.out (h := ?_)
                 refine take_ (i := 22) (N := some 115) (v := ?_) (a' := ?_) #[true, true, true, true, true, true, true, true, true, true, true, true, true, true, true, true, true, true, true, true, true, true, true, true, true, true, false, false, false, false, false] rfl rfl (take_ofW HT_.out HW_.out (by kernel_rfl)) (fun _ _ _ h => h) (Or.inl ⟨by rfl, ?_⟩) hHeld ?_ ?_
                 rotate_left
                 ·rintro w' ⟨s0, s1, s2, s3, s4, s5⟩
                  go_simp
                  with_reducible rfl
                 rotate_left
                 ·simp only [Act.put, List.setIfInBounds_toArray, List.set_cons_zero, List.set_cons_succ, i64_w, i32_w]
                  rfl
                 refine take_ (i := 26) (N := some 119) (v := ?_) (a' := ?_) #[true, true, true, true, true, true, true, true, true, true, true, true, true, true, true, true, true, true, true, true, true, true, true, true, true, true, true, false, false, false, false] rfl rfl (take_ofW HT_.out HW_.out (by kernel_rfl)) (fun _ _ _ h => h) (Or.inl ⟨by rfl, ?_⟩) hHeld ?_ ?_
                 rotate_left
                 ·rintro w' ⟨s0, s1, s2, s3, s4, s5⟩
                  go_simp
                  with_reducible rfl
                 rotate_left
                 ·simp only [Act.put, List.setIfInBounds_toArray, List.set_cons_zero, List.set_cons_succ, i64_w, i32_w]
                  rfl
                 refine one_ (i := 27) (N := some 120) #[true, true, true, true, true, true, true, true, true, true, true, true, true, true, true, true, true, true, true, true, true, true, true, true, true, true, true, true, false, false, false] rfl rfl (one_of HT_.out (by kernel_rfl)) (by decide) (fun K hK => ?_)
                 refine goes_ Try.func20 (by kernel_rfl) rfl #[.agg #[.int .i64 ((rd_T41 t201 x12_3).f0), .int .i64 ((rd_T41 t201 x12_3).f1), .int .i64 ((rd_T41 t201 x12_3).f2)], .agg #[.int .i64 ((rd_T41 t201 a2).f0), .int .i64 ((rd_T41 t201 a2).f1), .int .i64 ((rd_T41 t201 a2).f2)]] (by rfl) rfl rfl (by (try simp only [List.map_toArray, List.map_cons, List.map_nil]); first | done | rfl | (simp only [List.length_drop, List.length_take]; rfl)) ?_
                 with_reducible refine (treelabel_Dominates.calls ((rd_T41 t201 x12_3).f0) ((rd_T41 t201 x12_3).f1) ((rd_T41 t201 x12_3).f2) ((rd_T41 t201 a2).f0) ((rd_T41 t201 a2).f1) ((rd_T41 t201 a2).f2) t213 _ A53.out).mono ?_
                 rintro e w55 ⟨rfl, hb⟩
                 have HS0_ := (hb.cell (World.block_lt_of_cell? _ _ (hHeld.1))).trans (hHeld.1)
                 have HS1_ := (hb.cell (World.block_lt_of_cell? _ _ (hHeld.2.1))).trans (hHeld.2.1)
                 have HS2_ := (hb.cell (World.block_lt_of_cell? _ _ (hHeld.2.2.1))).trans (hHeld.2.2.1)
                 have HS3_ := (hb.cell (World.block_lt_of_cell? _ _ (hHeld.2.2.2.1))).trans (hHeld.2.2.2.1)
                 have HS4_ := (hb.cell (World.block_lt_of_cell? _ _ (hHeld.2.2.2.2.1))).trans (hHeld.2.2.2.2.1)
                 have HS5_ := (hb.cell (World.block_lt_of_cell? _ _ (hHeld.2.2.2.2.2))).trans (hHeld.2.2.2.2.2)
                 refine ⟨_, rfl, ?_⟩
                 have n0_ := Aside0.mk (Kd.R_below (by (with_reducible repeat (first | apply Kd.R_alloc | apply Kd.R_drewN | apply Kd.R_drew)); exact HO_8.out) hb)
                 have n1_ := Aside0.mk (below_step (by repeat (first | (with_reducible first | exact HB.out | apply below_alloc | apply pw_below_drewN | apply below_drew1) | exact HB.out)) hb)
                 clear HO_8
                 clear HB
                 have HO_8 := n0_
                 have HB := n1_
                 clear n0_ n1_
                 (try clear hb)
                 (try clear hb2)
                 (try clear hk)
                 (try clear hi)
                 refine hK.out _ _ ⟨HS0_, HS1_, HS2_, HS3_, HS4_, HS5_⟩ (fun hHeld => ?_)
                 clear hK K
                 refine norm_ (a' := ?_) ?_ ?_
                 rotate_left
                 ·show Act.put _ (some 120) _ = _
                  simp only [Act.put, List.setIfInBounds_toArray, List.set_cons_zero, List.set_cons_succ, i64_w, i32_w]
                  rfl
                 refine pw_ 28 121 HT_.out (h := ?_)
                 refine pw_ 29 122 HT_.out (h := ?_)
                 refine pw_ 30 13 HT_.out (h := ?_)
                 refine done_ (done_of HT_.out (by kernel_rfl)) ?_
                 try go_wp2
                 go_meet
                 case rel => exact ⟨_, (t213), (by first | rfl | (simp; done) | (simp [*]; done)), H', ⟨by have := HJ4.out; have := HJ13.out; have := HK3.out; first | omega | exact Nat.le_refl _⟩, ⟨by (with_reducible repeat (first | apply Kd.R_alloc | apply Kd.R_drewN | apply Kd.R_drew)); exact HO_8.out⟩, ⟨by repeat (first | (with_reducible first | exact HB.out | apply below_alloc | apply pw_below_drewN | apply below_drew1) | exact HB.out)⟩⟩
                ·rw [if_neg c52] at H
                 exact absurd H (by simp)
               ·rw [if_neg c51] at H
                exact absurd H (by simp)
              ·rw [if_neg c50] at H
               exact absurd H (by simp)
             ·rw [if_neg c49] at H
              exact absurd H (by simp)
           ·rw [if_neg c46] at H
            have c46b0 : (x12_3 == a1) = false := beq_eq_false_iff_ne.mpr c46
            have c46b1 : (x12_3 != a1) = true := bne_iff_ne.mpr c46
            (first | rw [c46b0] | (simp only [i64_w, i32_w]; rw [c46b0]) | skip)
            by_cases c56 : 0 ≤ x12_3
            ·rw [if_pos c56] at H
             have c56b0 : decide (0 ≤ x12_3) = true := decide_eq_true c56
             clear c56
             by_cases c57 : x12_3 < (t201.length : Int)
             ·rw [if_pos c57] at H
              have c57b0 : decide (x12_3 < (t201.length : Int)) = true := decide_eq_true c57
              clear c57
              by_cases c58 : 0 ≤ a1
              ·rw [if_pos c58] at H
               have c58b0 : decide (0 ≤ a1) = true := decide_eq_true c58
               clear c58
               by_cases c59 : a1 < (t201.length : Int)
               ·rw [if_pos c59] at H
                have c59b0 : decide (a1 < (t201.length : Int)) = true := decide_eq_true c59
                clear c59
                replace H := Option.bind_eq_some_iff.mp H
                obtain ⟨t216, A600, H⟩ := H
                replace H : (if t216 = true then (if x12_3 = a2 then (corporalaw10_TreelabelCommon.j3 k3 a1 a2 (l0.length : Int) t201 t206 x12_3 true) else (if 0 ≤ a2 then (if a2 < (t201.length : Int) then ((treelabel_Dominates.f ((rd_T41 t201 x12_3).f0) ((rd_T41 t201 x12_3).f1) ((rd_T41 t201 x12_3).f2) ((rd_T41 t201 a2).f0) ((rd_T41 t201 a2).f1) ((rd_T41 t201 a2).f2)).bind fun t219 => (corporalaw10_TreelabelCommon.j3 k3 a1 a2 (l0.length : Int) t201 t206 x12_3 t219)) else (none)) else (none))) else (corporalaw10_TreelabelCommon.j3 k3 a1 a2 (l0.length : Int) t201 t206 x12_3 false)) = some r := H
                have A60 := Aside0.mk A600
                clear A600
                by_cases c61 : t216 = true
                ·subst c61
                 have H1 : (if x12_3 = a2 then (corporalaw10_TreelabelCommon.j3 k3 a1 a2 (l0.length : Int) t201 t206 x12_3 true) else (if 0 ≤ a2 then (if a2 < (t201.length : Int) then ((treelabel_Dominates.f ((rd_T41 t201 x12_3).f0) ((rd_T41 t201 x12_3).f1) ((rd_T41 t201 x12_3).f2) ((rd_T41 t201 a2).f0) ((rd_T41 t201 a2).f1) ((rd_T41 t201 a2).f2)).bind fun t219 => (corporalaw10_TreelabelCommon.j3 k3 a1 a2 (l0.length : Int) t201 t206 x12_3 t219)) else (none)) else (none))) = some r := by rw [if_pos rfl] at H; exact H
                 clear H
                 have H := H1
                 clear H1
                 by_cases c62 : x12_3 = a2
                 ·rw [if_pos c62] at H
                  have c62b0 : (x12_3 == a2) = true := beq_iff_eq.mpr c62
                  have c62b1 : (x12_3 != a2) = false := bne_eq_false_iff_eq.mpr c62
                  clear c62
                  have H' := Aside0.mk H
                  clear H
                  try go_wp2
                  have n0_ := Aside0.mk (Kd.R_drew HO_8.out)
                  have n1_ := Aside0.mk (below_drew1 HB.out)
                  clear HO_8
                  clear HB
                  have HO_8 := n0_
                  have HB := n1_
                  clear n0_ n1_
                  have p214 : 0 ≤ (x12_3 : Int) := of_decide_eq_true (by first | (with_reducible assumption) | assumption)
                  have q214 : x12_3 < (t201.length : Int) := of_decide_eq_true (by first | (with_reducible assumption) | assumption)
                  obtain ⟨ad214, e214, hx214_0, hx214_1, hx214_2⟩ := at_T41 (Kd.R_reads' HO_8.out).2.2 x12_3 p214 q214
                  cases e214
                  replace p214 := eq_true p214
                  replace q214 := eq_true q214
                  have p215 : 0 ≤ (a1 : Int) := of_decide_eq_true (by first | (with_reducible assumption) | assumption)
                  have q215 : a1 < (t201.length : Int) := of_decide_eq_true (by first | (with_reducible assumption) | assumption)
                  obtain ⟨ad215, e215, hx215_0, hx215_1, hx215_2⟩ := at_T41 (Kd.R_reads' HO_8.out).2.2 a1 p215 q215
                  obtain rfl : ad214 = ad215 := (by injection e215)
                  replace p215 := eq_true p215
                  replace q215 := eq_true q215
                  refine start_ (n := 31) (S := fun w' => w'.cell? (ad214.add ((x12_3).toNat * 3)) = some (.int .i64 ((rd_T41 t201 x12_3).f0)) ∧ w'.cell? ⟨(ad214.add ((x12_3).toNat * 3)).block, (ad214.add ((x12_3).toNat * 3)).off + 1, none⟩ = some (.int .i64 ((rd_T41 t201 x12_3).f1)) ∧ w'.cell? ⟨(ad214.add ((x12_3).toNat * 3)).block, (ad214.add ((x12_3).toNat * 3)).off + 2, none⟩ = some (.int .i64 ((rd_T41 t201 x12_3).f2)) ∧ w'.cell? (ad214.add ((a1).toNat * 3)) = some (.int .i64 ((rd_T41 t201 a1).f0)) ∧ w'.cell? ⟨(ad214.add ((a1).toNat * 3)).block, (ad214.add ((a1).toNat * 3)).off + 1, none⟩ = some (.int .i64 ((rd_T41 t201 a1).f1)) ∧ w'.cell? ⟨(ad214.add ((a1).toNat * 3)).block, (ad214.add ((a1).toNat * 3)).off + 2, none⟩ = some (.int .i64 ((rd_T41 t201 a1).f2))) (ds := []) #[false, false, false, false, false, false, false, false, false, false, false, false, false, false, false, false, false, false, false, false, false, false, false, false, false, false, false, false, false, false, false] (by kernel_rfl) rfl rfl ⟨hx214_0, hx214_1, hx214_2, hx215_0, hx215_1, hx215_2⟩ (fun hHeld => ?_); refine with_tabW corporalaw10_TreelabelCommon.tab11 corporalaw10_TreelabelCommon.bits11 (fun HT_ HW_ => ?_)
                  generalize wr.drew = w63 at HO_8 HB hx214_0 hx214_1 hx214_2 hx215_0 hx215_1 hx215_2 hHeld ⊢
                  refine pw_ 0 93 HT_.out (h := ?_)
                  refine pw_ 1 94 HT_.out (h := ?_)
                  refine pw_ 2 95 HT_.out (h := ?_)
                  refine pw_ 3 96 HT_.out (h := ?_)
                  refine pw_ 4 97 HT_.out (h := ?_)
                  refine pw_ 5 98 HT_.out (h := ?_)
                  refine pw_ 6 99 HT_.out (h := ?_)
                  refine pw_ 8 101 HT_.out (h := ?_)
                  refine pw_ 9 102 HT_.out (h := ?_)
                  refine pw_ 10 103 HT_.out (h := ?_)
                  refine take_ (i := 7) (N := some 100) (v := ?_) (a' := ?_) #[true, true, true, true, true, true, true, true, true, true, true, false, false, false, false, false, false, false, false, false, false, false, false, false, false, false, false, false, false, false, false] rfl rfl (take_ofW HT_.out HW_.out (by kernel_rfl)) (fun _ _ _ h => h) (Or.inl ⟨by rfl, ?_⟩) hHeld ?_ ?_
                  rotate_left
                  ·rintro w' ⟨s0, s1, s2, s3, s4, s5⟩
                   go_simp
                   with_reducible rfl
                  rotate_left
                  ·simp only [Act.put, List.setIfInBounds_toArray, List.set_cons_zero, List.set_cons_succ, i64_w, i32_w]
                   rfl
                  refine take_ (i := 11) (N := some 104) (v := ?_) (a' := ?_) #[true, true, true, true, true, true, true, true, true, true, true, true, false, false, false, false, false, false, false, false, false, false, false, false, false, false, false, false, false, false, false] rfl rfl (take_ofW HT_.out HW_.out (by kernel_rfl)) (fun _ _ _ h => h) (Or.inl ⟨by rfl, ?_⟩) hHeld ?_ ?_
                  rotate_left
                  ·rintro w' ⟨s0, s1, s2, s3, s4, s5⟩
                   go_simp
                   with_reducible rfl
                  rotate_left
                  ·simp only [Act.put, List.setIfInBounds_toArray, List.set_cons_zero, List.set_cons_succ, i64_w, i32_w]
                   rfl
                  refine one_ (i := 12) (N := some 105) #[true, true, true, true, true, true, true, true, true, true, true, true, true, false, false, false, false, false, false, false, false, false, false, false, false, false, false, false, false, false, false] rfl rfl (one_of HT_.out (by kernel_rfl)) (by decide) (fun K hK => ?_)
                  refine goes_ Try.func20 (by kernel_rfl) rfl #[.agg #[.int .i64 ((rd_T41 t201 x12_3).f0), .int .i64 ((rd_T41 t201 x12_3).f1), .int .i64 ((rd_T41 t201 x12_3).f2)], .agg #[.int .i64 ((rd_T41 t201 a1).f0), .int .i64 ((rd_T41 t201 a1).f1), .int .i64 ((rd_T41 t201 a1).f2)]] (by rfl) rfl rfl (by (try simp only [List.map_toArray, List.map_cons, List.map_nil]); first | done | rfl | (simp only [List.length_drop, List.length_take]; rfl)) ?_
                  with_reducible refine (treelabel_Dominates.calls ((rd_T41 t201 x12_3).f0) ((rd_T41 t201 x12_3).f1) ((rd_T41 t201 x12_3).f2) ((rd_T41 t201 a1).f0) ((rd_T41 t201 a1).f1) ((rd_T41 t201 a1).f2) true _ A60.out).mono ?_
                  rintro e w64 ⟨rfl, hb⟩
                  have HS0_ := (hb.cell (World.block_lt_of_cell? _ _ (hHeld.1))).trans (hHeld.1)
                  have HS1_ := (hb.cell (World.block_lt_of_cell? _ _ (hHeld.2.1))).trans (hHeld.2.1)
                  have HS2_ := (hb.cell (World.block_lt_of_cell? _ _ (hHeld.2.2.1))).trans (hHeld.2.2.1)
                  have HS3_ := (hb.cell (World.block_lt_of_cell? _ _ (hHeld.2.2.2.1))).trans (hHeld.2.2.2.1)
                  have HS4_ := (hb.cell (World.block_lt_of_cell? _ _ (hHeld.2.2.2.2.1))).trans (hHeld.2.2.2.2.1)
                  have HS5_ := (hb.cell (World.block_lt_of_cell? _ _ (hHeld.2.2.2.2.2))).trans (hHeld.2.2.2.2.2)
                  refine ⟨_, rfl, ?_⟩
                  have n0_ := Aside0.mk (Kd.R_below (by (with_reducible repeat (first | apply Kd.R_alloc | apply Kd.R_drewN | apply Kd.R_drew)); exact HO_8.out) hb)
                  have n1_ := Aside0.mk (below_step (by repeat (first | (with_reducible first | exact HB.out | apply below_alloc | apply pw_below_drewN | apply below_drew1) | exact HB.out)) hb)
                  clear HO_8
                  clear HB
                  have HO_8 := n0_
                  have HB := n1_
                  clear n0_ n1_
                  (try clear hb)
                  (try clear hb2)
                  (try clear hk)
                  (try clear hi)
                  refine hK.out _ _ ⟨HS0_, HS1_, HS2_, HS3_, HS4_, HS5_⟩ (fun hHeld => ?_)
                  clear hK K
                  refine norm_ (a' := ?_) ?_ ?_
                  rotate_left
                  ·show Act.put _ (some 105) _ = _
                   simp only [Act.put, List.setIfInBounds_toArray, List.set_cons_zero, List.set_cons_succ, i64_w, i32_w]
                   rfl
                  refine pw_ 13 106 HT_.out (h := ?_)
                  refine pw_ 14 107 HT_.out (h := ?_)
                  refine pw_ 15 108 HT_.out (h := ?_)
                  refine pw_ 16 109 HT_.out (h := ?_)
                  refine pw_ 17 110 HT_.out (h := ?_)
                  refine pw_ 18 111 HT_.out (h := ?_)
                  refine pn_ 19 112 HT_.out (h := ?_)
                  refine pn_ 20 113 HT_.out (h := ?_)
                  refine pn_ 21 114 HT_.out (h := ?_)
                  refine pn_ 22 115 HT_.out (h := ?_)
                  refine pn_ 23 116 HT_.out (h := ?_)
                  refine pn_ 24 117 HT_.out (h := ?_)
                  refine pn_ 25 118 HT_.out (h := ?_)
                  refine pn_ 26 119 HT_.out (h := ?_)
                  refine pn_ 27 120 HT_.out (h := ?_)
                  refine pw_ 28 121 HT_.out (h := ?_)
                  refine pw_ 29 122 HT_.out (h := ?_)
                  refine pw_ 30 13 HT_.out (h := ?_)
                  refine done_ (done_of HT_.out (by kernel_rfl)) ?_
                  try go_wp2
                  go_meet
                  case rel => exact ⟨_, (true), (by first | rfl | (simp; done) | (simp [*]; done)), H', ⟨by have := HJ4.out; have := HJ13.out; have := HK3.out; first | omega | exact Nat.le_refl _⟩, ⟨by (with_reducible repeat (first | apply Kd.R_alloc | apply Kd.R_drewN | apply Kd.R_drew)); exact HO_8.out⟩, ⟨by repeat (first | (with_reducible first | exact HB.out | apply below_alloc | apply pw_below_drewN | apply below_drew1) | exact HB.out)⟩⟩
                 ·rw [if_neg c62] at H
                  have c62b0 : (x12_3 == a2) = false := beq_eq_false_iff_ne.mpr c62
                  have c62b1 : (x12_3 != a2) = true := bne_iff_ne.mpr c62
                  by_cases c65 : 0 ≤ a2
                  ·rw [if_pos c65] at H
                   have c65b0 : decide (0 ≤ a2) = true := decide_eq_true c65
                   clear c65
                   by_cases c66 : a2 < (t201.length : Int)
                   ·rw [if_pos c66] at H
                    have c66b0 : decide (a2 < (t201.length : Int)) = true := decide_eq_true c66
                    clear c66
                    replace H := Option.bind_eq_some_iff.mp H
                    obtain ⟨t219, A670, H⟩ := H
                    replace H : (corporalaw10_TreelabelCommon.j3 k3 a1 a2 (l0.length : Int) t201 t206 x12_3 t219) = some r := H
                    have A67 := Aside0.mk A670
                    clear A670
                    have H' := Aside0.mk H
                    clear H
                    try go_wp2
                    have n0_ := Aside0.mk (Kd.R_drew HO_8.out)
                    have n1_ := Aside0.mk (below_drew1 HB.out)
                    clear HO_8
                    clear HB
                    have HO_8 := n0_
                    have HB := n1_
                    clear n0_ n1_
                    have p214 : 0 ≤ (x12_3 : Int) := of_decide_eq_true (by first | (with_reducible assumption) | assumption)
                    have q214 : x12_3 < (t201.length : Int) := of_decide_eq_true (by first | (with_reducible assumption) | assumption)
                    obtain ⟨ad214, e214, hx214_0, hx214_1, hx214_2⟩ := at_T41 (Kd.R_reads' HO_8.out).2.2 x12_3 p214 q214
                    cases e214
                    replace p214 := eq_true p214
                    replace q214 := eq_true q214
                    have p215 : 0 ≤ (a1 : Int) := of_decide_eq_true (by first | (with_reducible assumption) | assumption)
                    have q215 : a1 < (t201.length : Int) := of_decide_eq_true (by first | (with_reducible assumption) | assumption)
                    obtain ⟨ad215, e215, hx215_0, hx215_1, hx215_2⟩ := at_T41 (Kd.R_reads' HO_8.out).2.2 a1 p215 q215
                    obtain rfl : ad214 = ad215 := (by injection e215)
                    replace p215 := eq_true p215
                    replace q215 := eq_true q215
                    have p217 : 0 ≤ (x12_3 : Int) := of_decide_eq_true (by first | (with_reducible assumption) | assumption)
                    have q217 : x12_3 < (t201.length : Int) := of_decide_eq_true (by first | (with_reducible assumption) | assumption)
                    obtain ⟨ad217, e217, hx217_0, hx217_1, hx217_2⟩ := at_T41 (Kd.R_reads' HO_8.out).2.2 x12_3 p217 q217
                    obtain rfl : ad214 = ad217 := (by injection e217)
                    replace p217 := eq_true p217
                    replace q217 := eq_true q217
                    have p218 : 0 ≤ (a2 : Int) := of_decide_eq_true (by first | (with_reducible assumption) | assumption)
                    have q218 : a2 < (t201.length : Int) := of_decide_eq_true (by first | (with_reducible assumption) | assumption)
                    obtain ⟨ad218, e218, hx218_0, hx218_1, hx218_2⟩ := at_T41 (Kd.R_reads' HO_8.out).2.2 a2 p218 q218
                    obtain rfl : ad214 = ad218 := (by injection e218)
                    replace p218 := eq_true p218
                    replace q218 := eq_true q218
                    refine start_ (n := 31) (S := fun w' => w'.cell? (ad214.add ((x12_3).toNat * 3)) = some (.int .i64 ((rd_T41 t201 x12_3).f0)) ∧ w'.cell? ⟨(ad214.add ((x12_3).toNat * 3)).block, (ad214.add ((x12_3).toNat * 3)).off + 1, none⟩ = some (.int .i64 ((rd_T41 t201 x12_3).f1)) ∧ w'.cell? ⟨(ad214.add ((x12_3).toNat * 3)).block, (ad214.add ((x12_3).toNat * 3)).off + 2, none⟩ = some (.int .i64 ((rd_T41 t201 x12_3).f2)) ∧ w'.cell? (ad214.add ((a1).toNat * 3)) = some (.int .i64 ((rd_T41 t201 a1).f0)) ∧ w'.cell? ⟨(ad214.add ((a1).toNat * 3)).block, (ad214.add ((a1).toNat * 3)).off + 1, none⟩ = some (.int .i64 ((rd_T41 t201 a1).f1)) ∧ w'.cell? ⟨(ad214.add ((a1).toNat * 3)).block, (ad214.add ((a1).toNat * 3)).off + 2, none⟩ = some (.int .i64 ((rd_T41 t201 a1).f2)) ∧ w'.cell? (ad214.add ((x12_3).toNat * 3)) = some (.int .i64 ((rd_T41 t201 x12_3).f0)) ∧ w'.cell? ⟨(ad214.add ((x12_3).toNat * 3)).block, (ad214.add ((x12_3).toNat * 3)).off + 1, none⟩ = some (.int .i64 ((rd_T41 t201 x12_3).f1)) ∧ w'.cell? ⟨(ad214.add ((x12_3).toNat * 3)).block, (ad214.add ((x12_3).toNat * 3)).off + 2, none⟩ = some (.int .i64 ((rd_T41 t201 x12_3).f2)) ∧ w'.cell? (ad214.add ((a2).toNat * 3)) = some (.int .i64 ((rd_T41 t201 a2).f0)) ∧ w'.cell? ⟨(ad214.add ((a2).toNat * 3)).block, (ad214.add ((a2).toNat * 3)).off + 1, none⟩ = some (.int .i64 ((rd_T41 t201 a2).f1)) ∧ w'.cell? ⟨(ad214.add ((a2).toNat * 3)).block, (ad214.add ((a2).toNat * 3)).off + 2, none⟩ = some (.int .i64 ((rd_T41 t201 a2).f2))) (ds := []) #[false, false, false, false, false, false, false, false, false, false, false, false, false, false, false, false, false, false, false, false, false, false, false, false, false, false, false, false, false, false, false] (by kernel_rfl) rfl rfl ⟨hx214_0, hx214_1, hx214_2, hx215_0, hx215_1, hx215_2, hx217_0, hx217_1, hx217_2, hx218_0, hx218_1, hx218_2⟩ (fun hHeld => ?_); refine with_tabW corporalaw10_TreelabelCommon.tab11 corporalaw10_TreelabelCommon.bits11 (fun HT_ HW_ => ?_)
                    generalize wr.drew = w68 at HO_8 HB hx214_0 hx214_1 hx214_2 hx215_0 hx215_1 hx215_2 hx217_0 hx217_1 hx217_2 hx218_0 hx218_1 hx218_2 hHeld ⊢
                    refine pw_ 0 93 HT_.out (h := ?_)
                    refine pw_ 1 94 HT_.out (h := ?_)
                    refine pw_ 2 95 HT_.out (h := ?_)
                    refine pw_ 3 96 HT_.out (h := ?_)
                    refine pw_ 4 97 HT_.out (h := ?_)
                    refine pw_ 5 98 HT_.out (h := ?_)
                    refine pw_ 6 99 HT_.out (h := ?_)
                    refine pw_ 8 101 HT_.out (h := ?_)
                    refine pw_ 9 102 HT_.out (h := ?_)
                    refine pw_ 10 103 HT_.out (h := ?_)
                    refine take_ (i := 7) (N := some 100) (v := ?_) (a' := ?_) #[true, true, true, true, true, true, true, true, true, true, true, false, false, false, false, false, false, false, false, false, false, false, false, false, false, false, false, false, false, false, false] rfl rfl (take_ofW HT_.out HW_.out (by kernel_rfl)) (fun _ _ _ h => h) (Or.inl ⟨by rfl, ?_⟩) hHeld ?_ ?_
                    rotate_left
                    ·rintro w' ⟨s0, s1, s2, s3, s4, s5, s6, s7, s8, s9, s10, s11⟩
                     go_simp
                     with_reducible rfl
                    rotate_left
                    ·simp only [Act.put, List.setIfInBounds_toArray, List.set_cons_zero, List.set_cons_succ, i64_w, i32_w]
                     rfl
                    refine take_ (i := 11) (N := some 104) (v := ?_) (a' := ?_) #[true, true, true, true, true, true, true, true, true, true, true, true, false, false, false, false, false, false, false, false, false, false, false, false, false, false, false, false, false, false, false] rfl rfl (take_ofW HT_.out HW_.out (by kernel_rfl)) (fun _ _ _ h => h) (Or.inl ⟨by rfl, ?_⟩) hHeld ?_ ?_
                    rotate_left
                    ·rintro w' ⟨s0, s1, s2, s3, s4, s5, s6, s7, s8, s9, s10, s11⟩
                     go_simp
                     with_reducible rfl
                    rotate_left
                    ·simp only [Act.put, List.setIfInBounds_toArray, List.set_cons_zero, List.set_cons_succ, i64_w, i32_w]
                     rfl
                    refine one_ (i := 12) (N := some 105) #[true, true, true, true, true, true, true, true, true, true, true, true, true, false, false, false, false, false, false, false, false, false, false, false, false, false, false, false, false, false, false] rfl rfl (one_of HT_.out (by kernel_rfl)) (by decide) (fun K hK => ?_)
                    refine goes_ Try.func20 (by kernel_rfl) rfl #[.agg #[.int .i64 ((rd_T41 t201 x12_3).f0), .int .i64 ((rd_T41 t201 x12_3).f1), .int .i64 ((rd_T41 t201 x12_3).f2)], .agg #[.int .i64 ((rd_T41 t201 a1).f0), .int .i64 ((rd_T41 t201 a1).f1), .int .i64 ((rd_T41 t201 a1).f2)]] (by rfl) rfl rfl (by (try simp only [List.map_toArray, List.map_cons, List.map_nil]); first | done | rfl | (simp only [List.length_drop, List.length_take]; rfl)) ?_
                    with_reducible refine (treelabel_Dominates.calls ((rd_T41 t201 x12_3).f0) ((rd_T41 t201 x12_3).f1) ((rd_T41 t201 x12_3).f2) ((rd_T41 t201 a1).f0) ((rd_T41 t201 a1).f1) ((rd_T41 t201 a1).f2) true _ A60.out).mono ?_
                    rintro e w69 ⟨rfl, hb⟩
                    have HS0_ := (hb.cell (World.block_lt_of_cell? _ _ (hHeld.1))).trans (hHeld.1)
                    have HS1_ := (hb.cell (World.block_lt_of_cell? _ _ (hHeld.2.1))).trans (hHeld.2.1)
                    have HS2_ := (hb.cell (World.block_lt_of_cell? _ _ (hHeld.2.2.1))).trans (hHeld.2.2.1)
                    have HS3_ := (hb.cell (World.block_lt_of_cell? _ _ (hHeld.2.2.2.1))).trans (hHeld.2.2.2.1)
                    have HS4_ := (hb.cell (World.block_lt_of_cell? _ _ (hHeld.2.2.2.2.1))).trans (hHeld.2.2.2.2.1)
                    have HS5_ := (hb.cell (World.block_lt_of_cell? _ _ (hHeld.2.2.2.2.2.1))).trans (hHeld.2.2.2.2.2.1)
                    have HS6_ := (hb.cell (World.block_lt_of_cell? _ _ (hHeld.2.2.2.2.2.2.1))).trans (hHeld.2.2.2.2.2.2.1)
                    have HS7_ := (hb.cell (World.block_lt_of_cell? _ _ (hHeld.2.2.2.2.2.2.2.1))).trans (hHeld.2.2.2.2.2.2.2.1)
                    have HS8_ := (hb.cell (World.block_lt_of_cell? _ _ (hHeld.2.2.2.2.2.2.2.2.1))).trans (hHeld.2.2.2.2.2.2.2.2.1)
                    have HS9_ := (hb.cell (World.block_lt_of_cell? _ _ (hHeld.2.2.2.2.2.2.2.2.2.1))).trans (hHeld.2.2.2.2.2.2.2.2.2.1)
                    have HS10_ := (hb.cell (World.block_lt_of_cell? _ _ (hHeld.2.2.2.2.2.2.2.2.2.2.1))).trans (hHeld.2.2.2.2.2.2.2.2.2.2.1)
                    have HS11_ := (hb.cell (World.block_lt_of_cell? _ _ (hHeld.2.2.2.2.2.2.2.2.2.2.2))).trans (hHeld.2.2.2.2.2.2.2.2.2.2.2)
                    refine ⟨_, rfl, ?_⟩
                    have n0_ := Aside0.mk (Kd.R_below (by (with_reducible repeat (first | apply Kd.R_alloc | apply Kd.R_drewN | apply Kd.R_drew)); exact HO_8.out) hb)
                    have n1_ := Aside0.mk (below_step (by repeat (first | (with_reducible first | exact HB.out | apply below_alloc | apply pw_below_drewN | apply below_drew1) | exact HB.out)) hb)
                    clear HO_8
                    clear HB
                    have HO_8 := n0_
                    have HB := n1_
                    clear n0_ n1_
                    (try clear hb)
                    (try clear hb2)
                    (try clear hk)
                    (try clear hi)
                    refine hK.out _ _ ⟨HS0_, HS1_, HS2_, HS3_, HS4_, HS5_, HS6_, HS7_, HS8_, HS9_, HS10_, HS11_⟩ (fun hHeld => ?_)
                    clear hK K
                    refine norm_ (a' := ?_) ?_ ?_
                    rotate_left
                    ·show Act.put _ (some 105) _ = _
                     simp only [Act.put, List.setIfInBounds_toArray, List.set_cons_zero, List.set_cons_succ, i64_w, i32_w]
                     rfl
                    refine pw_ 13 106 HT_.out (h := ?_)
                    refine pw_ 14 107 HT_.out (h := ?_)
                    refine pw_ 15 108 HT_.out (h := ?_)
                    refine pw_ 16 109 HT_.out (h := ?_)
                    refine pw_ 17 110 HT_.out (h := ?_)
                    refine pw_ 18 111 HT_.out (h := ?_)
                    refine pw_ 19 112 HT_.out (h := ?_)
                    refine pw_ 20 113 HT_.out (h := ?_)
                    refine pw_ 21 114 HT_.out (h := ?_)
                    refine pw_ 23 116 HT_.out (h := ?_)
                    refine pw_ 24 117 HT_.out (h := ?_)
                    refine pw_ 25 118 HT_.out (h := ?_)
                    refine take_ (i := 22) (N := some 115) (v := ?_) (a' := ?_) #[true, true, true, true, true, true, true, true, true, true, true, true, true, true, true, true, true, true, true, true, true, true, true, true, true, true, false, false, false, false, false] rfl rfl (take_ofW HT_.out HW_.out (by kernel_rfl)) (fun _ _ _ h => h) (Or.inl ⟨by rfl, ?_⟩) hHeld ?_ ?_
                    rotate_left
                    ·rintro w' ⟨s0, s1, s2, s3, s4, s5, s6, s7, s8, s9, s10, s11⟩
                     go_simp
                     with_reducible rfl
                    rotate_left
                    ·simp only [Act.put, List.setIfInBounds_toArray, List.set_cons_zero, List.set_cons_succ, i64_w, i32_w]
                     rfl
                    refine take_ (i := 26) (N := some 119) (v := ?_) (a' := ?_) #[true, true, true, true, true, true, true, true, true, true, true, true, true, true, true, true, true, true, true, true, true, true, true, true, true, true, true, false, false, false, false] rfl rfl (take_ofW HT_.out HW_.out (by kernel_rfl)) (fun _ _ _ h => h) (Or.inl ⟨by rfl, ?_⟩) hHeld ?_ ?_
                    rotate_left
                    ·rintro w' ⟨s0, s1, s2, s3, s4, s5, s6, s7, s8, s9, s10, s11⟩
                     go_simp
                     with_reducible rfl
                    rotate_left
                    ·simp only [Act.put, List.setIfInBounds_toArray, List.set_cons_zero, List.set_cons_succ, i64_w, i32_w]
                     rfl
                    refine one_ (i := 27) (N := some 120) #[true, true, true, true, true, true, true, true, true, true, true, true, true, true, true, true, true, true, true, true, true, true, true, true, true, true, true, true, false, false, false] rfl rfl (one_of HT_.out (by kernel_rfl)) (by decide) (fun K hK => ?_)
                    refine goes_ Try.func20 (by kernel_rfl) rfl #[.agg #[.int .i64 ((rd_T41 t201 x12_3).f0), .int .i64 ((rd_T41 t201 x12_3).f1), .int .i64 ((rd_T41 t201 x12_3).f2)], .agg #[.int .i64 ((rd_T41 t201 a2).f0), .int .i64 ((rd_T41 t201 a2).f1), .int .i64 ((rd_T41 t201 a2).f2)]] (by rfl) rfl rfl (by (try simp only [List.map_toArray, List.map_cons, List.map_nil]); first | done | rfl | (simp only [List.length_drop, List.length_take]; rfl)) ?_
                    with_reducible refine (treelabel_Dominates.calls ((rd_T41 t201 x12_3).f0) ((rd_T41 t201 x12_3).f1) ((rd_T41 t201 x12_3).f2) ((rd_T41 t201 a2).f0) ((rd_T41 t201 a2).f1) ((rd_T41 t201 a2).f2) t219 _ A67.out).mono ?_
                    rintro e w70 ⟨rfl, hb⟩
                    have HS0_ := (hb.cell (World.block_lt_of_cell? _ _ (hHeld.1))).trans (hHeld.1)
                    have HS1_ := (hb.cell (World.block_lt_of_cell? _ _ (hHeld.2.1))).trans (hHeld.2.1)
                    have HS2_ := (hb.cell (World.block_lt_of_cell? _ _ (hHeld.2.2.1))).trans (hHeld.2.2.1)
                    have HS3_ := (hb.cell (World.block_lt_of_cell? _ _ (hHeld.2.2.2.1))).trans (hHeld.2.2.2.1)
                    have HS4_ := (hb.cell (World.block_lt_of_cell? _ _ (hHeld.2.2.2.2.1))).trans (hHeld.2.2.2.2.1)
                    have HS5_ := (hb.cell (World.block_lt_of_cell? _ _ (hHeld.2.2.2.2.2.1))).trans (hHeld.2.2.2.2.2.1)
                    have HS6_ := (hb.cell (World.block_lt_of_cell? _ _ (hHeld.2.2.2.2.2.2.1))).trans (hHeld.2.2.2.2.2.2.1)
                    have HS7_ := (hb.cell (World.block_lt_of_cell? _ _ (hHeld.2.2.2.2.2.2.2.1))).trans (hHeld.2.2.2.2.2.2.2.1)
                    have HS8_ := (hb.cell (World.block_lt_of_cell? _ _ (hHeld.2.2.2.2.2.2.2.2.1))).trans (hHeld.2.2.2.2.2.2.2.2.1)
                    have HS9_ := (hb.cell (World.block_lt_of_cell? _ _ (hHeld.2.2.2.2.2.2.2.2.2.1))).trans (hHeld.2.2.2.2.2.2.2.2.2.1)
                    have HS10_ := (hb.cell (World.block_lt_of_cell? _ _ (hHeld.2.2.2.2.2.2.2.2.2.2.1))).trans (hHeld.2.2.2.2.2.2.2.2.2.2.1)
                    have HS11_ := (hb.cell (World.block_lt_of_cell? _ _ (hHeld.2.2.2.2.2.2.2.2.2.2.2))).trans (hHeld.2.2.2.2.2.2.2.2.2.2.2)
                    refine ⟨_, rfl, ?_⟩
                    have n0_ := Aside0.mk (Kd.R_below (by (with_reducible repeat (first | apply Kd.R_alloc | apply Kd.R_drewN | apply Kd.R_drew)); exact HO_8.out) hb)
                    have n1_ := Aside0.mk (below_step (by repeat (first | (with_reducible first | exact HB.out | apply below_alloc | apply pw_below_drewN | apply below_drew1) | exact HB.out)) hb)
                    clear HO_8
                    clear HB
                    have HO_8 := n0_
                    have HB := n1_
                    clear n0_ n1_
                    (try clear hb)
                    (try clear hb2)
                    (try clear hk)
                    (try clear hi)
                    refine hK.out _ _ ⟨HS0_, HS1_, HS2_, HS3_, HS4_, HS5_, HS6_, HS7_, HS8_, HS9_, HS10_, HS11_⟩ (fun hHeld => ?_)
                    clear hK K
                    refine norm_ (a' := ?_) ?_ ?_
                    rotate_left
                    ·show Act.put _ (some 120) _ = _
                     simp only [Act.put, List.setIfInBounds_toArray, List.set_cons_zero, List.set_cons_succ, i64_w, i32_w]
                     rfl
                    refine pw_ 28 121 HT_.out (h := ?_)
                    refine pw_ 29 122 HT_.out (h := ?_)
                    refine pw_ 30 13 HT_.out (h := ?_)
                    refine done_ (done_of HT_.out (by kernel_rfl)) ?_
                    try go_wp2
                    go_meet
                    case rel => exact ⟨_, (t219), (by first | rfl | (simp; done) | (simp [*]; done)), H', ⟨by have := HJ4.out; have := HJ13.out; have := HK3.out; first | omega | exact Nat.le_refl _⟩, ⟨by (with_reducible repeat (first | apply Kd.R_alloc | apply Kd.R_drewN | apply Kd.R_drew)); exact HO_8.out⟩, ⟨by repeat (first | (with_reducible first | exact HB.out | apply below_alloc | apply pw_below_drewN | apply below_drew1) | exact HB.out)⟩⟩
                   ·rw [if_neg c66] at H
                    exact absurd H (by simp)
                  ·rw [if_neg c65] at H
                   exact absurd H (by simp)
                ·replace c61 := Bool.eq_false_iff.mpr c61
                 subst c61
                 have H1 : (corporalaw10_TreelabelCommon.j3 k3 a1 a2 (l0.length : Int) t201 t206 x12_3 false) = some r := by rw [if_neg (show ¬ (false = true) by decide)] at H; exact H
                 clear H
                 have H := H1
                 clear H1
                 have H' := Aside0.mk H
                 clear H
                 try go_wp2
                 have n0_ := Aside0.mk (Kd.R_drew HO_8.out)
                 have n1_ := Aside0.mk (below_drew1 HB.out)
                 clear HO_8
                 clear HB
                 have HO_8 := n0_
                 have HB := n1_
                 clear n0_ n1_
                 have p214 : 0 ≤ (x12_3 : Int) := of_decide_eq_true (by first | (with_reducible assumption) | assumption)
                 have q214 : x12_3 < (t201.length : Int) := of_decide_eq_true (by first | (with_reducible assumption) | assumption)
                 obtain ⟨ad214, e214, hx214_0, hx214_1, hx214_2⟩ := at_T41 (Kd.R_reads' HO_8.out).2.2 x12_3 p214 q214
                 cases e214
                 replace p214 := eq_true p214
                 replace q214 := eq_true q214
                 have p215 : 0 ≤ (a1 : Int) := of_decide_eq_true (by first | (with_reducible assumption) | assumption)
                 have q215 : a1 < (t201.length : Int) := of_decide_eq_true (by first | (with_reducible assumption) | assumption)
                 obtain ⟨ad215, e215, hx215_0, hx215_1, hx215_2⟩ := at_T41 (Kd.R_reads' HO_8.out).2.2 a1 p215 q215
                 obtain rfl : ad214 = ad215 := (by injection e215)
                 replace p215 := eq_true p215
                 replace q215 := eq_true q215
                 refine start_ (n := 31) (S := fun w' => w'.cell? (ad214.add ((x12_3).toNat * 3)) = some (.int .i64 ((rd_T41 t201 x12_3).f0)) ∧ w'.cell? ⟨(ad214.add ((x12_3).toNat * 3)).block, (ad214.add ((x12_3).toNat * 3)).off + 1, none⟩ = some (.int .i64 ((rd_T41 t201 x12_3).f1)) ∧ w'.cell? ⟨(ad214.add ((x12_3).toNat * 3)).block, (ad214.add ((x12_3).toNat * 3)).off + 2, none⟩ = some (.int .i64 ((rd_T41 t201 x12_3).f2)) ∧ w'.cell? (ad214.add ((a1).toNat * 3)) = some (.int .i64 ((rd_T41 t201 a1).f0)) ∧ w'.cell? ⟨(ad214.add ((a1).toNat * 3)).block, (ad214.add ((a1).toNat * 3)).off + 1, none⟩ = some (.int .i64 ((rd_T41 t201 a1).f1)) ∧ w'.cell? ⟨(ad214.add ((a1).toNat * 3)).block, (ad214.add ((a1).toNat * 3)).off + 2, none⟩ = some (.int .i64 ((rd_T41 t201 a1).f2))) (ds := []) #[false, false, false, false, false, false, false, false, false, false, false, false, false, false, false, false, false, false, false, false, false, false, false, false, false, false, false, false, false, false, false] (by kernel_rfl) rfl rfl ⟨hx214_0, hx214_1, hx214_2, hx215_0, hx215_1, hx215_2⟩ (fun hHeld => ?_); refine with_tabW corporalaw10_TreelabelCommon.tab11 corporalaw10_TreelabelCommon.bits11 (fun HT_ HW_ => ?_)
                 generalize wr.drew = w71 at HO_8 HB hx214_0 hx214_1 hx214_2 hx215_0 hx215_1 hx215_2 hHeld ⊢
                 refine pw_ 0 93 HT_.out (h := ?_)
                 refine pw_ 1 94 HT_.out (h := ?_)
                 refine pw_ 2 95 HT_.out (h := ?_)
                 refine pw_ 3 96 HT_.out (h := ?_)
                 refine pw_ 4 97 HT_.out (h := ?_)
                 refine pw_ 5 98 HT_.out (h := ?_)
                 refine pw_ 6 99 HT_.out (h := ?_)
                 refine pw_ 8 101 HT_.out (h := ?_)
                 refine pw_ 9 102 HT_.out (h := ?_)
                 refine pw_ 10 103 HT_.out (h := ?_)
                 refine take_ (i := 7) (N := some 100) (v := ?_) (a' := ?_) #[true, true, true, true, true, true, true, true, true, true, true, false, false, false, false, false, false, false, false, false, false, false, false, false, false, false, false, false, false, false, false] rfl rfl (take_ofW HT_.out HW_.out (by kernel_rfl)) (fun _ _ _ h => h) (Or.inl ⟨by rfl, ?_⟩) hHeld ?_ ?_
                 rotate_left
                 ·rintro w' ⟨s0, s1, s2, s3, s4, s5⟩
                  go_simp
                  with_reducible rfl
                 rotate_left
                 ·simp only [Act.put, List.setIfInBounds_toArray, List.set_cons_zero, List.set_cons_succ, i64_w, i32_w]
                  rfl
                 refine take_ (i := 11) (N := some 104) (v := ?_) (a' := ?_) #[true, true, true, true, true, true, true, true, true, true, true, true, false, false, false, false, false, false, false, false, false, false, false, false, false, false, false, false, false, false, false] rfl rfl (take_ofW HT_.out HW_.out (by kernel_rfl)) (fun _ _ _ h => h) (Or.inl ⟨by rfl, ?_⟩) hHeld ?_ ?_
                 rotate_left
                 ·rintro w' ⟨s0, s1, s2, s3, s4, s5⟩
                  go_simp
                  with_reducible rfl
                 rotate_left
                 ·simp only [Act.put, List.setIfInBounds_toArray, List.set_cons_zero, List.set_cons_succ, i64_w, i32_w]
                  rfl
                 refine one_ (i := 12) (N := some 105) #[true, true, true, true, true, true, true, true, true, true, true, true, true, false, false, false, false, false, false, false, false, false, false, false, false, false, false, false, false, false, false] rfl rfl (one_of HT_.out (by kernel_rfl)) (by decide) (fun K hK => ?_)
                 refine goes_ Try.func20 (by kernel_rfl) rfl #[.agg #[.int .i64 ((rd_T41 t201 x12_3).f0), .int .i64 ((rd_T41 t201 x12_3).f1), .int .i64 ((rd_T41 t201 x12_3).f2)], .agg #[.int .i64 ((rd_T41 t201 a1).f0), .int .i64 ((rd_T41 t201 a1).f1), .int .i64 ((rd_T41 t201 a1).f2)]] (by rfl) rfl rfl (by (try simp only [List.map_toArray, List.map_cons, List.map_nil]); first | done | rfl | (simp only [List.length_drop, List.length_take]; rfl)) ?_
                 with_reducible refine (treelabel_Dominates.calls ((rd_T41 t201 x12_3).f0) ((rd_T41 t201 x12_3).f1) ((rd_T41 t201 x12_3).f2) ((rd_T41 t201 a1).f0) ((rd_T41 t201 a1).f1) ((rd_T41 t201 a1).f2) false _ A60.out).mono ?_
                 rintro e w72 ⟨rfl, hb⟩
                 have HS0_ := (hb.cell (World.block_lt_of_cell? _ _ (hHeld.1))).trans (hHeld.1)
                 have HS1_ := (hb.cell (World.block_lt_of_cell? _ _ (hHeld.2.1))).trans (hHeld.2.1)
                 have HS2_ := (hb.cell (World.block_lt_of_cell? _ _ (hHeld.2.2.1))).trans (hHeld.2.2.1)
                 have HS3_ := (hb.cell (World.block_lt_of_cell? _ _ (hHeld.2.2.2.1))).trans (hHeld.2.2.2.1)
                 have HS4_ := (hb.cell (World.block_lt_of_cell? _ _ (hHeld.2.2.2.2.1))).trans (hHeld.2.2.2.2.1)
                 have HS5_ := (hb.cell (World.block_lt_of_cell? _ _ (hHeld.2.2.2.2.2))).trans (hHeld.2.2.2.2.2)
                 refine ⟨_, rfl, ?_⟩
                 have n0_ := Aside0.mk (Kd.R_below (by (with_reducible repeat (first | apply Kd.R_alloc | apply Kd.R_drewN | apply Kd.R_drew)); exact HO_8.out) hb)
                 have n1_ := Aside0.mk (below_step (by repeat (first | (with_reducible first | exact HB.out | apply below_alloc | apply pw_below_drewN | apply below_drew1) | exact HB.out)) hb)
                 clear HO_8
                 clear HB
                 have HO_8 := n0_
                 have HB := n1_
                 clear n0_ n1_
                 (try clear hb)
                 (try clear hb2)
                 (try clear hk)
                 (try clear hi)
                 refine hK.out _ _ ⟨HS0_, HS1_, HS2_, HS3_, HS4_, HS5_⟩ (fun hHeld => ?_)
                 clear hK K
                 refine norm_ (a' := ?_) ?_ ?_
                 rotate_left
                 ·show Act.put _ (some 105) _ = _
                  simp only [Act.put, List.setIfInBounds_toArray, List.set_cons_zero, List.set_cons_succ, i64_w, i32_w]
                  rfl
                 refine pw_ 13 106 HT_.out (h := ?_)
                 refine pw_ 14 107 HT_.out (h := ?_)
                 refine pn_ 15 108 HT_.out (h := ?_)
                 refine pn_ 16 109 HT_.out (h := ?_)
                 refine pn_ 17 110 HT_.out (h := ?_)
                 refine pn_ 18 111 HT_.out (h := ?_)
                 refine pn_ 19 112 HT_.out (h := ?_)
                 refine pn_ 20 113 HT_.out (h := ?_)
                 refine pn_ 21 114 HT_.out (h := ?_)
                 refine pn_ 22 115 HT_.out (h := ?_)
                 refine pn_ 23 116 HT_.out (h := ?_)
                 refine pn_ 24 117 HT_.out (h := ?_)
                 refine pn_ 25 118 HT_.out (h := ?_)
                 refine pn_ 26 119 HT_.out (h := ?_)
                 refine pn_ 27 120 HT_.out (h := ?_)
                 refine pn_ 28 121 HT_.out (h := ?_)
                 refine pw_ 29 122 HT_.out (h := ?_)
                 refine pw_ 30 13 HT_.out (h := ?_)
                 refine done_ (done_of HT_.out (by kernel_rfl)) ?_
                 try go_wp2
                 go_meet
                 case rel => exact ⟨_, (false), (by first | rfl | (simp; done) | (simp [*]; done)), H', ⟨by have := HJ4.out; have := HJ13.out; have := HK3.out; first | omega | exact Nat.le_refl _⟩, ⟨by (with_reducible repeat (first | apply Kd.R_alloc | apply Kd.R_drewN | apply Kd.R_drew)); exact HO_8.out⟩, ⟨by repeat (first | (with_reducible first | exact HB.out | apply below_alloc | apply pw_below_drewN | apply below_drew1) | exact HB.out)⟩⟩
               ·rw [if_neg c59] at H
                exact absurd H (by simp)
              ·rw [if_neg c58] at H
               exact absurd H (by simp)
             ·rw [if_neg c57] at H
              exact absurd H (by simp)
            ·rw [if_neg c56] at H
             exact absurd H (by simp)
          case rest =>
           clear HC45
           try clear c2
           try clear p2
           try clear q2
           try clear hx2
           try clear c5
           try clear c6
           try clear c20
           try clear p21
           try clear q21
           try clear hx21
           try clear c56
           try clear c57
           try clear c58
           try clear c59
           try clear c61
           try clear c65
           try clear c66
           try clear hx214_0
           try clear hx214_1
           try clear hx214_2
           try clear hx215_0
           try clear hx215_1
           try clear hx215_2
           try clear hx217_0
           try clear hx217_1
           try clear hx217_2
           try clear hx218_0
           try clear hx218_1
           try clear hx218_2
           try clear p214
           try clear p215
           try clear p217
           try clear p218
           try clear q214
           try clear q215
           try clear q217
           try clear q218
           obtain ⟨kq, x13_44, rfl, HA, HJ44, HO_8, HB⟩ := hcut
           cases kq with
           | zero => exact absurd HA.out (by simp [corporalaw10_TreelabelCommon.j3])
           | succ kj44 =>
            have H := HA.out
            clear HA
            simp only [corporalaw10_TreelabelCommon.j3] at H
            have HC73 := Aside0.mk H
            clear H
            go_upto_region 12 with (fail)
            go_cut [160] (fun v160 wc => ∃ (kq : Nat) (x160_72 : Bool), v160 = .bool x160_72 ∧ Aside0 (corporalaw10_TreelabelCommon.j4 kq a1 a2 (l0.length : Int) t201 t206 x12_3 x160_72 = some r) ∧ Aside0 (kq ≤ kj44) ∧ Aside0 (Kd.R k41 41 wc w.heap.size (fun _ => True) (.slice Ao15 t201.length co15) t201) ∧ Aside0 (Below w.heap.size w wc))
            case first => as_aux_lemma =>
             have H := HC73.out
             clear HC73
             by_cases c74 : t206 < 0
             ·rw [if_pos c74] at H
              have c74b0 : decide (t206 < 0) = true := decide_eq_true c74
              clear c74
              (first | rw [c74b0] | (simp only [i64_w, i32_w]; rw [c74b0]) | skip)
              by_cases c75 : x13_44 = true
              ·subst c75
               have H1 : (corporalaw10_TreelabelCommon.j4 kj44 a1 a2 (l0.length : Int) t201 t206 x12_3 true) = some r := by rw [if_pos rfl] at H; exact H
               clear H
               have H := H1
               clear H1
               have H' := Aside0.mk H
               clear H
               try go_wp2
               have n0_ := Aside0.mk (Kd.R_drew HO_8.out)
               have n1_ := Aside0.mk (below_drew1 HB.out)
               clear HO_8
               clear HB
               have HO_8 := n0_
               have HB := n1_
               clear n0_ n1_
               refine start_ (n := 38) (S := fun w' => True) (ds := []) #[false, false, false, false, false, false, false, false, false, false, false, false, false, false, false, false, false, false, false, false, false, false, false, false, false, false, false, false, false, false, false, false, false, false, false, false, false, false] (by kernel_rfl) rfl rfl trivial (fun hHeld => ?_); refine with_tabW corporalaw10_TreelabelCommon.tab12 corporalaw10_TreelabelCommon.bits12 (fun HT_ HW_ => ?_)
               generalize wc.drew = w76 at HO_8 HB hHeld ⊢
               refine pw_ 0 123 HT_.out (h := ?_)
               refine pw_ 1 124 HT_.out (h := ?_)
               refine pw_ 2 125 HT_.out (h := ?_)
               refine pw_ 3 126 HT_.out (h := ?_)
               refine pw_ 4 127 HT_.out (h := ?_)
               refine pw_ 5 128 HT_.out (h := ?_)
               refine pn_ 6 129 HT_.out (h := ?_)
               refine pn_ 7 130 HT_.out (h := ?_)
               refine pn_ 8 131 HT_.out (h := ?_)
               refine pn_ 9 132 HT_.out (h := ?_)
               refine pn_ 10 133 HT_.out (h := ?_)
               refine pn_ 11 134 HT_.out (h := ?_)
               refine pn_ 12 135 HT_.out (h := ?_)
               refine pn_ 13 136 HT_.out (h := ?_)
               refine pn_ 14 137 HT_.out (h := ?_)
               refine pn_ 15 138 HT_.out (h := ?_)
               refine pn_ 16 139 HT_.out (h := ?_)
               refine pn_ 17 140 HT_.out (h := ?_)
               refine pn_ 18 141 HT_.out (h := ?_)
               refine pn_ 19 142 HT_.out (h := ?_)
               refine pn_ 20 143 HT_.out (h := ?_)
               refine pn_ 21 144 HT_.out (h := ?_)
               refine pn_ 22 145 HT_.out (h := ?_)
               refine pn_ 23 146 HT_.out (h := ?_)
               refine pn_ 24 147 HT_.out (h := ?_)
               refine pn_ 25 148 HT_.out (h := ?_)
               refine pn_ 26 149 HT_.out (h := ?_)
               refine pn_ 27 150 HT_.out (h := ?_)
               refine pw_ 28 151 HT_.out (h := ?_)
               refine pw_ 29 152 HT_.out (h := ?_)
               refine pn_ 30 153 HT_.out (h := ?_)
               refine pn_ 31 154 HT_.out (h := ?_)
               refine pn_ 32 155 HT_.out (h := ?_)
               refine pn_ 33 156 HT_.out (h := ?_)
               refine pn_ 34 157 HT_.out (h := ?_)
               refine pn_ 35 158 HT_.out (h := ?_)
               refine pn_ 36 159 HT_.out (h := ?_)
               refine pw_ 37 160 HT_.out (h := ?_)
               refine done_ (done_of HT_.out (by kernel_rfl)) ?_
               try go_wp2
               go_meet
               case rel => exact ⟨_, (true), (by first | rfl | (simp; done) | (simp [*]; done)), H', ⟨by have := HJ4.out; have := HJ13.out; have := HK3.out; have := HJ44.out; first | omega | exact Nat.le_refl _⟩, ⟨by (with_reducible repeat (first | apply Kd.R_alloc | apply Kd.R_drewN | apply Kd.R_drew)); exact HO_8.out⟩, ⟨by repeat (first | (with_reducible first | exact HB.out | apply below_alloc | apply pw_below_drewN | apply below_drew1) | exact HB.out)⟩⟩
              ·replace c75 := Bool.eq_false_iff.mpr c75
               subst c75
               have H1 : (if t206 ≥ 0 then (if t206 = x12_3 then (corporalaw10_TreelabelCommon.j4 kj44 a1 a2 (l0.length : Int) t201 t206 x12_3 (!false)) else (corporalaw10_TreelabelCommon.j4 kj44 a1 a2 (l0.length : Int) t201 t206 x12_3 false)) else (if t206 = x12_3 then (corporalaw10_TreelabelCommon.j4 kj44 a1 a2 (l0.length : Int) t201 t206 x12_3 (!false)) else (corporalaw10_TreelabelCommon.j4 kj44 a1 a2 (l0.length : Int) t201 t206 x12_3 false))) = some r := by rw [if_neg (show ¬ (false = true) by decide)] at H; exact H
               clear H
               have H := H1
               clear H1
               by_cases c77 : t206 ≥ 0
               ·rw [if_pos c77] at H
                have c77b0 : decide (0 ≤ t206) = true := decide_eq_true c77
                clear c77
                by_cases c78 : t206 = x12_3
                ·rw [if_pos c78] at H
                 have c78b0 : (t206 == x12_3) = true := beq_iff_eq.mpr c78
                 have c78b1 : (t206 != x12_3) = false := bne_eq_false_iff_eq.mpr c78
                 clear c78
                 have H' := Aside0.mk H
                 clear H
                 try go_wp2
                 have n0_ := Aside0.mk (Kd.R_drew HO_8.out)
                 have n1_ := Aside0.mk (below_drew1 HB.out)
                 clear HO_8
                 clear HB
                 have HO_8 := n0_
                 have HB := n1_
                 clear n0_ n1_
                 refine start_ (n := 38) (S := fun w' => True) (ds := []) #[false, false, false, false, false, false, false, false, false, false, false, false, false, false, false, false, false, false, false, false, false, false, false, false, false, false, false, false, false, false, false, false, false, false, false, false, false, false] (by kernel_rfl) rfl rfl trivial (fun hHeld => ?_); refine with_tabW corporalaw10_TreelabelCommon.tab12 corporalaw10_TreelabelCommon.bits12 (fun HT_ HW_ => ?_)
                 generalize wc.drew = w79 at HO_8 HB hHeld ⊢
                 refine pw_ 0 123 HT_.out (h := ?_)
                 refine pw_ 1 124 HT_.out (h := ?_)
                 refine pw_ 2 125 HT_.out (h := ?_)
                 refine pw_ 3 126 HT_.out (h := ?_)
                 refine pw_ 4 127 HT_.out (h := ?_)
                 refine pw_ 5 128 HT_.out (h := ?_)
                 refine pw_ 6 129 HT_.out (h := ?_)
                 refine pw_ 7 130 HT_.out (h := ?_)
                 refine pw_ 8 131 HT_.out (h := ?_)
                 refine pw_ 9 132 HT_.out (h := ?_)
                 refine pw_ 10 133 HT_.out (h := ?_)
                 refine pw_ 11 134 HT_.out (h := ?_)
                 refine pn_ 12 135 HT_.out (h := ?_)
                 refine pn_ 13 136 HT_.out (h := ?_)
                 refine pn_ 14 137 HT_.out (h := ?_)
                 refine pw_ 15 138 HT_.out (h := ?_)
                 refine pw_ 16 139 HT_.out (h := ?_)
                 refine pn_ 17 140 HT_.out (h := ?_)
                 refine pn_ 18 141 HT_.out (h := ?_)
                 refine pn_ 19 142 HT_.out (h := ?_)
                 refine pn_ 20 143 HT_.out (h := ?_)
                 refine pn_ 21 144 HT_.out (h := ?_)
                 refine pn_ 22 145 HT_.out (h := ?_)
                 refine pn_ 23 146 HT_.out (h := ?_)
                 refine pn_ 24 147 HT_.out (h := ?_)
                 refine pn_ 25 148 HT_.out (h := ?_)
                 refine pn_ 26 149 HT_.out (h := ?_)
                 refine pw_ 27 150 HT_.out (h := ?_)
                 refine pw_ 28 151 HT_.out (h := ?_)
                 refine pw_ 29 152 HT_.out (h := ?_)
                 refine pw_ 30 153 HT_.out (h := ?_)
                 refine pw_ 31 154 HT_.out (h := ?_)
                 refine pw_ 32 155 HT_.out (h := ?_)
                 refine pw_ 33 156 HT_.out (h := ?_)
                 refine pw_ 34 157 HT_.out (h := ?_)
                 refine pw_ 35 158 HT_.out (h := ?_)
                 refine pw_ 36 159 HT_.out (h := ?_)
                 refine pw_ 37 160 HT_.out (h := ?_)
                 refine done_ (done_of HT_.out (by kernel_rfl)) ?_
                 try go_wp2
                 go_meet
                 case rel => exact ⟨_, (!false), (by first | rfl | (simp; done) | (simp [*]; done)), H', ⟨by have := HJ4.out; have := HJ13.out; have := HK3.out; have := HJ44.out; first | omega | exact Nat.le_refl _⟩, ⟨by (with_reducible repeat (first | apply Kd.R_alloc | apply Kd.R_drewN | apply Kd.R_drew)); exact HO_8.out⟩, ⟨by repeat (first | (with_reducible first | exact HB.out | apply below_alloc | apply pw_below_drewN | apply below_drew1) | exact HB.out)⟩⟩
                ·rw [if_neg c78] at H
                 have c78b0 : (t206 == x12_3) = false := beq_eq_false_iff_ne.mpr c78
                 have c78b1 : (t206 != x12_3) = true := bne_iff_ne.mpr c78
                 have H' := Aside0.mk H
                 clear H
                 try go_wp2
                 have n0_ := Aside0.mk (Kd.R_drew HO_8.out)
                 have n1_ := Aside0.mk (below_drew1 HB.out)
                 clear HO_8
                 clear HB
                 have HO_8 := n0_
                 have HB := n1_
                 clear n0_ n1_
                 refine start_ (n := 38) (S := fun w' => True) (ds := []) #[false, false, false, false, false, false, false, false, false, false, false, false, false, false, false, false, false, false, false, false, false, false, false, false, false, false, false, false, false, false, false, false, false, false, false, false, false, false] (by kernel_rfl) rfl rfl trivial (fun hHeld => ?_); refine with_tabW corporalaw10_TreelabelCommon.tab12 corporalaw10_TreelabelCommon.bits12 (fun HT_ HW_ => ?_)
                 generalize wc.drew = w80 at HO_8 HB hHeld ⊢
                 refine pw_ 0 123 HT_.out (h := ?_)
                 refine pw_ 1 124 HT_.out (h := ?_)
                 refine pw_ 2 125 HT_.out (h := ?_)
                 refine pw_ 3 126 HT_.out (h := ?_)
                 refine pw_ 4 127 HT_.out (h := ?_)
                 refine pw_ 5 128 HT_.out (h := ?_)
                 refine pw_ 6 129 HT_.out (h := ?_)
                 refine pw_ 7 130 HT_.out (h := ?_)
                 refine pw_ 8 131 HT_.out (h := ?_)
                 refine pw_ 9 132 HT_.out (h := ?_)
                 refine pw_ 10 133 HT_.out (h := ?_)
                 refine pw_ 11 134 HT_.out (h := ?_)
                 refine pn_ 12 135 HT_.out (h := ?_)
                 refine pn_ 13 136 HT_.out (h := ?_)
                 refine pn_ 14 137 HT_.out (h := ?_)
                 refine pw_ 15 138 HT_.out (h := ?_)
                 refine pw_ 16 139 HT_.out (h := ?_)
                 refine pn_ 17 140 HT_.out (h := ?_)
                 refine pn_ 18 141 HT_.out (h := ?_)
                 refine pn_ 19 142 HT_.out (h := ?_)
                 refine pn_ 20 143 HT_.out (h := ?_)
                 refine pn_ 21 144 HT_.out (h := ?_)
                 refine pn_ 22 145 HT_.out (h := ?_)
                 refine pn_ 23 146 HT_.out (h := ?_)
                 refine pn_ 24 147 HT_.out (h := ?_)
                 refine pn_ 25 148 HT_.out (h := ?_)
                 refine pn_ 26 149 HT_.out (h := ?_)
                 refine pw_ 27 150 HT_.out (h := ?_)
                 refine pw_ 28 151 HT_.out (h := ?_)
                 refine pw_ 29 152 HT_.out (h := ?_)
                 refine pw_ 30 153 HT_.out (h := ?_)
                 refine pw_ 31 154 HT_.out (h := ?_)
                 refine pw_ 32 155 HT_.out (h := ?_)
                 refine pw_ 33 156 HT_.out (h := ?_)
                 refine pn_ 34 157 HT_.out (h := ?_)
                 refine pn_ 35 158 HT_.out (h := ?_)
                 refine pw_ 36 159 HT_.out (h := ?_)
                 refine pw_ 37 160 HT_.out (h := ?_)
                 refine done_ (done_of HT_.out (by kernel_rfl)) ?_
                 try go_wp2
                 go_meet
                 case rel => exact ⟨_, (false), (by first | rfl | (simp; done) | (simp [*]; done)), H', ⟨by have := HJ4.out; have := HJ13.out; have := HK3.out; have := HJ44.out; first | omega | exact Nat.le_refl _⟩, ⟨by (with_reducible repeat (first | apply Kd.R_alloc | apply Kd.R_drewN | apply Kd.R_drew)); exact HO_8.out⟩, ⟨by repeat (first | (with_reducible first | exact HB.out | apply below_alloc | apply pw_below_drewN | apply below_drew1) | exact HB.out)⟩⟩
               ·rw [if_neg c77] at H
                have c77b0 : decide (0 ≤ t206) = false := decide_eq_false c77
                clear c77
                by_cases c81 : t206 = x12_3
                ·rw [if_pos c81] at H
                 have c81b0 : (t206 == x12_3) = true := beq_iff_eq.mpr c81
                 have c81b1 : (t206 != x12_3) = false := bne_eq_false_iff_eq.mpr c81
                 clear c81
                 have H' := Aside0.mk H
                 clear H
                 try go_wp2
                 have n0_ := Aside0.mk (Kd.R_drew HO_8.out)
                 have n1_ := Aside0.mk (below_drew1 HB.out)
                 clear HO_8
                 clear HB
                 have HO_8 := n0_
                 have HB := n1_
                 clear n0_ n1_
                 refine start_ (n := 38) (S := fun w' => True) (ds := []) #[false, false, false, false, false, false, false, false, false, false, false, false, false, false, false, false, false, false, false, false, false, false, false, false, false, false, false, false, false, false, false, false, false, false, false, false, false, false] (by kernel_rfl) rfl rfl trivial (fun hHeld => ?_); refine with_tabW corporalaw10_TreelabelCommon.tab12 corporalaw10_TreelabelCommon.bits12 (fun HT_ HW_ => ?_)
                 generalize wc.drew = w82 at HO_8 HB hHeld ⊢
                 refine pw_ 0 123 HT_.out (h := ?_)
                 refine pw_ 1 124 HT_.out (h := ?_)
                 refine pw_ 2 125 HT_.out (h := ?_)
                 refine pw_ 3 126 HT_.out (h := ?_)
                 refine pw_ 4 127 HT_.out (h := ?_)
                 refine pw_ 5 128 HT_.out (h := ?_)
                 refine pw_ 6 129 HT_.out (h := ?_)
                 refine pw_ 7 130 HT_.out (h := ?_)
                 refine pw_ 8 131 HT_.out (h := ?_)
                 refine pn_ 9 132 HT_.out (h := ?_)
                 refine pw_ 10 133 HT_.out (h := ?_)
                 refine pw_ 11 134 HT_.out (h := ?_)
                 refine pn_ 12 135 HT_.out (h := ?_)
                 refine pn_ 13 136 HT_.out (h := ?_)
                 refine pn_ 14 137 HT_.out (h := ?_)
                 refine pw_ 15 138 HT_.out (h := ?_)
                 refine pw_ 16 139 HT_.out (h := ?_)
                 refine pn_ 17 140 HT_.out (h := ?_)
                 refine pn_ 18 141 HT_.out (h := ?_)
                 refine pn_ 19 142 HT_.out (h := ?_)
                 refine pn_ 20 143 HT_.out (h := ?_)
                 refine pn_ 21 144 HT_.out (h := ?_)
                 refine pn_ 22 145 HT_.out (h := ?_)
                 refine pn_ 23 146 HT_.out (h := ?_)
                 refine pn_ 24 147 HT_.out (h := ?_)
                 refine pn_ 25 148 HT_.out (h := ?_)
                 refine pn_ 26 149 HT_.out (h := ?_)
                 refine pw_ 27 150 HT_.out (h := ?_)
                 refine pw_ 28 151 HT_.out (h := ?_)
                 refine pw_ 29 152 HT_.out (h := ?_)
                 refine pw_ 30 153 HT_.out (h := ?_)
                 refine pw_ 31 154 HT_.out (h := ?_)
                 refine pw_ 32 155 HT_.out (h := ?_)
                 refine pw_ 33 156 HT_.out (h := ?_)
                 refine pw_ 34 157 HT_.out (h := ?_)
                 refine pw_ 35 158 HT_.out (h := ?_)
                 refine pw_ 36 159 HT_.out (h := ?_)
                 refine pw_ 37 160 HT_.out (h := ?_)
                 refine done_ (done_of HT_.out (by kernel_rfl)) ?_
                 try go_wp2
                 go_meet
                 case rel => exact ⟨_, (!false), (by first | rfl | (simp; done) | (simp [*]; done)), H', ⟨by have := HJ4.out; have := HJ13.out; have := HK3.out; have := HJ44.out; first | omega | exact Nat.le_refl _⟩, ⟨by (with_reducible repeat (first | apply Kd.R_alloc | apply Kd.R_drewN | apply Kd.R_drew)); exact HO_8.out⟩, ⟨by repeat (first | (with_reducible first | exact HB.out | apply below_alloc | apply pw_below_drewN | apply below_drew1) | exact HB.out)⟩⟩
                ·rw [if_neg c81] at H
                 have c81b0 : (t206 == x12_3) = false := beq_eq_false_iff_ne.mpr c81
                 have c81b1 : (t206 != x12_3) = true := bne_iff_ne.mpr c81
                 have H' := Aside0.mk H
                 clear H
                 try go_wp2
                 have n0_ := Aside0.mk (Kd.R_drew HO_8.out)
                 have n1_ := Aside0.mk (below_drew1 HB.out)
                 clear HO_8
                 clear HB
                 have HO_8 := n0_
                 have HB := n1_
                 clear n0_ n1_
                 refine start_ (n := 38) (S := fun w' => True) (ds := []) #[false, false, false, false, false, false, false, false, false, false, false, false, false, false, false, false, false, false, false, false, false, false, false, false, false, false, false, false, false, false, false, false, false, false, false, false, false, false] (by kernel_rfl) rfl rfl trivial (fun hHeld => ?_); refine with_tabW corporalaw10_TreelabelCommon.tab12 corporalaw10_TreelabelCommon.bits12 (fun HT_ HW_ => ?_)
                 generalize wc.drew = w83 at HO_8 HB hHeld ⊢
                 refine pw_ 0 123 HT_.out (h := ?_)
                 refine pw_ 1 124 HT_.out (h := ?_)
                 refine pw_ 2 125 HT_.out (h := ?_)
                 refine pw_ 3 126 HT_.out (h := ?_)
                 refine pw_ 4 127 HT_.out (h := ?_)
                 refine pw_ 5 128 HT_.out (h := ?_)
                 refine pw_ 6 129 HT_.out (h := ?_)
                 refine pw_ 7 130 HT_.out (h := ?_)
                 refine pw_ 8 131 HT_.out (h := ?_)
                 refine pn_ 9 132 HT_.out (h := ?_)
                 refine pw_ 10 133 HT_.out (h := ?_)
                 refine pw_ 11 134 HT_.out (h := ?_)
                 refine pn_ 12 135 HT_.out (h := ?_)
                 refine pn_ 13 136 HT_.out (h := ?_)
                 refine pn_ 14 137 HT_.out (h := ?_)
                 refine pw_ 15 138 HT_.out (h := ?_)
                 refine pw_ 16 139 HT_.out (h := ?_)
                 refine pn_ 17 140 HT_.out (h := ?_)
                 refine pn_ 18 141 HT_.out (h := ?_)
                 refine pn_ 19 142 HT_.out (h := ?_)
                 refine pn_ 20 143 HT_.out (h := ?_)
                 refine pn_ 21 144 HT_.out (h := ?_)
                 refine pn_ 22 145 HT_.out (h := ?_)
                 refine pn_ 23 146 HT_.out (h := ?_)
                 refine pn_ 24 147 HT_.out (h := ?_)
                 refine pn_ 25 148 HT_.out (h := ?_)
                 refine pn_ 26 149 HT_.out (h := ?_)
                 refine pw_ 27 150 HT_.out (h := ?_)
                 refine pw_ 28 151 HT_.out (h := ?_)
                 refine pw_ 29 152 HT_.out (h := ?_)
                 refine pw_ 30 153 HT_.out (h := ?_)
                 refine pw_ 31 154 HT_.out (h := ?_)
                 refine pw_ 32 155 HT_.out (h := ?_)
                 refine pw_ 33 156 HT_.out (h := ?_)
                 refine pn_ 34 157 HT_.out (h := ?_)
                 refine pn_ 35 158 HT_.out (h := ?_)
                 refine pw_ 36 159 HT_.out (h := ?_)
                 refine pw_ 37 160 HT_.out (h := ?_)
                 refine done_ (done_of HT_.out (by kernel_rfl)) ?_
                 try go_wp2
                 go_meet
                 case rel => exact ⟨_, (false), (by first | rfl | (simp; done) | (simp [*]; done)), H', ⟨by have := HJ4.out; have := HJ13.out; have := HK3.out; have := HJ44.out; first | omega | exact Nat.le_refl _⟩, ⟨by (with_reducible repeat (first | apply Kd.R_alloc | apply Kd.R_drewN | apply Kd.R_drew)); exact HO_8.out⟩, ⟨by repeat (first | (with_reducible first | exact HB.out | apply below_alloc | apply pw_below_drewN | apply below_drew1) | exact HB.out)⟩⟩
             ·rw [if_neg c74] at H
              have c74b0 : decide (t206 < 0) = false := decide_eq_false c74
              clear c74
              (first | rw [c74b0] | (simp only [i64_w, i32_w]; rw [c74b0]) | skip)
              by_cases c84 : t206 ≥ 0
              ·rw [if_pos c84] at H
               have c84b0 : decide (0 ≤ t206) = true := decide_eq_true c84
               clear c84
               by_cases c85 : x13_44 = true
               ·subst c85
                have H1 : (if x12_3 = t206 then (if t206 = x12_3 then (corporalaw10_TreelabelCommon.j4 kj44 a1 a2 (l0.length : Int) t201 t206 x12_3 (!true)) else (corporalaw10_TreelabelCommon.j4 kj44 a1 a2 (l0.length : Int) t201 t206 x12_3 false)) else (if 0 ≤ x12_3 then (if x12_3 < (t201.length : Int) then (if 0 ≤ t206 then (if t206 < (t201.length : Int) then ((treelabel_Dominates.f ((rd_T41 t201 x12_3).f0) ((rd_T41 t201 x12_3).f1) ((rd_T41 t201 x12_3).f2) ((rd_T41 t201 t206).f0) ((rd_T41 t201 t206).f1) ((rd_T41 t201 t206).f2)).bind fun t222 => (if t222 = true then (if t206 = x12_3 then (corporalaw10_TreelabelCommon.j4 kj44 a1 a2 (l0.length : Int) t201 t206 x12_3 (!true)) else (corporalaw10_TreelabelCommon.j4 kj44 a1 a2 (l0.length : Int) t201 t206 x12_3 false)) else (corporalaw10_TreelabelCommon.j4 kj44 a1 a2 (l0.length : Int) t201 t206 x12_3 true))) else (none)) else (none)) else (none)) else (none))) = some r := by rw [if_pos rfl] at H; exact H
                clear H
                have H := H1
                clear H1
                by_cases c86 : x12_3 = t206
                ·rw [if_pos c86] at H
                 have c86b0 : (x12_3 == t206) = true := beq_iff_eq.mpr c86
                 have c86b1 : (x12_3 != t206) = false := bne_eq_false_iff_eq.mpr c86
                 clear c86
                 by_cases c87 : t206 = x12_3
                 ·rw [if_pos c87] at H
                  have c87b0 : (t206 == x12_3) = true := beq_iff_eq.mpr c87
                  have c87b1 : (t206 != x12_3) = false := bne_eq_false_iff_eq.mpr c87
                  clear c87
                  have H' := Aside0.mk H
                  clear H
                  try go_wp2
                  have n0_ := Aside0.mk (Kd.R_drew HO_8.out)
                  have n1_ := Aside0.mk (below_drew1 HB.out)
                  clear HO_8
                  clear HB
                  have HO_8 := n0_
                  have HB := n1_
                  clear n0_ n1_
                  refine start_ (n := 38) (S := fun w' => True) (ds := []) #[false, false, false, false, false, false, false, false, false, false, false, false, false, false, false, false, false, false, false, false, false, false, false, false, false, false, false, false, false, false, false, false, false, false, false, false, false, false] (by kernel_rfl) rfl rfl trivial (fun hHeld => ?_); refine with_tabW corporalaw10_TreelabelCommon.tab12 corporalaw10_TreelabelCommon.bits12 (fun HT_ HW_ => ?_)
                  generalize wc.drew = w88 at HO_8 HB hHeld ⊢
                  refine pw_ 0 123 HT_.out (h := ?_)
                  refine pw_ 1 124 HT_.out (h := ?_)
                  refine pw_ 2 125 HT_.out (h := ?_)
                  refine pn_ 3 126 HT_.out (h := ?_)
                  refine pw_ 4 127 HT_.out (h := ?_)
                  refine pw_ 5 128 HT_.out (h := ?_)
                  refine pw_ 6 129 HT_.out (h := ?_)
                  refine pw_ 7 130 HT_.out (h := ?_)
                  refine pw_ 8 131 HT_.out (h := ?_)
                  refine pw_ 9 132 HT_.out (h := ?_)
                  refine pw_ 10 133 HT_.out (h := ?_)
                  refine pw_ 11 134 HT_.out (h := ?_)
                  refine pw_ 12 135 HT_.out (h := ?_)
                  refine pw_ 13 136 HT_.out (h := ?_)
                  refine pw_ 14 137 HT_.out (h := ?_)
                  refine pw_ 15 138 HT_.out (h := ?_)
                  refine pw_ 16 139 HT_.out (h := ?_)
                  refine pn_ 17 140 HT_.out (h := ?_)
                  refine pn_ 18 141 HT_.out (h := ?_)
                  refine pn_ 19 142 HT_.out (h := ?_)
                  refine pn_ 20 143 HT_.out (h := ?_)
                  refine pn_ 21 144 HT_.out (h := ?_)
                  refine pn_ 22 145 HT_.out (h := ?_)
                  refine pn_ 23 146 HT_.out (h := ?_)
                  refine pn_ 24 147 HT_.out (h := ?_)
                  refine pn_ 25 148 HT_.out (h := ?_)
                  refine pn_ 26 149 HT_.out (h := ?_)
                  refine pw_ 27 150 HT_.out (h := ?_)
                  refine pw_ 28 151 HT_.out (h := ?_)
                  refine pw_ 29 152 HT_.out (h := ?_)
                  refine pw_ 30 153 HT_.out (h := ?_)
                  refine pw_ 31 154 HT_.out (h := ?_)
                  refine pw_ 32 155 HT_.out (h := ?_)
                  refine pw_ 33 156 HT_.out (h := ?_)
                  refine pw_ 34 157 HT_.out (h := ?_)
                  refine pw_ 35 158 HT_.out (h := ?_)
                  refine pw_ 36 159 HT_.out (h := ?_)
                  refine pw_ 37 160 HT_.out (h := ?_)
                  refine done_ (done_of HT_.out (by kernel_rfl)) ?_
                  try go_wp2
                  go_meet
                  case rel => exact ⟨_, (!true), (by first | rfl | (simp; done) | (simp [*]; done)), H', ⟨by have := HJ4.out; have := HJ13.out; have := HK3.out; have := HJ44.out; first | omega | exact Nat.le_refl _⟩, ⟨by (with_reducible repeat (first | apply Kd.R_alloc | apply Kd.R_drewN | apply Kd.R_drew)); exact HO_8.out⟩, ⟨by repeat (first | (with_reducible first | exact HB.out | apply below_alloc | apply pw_below_drewN | apply below_drew1) | exact HB.out)⟩⟩
                 ·rw [if_neg c87] at H
                  have c87b0 : (t206 == x12_3) = false := beq_eq_false_iff_ne.mpr c87
                  have c87b1 : (t206 != x12_3) = true := bne_iff_ne.mpr c87
                  have H' := Aside0.mk H
                  clear H
                  try go_wp2
                  have n0_ := Aside0.mk (Kd.R_drew HO_8.out)
                  have n1_ := Aside0.mk (below_drew1 HB.out)
                  clear HO_8
                  clear HB
                  have HO_8 := n0_
                  have HB := n1_
                  clear n0_ n1_
                  refine start_ (n := 38) (S := fun w' => True) (ds := []) #[false, false, false, false, false, false, false, false, false, false, false, false, false, false, false, false, false, false, false, false, false, false, false, false, false, false, false, false, false, false, false, false, false, false, false, false, false, false] (by kernel_rfl) rfl rfl trivial (fun hHeld => ?_); refine with_tabW corporalaw10_TreelabelCommon.tab12 corporalaw10_TreelabelCommon.bits12 (fun HT_ HW_ => ?_)
                  generalize wc.drew = w89 at HO_8 HB hHeld ⊢
                  refine pw_ 0 123 HT_.out (h := ?_)
                  refine pw_ 1 124 HT_.out (h := ?_)
                  refine pw_ 2 125 HT_.out (h := ?_)
                  refine pn_ 3 126 HT_.out (h := ?_)
                  refine pw_ 4 127 HT_.out (h := ?_)
                  refine pw_ 5 128 HT_.out (h := ?_)
                  refine pw_ 6 129 HT_.out (h := ?_)
                  refine pw_ 7 130 HT_.out (h := ?_)
                  refine pw_ 8 131 HT_.out (h := ?_)
                  refine pw_ 9 132 HT_.out (h := ?_)
                  refine pw_ 10 133 HT_.out (h := ?_)
                  refine pw_ 11 134 HT_.out (h := ?_)
                  refine pw_ 12 135 HT_.out (h := ?_)
                  refine pw_ 13 136 HT_.out (h := ?_)
                  refine pw_ 14 137 HT_.out (h := ?_)
                  refine pw_ 15 138 HT_.out (h := ?_)
                  refine pw_ 16 139 HT_.out (h := ?_)
                  refine pn_ 17 140 HT_.out (h := ?_)
                  refine pn_ 18 141 HT_.out (h := ?_)
                  refine pn_ 19 142 HT_.out (h := ?_)
                  refine pn_ 20 143 HT_.out (h := ?_)
                  refine pn_ 21 144 HT_.out (h := ?_)
                  refine pn_ 22 145 HT_.out (h := ?_)
                  refine pn_ 23 146 HT_.out (h := ?_)
                  refine pn_ 24 147 HT_.out (h := ?_)
                  refine pn_ 25 148 HT_.out (h := ?_)
                  refine pn_ 26 149 HT_.out (h := ?_)
                  refine pw_ 27 150 HT_.out (h := ?_)
                  refine pw_ 28 151 HT_.out (h := ?_)
                  refine pw_ 29 152 HT_.out (h := ?_)
                  refine pw_ 30 153 HT_.out (h := ?_)
                  refine pw_ 31 154 HT_.out (h := ?_)
                  refine pw_ 32 155 HT_.out (h := ?_)
                  refine pw_ 33 156 HT_.out (h := ?_)
                  refine pn_ 34 157 HT_.out (h := ?_)
                  refine pn_ 35 158 HT_.out (h := ?_)
                  refine pw_ 36 159 HT_.out (h := ?_)
                  refine pw_ 37 160 HT_.out (h := ?_)
                  refine done_ (done_of HT_.out (by kernel_rfl)) ?_
                  try go_wp2
                  go_meet
                  case rel => exact ⟨_, (false), (by first | rfl | (simp; done) | (simp [*]; done)), H', ⟨by have := HJ4.out; have := HJ13.out; have := HK3.out; have := HJ44.out; first | omega | exact Nat.le_refl _⟩, ⟨by (with_reducible repeat (first | apply Kd.R_alloc | apply Kd.R_drewN | apply Kd.R_drew)); exact HO_8.out⟩, ⟨by repeat (first | (with_reducible first | exact HB.out | apply below_alloc | apply pw_below_drewN | apply below_drew1) | exact HB.out)⟩⟩
                ·rw [if_neg c86] at H
                 have c86b0 : (x12_3 == t206) = false := beq_eq_false_iff_ne.mpr c86
                 have c86b1 : (x12_3 != t206) = true := bne_iff_ne.mpr c86
                 by_cases c90 : 0 ≤ x12_3
                 ·rw [if_pos c90] at H
                  have c90b0 : decide (0 ≤ x12_3) = true := decide_eq_true c90
                  clear c90
                  by_cases c91 : x12_3 < (t201.length : Int)
                  ·rw [if_pos c91] at H
                   have c91b0 : decide (x12_3 < (t201.length : Int)) = true := decide_eq_true c91
                   clear c91
                   by_cases c92 : 0 ≤ t206
                   ·rw [if_pos c92] at H
                    have c92b0 : decide (0 ≤ t206) = true := decide_eq_true c92
                    clear c92
                    by_cases c93 : t206 < (t201.length : Int)
                    ·rw [if_pos c93] at H
                     have c93b0 : decide (t206 < (t201.length : Int)) = true := decide_eq_true c93
                     clear c93
                     replace H := Option.bind_eq_some_iff.mp H
                     obtain ⟨t222, A940, H⟩ := H
                     replace H : (if t222 = true then (if t206 = x12_3 then (corporalaw10_TreelabelCommon.j4 kj44 a1 a2 (l0.length : Int) t201 t206 x12_3 (!true)) else (corporalaw10_TreelabelCommon.j4 kj44 a1 a2 (l0.length : Int) t201 t206 x12_3 false)) else (corporalaw10_TreelabelCommon.j4 kj44 a1 a2 (l0.length : Int) t201 t206 x12_3 true)) = some r := H
                     have A94 := Aside0.mk A940
                     clear A940
                     by_cases c95 : t222 = true
                     ·subst c95
                      have H1 : (if t206 = x12_3 then (corporalaw10_TreelabelCommon.j4 kj44 a1 a2 (l0.length : Int) t201 t206 x12_3 (!true)) else (corporalaw10_TreelabelCommon.j4 kj44 a1 a2 (l0.length : Int) t201 t206 x12_3 false)) = some r := by rw [if_pos rfl] at H; exact H
                      clear H
                      have H := H1
                      clear H1
                      by_cases c96 : t206 = x12_3
                      ·rw [if_pos c96] at H
                       have c96b0 : (t206 == x12_3) = true := beq_iff_eq.mpr c96
                       have c96b1 : (t206 != x12_3) = false := bne_eq_false_iff_eq.mpr c96
                       clear c96
                       have H' := Aside0.mk H
                       clear H
                       try go_wp2
                       have n0_ := Aside0.mk (Kd.R_drew HO_8.out)
                       have n1_ := Aside0.mk (below_drew1 HB.out)
                       clear HO_8
                       clear HB
                       have HO_8 := n0_
                       have HB := n1_
                       clear n0_ n1_
                       have p220 : 0 ≤ (x12_3 : Int) := of_decide_eq_true (by first | (with_reducible assumption) | assumption)
                       have q220 : x12_3 < (t201.length : Int) := of_decide_eq_true (by first | (with_reducible assumption) | assumption)
                       obtain ⟨ad220, e220, hx220_0, hx220_1, hx220_2⟩ := at_T41 (Kd.R_reads' HO_8.out).2.2 x12_3 p220 q220
                       cases e220
                       replace p220 := eq_true p220
                       replace q220 := eq_true q220
                       have p221 : 0 ≤ (t206 : Int) := of_decide_eq_true (by first | (with_reducible assumption) | assumption)
                       have q221 : t206 < (t201.length : Int) := of_decide_eq_true (by first | (with_reducible assumption) | assumption)
                       obtain ⟨ad221, e221, hx221_0, hx221_1, hx221_2⟩ := at_T41 (Kd.R_reads' HO_8.out).2.2 t206 p221 q221
                       obtain rfl : ad220 = ad221 := (by injection e221)
                       replace p221 := eq_true p221
                       replace q221 := eq_true q221
                       refine start_ (n := 38) (S := fun w' => w'.cell? (ad220.add ((x12_3).toNat * 3)) = some (.int .i64 ((rd_T41 t201 x12_3).f0)) ∧ w'.cell? ⟨(ad220.add ((x12_3).toNat * 3)).block, (ad220.add ((x12_3).toNat * 3)).off + 1, none⟩ = some (.int .i64 ((rd_T41 t201 x12_3).f1)) ∧ w'.cell? ⟨(ad220.add ((x12_3).toNat * 3)).block, (ad220.add ((x12_3).toNat * 3)).off + 2, none⟩ = some (.int .i64 ((rd_T41 t201 x12_3).f2)) ∧ w'.cell? (ad220.add ((t206).toNat * 3)) = some (.int .i64 ((rd_T41 t201 t206).f0)) ∧ w'.cell? ⟨(ad220.add ((t206).toNat * 3)).block, (ad220.add ((t206).toNat * 3)).off + 1, none⟩ = some (.int .i64 ((rd_T41 t201 t206).f1)) ∧ w'.cell? ⟨(ad220.add ((t206).toNat * 3)).block, (ad220.add ((t206).toNat * 3)).off + 2, none⟩ = some (.int .i64 ((rd_T41 t201 t206).f2))) (ds := []) #[false, false, false, false, false, false, false, false, false, false, false, false, false, false, false, false, false, false, false, false, false, false, false, false, false, false, false, false, false, false, false, false, false, false, false, false, false, false] (by kernel_rfl) rfl rfl ⟨hx220_0, hx220_1, hx220_2, hx221_0, hx221_1, hx221_2⟩ (fun hHeld => ?_); refine with_tabW corporalaw10_TreelabelCommon.tab12 corporalaw10_TreelabelCommon.bits12 (fun HT_ HW_ => ?_)
                       generalize wc.drew = w97 at HO_8 HB hx220_0 hx220_1 hx220_2 hx221_0 hx221_1 hx221_2 hHeld ⊢
                       refine pw_ 0 123 HT_.out (h := ?_)
                       refine pw_ 1 124 HT_.out (h := ?_)
                       refine pw_ 2 125 HT_.out (h := ?_)
                       refine pn_ 3 126 HT_.out (h := ?_)
                       refine pw_ 4 127 HT_.out (h := ?_)
                       refine pw_ 5 128 HT_.out (h := ?_)
                       refine pw_ 6 129 HT_.out (h := ?_)
                       refine pw_ 7 130 HT_.out (h := ?_)
                       refine pw_ 8 131 HT_.out (h := ?_)
                       refine pw_ 9 132 HT_.out (h := ?_)
                       refine pw_ 10 133 HT_.out (h := ?_)
                       refine pw_ 11 134 HT_.out (h := ?_)
                       refine pw_ 12 135 HT_.out (h := ?_)
                       refine pw_ 13 136 HT_.out (h := ?_)
                       refine pw_ 14 137 HT_.out (h := ?_)
                       refine pw_ 15 138 HT_.out (h := ?_)
                       refine pw_ 16 139 HT_.out (h := ?_)
                       refine pw_ 17 140 HT_.out (h := ?_)
                       refine pw_ 18 141 HT_.out (h := ?_)
                       refine pw_ 19 142 HT_.out (h := ?_)
                       refine pw_ 21 144 HT_.out (h := ?_)
                       refine pw_ 22 145 HT_.out (h := ?_)
                       refine pw_ 23 146 HT_.out (h := ?_)
                       refine take_ (i := 20) (N := some 143) (v := ?_) (a' := ?_) #[true, true, true, true, true, true, true, true, true, true, true, true, true, true, true, true, true, true, true, true, true, true, true, true, false, false, false, false, false, false, false, false, false, false, false, false, false, false] rfl rfl (take_ofW HT_.out HW_.out (by kernel_rfl)) (fun _ _ _ h => h) (Or.inl ⟨by rfl, ?_⟩) hHeld ?_ ?_
                       rotate_left
                       ·rintro w' ⟨s0, s1, s2, s3, s4, s5⟩
                        go_simp
                        with_reducible rfl
                       rotate_left
                       ·simp only [Act.put, List.setIfInBounds_toArray, List.set_cons_zero, List.set_cons_succ, i64_w, i32_w]
                        rfl
                       refine take_ (i := 24) (N := some 147) (v := ?_) (a' := ?_) #[true, true, true, true, true, true, true, true, true, true, true, true, true, true, true, true, true, true, true, true, true, true, true, true, true, false, false, false, false, false, false, false, false, false, false, false, false, false] rfl rfl (take_ofW HT_.out HW_.out (by kernel_rfl)) (fun _ _ _ h => h) (Or.inl ⟨by rfl, ?_⟩) hHeld ?_ ?_
                       rotate_left
                       ·rintro w' ⟨s0, s1, s2, s3, s4, s5⟩
                        go_simp
                        with_reducible rfl
                       rotate_left
                       ·simp only [Act.put, List.setIfInBounds_toArray, List.set_cons_zero, List.set_cons_succ, i64_w, i32_w]
                        rfl
                       refine one_ (i := 25) (N := some 148) #[true, true, true, true, true, true, true, true, true, true, true, true, true, true, true, true, true, true, true, true, true, true, true, true, true, true, false, false, false, false, false, false, false, false, false, false, false, false] rfl rfl (one_of HT_.out (by kernel_rfl)) (by decide) (fun K hK => ?_)
                       refine goes_ Try.func20 (by kernel_rfl) rfl #[.agg #[.int .i64 ((rd_T41 t201 x12_3).f0), .int .i64 ((rd_T41 t201 x12_3).f1), .int .i64 ((rd_T41 t201 x12_3).f2)], .agg #[.int .i64 ((rd_T41 t201 t206).f0), .int .i64 ((rd_T41 t201 t206).f1), .int .i64 ((rd_T41 t201 t206).f2)]] (by rfl) rfl rfl (by (try simp only [List.map_toArray, List.map_cons, List.map_nil]); first | done | rfl | (simp only [List.length_drop, List.length_take]; rfl)) ?_
                       with_reducible refine (treelabel_Dominates.calls ((rd_T41 t201 x12_3).f0) ((rd_T41 t201 x12_3).f1) ((rd_T41 t201 x12_3).f2) ((rd_T41 t201 t206).f0) ((rd_T41 t201 t206).f1) ((rd_T41 t201 t206).f2) true _ A94.out).mono ?_
                       rintro e w98 ⟨rfl, hb⟩
                       have HS0_ := (hb.cell (World.block_lt_of_cell? _ _ (hHeld.1))).trans (hHeld.1)
                       have HS1_ := (hb.cell (World.block_lt_of_cell? _ _ (hHeld.2.1))).trans (hHeld.2.1)
                       have HS2_ := (hb.cell (World.block_lt_of_cell? _ _ (hHeld.2.2.1))).trans (hHeld.2.2.1)
                       have HS3_ := (hb.cell (World.block_lt_of_cell? _ _ (hHeld.2.2.2.1))).trans (hHeld.2.2.2.1)
                       have HS4_ := (hb.cell (World.block_lt_of_cell? _ _ (hHeld.2.2.2.2.1))).trans (hHeld.2.2.2.2.1)
                       have HS5_ := (hb.cell (World.block_lt_of_cell? _ _ (hHeld.2.2.2.2.2))).trans (hHeld.2.2.2.2.2)
                       refine ⟨_, rfl, ?_⟩
                       have n0_ := Aside0.mk (Kd.R_below (by (with_reducible repeat (first | apply Kd.R_alloc | apply Kd.R_drewN | apply Kd.R_drew)); exact HO_8.out) hb)
                       have n1_ := Aside0.mk (below_step (by repeat (first | (with_reducible first | exact HB.out | apply below_alloc | apply pw_below_drewN | apply below_drew1) | exact HB.out)) hb)
                       clear HO_8
                       clear HB
                       have HO_8 := n0_
                       have HB := n1_
                       clear n0_ n1_
                       (try clear hb)
                       (try clear hb2)
                       (try clear hk)
                       (try clear hi)
                       refine hK.out _ _ ⟨HS0_, HS1_, HS2_, HS3_, HS4_, HS5_⟩ (fun hHeld => ?_)
                       clear hK K
                       refine norm_ (a' := ?_) ?_ ?_
                       rotate_left
                       ·show Act.put _ (some 148) _ = _
                        simp only [Act.put, List.setIfInBounds_toArray, List.set_cons_zero, List.set_cons_succ, i64_w, i32_w]
                        rfl
                       refine pw_ 26 149 HT_.out (h := ?_)
                       refine pw_ 27 150 HT_.out (h := ?_)
                       refine pw_ 28 151 HT_.out (h := ?_)
                       refine pw_ 29 152 HT_.out (h := ?_)
                       refine pw_ 30 153 HT_.out (h := ?_)
                       refine pw_ 31 154 HT_.out (h := ?_)
                       refine pw_ 32 155 HT_.out (h := ?_)
                       refine pw_ 33 156 HT_.out (h := ?_)
                       refine pw_ 34 157 HT_.out (h := ?_)
                       refine pw_ 35 158 HT_.out (h := ?_)
                       refine pw_ 36 159 HT_.out (h := ?_)
                       refine pw_ 37 160 HT_.out (h := ?_)
                       refine done_ (done_of HT_.out (by kernel_rfl)) ?_
                       try go_wp2
                       go_meet
                       case rel => exact ⟨_, (!true), (by first | rfl | (simp; done) | (simp [*]; done)), H', ⟨by have := HJ4.out; have := HJ13.out; have := HK3.out; have := HJ44.out; first | omega | exact Nat.le_refl _⟩, ⟨by (with_reducible repeat (first | apply Kd.R_alloc | apply Kd.R_drewN | apply Kd.R_drew)); exact HO_8.out⟩, ⟨by repeat (first | (with_reducible first | exact HB.out | apply below_alloc | apply pw_below_drewN | apply below_drew1) | exact HB.out)⟩⟩
                      ·rw [if_neg c96] at H
                       have c96b0 : (t206 == x12_3) = false := beq_eq_false_iff_ne.mpr c96
                       have c96b1 : (t206 != x12_3) = true := bne_iff_ne.mpr c96
                       have H' := Aside0.mk H
                       clear H
                       try go_wp2
                       have n0_ := Aside0.mk (Kd.R_drew HO_8.out)
                       have n1_ := Aside0.mk (below_drew1 HB.out)
                       clear HO_8
                       clear HB
                       have HO_8 := n0_
                       have HB := n1_
                       clear n0_ n1_
                       have p220 : 0 ≤ (x12_3 : Int) := of_decide_eq_true (by first | (with_reducible assumption) | assumption)
                       have q220 : x12_3 < (t201.length : Int) := of_decide_eq_true (by first | (with_reducible assumption) | assumption)
                       obtain ⟨ad220, e220, hx220_0, hx220_1, hx220_2⟩ := at_T41 (Kd.R_reads' HO_8.out).2.2 x12_3 p220 q220
                       cases e220
                       replace p220 := eq_true p220
                       replace q220 := eq_true q220
                       have p221 : 0 ≤ (t206 : Int) := of_decide_eq_true (by first | (with_reducible assumption) | assumption)
                       have q221 : t206 < (t201.length : Int) := of_decide_eq_true (by first | (with_reducible assumption) | assumption)
                       obtain ⟨ad221, e221, hx221_0, hx221_1, hx221_2⟩ := at_T41 (Kd.R_reads' HO_8.out).2.2 t206 p221 q221
                       obtain rfl : ad220 = ad221 := (by injection e221)
                       replace p221 := eq_true p221
                       replace q221 := eq_true q221
                       refine start_ (n := 38) (S := fun w' => w'.cell? (ad220.add ((x12_3).toNat * 3)) = some (.int .i64 ((rd_T41 t201 x12_3).f0)) ∧ w'.cell? ⟨(ad220.add ((x12_3).toNat * 3)).block, (ad220.add ((x12_3).toNat * 3)).off + 1, none⟩ = some (.int .i64 ((rd_T41 t201 x12_3).f1)) ∧ w'.cell? ⟨(ad220.add ((x12_3).toNat * 3)).block, (ad220.add ((x12_3).toNat * 3)).off + 2, none⟩ = some (.int .i64 ((rd_T41 t201 x12_3).f2)) ∧ w'.cell? (ad220.add ((t206).toNat * 3)) = some (.int .i64 ((rd_T41 t201 t206).f0)) ∧ w'.cell? ⟨(ad220.add ((t206).toNat * 3)).block, (ad220.add ((t206).toNat * 3)).off + 1, none⟩ = some (.int .i64 ((rd_T41 t201 t206).f1)) ∧ w'.cell? ⟨(ad220.add ((t206).toNat * 3)).block, (ad220.add ((t206).toNat * 3)).off + 2, none⟩ = some (.int .i64 ((rd_T41 t201 t206).f2))) (ds := []) #[false, false, false, false, false, false, false, false, false, false, false, false, false, false, false, false, false, false, false, false, false, false, false, false, false, false, false, false, false, false, false, false, false, false, false, false, false, false] (by kernel_rfl) rfl rfl ⟨hx220_0, hx220_1, hx220_2, hx221_0, hx221_1, hx221_2⟩ (fun hHeld => ?_); refine with_tabW corporalaw10_TreelabelCommon.tab12 corporalaw10_TreelabelCommon.bits12 (fun HT_ HW_ => ?_)
                       generalize wc.drew = w99 at HO_8 HB hx220_0 hx220_1 hx220_2 hx221_0 hx221_1 hx221_2 hHeld ⊢
                       refine pw_ 0 123 HT_.out (h := ?_)
                       refine pw_ 1 124 HT_.out (h := ?_)
                       refine pw_ 2 125 HT_.out (h := ?_)
                       refine pn_ 3 126 HT_.out (h := ?_)
                       refine pw_ 4 127 HT_.out (h := ?_)
                       refine pw_ 5 128 HT_.out (h := ?_)
                       refine pw_ 6 129 HT_.out (h := ?_)
                       refine pw_ 7 130 HT_.out (h := ?_)
                       refine pw_ 8 131 HT_.out (h := ?_)
                       refine pw_ 9 132 HT_.out (h := ?_)
                       refine pw_ 10 133 HT_.out (h := ?_)
                       refine pw_ 11 134 HT_.out (h := ?_)
                       refine pw_ 12 135 HT_.out (h := ?_)
                       refine pw_ 13 136 HT_.out (h := ?_)
                       refine pw_ 14 137 HT_.out (h := ?_)
                       refine pw_ 15 138 HT_.out (h := ?_)
                       refine pw_ 16 139 HT_.out (h := ?_)
                       refine pw_ 17 140 HT_.out (h := ?_)
                       refine pw_ 18 141 HT_.out (h := ?_)
                       refine pw_ 19 142 HT_.out (h := ?_)
                       refine pw_ 21 144 HT_.out (h := ?_)
                       refine pw_ 22 145 HT_.out (h := ?_)
                       refine pw_ 23 146 HT_.out (h := ?_)
                       refine take_ (i := 20) (N := some 143) (v := ?_) (a' := ?_) #[true, true, true, true, true, true, true, true, true, true, true, true, true, true, true, true, true, true, true, true, true, true, true, true, false, false, false, false, false, false, false, false, false, false, false, false, false, false] rfl rfl (take_ofW HT_.out HW_.out (by kernel_rfl)) (fun _ _ _ h => h) (Or.inl ⟨by rfl, ?_⟩) hHeld ?_ ?_
                       rotate_left
                       ·rintro w' ⟨s0, s1, s2, s3, s4, s5⟩
                        go_simp
                        with_reducible rfl
                       rotate_left
                       ·simp only [Act.put, List.setIfInBounds_toArray, List.set_cons_zero, List.set_cons_succ, i64_w, i32_w]
                        rfl
                       refine take_ (i := 24) (N := some 147) (v := ?_) (a' := ?_) #[true, true, true, true, true, true, true, true, true, true, true, true, true, true, true, true, true, true, true, true, true, true, true, true, true, false, false, false, false, false, false, false, false, false, false, false, false, false] rfl rfl (take_ofW HT_.out HW_.out (by kernel_rfl)) (fun _ _ _ h => h) (Or.inl ⟨by rfl, ?_⟩) hHeld ?_ ?_
                       rotate_left
                       ·rintro w' ⟨s0, s1, s2, s3, s4, s5⟩
                        go_simp
                        with_reducible rfl
                       rotate_left
                       ·simp only [Act.put, List.setIfInBounds_toArray, List.set_cons_zero, List.set_cons_succ, i64_w, i32_w]
                        rfl
                       refine one_ (i := 25) (N := some 148) #[true, true, true, true, true, true, true, true, true, true, true, true, true, true, true, true, true, true, true, true, true, true, true, true, true, true, false, false, false, false, false, false, false, false, false, false, false, false] rfl rfl (one_of HT_.out (by kernel_rfl)) (by decide) (fun K hK => ?_)
                       refine goes_ Try.func20 (by kernel_rfl) rfl #[.agg #[.int .i64 ((rd_T41 t201 x12_3).f0), .int .i64 ((rd_T41 t201 x12_3).f1), .int .i64 ((rd_T41 t201 x12_3).f2)], .agg #[.int .i64 ((rd_T41 t201 t206).f0), .int .i64 ((rd_T41 t201 t206).f1), .int .i64 ((rd_T41 t201 t206).f2)]] (by rfl) rfl rfl (by (try simp only [List.map_toArray, List.map_cons, List.map_nil]); first | done | rfl | (simp only [List.length_drop, List.length_take]; rfl)) ?_
                       with_reducible refine (treelabel_Dominates.calls ((rd_T41 t201 x12_3).f0) ((rd_T41 t201 x12_3).f1) ((rd_T41 t201 x12_3).f2) ((rd_T41 t201 t206).f0) ((rd_T41 t201 t206).f1) ((rd_T41 t201 t206).f2) true _ A94.out).mono ?_
                       rintro e w100 ⟨rfl, hb⟩
                       have HS0_ := (hb.cell (World.block_lt_of_cell? _ _ (hHeld.1))).trans (hHeld.1)
                       have HS1_ := (hb.cell (World.block_lt_of_cell? _ _ (hHeld.2.1))).trans (hHeld.2.1)
                       have HS2_ := (hb.cell (World.block_lt_of_cell? _ _ (hHeld.2.2.1))).trans (hHeld.2.2.1)
                       have HS3_ := (hb.cell (World.block_lt_of_cell? _ _ (hHeld.2.2.2.1))).trans (hHeld.2.2.2.1)
                       have HS4_ := (hb.cell (World.block_lt_of_cell? _ _ (hHeld.2.2.2.2.1))).trans (hHeld.2.2.2.2.1)
                       have HS5_ := (hb.cell (World.block_lt_of_cell? _ _ (hHeld.2.2.2.2.2))).trans (hHeld.2.2.2.2.2)
                       refine ⟨_, rfl, ?_⟩
                       have n0_ := Aside0.mk (Kd.R_below (by (with_reducible repeat (first | apply Kd.R_alloc | apply Kd.R_drewN | apply Kd.R_drew)); exact HO_8.out) hb)
                       have n1_ := Aside0.mk (below_step (by repeat (first | (with_reducible first | exact HB.out | apply below_alloc | apply pw_below_drewN | apply below_drew1) | exact HB.out)) hb)
                       clear HO_8
                       clear HB
                       have HO_8 := n0_
                       have HB := n1_
                       clear n0_ n1_
                       (try clear hb)
                       (try clear hb2)
                       (try clear hk)
                       (try clear hi)
                       refine hK.out _ _ ⟨HS0_, HS1_, HS2_, HS3_, HS4_, HS5_⟩ (fun hHeld => ?_)
                       clear hK K
                       refine norm_ (a' := ?_) ?_ ?_
                       rotate_left
                       ·show Act.put _ (some 148) _ = _
                        simp only [Act.put, List.setIfInBounds_toArray, List.set_cons_zero, List.set_cons_succ, i64_w, i32_w]
                        rfl
                       refine pw_ 26 149 HT_.out (h := ?_)
                       refine pw_ 27 150 HT_.out (h := ?_)
                       refine pw_ 28 151 HT_.out (h := ?_)
                       refine pw_ 29 152 HT_.out (h := ?_)
                       refine pw_ 30 153 HT_.out (h := ?_)
                       refine pw_ 31 154 HT_.out (h := ?_)
                       refine pw_ 32 155 HT_.out (h := ?_)
                       refine pw_ 33 156 HT_.out (h := ?_)
                       refine pn_ 34 157 HT_.out (h := ?_)
                       refine pn_ 35 158 HT_.out (h := ?_)
                       refine pw_ 36 159 HT_.out (h := ?_)
                       refine pw_ 37 160 HT_.out (h := ?_)
                       refine done_ (done_of HT_.out (by kernel_rfl)) ?_
                       try go_wp2
                       go_meet
                       case rel => exact ⟨_, (false), (by first | rfl | (simp; done) | (simp [*]; done)), H', ⟨by have := HJ4.out; have := HJ13.out; have := HK3.out; have := HJ44.out; first | omega | exact Nat.le_refl _⟩, ⟨by (with_reducible repeat (first | apply Kd.R_alloc | apply Kd.R_drewN | apply Kd.R_drew)); exact HO_8.out⟩, ⟨by repeat (first | (with_reducible first | exact HB.out | apply below_alloc | apply pw_below_drewN | apply below_drew1) | exact HB.out)⟩⟩
                     ·replace c95 := Bool.eq_false_iff.mpr c95
                      subst c95
                      have H1 : (corporalaw10_TreelabelCommon.j4 kj44 a1 a2 (l0.length : Int) t201 t206 x12_3 true) = some r := by rw [if_neg (show ¬ (false = true) by decide)] at H; exact H
                      clear H
                      have H := H1
                      clear H1
                      have H' := Aside0.mk H
                      clear H
                      try go_wp2
                      have n0_ := Aside0.mk (Kd.R_drew HO_8.out)
                      have n1_ := Aside0.mk (below_drew1 HB.out)
                      clear HO_8
                      clear HB
                      have HO_8 := n0_
                      have HB := n1_
                      clear n0_ n1_
                      have p220 : 0 ≤ (x12_3 : Int) := of_decide_eq_true (by first | (with_reducible assumption) | assumption)
                      have q220 : x12_3 < (t201.length : Int) := of_decide_eq_true (by first | (with_reducible assumption) | assumption)
                      obtain ⟨ad220, e220, hx220_0, hx220_1, hx220_2⟩ := at_T41 (Kd.R_reads' HO_8.out).2.2 x12_3 p220 q220
                      cases e220
                      replace p220 := eq_true p220
                      replace q220 := eq_true q220
                      have p221 : 0 ≤ (t206 : Int) := of_decide_eq_true (by first | (with_reducible assumption) | assumption)
                      have q221 : t206 < (t201.length : Int) := of_decide_eq_true (by first | (with_reducible assumption) | assumption)
                      obtain ⟨ad221, e221, hx221_0, hx221_1, hx221_2⟩ := at_T41 (Kd.R_reads' HO_8.out).2.2 t206 p221 q221
                      obtain rfl : ad220 = ad221 := (by injection e221)
                      replace p221 := eq_true p221
                      replace q221 := eq_true q221
                      refine start_ (n := 38) (S := fun w' => w'.cell? (ad220.add ((x12_3).toNat * 3)) = some (.int .i64 ((rd_T41 t201 x12_3).f0)) ∧ w'.cell? ⟨(ad220.add ((x12_3).toNat * 3)).block, (ad220.add ((x12_3).toNat * 3)).off + 1, none⟩ = some (.int .i64 ((rd_T41 t201 x12_3).f1)) ∧ w'.cell? ⟨(ad220.add ((x12_3).toNat * 3)).block, (ad220.add ((x12_3).toNat * 3)).off + 2, none⟩ = some (.int .i64 ((rd_T41 t201 x12_3).f2)) ∧ w'.cell? (ad220.add ((t206).toNat * 3)) = some (.int .i64 ((rd_T41 t201 t206).f0)) ∧ w'.cell? ⟨(ad220.add ((t206).toNat * 3)).block, (ad220.add ((t206).toNat * 3)).off + 1, none⟩ = some (.int .i64 ((rd_T41 t201 t206).f1)) ∧ w'.cell? ⟨(ad220.add ((t206).toNat * 3)).block, (ad220.add ((t206).toNat * 3)).off + 2, none⟩ = some (.int .i64 ((rd_T41 t201 t206).f2))) (ds := []) #[false, false, false, false, false, false, false, false, false, false, false, false, false, false, false, false, false, false, false, false, false, false, false, false, false, false, false, false, false, false, false, false, false, false, false, false, false, false] (by kernel_rfl) rfl rfl ⟨hx220_0, hx220_1, hx220_2, hx221_0, hx221_1, hx221_2⟩ (fun hHeld => ?_); refine with_tabW corporalaw10_TreelabelCommon.tab12 corporalaw10_TreelabelCommon.bits12 (fun HT_ HW_ => ?_)
                      generalize wc.drew = w101 at HO_8 HB hx220_0 hx220_1 hx220_2 hx221_0 hx221_1 hx221_2 hHeld ⊢
                      refine pw_ 0 123 HT_.out (h := ?_)
                      refine pw_ 1 124 HT_.out (h := ?_)
                      refine pw_ 2 125 HT_.out (h := ?_)
                      refine pn_ 3 126 HT_.out (h := ?_)
                      refine pw_ 4 127 HT_.out (h := ?_)
                      refine pw_ 5 128 HT_.out (h := ?_)
                      refine pw_ 6 129 HT_.out (h := ?_)
                      refine pw_ 7 130 HT_.out (h := ?_)
                      refine pw_ 8 131 HT_.out (h := ?_)
                      refine pw_ 9 132 HT_.out (h := ?_)
                      refine pw_ 10 133 HT_.out (h := ?_)
                      refine pw_ 11 134 HT_.out (h := ?_)
                      refine pw_ 12 135 HT_.out (h := ?_)
                      refine pw_ 13 136 HT_.out (h := ?_)
                      refine pw_ 14 137 HT_.out (h := ?_)
                      refine pw_ 15 138 HT_.out (h := ?_)
                      refine pw_ 16 139 HT_.out (h := ?_)
                      refine pw_ 17 140 HT_.out (h := ?_)
                      refine pw_ 18 141 HT_.out (h := ?_)
                      refine pw_ 19 142 HT_.out (h := ?_)
                      refine pw_ 21 144 HT_.out (h := ?_)
                      refine pw_ 22 145 HT_.out (h := ?_)
                      refine pw_ 23 146 HT_.out (h := ?_)
                      refine take_ (i := 20) (N := some 143) (v := ?_) (a' := ?_) #[true, true, true, true, true, true, true, true, true, true, true, true, true, true, true, true, true, true, true, true, true, true, true, true, false, false, false, false, false, false, false, false, false, false, false, false, false, false] rfl rfl (take_ofW HT_.out HW_.out (by kernel_rfl)) (fun _ _ _ h => h) (Or.inl ⟨by rfl, ?_⟩) hHeld ?_ ?_
                      rotate_left
                      ·rintro w' ⟨s0, s1, s2, s3, s4, s5⟩
                       go_simp
                       with_reducible rfl
                      rotate_left
                      ·simp only [Act.put, List.setIfInBounds_toArray, List.set_cons_zero, List.set_cons_succ, i64_w, i32_w]
                       rfl
                      refine take_ (i := 24) (N := some 147) (v := ?_) (a' := ?_) #[true, true, true, true, true, true, true, true, true, true, true, true, true, true, true, true, true, true, true, true, true, true, true, true, true, false, false, false, false, false, false, false, false, false, false, false, false, false] rfl rfl (take_ofW HT_.out HW_.out (by kernel_rfl)) (fun _ _ _ h => h) (Or.inl ⟨by rfl, ?_⟩) hHeld ?_ ?_
                      rotate_left
                      ·rintro w' ⟨s0, s1, s2, s3, s4, s5⟩
                       go_simp
                       with_reducible rfl
                      rotate_left
                      ·simp only [Act.put, List.setIfInBounds_toArray, List.set_cons_zero, List.set_cons_succ, i64_w, i32_w]
                       rfl
                      refine one_ (i := 25) (N := some 148) #[true, true, true, true, true, true, true, true, true, true, true, true, true, true, true, true, true, true, true, true, true, true, true, true, true, true, false, false, false, false, false, false, false, false, false, false, false, false] rfl rfl (one_of HT_.out (by kernel_rfl)) (by decide) (fun K hK => ?_)
                      refine goes_ Try.func20 (by kernel_rfl) rfl #[.agg #[.int .i64 ((rd_T41 t201 x12_3).f0), .int .i64 ((rd_T41 t201 x12_3).f1), .int .i64 ((rd_T41 t201 x12_3).f2)], .agg #[.int .i64 ((rd_T41 t201 t206).f0), .int .i64 ((rd_T41 t201 t206).f1), .int .i64 ((rd_T41 t201 t206).f2)]] (by rfl) rfl rfl (by (try simp only [List.map_toArray, List.map_cons, List.map_nil]); first | done | rfl | (simp only [List.length_drop, List.length_take]; rfl)) ?_
                      with_reducible refine (treelabel_Dominates.calls ((rd_T41 t201 x12_3).f0) ((rd_T41 t201 x12_3).f1) ((rd_T41 t201 x12_3).f2) ((rd_T41 t201 t206).f0) ((rd_T41 t201 t206).f1) ((rd_T41 t201 t206).f2) false _ A94.out).mono ?_
                      rintro e w102 ⟨rfl, hb⟩
                      have HS0_ := (hb.cell (World.block_lt_of_cell? _ _ (hHeld.1))).trans (hHeld.1)
                      have HS1_ := (hb.cell (World.block_lt_of_cell? _ _ (hHeld.2.1))).trans (hHeld.2.1)
                      have HS2_ := (hb.cell (World.block_lt_of_cell? _ _ (hHeld.2.2.1))).trans (hHeld.2.2.1)
                      have HS3_ := (hb.cell (World.block_lt_of_cell? _ _ (hHeld.2.2.2.1))).trans (hHeld.2.2.2.1)
                      have HS4_ := (hb.cell (World.block_lt_of_cell? _ _ (hHeld.2.2.2.2.1))).trans (hHeld.2.2.2.2.1)
                      have HS5_ := (hb.cell (World.block_lt_of_cell? _ _ (hHeld.2.2.2.2.2))).trans (hHeld.2.2.2.2.2)
                      refine ⟨_, rfl, ?_⟩
                      have n0_ := Aside0.mk (Kd.R_below (by (with_reducible repeat (first | apply Kd.R_alloc | apply Kd.R_drewN | apply Kd.R_drew)); exact HO_8.out) hb)
                      have n1_ := Aside0.mk (below_step (by repeat (first | (with_reducible first | exact HB.out | apply below_alloc | apply pw_below_drewN | apply below_drew1) | exact HB.out)) hb)
                      clear HO_8
                      clear HB
                      have HO_8 := n0_
                      have HB := n1_
                      clear n0_ n1_
                      (try clear hb)
                      (try clear hb2)
                      (try clear hk)
                      (try clear hi)
                      refine hK.out _ _ ⟨HS0_, HS1_, HS2_, HS3_, HS4_, HS5_⟩ (fun hHeld => ?_)
                      clear hK K
                      refine norm_ (a' := ?_) ?_ ?_
                      rotate_left
                      ·show Act.put _ (some 148) _ = _
                       simp only [Act.put, List.setIfInBounds_toArray, List.set_cons_zero, List.set_cons_succ, i64_w, i32_w]
                       rfl
                      refine pw_ 26 149 HT_.out (h := ?_)
                      refine pw_ 27 150 HT_.out (h := ?_)
                      refine pw_ 28 151 HT_.out (h := ?_)
                      refine pw_ 29 152 HT_.out (h := ?_)
                      refine pn_ 30 153 HT_.out (h := ?_)
                      refine pn_ 31 154 HT_.out (h := ?_)
                      refine pn_ 32 155 HT_.out (h := ?_)
                      refine pn_ 33 156 HT_.out (h := ?_)
                      refine pn_ 34 157 HT_.out (h := ?_)
                      refine pn_ 35 158 HT_.out (h := ?_)
                      refine pn_ 36 159 HT_.out (h := ?_)
                      refine pw_ 37 160 HT_.out (h := ?_)
                      refine done_ (done_of HT_.out (by kernel_rfl)) ?_
                      try go_wp2
                      go_meet
                      case rel => exact ⟨_, (true), (by first | rfl | (simp; done) | (simp [*]; done)), H', ⟨by have := HJ4.out; have := HJ13.out; have := HK3.out; have := HJ44.out; first | omega | exact Nat.le_refl _⟩, ⟨by (with_reducible repeat (first | apply Kd.R_alloc | apply Kd.R_drewN | apply Kd.R_drew)); exact HO_8.out⟩, ⟨by repeat (first | (with_reducible first | exact HB.out | apply below_alloc | apply pw_below_drewN | apply below_drew1) | exact HB.out)⟩⟩
                    ·rw [if_neg c93] at H
                     exact absurd H (by simp)
                   ·rw [if_neg c92] at H
                    exact absurd H (by simp)
                  ·rw [if_neg c91] at H
                   exact absurd H (by simp)
                 ·rw [if_neg c90] at H
                  exact absurd H (by simp)
               ·replace c85 := Bool.eq_false_iff.mpr c85
                subst c85
                have H1 : (if t206 = x12_3 then (corporalaw10_TreelabelCommon.j4 kj44 a1 a2 (l0.length : Int) t201 t206 x12_3 (!false)) else (corporalaw10_TreelabelCommon.j4 kj44 a1 a2 (l0.length : Int) t201 t206 x12_3 false)) = some r := by rw [if_neg (show ¬ (false = true) by decide)] at H; exact H
                clear H
                have H := H1
                clear H1
                by_cases c103 : t206 = x12_3
                ·rw [if_pos c103] at H
                 have c103b0 : (t206 == x12_3) = true := beq_iff_eq.mpr c103
                 have c103b1 : (t206 != x12_3) = false := bne_eq_false_iff_eq.mpr c103
                 clear c103
                 have H' := Aside0.mk H
                 clear H
                 try go_wp2
                 have n0_ := Aside0.mk (Kd.R_drew HO_8.out)
                 have n1_ := Aside0.mk (below_drew1 HB.out)
                 clear HO_8
                 clear HB
                 have HO_8 := n0_
                 have HB := n1_
                 clear n0_ n1_
                 refine start_ (n := 38) (S := fun w' => True) (ds := []) #[false, false, false, false, false, false, false, false, false, false, false, false, false, false, false, false, false, false, false, false, false, false, false, false, false, false, false, false, false, false, false, false, false, false, false, false, false, false] (by kernel_rfl) rfl rfl trivial (fun hHeld => ?_); refine with_tabW corporalaw10_TreelabelCommon.tab12 corporalaw10_TreelabelCommon.bits12 (fun HT_ HW_ => ?_)
                 generalize wc.drew = w104 at HO_8 HB hHeld ⊢
                 refine pw_ 0 123 HT_.out (h := ?_)
                 refine pw_ 1 124 HT_.out (h := ?_)
                 refine pw_ 2 125 HT_.out (h := ?_)
                 refine pn_ 3 126 HT_.out (h := ?_)
                 refine pw_ 4 127 HT_.out (h := ?_)
                 refine pw_ 5 128 HT_.out (h := ?_)
                 refine pw_ 6 129 HT_.out (h := ?_)
                 refine pw_ 7 130 HT_.out (h := ?_)
                 refine pw_ 8 131 HT_.out (h := ?_)
                 refine pw_ 9 132 HT_.out (h := ?_)
                 refine pw_ 10 133 HT_.out (h := ?_)
                 refine pw_ 11 134 HT_.out (h := ?_)
                 refine pn_ 12 135 HT_.out (h := ?_)
                 refine pn_ 13 136 HT_.out (h := ?_)
                 refine pn_ 14 137 HT_.out (h := ?_)
                 refine pw_ 15 138 HT_.out (h := ?_)
                 refine pw_ 16 139 HT_.out (h := ?_)
                 refine pn_ 17 140 HT_.out (h := ?_)
                 refine pn_ 18 141 HT_.out (h := ?_)
                 refine pn_ 19 142 HT_.out (h := ?_)
                 refine pn_ 20 143 HT_.out (h := ?_)
                 refine pn_ 21 144 HT_.out (h := ?_)
                 refine pn_ 22 145 HT_.out (h := ?_)
                 refine pn_ 23 146 HT_.out (h := ?_)
                 refine pn_ 24 147 HT_.out (h := ?_)
                 refine pn_ 25 148 HT_.out (h := ?_)
                 refine pn_ 26 149 HT_.out (h := ?_)
                 refine pw_ 27 150 HT_.out (h := ?_)
                 refine pw_ 28 151 HT_.out (h := ?_)
                 refine pw_ 29 152 HT_.out (h := ?_)
                 refine pw_ 30 153 HT_.out (h := ?_)
                 refine pw_ 31 154 HT_.out (h := ?_)
                 refine pw_ 32 155 HT_.out (h := ?_)
                 refine pw_ 33 156 HT_.out (h := ?_)
                 refine pw_ 34 157 HT_.out (h := ?_)
                 refine pw_ 35 158 HT_.out (h := ?_)
                 refine pw_ 36 159 HT_.out (h := ?_)
                 refine pw_ 37 160 HT_.out (h := ?_)
                 refine done_ (done_of HT_.out (by kernel_rfl)) ?_
                 try go_wp2
                 go_meet
                 case rel => exact ⟨_, (!false), (by first | rfl | (simp; done) | (simp [*]; done)), H', ⟨by have := HJ4.out; have := HJ13.out; have := HK3.out; have := HJ44.out; first | omega | exact Nat.le_refl _⟩, ⟨by (with_reducible repeat (first | apply Kd.R_alloc | apply Kd.R_drewN | apply Kd.R_drew)); exact HO_8.out⟩, ⟨by repeat (first | (with_reducible first | exact HB.out | apply below_alloc | apply pw_below_drewN | apply below_drew1) | exact HB.out)⟩⟩
                ·rw [if_neg c103] at H
                 have c103b0 : (t206 == x12_3) = false := beq_eq_false_iff_ne.mpr c103
                 have c103b1 : (t206 != x12_3) = true := bne_iff_ne.mpr c103
                 have H' := Aside0.mk H
                 clear H
                 try go_wp2
                 have n0_ := Aside0.mk (Kd.R_drew HO_8.out)
                 have n1_ := Aside0.mk (below_drew1 HB.out)
                 clear HO_8
                 clear HB
                 have HO_8 := n0_
                 have HB := n1_
                 clear n0_ n1_
                 refine start_ (n := 38) (S := fun w' => True) (ds := []) #[false, false, false, false, false, false, false, false, false, false, false, false, false, false, false, false, false, false, false, false, false, false, false, false, false, false, false, false, false, false, false, false, false, false, false, false, false, false] (by kernel_rfl) rfl rfl trivial (fun hHeld => ?_); refine with_tabW corporalaw10_TreelabelCommon.tab12 corporalaw10_TreelabelCommon.bits12 (fun HT_ HW_ => ?_)
                 generalize wc.drew = w105 at HO_8 HB hHeld ⊢
                 refine pw_ 0 123 HT_.out (h := ?_)
                 refine pw_ 1 124 HT_.out (h := ?_)
                 refine pw_ 2 125 HT_.out (h := ?_)
                 refine pn_ 3 126 HT_.out (h := ?_)
                 refine pw_ 4 127 HT_.out (h := ?_)
                 refine pw_ 5 128 HT_.out (h := ?_)
                 refine pw_ 6 129 HT_.out (h := ?_)
                 refine pw_ 7 130 HT_.out (h := ?_)
                 refine pw_ 8 131 HT_.out (h := ?_)
                 refine pw_ 9 132 HT_.out (h := ?_)
                 refine pw_ 10 133 HT_.out (h := ?_)
                 refine pw_ 11 134 HT_.out (h := ?_)
                 refine pn_ 12 135 HT_.out (h := ?_)
                 refine pn_ 13 136 HT_.out (h := ?_)
                 refine pn_ 14 137 HT_.out (h := ?_)
                 refine pw_ 15 138 HT_.out (h := ?_)
                 refine pw_ 16 139 HT_.out (h := ?_)
                 refine pn_ 17 140 HT_.out (h := ?_)
                 refine pn_ 18 141 HT_.out (h := ?_)
                 refine pn_ 19 142 HT_.out (h := ?_)
                 refine pn_ 20 143 HT_.out (h := ?_)
                 refine pn_ 21 144 HT_.out (h := ?_)
                 refine pn_ 22 145 HT_.out (h := ?_)
                 refine pn_ 23 146 HT_.out (h := ?_)
                 refine pn_ 24 147 HT_.out (h := ?_)
                 refine pn_ 25 148 HT_.out (h := ?_)
                 refine pn_ 26 149 HT_.out (h := ?_)
                 refine pw_ 27 150 HT_.out (h := ?_)
                 refine pw_ 28 151 HT_.out (h := ?_)
                 refine pw_ 29 152 HT_.out (h := ?_)
                 refine pw_ 30 153 HT_.out (h := ?_)
                 refine pw_ 31 154 HT_.out (h := ?_)
                 refine pw_ 32 155 HT_.out (h := ?_)
                 refine pw_ 33 156 HT_.out (h := ?_)
                 refine pn_ 34 157 HT_.out (h := ?_)
                 refine pn_ 35 158 HT_.out (h := ?_)
                 refine pw_ 36 159 HT_.out (h := ?_)
                 refine pw_ 37 160 HT_.out (h := ?_)
                 refine done_ (done_of HT_.out (by kernel_rfl)) ?_
                 try go_wp2
                 go_meet
                 case rel => exact ⟨_, (false), (by first | rfl | (simp; done) | (simp [*]; done)), H', ⟨by have := HJ4.out; have := HJ13.out; have := HK3.out; have := HJ44.out; first | omega | exact Nat.le_refl _⟩, ⟨by (with_reducible repeat (first | apply Kd.R_alloc | apply Kd.R_drewN | apply Kd.R_drew)); exact HO_8.out⟩, ⟨by repeat (first | (with_reducible first | exact HB.out | apply below_alloc | apply pw_below_drewN | apply below_drew1) | exact HB.out)⟩⟩
              ·rw [if_neg c84] at H
               have c84b0 : decide (0 ≤ t206) = false := decide_eq_false c84
               clear c84
               by_cases c106 : t206 = x12_3
               ·rw [if_pos c106] at H
                have c106b0 : (t206 == x12_3) = true := beq_iff_eq.mpr c106
                have c106b1 : (t206 != x12_3) = false := bne_eq_false_iff_eq.mpr c106
                clear c106
                have H' := Aside0.mk H
                clear H
                try go_wp2
                have n0_ := Aside0.mk (Kd.R_drew HO_8.out)
                have n1_ := Aside0.mk (below_drew1 HB.out)
                clear HO_8
                clear HB
                have HO_8 := n0_
                have HB := n1_
                clear n0_ n1_
                refine start_ (n := 38) (S := fun w' => True) (ds := []) #[false, false, false, false, false, false, false, false, false, false, false, false, false, false, false, false, false, false, false, false, false, false, false, false, false, false, false, false, false, false, false, false, false, false, false, false, false, false] (by kernel_rfl) rfl rfl trivial (fun hHeld => ?_); refine with_tabW corporalaw10_TreelabelCommon.tab12 corporalaw10_TreelabelCommon.bits12 (fun HT_ HW_ => ?_)
                generalize wc.drew = w107 at HO_8 HB hHeld ⊢
                refine pw_ 0 123 HT_.out (h := ?_)
                refine pw_ 1 124 HT_.out (h := ?_)
                refine pw_ 2 125 HT_.out (h := ?_)
                refine pn_ 3 126 HT_.out (h := ?_)
                refine pw_ 4 127 HT_.out (h := ?_)
                refine pw_ 5 128 HT_.out (h := ?_)
                refine pw_ 6 129 HT_.out (h := ?_)
                refine pw_ 7 130 HT_.out (h := ?_)
                refine pw_ 8 131 HT_.out (h := ?_)
                refine pn_ 9 132 HT_.out (h := ?_)
                refine pw_ 10 133 HT_.out (h := ?_)
                refine pw_ 11 134 HT_.out (h := ?_)
                refine pn_ 12 135 HT_.out (h := ?_)
                refine pn_ 13 136 HT_.out (h := ?_)
                refine pn_ 14 137 HT_.out (h := ?_)
                refine pw_ 15 138 HT_.out (h := ?_)
                refine pw_ 16 139 HT_.out (h := ?_)
                refine pn_ 17 140 HT_.out (h := ?_)
                refine pn_ 18 141 HT_.out (h := ?_)
                refine pn_ 19 142 HT_.out (h := ?_)
                refine pn_ 20 143 HT_.out (h := ?_)
                refine pn_ 21 144 HT_.out (h := ?_)
                refine pn_ 22 145 HT_.out (h := ?_)
                refine pn_ 23 146 HT_.out (h := ?_)
                refine pn_ 24 147 HT_.out (h := ?_)
                refine pn_ 25 148 HT_.out (h := ?_)
                refine pn_ 26 149 HT_.out (h := ?_)
                refine pw_ 27 150 HT_.out (h := ?_)
                refine pw_ 28 151 HT_.out (h := ?_)
                refine pw_ 29 152 HT_.out (h := ?_)
                refine pw_ 30 153 HT_.out (h := ?_)
                refine pw_ 31 154 HT_.out (h := ?_)
                refine pw_ 32 155 HT_.out (h := ?_)
                refine pw_ 33 156 HT_.out (h := ?_)
                refine pw_ 34 157 HT_.out (h := ?_)
                refine pw_ 35 158 HT_.out (h := ?_)
                refine pw_ 36 159 HT_.out (h := ?_)
                refine pw_ 37 160 HT_.out (h := ?_)
                refine done_ (done_of HT_.out (by kernel_rfl)) ?_
                try go_wp2
                go_meet
                case rel => exact ⟨_, (!x13_44), (by first | rfl | (simp; done) | (simp [*]; done)), H', ⟨by have := HJ4.out; have := HJ13.out; have := HK3.out; have := HJ44.out; first | omega | exact Nat.le_refl _⟩, ⟨by (with_reducible repeat (first | apply Kd.R_alloc | apply Kd.R_drewN | apply Kd.R_drew)); exact HO_8.out⟩, ⟨by repeat (first | (with_reducible first | exact HB.out | apply below_alloc | apply pw_below_drewN | apply below_drew1) | exact HB.out)⟩⟩
               ·rw [if_neg c106] at H
                have c106b0 : (t206 == x12_3) = false := beq_eq_false_iff_ne.mpr c106
                have c106b1 : (t206 != x12_3) = true := bne_iff_ne.mpr c106
                have H' := Aside0.mk H
                clear H
                try go_wp2
                have n0_ := Aside0.mk (Kd.R_drew HO_8.out)
                have n1_ := Aside0.mk (below_drew1 HB.out)
                clear HO_8
                clear HB
                have HO_8 := n0_
                have HB := n1_
                clear n0_ n1_
                refine start_ (n := 38) (S := fun w' => True) (ds := []) #[false, false, false, false, false, false, false, false, false, false, false, false, false, false, false, false, false, false, false, false, false, false, false, false, false, false, false, false, false, false, false, false, false, false, false, false, false, false] (by kernel_rfl) rfl rfl trivial (fun hHeld => ?_); refine with_tabW corporalaw10_TreelabelCommon.tab12 corporalaw10_TreelabelCommon.bits12 (fun HT_ HW_ => ?_)
                generalize wc.drew = w108 at HO_8 HB hHeld ⊢
                refine pw_ 0 123 HT_.out (h := ?_)
                refine pw_ 1 124 HT_.out (h := ?_)
                refine pw_ 2 125 HT_.out (h := ?_)
                refine pn_ 3 126 HT_.out (h := ?_)
                refine pw_ 4 127 HT_.out (h := ?_)
                refine pw_ 5 128 HT_.out (h := ?_)
                refine pw_ 6 129 HT_.out (h := ?_)
                refine pw_ 7 130 HT_.out (h := ?_)
                refine pw_ 8 131 HT_.out (h := ?_)
                refine pn_ 9 132 HT_.out (h := ?_)
                refine pw_ 10 133 HT_.out (h := ?_)
                refine pw_ 11 134 HT_.out (h := ?_)
                refine pn_ 12 135 HT_.out (h := ?_)
                refine pn_ 13 136 HT_.out (h := ?_)
                refine pn_ 14 137 HT_.out (h := ?_)
                refine pw_ 15 138 HT_.out (h := ?_)
                refine pw_ 16 139 HT_.out (h := ?_)
                refine pn_ 17 140 HT_.out (h := ?_)
                refine pn_ 18 141 HT_.out (h := ?_)
                refine pn_ 19 142 HT_.out (h := ?_)
                refine pn_ 20 143 HT_.out (h := ?_)
                refine pn_ 21 144 HT_.out (h := ?_)
                refine pn_ 22 145 HT_.out (h := ?_)
                refine pn_ 23 146 HT_.out (h := ?_)
                refine pn_ 24 147 HT_.out (h := ?_)
                refine pn_ 25 148 HT_.out (h := ?_)
                refine pn_ 26 149 HT_.out (h := ?_)
                refine pw_ 27 150 HT_.out (h := ?_)
                refine pw_ 28 151 HT_.out (h := ?_)
                refine pw_ 29 152 HT_.out (h := ?_)
                refine pw_ 30 153 HT_.out (h := ?_)
                refine pw_ 31 154 HT_.out (h := ?_)
                refine pw_ 32 155 HT_.out (h := ?_)
                refine pw_ 33 156 HT_.out (h := ?_)
                refine pn_ 34 157 HT_.out (h := ?_)
                refine pn_ 35 158 HT_.out (h := ?_)
                refine pw_ 36 159 HT_.out (h := ?_)
                refine pw_ 37 160 HT_.out (h := ?_)
                refine done_ (done_of HT_.out (by kernel_rfl)) ?_
                try go_wp2
                go_meet
                case rel => exact ⟨_, (false), (by first | rfl | (simp; done) | (simp [*]; done)), H', ⟨by have := HJ4.out; have := HJ13.out; have := HK3.out; have := HJ44.out; first | omega | exact Nat.le_refl _⟩, ⟨by (with_reducible repeat (first | apply Kd.R_alloc | apply Kd.R_drewN | apply Kd.R_drew)); exact HO_8.out⟩, ⟨by repeat (first | (with_reducible first | exact HB.out | apply below_alloc | apply pw_below_drewN | apply below_drew1) | exact HB.out)⟩⟩
            case rest =>
             clear HC73
             try clear c1
             try clear p2
             try clear c8
             try clear c10
             try clear c84
             try clear c84b0
             try clear c106
             try clear c106b0
             try clear c106b1
             obtain ⟨kq, x160_72, rfl, HA, HJ72, HO_8, HB⟩ := hcut
             cases kq with
             | zero => exact absurd HA.out (by simp [corporalaw10_TreelabelCommon.j4])
             | succ kj72 =>
              have H := HA.out
              clear HA
              simp only [corporalaw10_TreelabelCommon.j4] at H
              by_cases c109 : x160_72 = true
              ·subst c109
               have H1 : (some false) = some r := by rw [if_pos rfl] at H; exact H
               clear H
               have H := H1
               clear H1
               obtain rfl := Option.some.inj H
               go_wp2
               go_ret
               exact ⟨by first | rfl | (simp [errW_none, errW_some] <;> rfl) | (simp [*, errW_none, errW_some] <;> rfl), by repeat (first | (with_reducible first | exact HB.out | apply below_alloc | apply pw_below_drewN | apply below_drew1) | exact HB.out)⟩
              ·replace c109 := Bool.eq_false_iff.mpr c109
               subst c109
               have H1 : (corporalaw10_TreelabelCommon.l0 kj72 a1 a2 (l0.length : Int) t201 t206 (wrap64 (x12_3 + 1))) = some r := by rw [if_neg (show ¬ (false = true) by decide)] at H; exact H
               clear H
               have H := H1
               clear H1
               have H' := Aside0.mk H
               clear H
               go_wp2
               go_roundg kj72
               case measure => have := HJ4.out; have := HJ13.out; have := HK3.out; have := HJ44.out; have := HJ72.out; omega
               case rel => exact ⟨(wrap64 (x12_3 + 1)), (by first | rfl | (simp; done) | (simp [*]; done)), H', ⟨by have := HJ4.out; have := HJ13.out; have := HK3.out; have := HJ44.out; have := HJ72.out; omega⟩, ⟨by (with_reducible repeat (first | apply Kd.R_alloc | apply Kd.R_drewN | apply Kd.R_drew)); exact HO_8.out⟩, ⟨by repeat (first | (with_reducible first | exact HB.out | apply below_alloc | apply pw_below_drewN | apply below_drew1) | exact HB.out)⟩⟩
         ·rw [if_neg c44] at H
          have c44b0 : decide (x12_3 < (l0.length : Int)) = false := decide_eq_false c44
          clear c44
          replace H := Option.bind_eq_some_iff.mp H
          obtain ⟨t223, A1100, H⟩ := H
          replace H : (some t223) = some r := H
          have A110 := Aside0.mk A1100
          clear A1100
          obtain rfl := Option.some.inj H
          go_wp2_with (first | ((with_reducible refine gate_callee (f := 14) rfl ?_); refine goesL_ (some 161) rfl rfl Try.func14 (by kernel_rfl) rfl #[] rfl (by (try simp only [List.map_toArray, List.map_cons, List.map_nil]); first | done | rfl | (simp only [List.length_drop, List.length_take]; rfl)) ?_; (with_reducible refine (corporalaw10_awake.calls k3  t223 _ A110.out).mono ?_); rintro e w111 ⟨rfl, hb⟩; refine ⟨_, rfl, ?_⟩; have n0_ := Aside0.mk (Kd.R_below (by (with_reducible repeat (first | apply Kd.R_alloc | apply Kd.R_drewN | apply Kd.R_drew)); exact HO_8.out) hb); have n1_ := Aside0.mk (below_step (by repeat (first | (with_reducible first | exact HB.out | apply below_alloc | apply pw_below_drewN | apply below_drew1) | exact HB.out)) hb); clear HO_8; clear HB; have HO_8 := n0_; have HB := n1_; clear n0_ n1_; (try clear hb); (try clear hb2); (try clear hk); (try clear hi)))
          go_ret
          exact ⟨by first | rfl | (simp [errW_none, errW_some] <;> rfl) | (simp [*, errW_none, errW_some] <;> rfl), by repeat (first | (with_reducible first | exact HB.out | apply below_alloc | apply pw_below_drewN | apply below_drew1) | exact HB.out)⟩

/-- THE ONE PURE STATEMENT of corporalaw10_TreelabelCommon: yours. -/
def corporalaw10_TreelabelCommon.Pure : Prop := ∀ (l0 : List Int) (a1 : Int) (a2 : Int), l0.length ≤ maxLen → l0.length * 8 ≤ 140737488351232 → (∀ x ∈ l0, (Lit.int .i64 x).wf = true) → (Lit.int .i64 a1).wf = true → (Lit.int .i64 a2).wf = true → ∃ k, corporalaw10_TreelabelCommon.f k l0 a1 a2 = some true
theorem corporalaw10_TreelabelCommon.walk (P : corporalaw10_TreelabelCommon.Pure) (a0 : Option Addr) (len0 cap0 : Nat) (z0 : List Int) (a1 : Int) (a2 : Int) (w : World) (w0 : (a0 = none ∧ len0 = 0 ∧ cap0 = 0 ∧ z0 = []) ∨ ∃ x, a0 = some x ∧ len0 ≤ cap0 ∧ cap0 ≤ maxLen ∧ z0.length = cap0 ∧ (∀ i, i < z0.length → w.cell? (x.add i) = some (.int .i64 (z0.getD i 0))) ∧ ∀ n ∈ z0, (Lit.int .i64 n).wf = true) (y0 : len0 * 8 ≤ 140737488351232) (w1 : (Lit.int .i64 a1).wf = true) (w2 : (Lit.int .i64 a2).wf = true) :
  Calls Try.prog 9 #[.slice a0 len0 cap0, .int .i64 a1, .int .i64 a2] w fun e w' => e = .returned (.bool true) ∧ Below w.heap.size w w' := by
 obtain ⟨l0, rfl, hr0, hm0, hw0, hc0⟩ := ReadsInt.ofRowC w0
 obtain ⟨k, h⟩ := P l0 a1 a2 hm0 y0 hw0 w1 w2
 refine (corporalaw10_TreelabelCommon.calls k _ _ l0 a1 a2 true w (Kd.C_of_reads (d := (0 : Int)) (h1 := fun _ => rfl) hr0) hc0 h).mono ?_
 rintro e w' ⟨rfl, hd⟩
 exact ⟨rfl, hd⟩

end Go.Proofs.Ythjcmodhleoocaa.Q
/- Up -/
namespace Go.Proofs.Ythjcmodhleoocaa.TP

theorem pigeon : ∀ (n : Nat) (f : Nat → Nat), (∀ i, i ≤ n → f i < n) → ∃ i j, i < j ∧ j ≤ n ∧ f i = f j := by
  intro n
  induction n with
  | zero => intro f h; exact absurd (h 0 (Nat.le_refl _)) (Nat.not_lt_zero _)
  | succ n ih =>
    intro f h
    by_cases hx : ∃ i, i ≤ n ∧ f i = f (n + 1)
    · obtain ⟨i, hi, e⟩ := hx
      exact ⟨i, n + 1, by omega, Nat.le_refl _, e⟩
    · have hne : ∀ i, i ≤ n → f i ≠ f (n + 1) := fun i hi e => hx ⟨i, hi, e⟩
      obtain ⟨i, j, hij, hj, e⟩ := ih (fun i => if f i = n then f (n + 1) else f i) (fun i hi => by
        have h1 := h i (by omega)
        have h2 := h (n + 1) (Nat.le_refl _)
        have h3 := hne i hi
        show (if f i = n then f (n + 1) else f i) < n
        split <;> omega)
      refine ⟨i, j, hij, by omega, ?_⟩
      have h3 := hne i (by omega)
      have h4 := hne j hj
      split at e <;> split at e <;> omega

/-- Distinct members of a list that all lie in another: no more of them. -/
theorem inj_le (n m : Nat) (f : Nat → Nat) (hf : ∀ i, i < n → f i < m) (hi : ∀ i j, i < n → j < n → f i = f j → i = j) : n ≤ m := by
  rcases Nat.lt_or_ge m n with h | h
  · obtain ⟨i, j, hij, hj, e⟩ := pigeon m f (fun i hi' => hf i (by omega))
    have := hi i j (by omega) (by omega) e
    omega
  · exact h

/-- The element at an index. -/
def rdi (ps : List Int) (x : Int) : Int := ps.getD x.toNat 0
/-- One step up; what is no node stays. -/
def stp (ps : List Int) (x : Int) : Int := if x < 0 then x else rdi ps x
def up (ps : List Int) : Nat → Int → Int
  | 0, x => x
  | m + 1, x => up ps m (stp ps x)
theorem stp_neg {ps : List Int} {x : Int} (h : x < 0) : stp ps x = x := if_pos h
theorem stp_nn {ps : List Int} {x : Int} (h : 0 ≤ x) : stp ps x = rdi ps x := if_neg (by omega)
theorem up_succ (ps : List Int) (m : Nat) (x : Int) : up ps (m + 1) x = up ps m (stp ps x) := rfl
theorem up_out (ps : List Int) (m : Nat) : ∀ x, up ps (m + 1) x = stp ps (up ps m x) := by
  induction m with
  | zero => intro x; rfl
  | succ m ih => intro x; rw [up_succ, ih]; rfl
theorem up_add (ps : List Int) (a b : Nat) (x : Int) : up ps (a + b) x = up ps a (up ps b x) := by
  induction a generalizing b x with
  | zero => rw [Nat.zero_add]; rfl
  | succ a ih => rw [show a + 1 + b = a + (b + 1) from by omega, ih, up_out, up_succ]
theorem up_neg {ps : List Int} {x : Int} (m : Nat) (h : x < 0) : up ps m x = x := by
  induction m with
  | zero => rfl
  | succ m ih => rw [up_succ, stp_neg h, ih]
theorem up_nn_of {ps : List Int} {x : Int} {a b : Nat} (hab : a ≤ b) (h : 0 ≤ up ps b x) : 0 ≤ up ps a x := by
  rcases Int.lt_or_le (up ps a x) 0 with h1 | h1
  · have : up ps b x = up ps a x := by rw [show b = (b - a) + a from by omega, up_add, up_neg _ h1]
    omega
  · exact h1

/-- All parents are nodes or -1. -/
def InR (ps : List Int) : Prop := ∀ x : Int, 0 ≤ x → x < ps.length → -1 ≤ rdi ps x ∧ rdi ps x < ps.length
theorem up_range {ps : List Int} (h : InR ps) {x : Int} (hx : -1 ≤ x) (hx' : x < ps.length) (m : Nat) : -1 ≤ up ps m x ∧ up ps m x < ps.length := by
  induction m with
  | zero => exact ⟨hx, hx'⟩
  | succ m ih =>
    rw [up_out]
    rcases Int.lt_or_le (up ps m x) 0 with h1 | h1
    · rw [stp_neg h1]; exact ih
    · rw [stp_nn h1]; exact h _ h1 ih.2

/-- A node from which the parents lead back to it. -/
def Cyc (ps : List Int) (x : Int) : Prop := 0 ≤ x ∧ ∃ m, 0 < m ∧ up ps m x = x
theorem cyc_mul {ps : List Int} {x : Int} {m : Nat} (h : up ps m x = x) (c : Nat) : up ps (c * m) x = x := by
  induction c with
  | zero => rw [Nat.zero_mul]; rfl
  | succ c ih => rw [Nat.succ_mul, up_add, h, ih]
theorem cyc_up_nn {ps : List Int} {x : Int} (h : Cyc ps x) (i : Nat) : 0 ≤ up ps i x := by
  obtain ⟨hx, m, hm, e⟩ := h
  have h1 := cyc_mul e i
  refine up_nn_of (b := i * m) (Nat.le_mul_of_pos_right i hm) ?_
  rw [h1]; exact hx
theorem cyc_up {ps : List Int} {x : Int} (h : Cyc ps x) (i : Nat) : Cyc ps (up ps i x) := by
  refine ⟨cyc_up_nn h i, ?_⟩
  obtain ⟨_, m, hm, e⟩ := h
  exact ⟨m, hm, by rw [← up_add, Nat.add_comm, up_add, e]⟩
/-- On a cycle every later point leads back. -/
theorem cyc_back {ps : List Int} {x : Int} (h : Cyc ps x) (i : Nat) : ∃ j, up ps j (up ps i x) = x := by
  obtain ⟨_, m, hm, e⟩ := h
  have h1 := cyc_mul e i
  have h2 : i ≤ i * m := Nat.le_mul_of_pos_right i hm
  exact ⟨i * m - i, by rw [← up_add, Nat.sub_add_cancel h2, h1]⟩
theorem natAbs_lt {x : Int} {n : Nat} (h0 : 0 ≤ x) (h1 : x < n) : x.toNat < n := by omega
/-- A repetition within the first n steps. -/
theorem up_repeat {ps : List Int} (h : InR ps) {x : Int} (hx : x < ps.length) (hn : ∀ i, i ≤ ps.length → 0 ≤ up ps i x) : ∃ i j, i < j ∧ j ≤ ps.length ∧ up ps i x = up ps j x := by
  have h0 : -1 ≤ x := by have := hn 0 (Nat.zero_le _); simp only [up] at this; omega
  obtain ⟨i, j, hij, hj, e⟩ := pigeon ps.length (fun i => (up ps i x).toNat) (fun i hi => natAbs_lt (hn i hi) (up_range h h0 hx i).2)
  have hi' := hn i (by omega)
  have hj' := hn j hj
  exact ⟨i, j, hij, hj, by have e2 : (up ps i x).toNat = (up ps j x).toNat := e; omega⟩
/-- The way back is no longer than the list. -/
theorem cyc_short {ps : List Int} (h : InR ps) {x : Int} (hx : x < ps.length) (hc : Cyc ps x) : ∃ m, 0 < m ∧ m ≤ ps.length ∧ up ps m x = x := by
  obtain ⟨i, j, hij, hj, e⟩ := up_repeat h hx (fun i _ => cyc_up_nn hc i)
  obtain ⟨b, hb⟩ := cyc_back hc i
  refine ⟨j - i, by omega, by omega, ?_⟩
  have h1 : up ps (b + j) x = x := by rw [up_add, ← e, hb]
  have h2 : up ps (b + i) x = x := by rw [up_add, hb]
  have h3 : b + j = (j - i) + (b + i) := by omega
  rw [h3, up_add, h2] at h1
  exact h1
/-- No cycle: every way ends. -/
theorem ends_of {ps : List Int} (h : InR ps) (hc : ∀ x : Int, 0 ≤ x → x < ps.length → ¬ Cyc ps x) {x : Int} (hx0 : 0 ≤ x) (hx : x < ps.length) : ∃ m, m ≤ ps.length ∧ up ps m x < 0 := by
  by_cases hn : ∃ i, i ≤ ps.length ∧ up ps i x < 0
  · exact hn
  · exfalso
    obtain ⟨i, j, hij, hj, e⟩ := up_repeat h hx (fun i hi => by
      rcases Int.lt_or_le (up ps i x) 0 with h1 | h1
      · exact absurd ⟨i, hi, h1⟩ hn
      · exact h1)
    have h0 : 0 ≤ up ps i x := by
      rcases Int.lt_or_le (up ps i x) 0 with h1 | h1
      · exact absurd ⟨i, by omega, h1⟩ hn
      · exact h1
    refine hc _ h0 (up_range h (by omega) hx i).2 ⟨h0, j - i, by omega, ?_⟩
    rw [← up_add, Nat.sub_add_cancel (by omega)]
    exact e.symm
end Go.Proofs.Ythjcmodhleoocaa.TP
/- TSpec -/
namespace Go.Proofs.Ythjcmodhleoocaa.TP

/-- Node x is y or an ancestor of y. -/
def Sub (ps : List Int) (x y : Nat) : Prop := ∃ m, up ps m (y : Int) = (x : Int)
theorem Sub.refl (ps : List Int) (x : Nat) : Sub ps x x := ⟨0, rfl⟩
theorem Sub.trans {ps : List Int} {x y z : Nat} (h : Sub ps x y) (k : Sub ps y z) : Sub ps x z := by
  obtain ⟨a, ha⟩ := h
  obtain ⟨b, hb⟩ := k
  exact ⟨a + b, by rw [up_add, hb, ha]⟩
/-- A forest: parents in range, no cycle. -/
structure Forest (ps : List Int) : Prop where
  rng : InR ps
  nc : ∀ j : Int, 0 ≤ j → j < ps.length → ¬ Cyc ps j
theorem rdi_nat (ps : List Int) (c : Nat) : rdi ps (c : Int) = ps.getD c 0 := by unfold rdi; rw [Int.toNat_natCast]
theorem mem_kd {ps : List Int} {i c : Nat} : c ∈ kd ps i ↔ c < ps.length ∧ rdi ps (c : Int) = (i : Int) := by unfold kd; rw [mem_kidsOf, rdi_nat]
theorem mem_kids {ps : List Int} {p : Int} {c : Nat} : c ∈ kidsOf ps p ↔ c < ps.length ∧ rdi ps (c : Int) = p := by rw [mem_kidsOf, rdi_nat]
theorem kidsFrom_nodup (ps : List Int) (p : Int) (j : Nat) : (kidsFrom ps p j).Nodup := by
  unfold kidsFrom
  exact List.Pairwise.filter _ (List.nodup_range')
theorem kidsOf_nodup (ps : List Int) (p : Int) : (kidsOf ps p).Nodup := kidsFrom_nodup ps p 0

theorem no_loop {ps : List Int} (hf : Forest ps) {x : Nat} (hx : x < ps.length) {m : Nat} (hm : 0 < m) : up ps m (x : Int) ≠ (x : Int) := fun e =>
  hf.nc x (by omega) (by omega) ⟨by omega, m, hm, e⟩
theorem Sub.anti {ps : List Int} (hf : Forest ps) {x y : Nat} (hx : x < ps.length) (h : Sub ps x y) (k : Sub ps y x) : x = y := by
  obtain ⟨a, ha⟩ := h
  obtain ⟨b, hb⟩ := k
  rcases Nat.eq_zero_or_pos (a + b) with h0 | h0
  · obtain rfl : a = 0 := by omega
    have : (y : Int) = (x : Int) := ha
    omega
  · exact absurd (show up ps (a + b) (x : Int) = x by rw [up_add, hb, ha]) (no_loop hf hx h0)
/-- Siblings (or roots) have no common descendant. -/
theorem sib_disj {ps : List Int} (hf : Forest ps) {p : Int} {c c' x : Nat} (hp : p < ps.length) (hc : rdi ps (c : Int) = p) (hc' : rdi ps (c' : Int) = p) (h : Sub ps c x) (h' : Sub ps c' x) : c = c' := by
  have key : ∀ (c c' : Nat) (a b : Nat), rdi ps (c : Int) = p → rdi ps (c' : Int) = p → up ps a (x : Int) = c → up ps b (x : Int) = c' → a < b → False := by
    intro c c' a b hc hc' ha hb hab
    obtain ⟨e, rfl⟩ : ∃ e, b = (e + 1) + a := ⟨b - a - 1, by omega⟩
    rw [up_add, ha, up_succ, stp_nn (by omega), hc] at hb
    rcases Int.lt_or_le p 0 with h1 | h1
    · rw [up_neg _ h1] at hb; omega
    · have h2 : up ps (e + 1) p = p := by rw [up_out, hb, stp_nn (by omega), hc']
      exact hf.nc p h1 hp ⟨h1, e + 1, by omega, h2⟩
  obtain ⟨a, ha⟩ := h
  obtain ⟨b, hb⟩ := h'
  rcases Nat.lt_trichotomy a b with h | h | h
  · exact (key c c' a b hc hc' ha hb h).elim
  · subst h; rw [ha] at hb; omega
  · exact (key c' c b a hc' hc hb ha h).elim
/-- A node's tree: itself, and its children's trees. -/
theorem sub_kids {ps : List Int} (hf : Forest ps) {i x : Nat} (hx : x < ps.length) : Sub ps i x ↔ x = i ∨ ∃ c, c ∈ kd ps i ∧ Sub ps c x := by
  constructor
  · rintro ⟨m, hm⟩
    cases m with
    | zero => left; have : (x : Int) = (i : Int) := hm; omega
    | succ m =>
      right
      rw [up_out] at hm
      have h0 : 0 ≤ up ps m (x : Int) := by
        rcases Int.lt_or_le (up ps m (x : Int)) 0 with h | h
        · rw [stp_neg h] at hm; omega
        · exact h
      have h1 := (up_range hf.rng (by omega) (by omega : (x : Int) < ps.length) m).2
      rw [stp_nn h0] at hm
      exact ⟨(up ps m (x : Int)).toNat, mem_kd.2 ⟨by omega, by rw [Int.toNat_of_nonneg h0]; exact hm⟩, m, (Int.toNat_of_nonneg h0).symm⟩
  · rintro (rfl | ⟨c, hc, m, hm⟩)
    · exact Sub.refl _ _
    · exact ⟨m + 1, by rw [up_out, hm, stp_nn (by omega)]; exact (mem_kd.1 hc).2⟩
theorem kid_not_sub {ps : List Int} (hf : Forest ps) {i c : Nat} (hi : i < ps.length) (hc : c ∈ kd ps i) : ¬ Sub ps c i := by
  rintro ⟨m, hm⟩
  refine no_loop hf hi (m := m + 1) (by omega) ?_
  rw [up_out, hm, stp_nn (by omega)]
  exact (mem_kd.1 hc).2

/-- How two different nodes' labels stand to each other. -/
def Ord (ps : List Int) (L : List Lab) (x y : Nat) : Prop := ∃ lx ly, L[x]? = some lx ∧ L[y]? = some ly ∧
  ((Sub ps x y ∧ lx.pre < ly.pre ∧ ly.post < lx.post) ∨ (Sub ps y x ∧ ly.pre < lx.pre ∧ lx.post < ly.post) ∨
    (¬ Sub ps x y ∧ ¬ Sub ps y x ∧ ((lx.pre < ly.pre ∧ lx.post < ly.post) ∨ (ly.pre < lx.pre ∧ ly.post < lx.post))))
theorem Ord.symm {ps : List Int} {L : List Lab} {x y : Nat} (h : Ord ps L x y) : Ord ps L y x := by
  obtain ⟨lx, ly, h1, h2, h3⟩ := h
  refine ⟨ly, lx, h2, h1, ?_⟩
  rcases h3 with h | h | ⟨a, b, c⟩
  · exact .inr (.inl h)
  · exact .inl h
  · exact .inr (.inr ⟨b, a, c.symm⟩)

/-- What has been numbered: the nodes of T, by numbers from s on. -/
structure Res (ps : List Int) (T : Nat → Prop) (dp : Nat → Nat → Prop) (s t : NS) : Prop where
  len : t.L.length = s.L.length
  up : Up s t
  out : ∀ x, ¬ T x → t.L[x]? = s.L[x]?
  ins : ∀ x, x < ps.length → T x → ∃ l, t.L[x]? = some l ∧ s.pre ≤ l.pre ∧ l.pre < t.pre ∧ s.post ≤ l.post ∧ l.post < t.post ∧ dp x l.dep
  ord : ∀ x y, x < ps.length → y < ps.length → T x → T y → x ≠ y → Ord ps t.L x y
  onto : ∀ v, s.pre ≤ v → v < t.pre → ∃ x, x < ps.length ∧ T x ∧ ∃ l, t.L[x]? = some l ∧ l.pre = v

/-- Depths: d levels above the trees of cs. -/
def DpL (ps : List Int) (cs : List Nat) (d : Nat) (x : Nat) (e : Nat) : Prop := ∃ c, c ∈ cs ∧ ∃ m, up ps m (x : Int) = (c : Int) ∧ e = d + m
def TL (ps : List Int) (cs : List Nat) (x : Nat) : Prop := ∃ c, c ∈ cs ∧ Sub ps c x

theorem res_nil (ps : List Int) (d : Nat) (s : NS) : Res ps (TL ps []) (DpL ps [] d) s s :=
  ⟨rfl, Up.refl s, fun _ _ => rfl, fun x _ ⟨c, hc, _⟩ => (by cases hc), fun x y _ _ ⟨c, hc, _⟩ => (by cases hc), fun v h1 h2 => by omega⟩

theorem res_cons {ps : List Int} (hf : Forest ps) {p : Int} (hp : p < ps.length) {c : Nat} {cs : List Nat} {d : Nat} {s m t : NS} (hc : rdi ps (c : Int) = p) (hcs : ∀ c' ∈ cs, rdi ps (c' : Int) = p) (hnd : c ∉ cs)
    (h1 : Res ps (TL ps [c]) (DpL ps [c] d) s m) (h2 : Res ps (TL ps cs) (DpL ps cs d) m t) : Res ps (TL ps (c :: cs)) (DpL ps (c :: cs) d) s t := by
  have hdis : ∀ x, Sub ps c x → ¬ TL ps cs x := by
    rintro x hx ⟨c', hc', hx'⟩
    have := sib_disj hf hp hc (hcs c' hc') hx hx'
    subst this
    exact hnd hc'
  have hone : ∀ x, TL ps [c] x ↔ Sub ps c x := fun x => ⟨fun ⟨c', h, h'⟩ => by rw [List.mem_singleton.1 h] at h'; exact h', fun h => ⟨c, List.mem_singleton.2 rfl, h⟩⟩
  have hsplit : ∀ x, TL ps (c :: cs) x ↔ Sub ps c x ∨ TL ps cs x := by
    intro x
    constructor
    · rintro ⟨c', h, h'⟩
      rcases List.mem_cons.1 h with rfl | h
      · exact .inl h'
      · exact .inr ⟨c', h, h'⟩
    · rintro (h | ⟨c', h, h'⟩)
      · exact ⟨c, List.mem_cons_self, h⟩
      · exact ⟨c', List.mem_cons_of_mem _ h, h'⟩
  have hkeep : ∀ x, Sub ps c x → t.L[x]? = m.L[x]? := fun x hx => h2.out x (hdis x hx)
  have u1 := h1.up; have u2 := h2.up
  refine ⟨h2.len.trans h1.len, u1.trans u2, fun x hx => ?_, fun x hx ht => ?_, fun x y hx hy hTx hTy hne => ?_, fun v hv hv' => ?_⟩
  · rw [hsplit] at hx
    rw [h2.out x (fun h => hx (.inr h)), h1.out x (fun h => hx (.inl ((hone x).1 h)))]
  · rw [hsplit] at ht
    rcases ht with h | h
    · obtain ⟨l, a, b, c', e, f, c2, hc2, k, hk, hkd⟩ := h1.ins x hx ((hone x).2 h)
      refine ⟨l, (hkeep x h).trans a, b, by have := u2.2.1; omega, e, by have := u2.2.2.1; omega, c2, ?_, k, hk, hkd⟩
      rw [List.mem_singleton.1 hc2]; exact List.mem_cons_self
    · obtain ⟨l, a, b, c', e, f, c2, hc2, k, hk, hkd⟩ := h2.ins x hx h
      exact ⟨l, a, by have := u1.2.1; omega, c', by have := u1.2.2.1; omega, f, c2, List.mem_cons_of_mem _ hc2, k, hk, hkd⟩
  · rw [hsplit] at hTx hTy
    have mixed : ∀ x y, x < ps.length → y < ps.length → Sub ps c x → TL ps cs y → Ord ps t.L x y := by
      intro x y hx hy h h'
      obtain ⟨lx, a, b, c', e, f, _⟩ := h1.ins x hx ((hone x).2 h)
      obtain ⟨ly, a', b', c'', e', f', _⟩ := h2.ins y hy h'
      refine ⟨lx, ly, (hkeep x h).trans a, a', .inr (.inr ⟨fun hs => hdis y (h.trans hs) h', fun hs => ?_, .inl ⟨by omega, by omega⟩⟩)⟩
      obtain ⟨c2, hc2, hy2⟩ := h'
      exact hdis x h ⟨c2, hc2, hy2.trans hs⟩
    rcases hTx with h | h <;> rcases hTy with h' | h'
    · obtain ⟨lx, ly, a, b, e⟩ := h1.ord x y hx hy ((hone x).2 h) ((hone y).2 h') hne
      exact ⟨lx, ly, (hkeep x h).trans a, (hkeep y h').trans b, e⟩
    · exact mixed x y hx hy h h'
    · exact (mixed y x hy hx h' h).symm
    · exact h2.ord x y hx hy h h' hne
  · rcases Nat.lt_or_ge v m.pre with h | h
    · obtain ⟨x, a, b, l, e, f⟩ := h1.onto v hv h
      exact ⟨x, a, (hsplit x).2 (.inl ((hone x).1 b)), l, (hkeep x ((hone x).1 b)).trans e, f⟩
    · obtain ⟨x, a, b, l, e, f⟩ := h2.onto v h hv'
      exact ⟨x, a, (hsplit x).2 (.inr b), l, e, f⟩

theorem res_node {ps : List Int} (hf : Forest ps) {i d : Nat} (hi : i < ps.length) {s m : NS} (hl : s.L.length = ps.length) (h : Res ps (TL ps (kd ps i)) (DpL ps (kd ps i) (d + 1)) (enter i d s) m) :
    Res ps (TL ps [i]) (DpL ps [i] d) s (leave i m) := by
  have hone : ∀ x, TL ps [i] x ↔ Sub ps i x := fun x => ⟨fun ⟨c', h, h'⟩ => by rw [List.mem_singleton.1 h] at h'; exact h', fun h => ⟨i, List.mem_singleton.2 rfl, h⟩⟩
  have hni : ¬ TL ps (kd ps i) i := by
    rintro ⟨c, hc, hs⟩
    exact kid_not_sub hf hi hc hs
  have hu := h.up
  have e1 : (enter i d s).pre = s.pre + 1 := rfl
  have e2 : (enter i d s).post = s.post := rfl
  have e3 : (leave i m).pre = m.pre := rfl
  have e4 : (leave i m).post = m.post + 1 := rfl
  obtain ⟨x0, hx0⟩ : ∃ x0, s.L[i]? = some x0 := ⟨_, List.getElem?_eq_getElem (by omega)⟩
  have hLi : (leave i m).L[i]? = some { pre := s.pre, post := m.post, dep := d } := by
    have h1 := h.out i hni
    have h2 : (enter i d s).L[i]? = some { x0 with pre := s.pre, dep := d } := by simp [enter, hx0]
    rw [h2] at h1
    simp [leave, h1]
  have hLo : ∀ x, x ≠ i → (leave i m).L[x]? = m.L[x]? := fun x hx => by simp [leave, Ne.symm hx]
  have hEo : ∀ x, x ≠ i → (enter i d s).L[x]? = s.L[x]? := fun x hx => by simp [enter, Ne.symm hx]
  have hcase : ∀ x, x < ps.length → Sub ps i x → x = i ∨ (x ≠ i ∧ TL ps (kd ps i) x) := by
    intro x hx hs
    by_cases e : x = i
    · exact .inl e
    · rcases (sub_kids hf hx).1 hs with e' | h'
      · exact absurd e' e
      · exact .inr ⟨e, h'⟩
  have hup : Up s (leave i m) := by
    obtain ⟨a, b, c, e⟩ := hu
    refine ⟨by rw [leave_len, a, enter_len], by rw [e3]; omega, by rw [e4]; omega, by rw [e3, e4]; omega⟩
  refine ⟨hup.1, hup, fun x hx => ?_, fun x hx ht => ?_, fun x y hx hy hTx hTy hne => ?_, fun v hv hv' => ?_⟩
  · rw [hone] at hx
    have hxi : x ≠ i := fun e => hx (e ▸ Sub.refl ps x)
    have hxk : ¬ TL ps (kd ps i) x := by
      rintro ⟨c, hc, k, hk⟩
      exact hx ⟨k + 1, by rw [up_out, hk, stp_nn (by omega)]; exact (mem_kd.1 hc).2⟩
    rw [hLo x hxi, h.out x hxk, hEo x hxi]
  · rcases hcase x hx ((hone x).1 ht) with rfl | ⟨hxi, hk⟩
    · have := hu.2.1; have := hu.2.2.1
      exact ⟨_, hLi, Nat.le_refl _, by rw [e3]; show s.pre < m.pre; omega, by show s.post ≤ m.post; omega, by rw [e4]; show m.post < m.post + 1; omega, x, List.mem_singleton.2 rfl, 0, rfl, rfl⟩
    · obtain ⟨l, a, b, c', e, f, c2, hc2, k, hk, hkd⟩ := h.ins x hx hk
      refine ⟨l, (hLo x hxi).trans a, by omega, by rw [e3]; exact c', by omega, by rw [e4]; omega, i, List.mem_singleton.2 rfl, k + 1, ?_, by omega⟩
      rw [up_out, hk, stp_nn (by omega)]; exact (mem_kd.1 hc2).2
  · have one : ∀ y, y < ps.length → y ≠ i → TL ps (kd ps i) y → Ord ps (leave i m).L i y := by
      intro y hy hyi hk
      obtain ⟨l, a, b, c', e, f, _⟩ := h.ins y hy hk
      obtain ⟨c, hc, k, hk2⟩ := hk
      exact ⟨_, l, hLi, (hLo y hyi).trans a, .inl ⟨⟨k + 1, by rw [up_out, hk2, stp_nn (by omega)]; exact (mem_kd.1 hc).2⟩, by show s.pre < l.pre; omega, f⟩⟩
    rcases hcase x hx ((hone x).1 hTx) with rfl | ⟨hxi, hk⟩ <;> rcases hcase y hy ((hone y).1 hTy) with rfl | ⟨hyi, hk'⟩
    · exact absurd rfl hne
    · exact one y hy hyi hk'
    · exact (one x hx hxi hk).symm
    · obtain ⟨lx, ly, a, b, e⟩ := h.ord x y hx hy hk hk' hne
      exact ⟨lx, ly, (hLo x hxi).trans a, (hLo y hyi).trans b, e⟩
  · rcases Nat.lt_or_ge s.pre v with h1 | h1
    · obtain ⟨x, a, b, l, e, f⟩ := h.onto v (by omega) (by rw [e3] at hv'; exact hv')
      have hxi : x ≠ i := fun e' => hni (e' ▸ b)
      obtain ⟨c, hc, k, hk2⟩ := b
      exact ⟨x, a, (hone x).2 ⟨k + 1, by rw [up_out, hk2, stp_nn (by omega)]; exact (mem_kd.1 hc).2⟩, l, (hLo x hxi).trans e, f⟩
    · exact ⟨i, hi, (hone i).2 (Sub.refl _ _), _, hLi, by show s.pre = v; omega⟩

/-- How deep a node lies. -/
def HasD (ps : List Int) (x : Int) (d : Nat) : Prop := 0 ≤ up ps d x ∧ up ps (d + 1) x < 0
theorem HasD.uniq {ps : List Int} {x : Int} {a b : Nat} (h : HasD ps x a) (k : HasD ps x b) : a = b := by
  rcases Nat.lt_trichotomy a b with h1 | h1 | h1
  · have := up_nn_of (show a + 1 ≤ b by omega) k.1; have := h.2; omega
  · exact h1
  · have := up_nn_of (show b + 1 ≤ a by omega) h.1; have := k.2; omega
theorem hasD_ex {ps : List Int} (hf : Forest ps) {x : Int} (hx0 : 0 ≤ x) (hx : x < ps.length) : ∃ d, d < ps.length ∧ HasD ps x d := by
  obtain ⟨m, hm, hneg⟩ := ends_of hf.rng hf.nc hx0 hx
  have key : ∀ m, up ps m x < 0 → ∃ d, d < m ∧ HasD ps x d := by
    intro m
    induction m with
    | zero => intro h; have : x < 0 := h; omega
    | succ m ih =>
      intro h
      rcases Int.lt_or_le (up ps m x) 0 with h1 | h1
      · obtain ⟨d, hd, h2⟩ := ih h1; exact ⟨d, by omega, h2⟩
      · exact ⟨m, by omega, h1, h⟩
  obtain ⟨d, hd, h2⟩ := key m hneg
  exact ⟨d, by omega, h2⟩
theorem HasD.kid {ps : List Int} {c : Nat} {i : Int} {d : Nat} (hc : rdi ps (c : Int) = i) (h : HasD ps i d) : HasD ps (c : Int) (d + 1) := by
  have e : stp ps (c : Int) = i := by rw [stp_nn (by omega)]; exact hc
  exact ⟨by rw [up_succ, e]; exact h.1, by rw [up_succ, e]; exact h.2⟩

/-- The numbering of a node's tree ends, and does what it should: enough levels are n less the node's depth. -/
theorem vis_res {ps : List Int} (hf : Forest ps) (k : Nat) : ∀ (i d D : Nat) (s : NS), i < ps.length → HasD ps (i : Int) D → ps.length ≤ D + k → s.L.length = ps.length →
    ∃ t, vis (kd ps) k i d s = some t ∧ Res ps (TL ps [i]) (DpL ps [i] d) s t := by
  induction k with
  | zero =>
    intro i d D s hi hD hk
    obtain ⟨d', hd', h'⟩ := hasD_ex hf (x := (i : Int)) (by omega) (by omega)
    have := hD.uniq h'
    omega
  | succ k ih =>
    intro i d D s hi hD hk hl
    have fold : ∀ (cs : List Nat), cs.Nodup → (∀ c ∈ cs, c ∈ kd ps i) → ∀ (s : NS), s.L.length = ps.length → ∃ t, cs.foldlM (fun s c => vis (kd ps) k c (d + 1) s) s = some t ∧ Res ps (TL ps cs) (DpL ps cs (d + 1)) s t := by
      intro cs
      induction cs with
      | nil => intro _ _ s _; exact ⟨s, rfl, res_nil ps (d + 1) s⟩
      | cons c cs ihc =>
        intro hnd hall s hl
        obtain ⟨hn1, hn2⟩ := List.nodup_cons.1 hnd
        have hck := mem_kd.1 (hall c List.mem_cons_self)
        obtain ⟨m, hm, hr⟩ := ih c (d + 1) (D + 1) s hck.1 (hD.kid hck.2) (by omega) hl
        obtain ⟨t, ht, hr2⟩ := ihc hn2 (fun c' h' => hall c' (List.mem_cons_of_mem _ h')) m (hr.len.trans hl)
        refine ⟨t, ?_, res_cons hf (p := (i : Int)) (by omega) hck.2 (fun c' h' => (mem_kd.1 (hall c' (List.mem_cons_of_mem _ h'))).2) hn1 hr hr2⟩
        rw [List.foldlM_cons, hm]
        exact ht
    obtain ⟨m, hm, hr⟩ := fold (kd ps i) (kidsOf_nodup _ _) (fun c h => h) (enter i d s) (by rw [enter_len]; exact hl)
    refine ⟨leave i m, ?_, res_node hf hi hl hr⟩
    rw [vis, if_pos (by omega), hm]
    rfl
theorem visL_res {ps : List Int} (hf : Forest ps) (k : Nat) (hk : ps.length ≤ k) : ∀ (cs : List Nat), cs.Nodup → (∀ c ∈ cs, c ∈ kidsOf ps (-1)) → ∀ (s : NS), s.L.length = ps.length →
    ∃ t, visL ps k cs 0 s = some t ∧ Res ps (TL ps cs) (DpL ps cs 0) s t := by
  intro cs
  induction cs with
  | nil => intro _ _ s _; exact ⟨s, rfl, res_nil ps 0 s⟩
  | cons c cs ihc =>
    intro hnd hall s hl
    obtain ⟨hn1, hn2⟩ := List.nodup_cons.1 hnd
    have hck := mem_kids.1 (hall c List.mem_cons_self)
    have hD : HasD ps (c : Int) 0 := ⟨by show (0 : Int) ≤ (c : Int); omega, by
      show stp ps (c : Int) < 0
      rw [stp_nn (by omega), hck.2]; omega⟩
    obtain ⟨m, hm, hr⟩ := vis_res hf k c 0 0 s hck.1 hD (by omega) hl
    obtain ⟨t, ht, hr2⟩ := ihc hn2 (fun c' h' => hall c' (List.mem_cons_of_mem _ h')) m (hr.len.trans hl)
    refine ⟨t, ?_, res_cons hf (p := -1) (by omega) hck.2 (fun c' h' => (mem_kids.1 (hall c' (List.mem_cons_of_mem _ h'))).2) hn1 hr hr2⟩
    rw [visL_cons, hm]
    exact ht

/-- The labels of a forest. -/
structure LabOf (ps : List Int) (L : List Lab) : Prop where
  len : L.length = ps.length
  dep : ∀ (x : Nat) (l : Lab), L[x]? = some l → HasD ps (x : Int) l.dep
  rng : ∀ (x : Nat) (l : Lab), L[x]? = some l → l.pre < ps.length ∧ l.post < ps.length
  ord : ∀ x y, x < ps.length → y < ps.length → x ≠ y → Ord ps L x y
  onto : ∀ v, v < ps.length → ∃ (x : Nat) (l : Lab), L[x]? = some l ∧ l.pre = v
theorem root_of {ps : List Int} (hf : Forest ps) {x : Nat} (hx : x < ps.length) : TL ps (kidsOf ps (-1)) x := by
  obtain ⟨d, hd, h1, h2⟩ := hasD_ex hf (x := (x : Int)) (by omega) (by omega)
  have hr := up_range hf.rng (by omega) (by omega : (x : Int) < ps.length) d
  have hr2 := up_range hf.rng (by omega) (by omega : (x : Int) < ps.length) (d + 1)
  rw [up_out, stp_nn h1] at h2 hr2
  exact ⟨(up ps d (x : Int)).toNat, mem_kids.2 ⟨by omega, by rw [Int.toNat_of_nonneg h1]; omega⟩, d, (Int.toNat_of_nonneg h1).symm⟩
/-- The numbering of a forest ends with its labels. -/
theorem num_res {ps : List Int} (hf : Forest ps) (k : Nat) (hk : ps.length ≤ k) : ∃ t, visL ps k (kidsOf ps (-1)) 0 ⟨List.replicate ps.length ⟨0, 0, 0⟩, 0, 0⟩ = some t ∧ t.pre = ps.length ∧ t.post = ps.length ∧ LabOf ps t.L := by
  obtain ⟨t, ht, hr⟩ := visL_res hf k hk (kidsOf ps (-1)) (kidsOf_nodup _ _) (fun c h => h) ⟨List.replicate ps.length ⟨0, 0, 0⟩, 0, 0⟩ (by rw [List.length_replicate])
  have hlen : t.L.length = ps.length := by rw [hr.len, List.length_replicate]
  have hin : ∀ x, x < ps.length → ∃ l, t.L[x]? = some l ∧ l.pre < t.pre ∧ l.post < t.post ∧ DpL ps (kidsOf ps (-1)) 0 x l.dep := fun x hx => by
    obtain ⟨l, a, _, b, _, c, e⟩ := hr.ins x hx (root_of hf hx)
    exact ⟨l, a, b, c, e⟩
  have hup := hr.up
  have hpp : t.pre = t.post := by have := hup.2.2.2; simp only at this; omega
  have h1 : ps.length ≤ t.pre := by
    refine inj_le ps.length t.pre (fun x => ((t.L[x]?).getD ⟨0, 0, 0⟩).pre) (fun x hx => ?_) (fun x y hx hy e => ?_)
    · obtain ⟨l, a, b, _⟩ := hin x hx
      show ((t.L[x]?).getD ⟨0, 0, 0⟩).pre < t.pre
      rw [a]; exact b
    · by_cases hxy : x = y
      · exact hxy
      · exfalso
        obtain ⟨lx, ly, a, b, c⟩ := hr.ord x y hx hy (root_of hf hx) (root_of hf hy) hxy
        have e' : ((t.L[x]?).getD ⟨0, 0, 0⟩).pre = ((t.L[y]?).getD ⟨0, 0, 0⟩).pre := e
        rw [a, b] at e'
        have e2 : lx.pre = ly.pre := e'
        omega
  have h2 : t.pre ≤ ps.length := by
    have hex : ∀ v, ∃ x, v < t.pre → x < ps.length ∧ ∃ l, t.L[x]? = some l ∧ l.pre = v := fun v => by
      by_cases hv : v < t.pre
      · obtain ⟨x, a, _, l, b, c⟩ := hr.onto v (Nat.zero_le _) hv
        exact ⟨x, fun _ => ⟨a, l, b, c⟩⟩
      · exact ⟨0, fun h => absurd h hv⟩
    refine inj_le t.pre ps.length (fun v => Classical.choose (hex v)) (fun v hv => (Classical.choose_spec (hex v) hv).1) (fun v w hv hw e => ?_)
    obtain ⟨_, l, a, b⟩ := Classical.choose_spec (hex v) hv
    obtain ⟨_, l', a', b'⟩ := Classical.choose_spec (hex w) hw
    have e' : Classical.choose (hex v) = Classical.choose (hex w) := e
    rw [e'] at a
    rw [a] at a'
    have : l = l' := Option.some.inj a'
    rw [← b, ← b', this]
  have h3 : t.pre = ps.length := by omega
  refine ⟨t, ht, h3, by omega, hlen, fun x l hl => ?_, fun x l hl => ?_, fun x y hx hy hne => hr.ord x y hx hy (root_of hf hx) (root_of hf hy) hne, fun v hv => ?_⟩
  · have hx : x < ps.length := by have := (List.getElem?_eq_some_iff.1 hl).1; omega
    obtain ⟨l', a, _, _, c, hc, m, hm, e⟩ := hin x hx
    rw [hl] at a
    obtain rfl := Option.some.inj a
    have hck := mem_kids.1 hc
    rw [Nat.zero_add] at e
    rw [e]
    exact ⟨by rw [hm]; omega, by rw [up_out, hm, stp_nn (by omega), hck.2]; omega⟩
  · have hx : x < ps.length := by have := (List.getElem?_eq_some_iff.1 hl).1; omega
    obtain ⟨l', a, b, c, _⟩ := hin x hx
    rw [hl] at a
    obtain rfl := Option.some.inj a
    omega
  · obtain ⟨x, _, _, l, b, c⟩ := hr.onto v (Nat.zero_le _) (by omega)
    exact ⟨x, l, b, c⟩
end Go.Proofs.Ythjcmodhleoocaa.TP
/- Walk -/
namespace Go.Proofs.Ythjcmodhleoocaa.Q
open Go.RowKit Go.Proofs.YthjcmodhleoocaaW.PrintWords Go.Proofs.YthjcmodhleoocaaW.PrintLast Go.Proofs.YthjcmodhleoocaaW.PrintMore
open Go.Proofs.Ythjcmodhleoocaa.TP
theorem add_block (ad : Addr) (j : Nat) : (ad.add j).block = ad.block := by unfold Addr.add; split <;> rfl
set_option maxRecDepth 100000 in
set_option maxHeartbeats 4000000 in
theorem walk_calls {W0 : World} {g gl n cap cp : Nat} {Ap : Option Addr} {ps : List Int} (hn : ps.length = n) (hn' : n ≤ 1000000)
    (hps : 0 < n → ∃ ad, Ap = some ad ∧ ad.block ≠ g ∧ ad.block ≠ gl ∧ ∀ j, j < n → W0.cell? (ad.add j) = some (.int .i64 (ps.getD j 0))) (k : Nat) :
    ∀ (d : Nat) (p y : Int) (s t : NS) (W : World), y = d → visL ps k (kidsOf ps p) d s = some t → s.L.length = n → t.pre ≤ 1000000 → t.post ≤ 1000000 → d + k ≤ 1000000 →
    VS 61 43 (.slice Ap n cp) g gl n cap W0 W s →
    Calls Try.prog 34 #[.pointer (some ⟨g, 0, none⟩), .int .i64 p, .int .i64 y] W fun e w' => e = .returned (.tuple #[]) ∧ VS 61 43 (.slice Ap n cp) g gl n cap W0 w' t := by
  induction k using Nat.strongRecOn with
  | _ k ih =>
    intro d p y s t W hy h hL hp hq hd hV
    subst hy
    have HF := Aside0.mk h
    have HN := Aside0.mk hn
    have HPS := Aside0.mk hps
    have HIH := Aside0.mk ih
    have HLs := Aside0.mk hL
    have HV := Aside0.mk hV
    have c0 := hV.cell 0
    have hu61 := Try.underlying61
    have hu43 := Try.underlying43
    simp at c0
    clear h hn hps ih hL hV
    go_enter Try.func34, Try.ntmps34
    go_wp2
    go_loopg [13] n (fun kq v13 wr => ∃ (j : Nat) (sj : NS), v13 = .int .i64 (j : Int) ∧ j ≤ n ∧ Aside0 (kq + j = n) ∧ Aside0 (visL ps k (kidsFrom ps p j) d sj = some t) ∧ Aside0 (sj.L.length = n) ∧ Aside0 (VS 61 43 (.slice Ap n cp) g gl n cap W0 wr sj))
    case atStart => exact ⟨0, s, rfl, Nat.zero_le _, ⟨rfl⟩, HF, HLs, HV⟩
    case round =>
      clear HV c0
      obtain ⟨j, sj, rfl, hj, HK, HFj, HLj, HVj⟩ := hrel
      by_cases hlt : j < n
      · obtain ⟨ad, rfl, hag, hal, hac⟩ := HPS.out (by omega)
        have hcell : wr.cell? (ad.add j) = some (.int .i64 (ps.getD j 0)) := (HVj.out.far hag hal (add_block ad j)).trans (hac j hlt)
        clear hac
        by_cases hhit : ps.getD j 0 = p
        · have hfj := HFj.out
          rw [kidsFrom_hit ps p j (by rw [HN.out]; exact hlt) hhit, visL_cons] at hfj
          cases hv : vis (kd ps) k j d sj with
          | none => rw [hv] at hfj; cases hfj
          | some m =>
          rw [hv] at hfj
          obtain ⟨k', rfl⟩ : ∃ k', k = k' + 1 := by
            cases k with
            | zero => cases hv
            | succ k' => exact ⟨k', rfl⟩
          have hup := vis_up _ _ _ _ _ hv
          have hup' := visL_up _ _ _ hfj
          rw [vis_succ, if_pos (by rw [HLj.out]; exact hlt)] at hv
          cases hw : visL ps k' (kd ps j) (d + 1) (enter j d sj) with
          | none => rw [hw] at hv; cases hv
          | some m1 =>
          rw [hw] at hv
          obtain rfl := Option.some.inj hv
          have hup1 := visL_up _ _ _ hw
          have Hw := Aside0.mk hw
          have Hf := Aside0.mk hfj
          obtain ⟨p0, p1, p2, l0, l1, l2⟩ := HVj.out.lab j (by rw [HLj.out]; exact hlt)
          have m0 := HVj.out.labfree (j * 3)
          have m2 := HVj.out.labfree (j * 3 + 2)
          have c1 := HVj.out.cell 1
          have c2 := HVj.out.cell 2
          have f2 := HVj.out.free 2
          have hne := HVj.out.ne
          have HE := Aside0.mk (HVj.out.drew.enter j d)
          have HLe := Aside0.mk ((enter_len j d sj).trans HLj.out)
          have HLm := Aside0.mk (hup.1.trans HLj.out)
          have HLm1 := Aside0.mk ((hup1.1.trans (enter_len j d sj)).trans HLj.out)
          have b1 : sj.pre ≤ 1000000 := by have := hup.2.1; have := hup'.2.1; omega
          have b2 : m1.pre ≤ 1000000 := by have := hup'.2.1; simp only [leave] at this; omega
          have b3 : m1.post + 1 ≤ 1000000 := by have := hup'.2.2.1; simp only [leave] at this; omega
          have HHit := Aside0.mk hhit
          rw [hhit] at hcell
          simp at c1 c2
          clear hv hw hfj hup hup' hup1 hhit HFj
          go_wp2
          go_region
          go_wp2_with (go_at_call 34; refine (HIH.out k' (by omega) (d + 1) _ _ _ m1 _ (by omega) Hw.out HLe.out b2 (by omega) (by omega) HE.out).mono ?_; rintro e w1 ⟨rfl, hV1⟩; have HV1 := Aside0.mk hV1; clear hV1)
          clear c1 c2 f2 m0 m2 l0 l1 l2 hcell
          obtain ⟨q0, q1, q2, l0, l1, l2⟩ := HV1.out.lab j (by rw [HLm1.out]; exact hlt)
          have m1' := HV1.out.labfree (j * 3 + 1)
          have c1 := HV1.out.cell 1
          have c3 := HV1.out.cell 3
          have f3 := HV1.out.free 3
          have HE2 := Aside0.mk (HV1.out.drew.leave j)
          simp at c1 c3
          clear HE HV1
          go_region
          go_wp2
          go_roundg (n - (j + 1))
          case measure => have := HK.out; omega
          case rel => exact ⟨j + 1, leave j m1, by go_num, by omega, ⟨by omega⟩, Hf, HLm, HE2⟩
        · have hfj := HFj.out
          rw [kidsFrom_miss ps p j (by rw [HN.out]; exact hlt) hhit] at hfj
          have Hf := Aside0.mk hfj
          obtain ⟨q, hq'⟩ : ∃ q, ps.getD j 0 = q := ⟨_, rfl⟩
          rw [hq'] at hcell hhit
          have htest : (q != p) = true := by rw [bne_iff_ne]; exact hhit
          clear hq' hhit hfj HFj
          go_wp2
          go_roundg (n - (j + 1))
          case measure => have := HK.out; omega
          case rel => exact ⟨j + 1, sj, by go_num, by omega, ⟨by omega⟩, Hf, HLj, HVj⟩
      · have hfe := HFj.out
        rw [kidsFrom_end ps p j (by rw [HN.out]; omega), visL_nil] at hfe
        obtain rfl := Option.some.inj hfe
        clear HFj hfe
        go_wp2
        go_end0
        exact ⟨rfl, HVj.out⟩
end Go.Proofs.Ythjcmodhleoocaa.Q
/- WalkNew -/
namespace Go.Proofs.Ythjcmodhleoocaa.Q
open Go.RowKit Go.Proofs.YthjcmodhleoocaaW.PrintWords Go.Proofs.YthjcmodhleoocaaW.PrintLast Go.Proofs.YthjcmodhleoocaaW.PrintMore
open Go.Proofs.Ythjcmodhleoocaa.TP

/-- The labels of a list of parents: the numbering from the roots, where it stays small. -/
def numL (k : Nat) (ps : List Int) : Option (List Lab) :=
  if ps.length ≤ 1000000 then
    match visL ps (lim k) (kidsOf ps (-1)) 0 (blank ps.length) with
    | some t => if t.pre ≤ 1000000 ∧ t.post ≤ 1000000 then some t.L else none
    | none => none
  else none
theorem numL_some {k : Nat} {ps : List Int} {L : List Lab} (h : numL k ps = some L) : ps.length ≤ 1000000 ∧ ∃ t, visL ps (lim k) (kidsOf ps (-1)) 0 (blank ps.length) = some t ∧ t.pre ≤ 1000000 ∧ t.post ≤ 1000000 ∧ t.L = L := by
  unfold numL at h
  split at h
  case isFalse => cases h
  case isTrue hc =>
  cases hv : visL ps (lim k) (kidsOf ps (-1)) 0 (blank ps.length) with
  | none => rw [hv] at h; cases h
  | some t =>
    rw [hv] at h
    simp only at h
    split at h
    case isFalse => cases h
    case isTrue hp =>
    exact ⟨hc, t, rfl, hp.1, hp.2, Option.some.inj h⟩

theorem numL_of {k : Nat} {ps : List Int} {t : NS} (h1 : ps.length ≤ 1000000) (h : visL ps (lim k) (kidsOf ps (-1)) 0 (blank ps.length) = some t) (hp : t.pre ≤ 1000000) (hq : t.post ≤ 1000000) : numL k ps = some t.L := by
  unfold numL
  rw [if_pos h1, h]
  simp only
  rw [if_pos ⟨hp, hq⟩]
theorem numL_mono (k : Nat) (ps : List Int) : LeO (numL k ps) (numL (k + 1) ps) := by
  intro L h
  obtain ⟨h1, t, hv, hp, hq, rfl⟩ := numL_some h
  exact numL_of h1 (visL_lim hv) hp hq
/-- What the reference hands back. -/
def num43 (k : Nat) (ps : List Int) : Option (List S43 × Int × Int) := (numL k ps).bind fun L => some (L.map lab43, 0, 0)
theorem num43_mono (k : Nat) (ps : List Int) : LeO (num43 k ps) (num43 (k + 1) ps) := LeO.bind (numL_mono k ps) (fun _ => LeO.refl _)
set_option maxRecDepth 100000 in
set_option maxHeartbeats 1000000 in
theorem walk_none {g c : Nat} {A : Option Addr} (W : World) (h : W.cell? ⟨g, 0, none⟩ = some (.slice A 0 c)) :
    Calls Try.prog 34 #[.pointer (some ⟨g, 0, none⟩), .int .i64 (-1), .int .i64 0] W fun e w' => e = .returned (.tuple #[]) ∧ W = w' := by
  have hu61 := Try.underlying61
  go_enter Try.func34, Try.ntmps34
  go_wp2
  go_loop [13] (fun v => v = .int .i64 0) (fun _ => 0)
  case atStart => exact rfl
  case round =>
    subst hrel
    go_wp2
    go_end0
    exact ⟨rfl, rfl⟩

theorem walk_new {w W : World} {A0 A : Option Addr} {c0 c g k : Nat} {l0 : List Int} {y : List S43} {L : List Lab} (hr0 : Kd.C (Kd.int .i64) w A0 l0.length l0) (hbase : w.heap.size ≤ g)
    (hst : W.heap[g]? = some (.cells #[.slice A0 l0.length c0, .slice A y.length c, .int .i64 0, .int .i64 0] 61 (0, 0)))
    (hR : Kd.R k43 43 W w.heap.size (fun _ => True) (.slice A y.length c) y) (hy : y = List.replicate ((l0.length : Int) : Int).toNat z43) (hB : Below w.heap.size w W) (hnum : numL k l0 = some L) :
    Calls Try.prog 34 #[.pointer (some ⟨g, 0, none⟩), .int .i64 (-1), .int .i64 0] W fun e w' => e = .returned (.tuple #[]) ∧ Kd.R k43 43 w' w.heap.size (fun _ => True) (.slice A y.length c) (L.map lab43) ∧ w'.cell? ⟨g, 1, none⟩ = some (.slice A y.length c) ∧ Below w.heap.size w w' := by
  obtain ⟨hn, t, hv, hp, hq, rfl⟩ := numL_some hnum
  have hy' : y = List.replicate l0.length z43 := hy
  have hyl : y.length = l0.length := by rw [hy', List.length_replicate]
  rw [hyl] at hst hR ⊢
  rcases Nat.eq_zero_or_pos l0.length with h0 | hpos
  · rw [h0] at hst
    have hl0 : l0 = [] := List.eq_nil_of_length_eq_zero h0
    have hy0 : y = [] := by rw [hy', h0]; rfl
    refine (walk_none W ((blk_cell hst 0).trans rfl)).mono ?_
    rintro e w' ⟨rfl, rfl⟩
    have ht : t.L.map lab43 = y := by
      rw [hl0] at hv
      have : t = blank 0 := (Option.some.inj hv).symm
      rw [this, hy0]; rfl
    rw [ht]
    exact ⟨rfl, hR, by rw [h0]; exact (blk_cell hst 1).trans rfl, hB⟩
  · rw [hy'] at hR
    obtain ⟨gl, capl, hgl, _, _, _, _⟩ := Kd.R_form hR (by rw [List.length_replicate]; exact hpos)
    injection hgl with hg1 _ hg3
    subst hg1; subst hg3
    obtain ⟨curl, hcurl, hlc, hsz, hnc, hcm, hbl⟩ := cells43 hpos hR
    have hgne : g ≠ gl := blk_ne hst hcurl (by decide)
    have hV : VS 61 43 (.slice A0 l0.length c0) g gl l0.length c W W (blank l0.length) := ⟨rfl, rfl, rfl, rfl, fun _ _ _ => rfl, hst, ⟨curl, hcurl, hlc, hsz⟩, hgne⟩
    have hup := visL_up _ _ _ hv
    refine (walk_calls rfl hn (fun _ => ?_) (lim k) 0 (-1) 0 (blank l0.length) t W rfl hv (by simp [blank]) hp hq (by have := lim_le k; omega) hV).mono ?_
    · obtain ⟨_, _, hc⟩ := hr0
      obtain ⟨ad, hA, hcells⟩ := hc hpos
      have hcell : ∀ j, j < l0.length → w.cell? (ad.add j) = some (.int .i64 (l0.getD j 0)) := by
        intro j hj
        obtain ⟨cs, _, hK, hcs⟩ := hcells j l0[j] (List.getElem?_eq_getElem hj)
        have hK' : cs = [Value.int .i64 l0[j]] := hK
        have := hcs 0 (.int .i64 l0[j]) (by rw [hK']; rfl)
        have e1 : (Kd.int .i64).sz = 1 := rfl
        rw [e1, Nat.mul_one, Nat.add_zero] at this
        rw [this, List.getD_eq_getElem?_getD, List.getElem?_eq_getElem hj]; rfl
      have hlt : ad.block < w.heap.size := by have := World.block_lt_of_cell? w _ (hcell 0 hpos); rwa [add_block] at this
      exact ⟨ad, hA, by omega, by omega, fun j hj => (hB.cell (World.block_lt_of_cell? w _ (hcell j hj))).trans (hcell j hj)⟩
    · rintro e w' ⟨rfl, hV'⟩
      refine ⟨rfl, hV'.result43 w.heap.size hbl (by rw [hup.1]; simp [blank]) hnc hcm, (hV'.cell 1).trans rfl, ⟨hV'.os.trans hB.os, hV'.tape.trans hB.tape, hV'.output.trans hB.output, by rw [hV'.size]; exact hB.size, fun j hj => (hV'.keep j (by omega) (by omega)).trans (hB.block j hj)⟩⟩
end Go.Proofs.Ythjcmodhleoocaa.Q
/- EvAid -/
namespace Go.Proofs.Ythjcmodhleoocaa.Q
open Go.RowKit Go.Proofs.YthjcmodhleoocaaW.PrintWords Go.Proofs.YthjcmodhleoocaaW.PrintLast

theorem ev_pos {α : Type} {c : Prop} [Decidable c] {f g : Nat → Option α} {r : α} (h : c) (e : Ev f r) : Ev (fun k => if c then f k else g k) r := Ev.congr (fun _ => if_pos h) e
theorem ev_neg {α : Type} {c : Prop} [Decidable c] {f g : Nat → Option α} {r : α} (h : ¬ c) (e : Ev g r) : Ev (fun k => if c then f k else g k) r := Ev.congr (fun _ => if_neg h) e
theorem ev_some {α β : Type} {a : α} {f : Nat → α → Option β} {r : β} (e : Ev (fun k => f k a) r) : Ev (fun k => (some a).bind (f k)) r := e
theorem ev_now {α : Type} {r r' : α} (h : r = r') : Ev (fun _ => some r) r' := by subst h; exact Ev.now r
theorem ev_eq {α : Type} {f : Nat → Option α} {r r' : α} (e : Ev f r) (h : r = r') : Ev f r' := h ▸ e
theorem wrap_up (i : Nat) (h : i ≤ 4611686018427387904) : wrap64 ((i : Int) + 1) = ((i + 1 : Nat) : Int) := by
  unfold wrap64; omega
theorem wrap_in (x : Int) (h0 : -4611686018427387904 ≤ x) (h : x ≤ 4611686018427387904) : wrap64 x = x := by
  unfold wrap64; omega
theorem rd_rdi (ps : List Int) (x : Int) : rd ps x = TP.rdi ps x := rfl
theorem rd_set_same {xs : List Int} {i v : Int} (h0 : 0 ≤ i) (h : i < xs.length) : rd (xs.set i.toNat v) i = v := by
  unfold rd
  rw [List.getD_eq_getElem?_getD, List.getElem?_set_self (by omega)]; rfl
theorem rd_set_ne {xs : List Int} {i j v : Int} (h0 : 0 ≤ i) (hj : 0 ≤ j) (h : i ≠ j) : rd (xs.set i.toNat v) j = rd xs j := by
  unfold rd
  rw [List.getD_eq_getElem?_getD, List.getElem?_set_ne (by omega), ← List.getD_eq_getElem?_getD]
theorem rd_replicate {n : Nat} {i v : Int} (h0 : 0 ≤ i) (h : i < n) : rd (List.replicate n v) i = v := by
  unfold rd
  rw [List.getD_eq_getElem?_getD, List.getElem?_replicate, if_pos (by omega)]; rfl
end Go.Proofs.Ythjcmodhleoocaa.Q
