/- The law TreelabelWalks answers true for every input, and each argument reads behind the call as it read before. -/
import Derived.Test.YthjcmodhleoocaaMWlk1
import Derived.Test.YthjcmodhleoocaaMWlk2
import Derived.Handy
import Derived.Test.YthjcmodhleoocaaRows
import Derived.WalkKit
import Derived.ProofKit
import Derived.OpenShut
import Derived.ShutString
import Derived.ChangeOld
import Derived.Below
import Derived.SizedLaws
import Derived.Test.YthjcmodhleoocaaWSized
set_option linter.unusedVariables false
set_option linter.unusedSimpArgs false
/- FCorporaref09Check -/
namespace Go.Proofs.Ythjcmodhleoocaa.Q
open Go.RowKit Go.Proofs.YthjcmodhleoocaaW.PrintWords Go.Proofs.YthjcmodhleoocaaW.PrintLast Go.Proofs.YthjcmodhleoocaaW.PrintMore
attribute [local go_sem] max2_int min2_int max_two min_two max_three min_three max_four min_four   -- for this text's walks alone
set_option linter.unusedVariables false
set_option linter.unusedSimpArgs false

/-! ### corporaref09_Check: function 35 -/
mutual
def corporaref09_Check.l0 : Nat → List Int → List Int → Int → Int → Option (Int × Int)
 | 0, _, _, _, _ => none
 | k + 1, x0, x10, x11, x12 => if x12 < x11 then (if 0 ≤ x12 then (if x12 < (x10.length : Int) then (if (rd x10 x12) < (-1) then (some (x12, 8)) else (if (rd x10 x12) ≥ (x0.length : Int) then (some (x12, 8)) else (corporaref09_Check.l0 k x0 x10 x11 (wrap64 (x12 + 1))))) else (none)) else (none)) else (corporaref09_Check.l1 k x0 (x0.length : Int) 0)
def corporaref09_Check.l1 : Nat → List Int → Int → Int → Option (Int × Int)
 | 0, _, _, _ => none
 | k + 1, x0, x28, x29 => if x29 < x28 then ((corporaref09_cyclic.f k x0 x29).bind fun t271 => (if t271 = true then (some (x29, 12)) else (corporaref09_Check.l1 k x0 x28 (wrap64 (x29 + 1))))) else (some (0, 0))
end
def corporaref09_Check.f (k : Nat) (l0 : List Int) : Option (Int × Int) := if (l0.length : Int) > 4096 then (some (0, 2)) else (corporaref09_Check.l0 k l0 l0 (l0.length : Int) 0)
theorem corporaref09_Check.mono_l : ∀ k, (∀ y0 y1 y2 y3, LeO (corporaref09_Check.l0 k y0 y1 y2 y3) (corporaref09_Check.l0 (k + 1) y0 y1 y2 y3)) ∧ (∀ y0 y1 y2, LeO (corporaref09_Check.l1 k y0 y1 y2) (corporaref09_Check.l1 (k + 1) y0 y1 y2))
 | 0 => ⟨fun _ _ _ _ r h => by simp [corporaref09_Check.l0] at h, fun _ _ _ r h => by simp [corporaref09_Check.l1] at h⟩
 | k + 1 => by
  obtain ⟨ih0, ih1⟩ := corporaref09_Check.mono_l k
  refine ⟨?_, ?_⟩
  ·intro y0 y1 y2 y3
   unfold corporaref09_Check.l0
   repeat' first
   | (with_reducible exact ih0 _ _ _ _)
   | (with_reducible exact ih1 _ _ _)
   | (with_reducible exact corporaref09_cyclic.mono _ _ _)
   | (with_reducible exact LeO.refl _)
   | (with_reducible exact LeO.none _)
   | (with_reducible refine LeO.ite ?_ ?_)
   | (with_reducible refine LeO.bind ?_ (fun _ => ?_))
   | exact ih0 _ _ _ _
   | exact ih1 _ _ _
   | exact corporaref09_cyclic.mono _ _ _
   | exact LeO.none _
   | refine LeO.ite ?_ ?_
   | refine LeO.bind ?_ (fun _ => ?_)
  ·intro y0 y1 y2
   unfold corporaref09_Check.l1
   repeat' first
   | (with_reducible exact ih0 _ _ _ _)
   | (with_reducible exact ih1 _ _ _)
   | (with_reducible exact corporaref09_cyclic.mono _ _ _)
   | (with_reducible exact LeO.refl _)
   | (with_reducible exact LeO.none _)
   | (with_reducible refine LeO.ite ?_ ?_)
   | (with_reducible refine LeO.bind ?_ (fun _ => ?_))
   | exact ih0 _ _ _ _
   | exact ih1 _ _ _
   | exact corporaref09_cyclic.mono _ _ _
   | exact LeO.none _
   | refine LeO.ite ?_ ?_
   | refine LeO.bind ?_ (fun _ => ?_)
theorem corporaref09_Check.mono : ∀ a0 k, LeO (corporaref09_Check.f k a0) (corporaref09_Check.f (k + 1) a0) := by
 intro a0 k
 obtain ⟨ih0, ih1⟩ := corporaref09_Check.mono_l k
 unfold corporaref09_Check.f
 repeat' first
   | (with_reducible exact ih0 _ _ _ _)
   | (with_reducible exact ih1 _ _ _)
   | (with_reducible exact corporaref09_cyclic.mono _ _ _)
   | (with_reducible exact LeO.refl _)
   | (with_reducible exact LeO.none _)
   | (with_reducible refine LeO.ite ?_ ?_)
   | (with_reducible refine LeO.bind ?_ (fun _ => ?_))
   | exact ih0 _ _ _ _
   | exact ih1 _ _ _
   | exact corporaref09_cyclic.mono _ _ _
   | exact LeO.none _
   | refine LeO.ite ?_ ?_
   | refine LeO.bind ?_ (fun _ => ?_)
set_option maxHeartbeats 8000000 in
set_option maxRecDepth 100000 in
theorem corporaref09_Check.calls (k : Nat) (A0 : Option Addr) (c0 : Nat) (l0 : List Int) (r1 : Int) (r2 : Int) (w : World) (hr0 : Kd.C (Kd.int .i64) w A0 l0.length l0) (hc0 : l0.length ≤ c0) (h : corporaref09_Check.f k l0 = some (r1, r2)) :
  Calls Try.prog 35 #[.slice A0 l0.length c0] w fun e w' => e = .returned (.tuple #[.int .i64 r1, .int .i64 r2]) ∧ Drawn0 w w' := by
 have HR0 := Aside0.mk hr0
 have HC0 := Aside0.mk hc0
 clear hr0 hc0
 have H : (if (l0.length : Int) > 4096 then (some (0, 2)) else (corporaref09_Check.l0 k l0 l0 (l0.length : Int) 0)) = some (r1, r2) := h
 clear h
 by_cases c2 : (l0.length : Int) > 4096
 ·rw [if_pos c2] at H
  have c2b0 : decide (4096 < (l0.length : Int)) = true := decide_eq_true c2
  have c2b1 : decide (4096 < l0.length) = true := decide_eq_true (by omega)
  clear c2
  simp only [Option.some.injEq, Prod.mk.injEq] at H
  obtain ⟨rfl, rfl⟩ := H
  go_enter Try.func35, Try.ntmps35
  go_wp2
  go_ret2
  exact ⟨by first | rfl | (simp; done) | (simp [*]; done), by repeat (first | exact Drawn0.refl _ | apply Drawn0.step)⟩
 ·rw [if_neg c2] at H
  have c2b0 : decide (4096 < (l0.length : Int)) = false := decide_eq_false c2
  have c2b1 : decide (4096 < l0.length) = false := decide_eq_false (by omega)
  clear c2
  have H' := Aside0.mk H
  clear H
  go_enter Try.func35, Try.ntmps35
  go_wp2
  go_loopg [12] k (fun kq v12 w' => ∃ (x12_1 : Int), v12 = .int .i64 x12_1 ∧ Aside0 (corporaref09_Check.l0 kq l0 l0 (l0.length : Int) x12_1 = some (r1, r2)) ∧ Aside0 (kq ≤ k) ∧ Drawn0 w w')
  case atStart => exact ⟨(0), (by first | rfl | (simp; done) | (simp [*]; done)), H', ⟨Nat.le_refl _⟩, by repeat (first | exact Drawn0.refl _ | apply Drawn0.step)⟩
  case round =>
   clear H'
   try clear c2
   try clear c2b0
   try clear c2b1
   try clear p2
   obtain ⟨x12_1, rfl, HA, HK1, ⟨m1, rfl⟩⟩ := hrel
   cases gk with
   | zero => exact absurd HA.out (by simp [corporaref09_Check.l0])
   | succ k1 =>
    have H := HA.out
    clear HA
    simp only [corporaref09_Check.l0] at H
    by_cases c3 : x12_1 < (l0.length : Int)
    ·rw [if_pos c3] at H
     have c3b0 : decide (x12_1 < (l0.length : Int)) = true := decide_eq_true c3
     clear c3
     by_cases c4 : 0 ≤ x12_1
     ·rw [if_pos c4] at H
      have c4b0 : decide (0 ≤ x12_1) = true := decide_eq_true c4
      clear c4
      by_cases c5 : x12_1 < (l0.length : Int)
      ·rw [if_pos c5] at H
       have c5b0 : decide (x12_1 < (l0.length : Int)) = true := decide_eq_true c5
       clear c5
       by_cases c6 : (rd l0 x12_1) < (-1)
       ·rw [if_pos c6] at H
        have c6b0 : decide ((rd l0 x12_1) < (-1)) = true := decide_eq_true c6
        clear c6
        simp only [Option.some.injEq, Prod.mk.injEq] at H
        obtain ⟨rfl, rfl⟩ := H
        have p270 : 0 ≤ (x12_1 : Int) := of_decide_eq_true (by first | (with_reducible assumption) | assumption)
        have q270 : x12_1 < (l0.length : Int) := of_decide_eq_true (by first | (with_reducible assumption) | assumption)
        obtain ⟨ad270, e270, hx270_0⟩ := Kd.at_int HR0.out x12_1 p270 q270
        cases e270
        replace p270 := eq_true p270
        replace q270 := eq_true q270
        go_wp2
        go_ret2
        exact ⟨by first | rfl | (simp; done) | (simp [*]; done), by repeat (first | exact Drawn0.refl _ | apply Drawn0.step)⟩
       ·rw [if_neg c6] at H
        have c6b0 : decide ((rd l0 x12_1) < (-1)) = false := decide_eq_false c6
        clear c6
        by_cases c7 : (rd l0 x12_1) ≥ (l0.length : Int)
        ·rw [if_pos c7] at H
         have c7b0 : decide ((l0.length : Int) ≤ (rd l0 x12_1)) = true := decide_eq_true c7
         clear c7
         simp only [Option.some.injEq, Prod.mk.injEq] at H
         obtain ⟨rfl, rfl⟩ := H
         have p270 : 0 ≤ (x12_1 : Int) := of_decide_eq_true (by first | (with_reducible assumption) | assumption)
         have q270 : x12_1 < (l0.length : Int) := of_decide_eq_true (by first | (with_reducible assumption) | assumption)
         obtain ⟨ad270, e270, hx270_0⟩ := Kd.at_int HR0.out x12_1 p270 q270
         cases e270
         replace p270 := eq_true p270
         replace q270 := eq_true q270
         go_wp2
         go_ret2
         exact ⟨by first | rfl | (simp; done) | (simp [*]; done), by repeat (first | exact Drawn0.refl _ | apply Drawn0.step)⟩
        ·rw [if_neg c7] at H
         have c7b0 : decide ((l0.length : Int) ≤ (rd l0 x12_1)) = false := decide_eq_false c7
         clear c7
         have H' := Aside0.mk H
         clear H
         have p270 : 0 ≤ (x12_1 : Int) := of_decide_eq_true (by first | (with_reducible assumption) | assumption)
         have q270 : x12_1 < (l0.length : Int) := of_decide_eq_true (by first | (with_reducible assumption) | assumption)
         obtain ⟨ad270, e270, hx270_0⟩ := Kd.at_int HR0.out x12_1 p270 q270
         cases e270
         replace p270 := eq_true p270
         replace q270 := eq_true q270
         go_wp2
         go_roundg k1
         case measure => have := HK1.out; omega
         case rel => exact ⟨(wrap64 (x12_1 + 1)), (by first | rfl | (simp; done) | (simp [*]; done)), H', ⟨by have := HK1.out; omega⟩, by repeat (first | exact Drawn0.refl _ | apply Drawn0.step)⟩
      ·rw [if_neg c5] at H
       exact absurd H (by simp)
     ·rw [if_neg c4] at H
      exact absurd H (by simp)
    ·rw [if_neg c3] at H
     have c3b0 : decide (x12_1 < (l0.length : Int)) = false := decide_eq_false c3
     clear c3
     have H' := Aside0.mk H
     clear H
     go_wp2
     go_loopg [29] k1 (fun kq v29 w' => ∃ (x29_2 : Int), v29 = .int .i64 x29_2 ∧ Aside0 (corporaref09_Check.l1 kq l0 (l0.length : Int) x29_2 = some (r1, r2)) ∧ Aside0 (kq ≤ k1) ∧ Drawn0 w w')
     case atStart => exact ⟨(0), (by first | rfl | (simp; done) | (simp [*]; done)), H', ⟨Nat.le_refl _⟩, by repeat (first | exact Drawn0.refl _ | apply Drawn0.step)⟩
     case round =>
      clear H'
      try clear c2
      try clear c2b0
      try clear c2b1
      try clear p2
      try clear q2
      try clear hx2
      try clear c3
      try clear c3b0
      try clear c4
      try clear c4b0
      try clear c5
      try clear c5b0
      try clear c6
      try clear c6b0
      try clear p6
      try clear c7
      try clear c7b0
      try clear hx270_0
      try clear p2
      try clear p270
      try clear q270
      obtain ⟨x29_2, rfl, HA, HK2, ⟨m2, rfl⟩⟩ := hrel
      cases gk with
      | zero => exact absurd HA.out (by simp [corporaref09_Check.l1])
      | succ k2 =>
       have H := HA.out
       clear HA
       simp only [corporaref09_Check.l1] at H
       by_cases c8 : x29_2 < (l0.length : Int)
       ·rw [if_pos c8] at H
        have c8b0 : decide (x29_2 < (l0.length : Int)) = true := decide_eq_true c8
        clear c8
        replace H := Option.bind_eq_some_iff.mp H
        obtain ⟨t271, A90, H⟩ := H
        replace H : (if t271 = true then (some (x29_2, 12)) else (corporaref09_Check.l1 k2 l0 (l0.length : Int) (wrap64 (x29_2 + 1)))) = some (r1, r2) := H
        have A9 := Aside0.mk A90
        clear A90
        by_cases c10 : t271 = true
        ·subst c10
         have H1 : (some (x29_2, 12)) = some (r1, r2) := by rw [if_pos rfl] at H; exact H
         clear H
         have H := H1
         clear H1
         simp only [Option.some.injEq, Prod.mk.injEq] at H
         obtain ⟨rfl, rfl⟩ := H
         go_wp2_with (first | ((with_reducible refine gate_callee (f := 39) rfl ?_); refine goesL_ (some 34) rfl rfl Try.func39 (by kernel_rfl) rfl #[.slice A0 l0.length c0, .int .i64 x29_2] rfl (by (try simp only [List.map_toArray, List.map_cons, List.map_nil]); first | done | rfl | (simp only [List.length_drop, List.length_take]; rfl)) ?_; (with_reducible refine (corporaref09_cyclic.calls k2 _ _ l0 x29_2 true _ ?side1 ?side2 A9.out).mono ?_); (case side1 => repeat (first | exact HR0.out | (with_reducible refine Kd.C_alloc ?_ _) | (with_reducible refine Kd.C_drewN ?_ _) | (with_reducible refine Kd.C_drew ?_))); (case side2 => exact HC0.out); rintro e w' ⟨rfl, ⟨nd, rfl⟩⟩; refine ⟨_, rfl, ?_⟩))
         go_ret2
         exact ⟨by first | rfl | (simp; done) | (simp [*]; done), by repeat (first | exact Drawn0.refl _ | apply Drawn0.step)⟩
        ·replace c10 := Bool.eq_false_iff.mpr c10
         subst c10
         have H1 : (corporaref09_Check.l1 k2 l0 (l0.length : Int) (wrap64 (x29_2 + 1))) = some (r1, r2) := by rw [if_neg (show ¬ (false = true) by decide)] at H; exact H
         clear H
         have H := H1
         clear H1
         have H' := Aside0.mk H
         clear H
         go_wp2_with (first | ((with_reducible refine gate_callee (f := 39) rfl ?_); refine goesL_ (some 34) rfl rfl Try.func39 (by kernel_rfl) rfl #[.slice A0 l0.length c0, .int .i64 x29_2] rfl (by (try simp only [List.map_toArray, List.map_cons, List.map_nil]); first | done | rfl | (simp only [List.length_drop, List.length_take]; rfl)) ?_; (with_reducible refine (corporaref09_cyclic.calls k2 _ _ l0 x29_2 false _ ?side1 ?side2 A9.out).mono ?_); (case side1 => repeat (first | exact HR0.out | (with_reducible refine Kd.C_alloc ?_ _) | (with_reducible refine Kd.C_drewN ?_ _) | (with_reducible refine Kd.C_drew ?_))); (case side2 => exact HC0.out); rintro e w' ⟨rfl, ⟨nd, rfl⟩⟩; refine ⟨_, rfl, ?_⟩))
         go_roundg k2
         case measure => have := HK1.out; have := HK2.out; omega
         case rel => exact ⟨(wrap64 (x29_2 + 1)), (by first | rfl | (simp; done) | (simp [*]; done)), H', ⟨by have := HK1.out; have := HK2.out; omega⟩, by repeat (first | exact Drawn0.refl _ | apply Drawn0.step)⟩
       ·rw [if_neg c8] at H
        have c8b0 : decide (x29_2 < (l0.length : Int)) = false := decide_eq_false c8
        clear c8
        simp only [Option.some.injEq, Prod.mk.injEq] at H
        obtain ⟨rfl, rfl⟩ := H
        go_wp2
        go_ret2
        exact ⟨by first | rfl | (simp; done) | (simp [*]; done), by repeat (first | exact Drawn0.refl _ | apply Drawn0.step)⟩

end Go.Proofs.Ythjcmodhleoocaa.Q
/- FCorporaref09Valid -/
namespace Go.Proofs.Ythjcmodhleoocaa.Q
open Go.RowKit Go.Proofs.YthjcmodhleoocaaW.PrintWords Go.Proofs.YthjcmodhleoocaaW.PrintLast Go.Proofs.YthjcmodhleoocaaW.PrintMore
attribute [local go_sem] max2_int min2_int max_two min_two max_three min_three max_four min_four   -- for this text's walks alone
set_option linter.unusedVariables false
set_option linter.unusedSimpArgs false

/-! ### corporaref09_Valid: function 19 -/
def corporaref09_Valid.f (k : Nat) (l0 : List Int) : Option (Bool) := (corporaref09_Check.f k l0).bind fun bt272 => (some (bt272.2 == 0))
theorem corporaref09_Valid.mono : ∀ a0 k, LeO (corporaref09_Valid.f k a0) (corporaref09_Valid.f (k + 1) a0) := by
 intro a0 k
 unfold corporaref09_Valid.f
 repeat' first
   | (with_reducible exact corporaref09_Check.mono _ _)
   | (with_reducible exact LeO.refl _)
   | (with_reducible exact LeO.none _)
   | (with_reducible refine LeO.ite ?_ ?_)
   | (with_reducible refine LeO.bind ?_ (fun _ => ?_))
   | exact corporaref09_Check.mono _ _
   | exact LeO.none _
   | refine LeO.ite ?_ ?_
   | refine LeO.bind ?_ (fun _ => ?_)
set_option maxHeartbeats 8000000 in
set_option maxRecDepth 100000 in
theorem corporaref09_Valid.calls (k : Nat) (A0 : Option Addr) (c0 : Nat) (l0 : List Int) (r : Bool) (w : World) (hr0 : Kd.C (Kd.int .i64) w A0 l0.length l0) (hc0 : l0.length ≤ c0) (h : corporaref09_Valid.f k l0 = some r) :
  Calls Try.prog 19 #[.slice A0 l0.length c0] w fun e w' => e = .returned (.bool r) ∧ Drawn0 w w' := by
 have HR0 := Aside0.mk hr0
 have HC0 := Aside0.mk hc0
 clear hr0 hc0
 have H : ((corporaref09_Check.f k l0).bind fun bt272 => (some (bt272.2 == 0))) = some r := h
 clear h
 replace H := Option.bind_eq_some_iff.mp H
 obtain ⟨⟨t272, t273⟩, A20, H⟩ := H
 replace H : (some (t273 == 0)) = some r := H
 have A2 := Aside0.mk A20
 clear A20
 obtain rfl := Option.some.inj H
 go_enter Try.func19, Try.ntmps19
 go_wp2_with (first | ((with_reducible refine gate_callee (f := 35) rfl ?_); refine goesL_ (some 7) rfl rfl Try.func35 (by kernel_rfl) rfl #[.slice A0 l0.length c0] rfl (by (try simp only [List.map_toArray, List.map_cons, List.map_nil]); first | done | rfl | (simp only [List.length_drop, List.length_take]; rfl)) ?_; (with_reducible refine (corporaref09_Check.calls k _ _ l0 t272 t273 _ ?side1 ?side2 A2.out).mono ?_); (case side1 => repeat (first | exact HR0.out | (with_reducible refine Kd.C_alloc ?_ _) | (with_reducible refine Kd.C_drewN ?_ _) | (with_reducible refine Kd.C_drew ?_))); (case side2 => exact HC0.out); rintro e w' ⟨rfl, ⟨nd, rfl⟩⟩; refine ⟨_, rfl, ?_⟩))
 go_ret
 exact ⟨by first | rfl | (simp; done) | (simp [*]; done), by repeat (first | exact Drawn0.refl _ | apply Drawn0.step)⟩

end Go.Proofs.Ythjcmodhleoocaa.Q
/- FCorporalaw10TreelabelWalks -/
namespace Go.Proofs.Ythjcmodhleoocaa.Q
open Go.RowKit Go.Proofs.YthjcmodhleoocaaW.PrintWords Go.Proofs.YthjcmodhleoocaaW.PrintLast Go.Proofs.YthjcmodhleoocaaW.PrintMore
attribute [local go_sem] max2_int min2_int max_two min_two max_three min_three max_four min_four   -- for this text's walks alone
set_option linter.unusedVariables false
set_option linter.unusedSimpArgs false

/-! ### corporalaw10_TreelabelWalks: function 6 -/
mutual
def corporalaw10_TreelabelWalks.j0 : Nat → List Int → Int → Bool → Option (Bool)
 | 0, _, _, _ => none
 | k + 1, x0, x3, x27 => if x27 = true then (some true) else ((treelabel_Assign.f k x0).bind fun bt275 => (if bt275.2.2 = 0 then (corporalaw10_TreelabelWalks.j1 k x0 x3 bt275.1 ((bt275.1.length : Int) != x3)) else (corporalaw10_TreelabelWalks.j1 k x0 x3 bt275.1 true)))
def corporalaw10_TreelabelWalks.j1 : Nat → List Int → Int → List (S41) → Bool → Option (Bool)
 | 0, _, _, _, _ => none
 | k + 1, x0, x3, x4, x41 => if x41 = true then (some false) else (corporalaw10_TreelabelWalks.l0 k x0 x3 x4 0)
def corporalaw10_TreelabelWalks.l0 : Nat → List Int → Int → List (S41) → Int → Option (Bool)
 | 0, _, _, _, _ => none
 | k + 1, x0, x3, x4, x7 => if x7 < x3 then (if 0 ≤ x3 then (if (x3 : Int).toNat ≤ 281474976710656 then (if 0 ≤ x7 then (if x7 < (x0.length : Int) then (corporalaw10_TreelabelWalks.l1 k x0 x3 x4 x7 (List.replicate (x3 : Int).toNat false) 0 (rd x0 x7)) else (none)) else (none)) else (none)) else (none)) else ((corporalaw10_awake.f k).bind fun t280 => (some t280))
def corporalaw10_TreelabelWalks.l1 : Nat → List Int → Int → List (S41) → Int → List Bool → Int → Int → Option (Bool)
 | 0, _, _, _, _, _, _, _ => none
 | k + 1, x0, x3, x4, x7, x8, x9, x10 => if x10 ≥ 0 then (if 0 ≤ x10 then (if x10 < (x8.length : Int) then (if x10 < (x0.length : Int) then (corporalaw10_TreelabelWalks.l1 k x0 x3 x4 x7 (x8.set (x10 : Int).toNat true) (wrap64 (x9 + 1)) (rd x0 x10)) else (none)) else (none)) else (none)) else (if 0 ≤ x7 then (if x7 < (x4.length : Int) then (if ((rd_T41 x4 x7).f2) = x9 then (corporalaw10_TreelabelWalks.l2 k x0 x3 x4 x7 x8 0) else (some false)) else (none)) else (none))
def corporalaw10_TreelabelWalks.l2 : Nat → List Int → Int → List (S41) → Int → List Bool → Int → Option (Bool)
 | 0, _, _, _, _, _, _ => none
 | k + 1, x0, x3, x4, x7, x8, x11 => if x11 < x3 then (if 0 ≤ x11 then (if x11 < (x4.length : Int) then (if 0 ≤ x7 then (if x7 < (x4.length : Int) then ((treelabel_Dominates.f ((rd_T41 x4 x11).f0) ((rd_T41 x4 x11).f1) ((rd_T41 x4 x11).f2) ((rd_T41 x4 x7).f0) ((rd_T41 x4 x7).f1) ((rd_T41 x4 x7).f2)).bind fun t290 => ((treelabel_Precedes.f ((rd_T41 x4 x11).f0) ((rd_T41 x4 x11).f1) ((rd_T41 x4 x11).f2) ((rd_T41 x4 x7).f0) ((rd_T41 x4 x7).f1) ((rd_T41 x4 x7).f2)).bind fun t293 => ((treelabel_Dominates.f ((rd_T41 x4 x7).f0) ((rd_T41 x4 x7).f1) ((rd_T41 x4 x7).f2) ((rd_T41 x4 x11).f0) ((rd_T41 x4 x11).f1) ((rd_T41 x4 x11).f2)).bind fun t296 => ((treelabel_Precedes.f ((rd_T41 x4 x7).f0) ((rd_T41 x4 x7).f1) ((rd_T41 x4 x7).f2) ((rd_T41 x4 x11).f0) ((rd_T41 x4 x11).f1) ((rd_T41 x4 x11).f2)).bind fun t299 => ((some (([t290, t293, t296, t299] : List Bool) : List Bool)).bind fun y300 => (corporalaw10_TreelabelWalks.l3 k x0 x3 x4 x7 x8 x11 t290 0 y300 (y300.length : Int) 0)))))) else (none)) else (none)) else (none)) else (none)) else (corporalaw10_TreelabelWalks.l0 k x0 x3 x4 (wrap64 (x7 + 1)))
def corporalaw10_TreelabelWalks.l3 : Nat → List Int → Int → List (S41) → Int → List Bool → Int → Bool → Int → List Bool → Int → Int → Option (Bool)
 | 0, _, _, _, _, _, _, _, _, _, _, _ => none
 | k + 1, x0, x3, x4, x7, x8, x11, x12, x16, x116, x117, x118 => if x118 < x117 then (if 0 ≤ x118 then (if x118 < (x116.length : Int) then (if rdOf false x116 x118 = true then (corporalaw10_TreelabelWalks.l3 k x0 x3 x4 x7 x8 x11 x12 (wrap64 (x16 + 1)) x116 x117 (wrap64 (x118 + 1))) else (corporalaw10_TreelabelWalks.l3 k x0 x3 x4 x7 x8 x11 x12 x16 x116 x117 (wrap64 (x118 + 1)))) else (none)) else (none)) else (if 0 ≤ x11 then (if x11 < (x8.length : Int) then (if (x12 != (rdOf false x8 x11)) = true then (some false) else (if ((x7 == x11) != (x16 == 0)) = true then (some false) else (if x7 = x11 then (corporalaw10_TreelabelWalks.l2 k x0 x3 x4 x7 x8 (wrap64 (x11 + 1))) else (if x16 = 1 then (corporalaw10_TreelabelWalks.l2 k x0 x3 x4 x7 x8 (wrap64 (x11 + 1))) else (some false))))) else (none)) else (none))
end
def corporalaw10_TreelabelWalks.f (k : Nat) (l0 : List Int) : Option (Bool) := if (l0.length : Int) > 40 then (corporalaw10_TreelabelWalks.j0 k l0 (l0.length : Int) true) else ((corporaref09_Valid.f k l0).bind fun t274 => (corporalaw10_TreelabelWalks.j0 k l0 (l0.length : Int) (!t274)))
theorem corporalaw10_TreelabelWalks.mono_l : ∀ k, (∀ y0 y1 y2, LeO (corporalaw10_TreelabelWalks.j0 k y0 y1 y2) (corporalaw10_TreelabelWalks.j0 (k + 1) y0 y1 y2)) ∧ (∀ y0 y1 y2 y3, LeO (corporalaw10_TreelabelWalks.j1 k y0 y1 y2 y3) (corporalaw10_TreelabelWalks.j1 (k + 1) y0 y1 y2 y3)) ∧ (∀ y0 y1 y2 y3, LeO (corporalaw10_TreelabelWalks.l0 k y0 y1 y2 y3) (corporalaw10_TreelabelWalks.l0 (k + 1) y0 y1 y2 y3)) ∧ (∀ y0 y1 y2 y3 y4 y5 y6, LeO (corporalaw10_TreelabelWalks.l1 k y0 y1 y2 y3 y4 y5 y6) (corporalaw10_TreelabelWalks.l1 (k + 1) y0 y1 y2 y3 y4 y5 y6)) ∧ (∀ y0 y1 y2 y3 y4 y5, LeO (corporalaw10_TreelabelWalks.l2 k y0 y1 y2 y3 y4 y5) (corporalaw10_TreelabelWalks.l2 (k + 1) y0 y1 y2 y3 y4 y5)) ∧ (∀ y0 y1 y2 y3 y4 y5 y6 y7 y8 y9 y10, LeO (corporalaw10_TreelabelWalks.l3 k y0 y1 y2 y3 y4 y5 y6 y7 y8 y9 y10) (corporalaw10_TreelabelWalks.l3 (k + 1) y0 y1 y2 y3 y4 y5 y6 y7 y8 y9 y10))
 | 0 => ⟨fun _ _ _ r h => by simp [corporalaw10_TreelabelWalks.j0] at h, fun _ _ _ _ r h => by simp [corporalaw10_TreelabelWalks.j1] at h, fun _ _ _ _ r h => by simp [corporalaw10_TreelabelWalks.l0] at h, fun _ _ _ _ _ _ _ r h => by simp [corporalaw10_TreelabelWalks.l1] at h, fun _ _ _ _ _ _ r h => by simp [corporalaw10_TreelabelWalks.l2] at h, fun _ _ _ _ _ _ _ _ _ _ _ r h => by simp [corporalaw10_TreelabelWalks.l3] at h⟩
 | k + 1 => by
  obtain ⟨ih0, ih1, ih2, ih3, ih4, ih5⟩ := corporalaw10_TreelabelWalks.mono_l k
  refine ⟨?_, ?_, ?_, ?_, ?_, ?_⟩
  ·intro y0 y1 y2
   unfold corporalaw10_TreelabelWalks.j0
   repeat' first
   | (with_reducible exact ih0 _ _ _)
   | (with_reducible exact ih1 _ _ _ _)
   | (with_reducible exact ih2 _ _ _ _)
   | (with_reducible exact ih3 _ _ _ _ _ _ _)
   | (with_reducible exact ih4 _ _ _ _ _ _)
   | (with_reducible exact ih5 _ _ _ _ _ _ _ _ _ _ _)
   | (with_reducible exact corporalaw10_awake.mono _)
   | (with_reducible exact corporaref09_Valid.mono _ _)
   | (with_reducible exact treelabel_Assign.mono _ _)
   | (with_reducible exact LeO.refl _)
   | (with_reducible exact LeO.none _)
   | (with_reducible refine LeO.ite ?_ ?_)
   | (with_reducible refine LeO.bind ?_ (fun _ => ?_))
   | exact ih0 _ _ _
   | exact ih1 _ _ _ _
   | exact ih2 _ _ _ _
   | exact ih3 _ _ _ _ _ _ _
   | exact ih4 _ _ _ _ _ _
   | exact ih5 _ _ _ _ _ _ _ _ _ _ _
   | exact corporalaw10_awake.mono _
   | exact corporaref09_Valid.mono _ _
   | exact treelabel_Assign.mono _ _
   | exact LeO.none _
   | refine LeO.ite ?_ ?_
   | refine LeO.bind ?_ (fun _ => ?_)
  ·intro y0 y1 y2 y3
   unfold corporalaw10_TreelabelWalks.j1
   repeat' first
   | (with_reducible exact ih0 _ _ _)
   | (with_reducible exact ih1 _ _ _ _)
   | (with_reducible exact ih2 _ _ _ _)
   | (with_reducible exact ih3 _ _ _ _ _ _ _)
   | (with_reducible exact ih4 _ _ _ _ _ _)
   | (with_reducible exact ih5 _ _ _ _ _ _ _ _ _ _ _)
   | (with_reducible exact corporalaw10_awake.mono _)
   | (with_reducible exact corporaref09_Valid.mono _ _)
   | (with_reducible exact treelabel_Assign.mono _ _)
   | (with_reducible exact LeO.refl _)
   | (with_reducible exact LeO.none _)
   | (with_reducible refine LeO.ite ?_ ?_)
   | (with_reducible refine LeO.bind ?_ (fun _ => ?_))
   | exact ih0 _ _ _
   | exact ih1 _ _ _ _
   | exact ih2 _ _ _ _
   | exact ih3 _ _ _ _ _ _ _
   | exact ih4 _ _ _ _ _ _
   | exact ih5 _ _ _ _ _ _ _ _ _ _ _
   | exact corporalaw10_awake.mono _
   | exact corporaref09_Valid.mono _ _
   | exact treelabel_Assign.mono _ _
   | exact LeO.none _
   | refine LeO.ite ?_ ?_
   | refine LeO.bind ?_ (fun _ => ?_)
  ·intro y0 y1 y2 y3
   unfold corporalaw10_TreelabelWalks.l0
   repeat' first
   | (with_reducible exact ih0 _ _ _)
   | (with_reducible exact ih1 _ _ _ _)
   | (with_reducible exact ih2 _ _ _ _)
   | (with_reducible exact ih3 _ _ _ _ _ _ _)
   | (with_reducible exact ih4 _ _ _ _ _ _)
   | (with_reducible exact ih5 _ _ _ _ _ _ _ _ _ _ _)
   | (with_reducible exact corporalaw10_awake.mono _)
   | (with_reducible exact corporaref09_Valid.mono _ _)
   | (with_reducible exact treelabel_Assign.mono _ _)
   | (with_reducible exact LeO.refl _)
   | (with_reducible exact LeO.none _)
   | (with_reducible refine LeO.ite ?_ ?_)
   | (with_reducible refine LeO.bind ?_ (fun _ => ?_))
   | exact ih0 _ _ _
   | exact ih1 _ _ _ _
   | exact ih2 _ _ _ _
   | exact ih3 _ _ _ _ _ _ _
   | exact ih4 _ _ _ _ _ _
   | exact ih5 _ _ _ _ _ _ _ _ _ _ _
   | exact corporalaw10_awake.mono _
   | exact corporaref09_Valid.mono _ _
   | exact treelabel_Assign.mono _ _
   | exact LeO.none _
   | refine LeO.ite ?_ ?_
   | refine LeO.bind ?_ (fun _ => ?_)
  ·intro y0 y1 y2 y3 y4 y5 y6
   unfold corporalaw10_TreelabelWalks.l1
   repeat' first
   | (with_reducible exact ih0 _ _ _)
   | (with_reducible exact ih1 _ _ _ _)
   | (with_reducible exact ih2 _ _ _ _)
   | (with_reducible exact ih3 _ _ _ _ _ _ _)
   | (with_reducible exact ih4 _ _ _ _ _ _)
   | (with_reducible exact ih5 _ _ _ _ _ _ _ _ _ _ _)
   | (with_reducible exact corporalaw10_awake.mono _)
   | (with_reducible exact corporaref09_Valid.mono _ _)
   | (with_reducible exact treelabel_Assign.mono _ _)
   | (with_reducible exact LeO.refl _)
   | (with_reducible exact LeO.none _)
   | (with_reducible refine LeO.ite ?_ ?_)
   | (with_reducible refine LeO.bind ?_ (fun _ => ?_))
   | exact ih0 _ _ _
   | exact ih1 _ _ _ _
   | exact ih2 _ _ _ _
   | exact ih3 _ _ _ _ _ _ _
   | exact ih4 _ _ _ _ _ _
   | exact ih5 _ _ _ _ _ _ _ _ _ _ _
   | exact corporalaw10_awake.mono _
   | exact corporaref09_Valid.mono _ _
   | exact treelabel_Assign.mono _ _
   | exact LeO.none _
   | refine LeO.ite ?_ ?_
   | refine LeO.bind ?_ (fun _ => ?_)
  ·intro y0 y1 y2 y3 y4 y5
   unfold corporalaw10_TreelabelWalks.l2
   repeat' first
   | (with_reducible exact ih0 _ _ _)
   | (with_reducible exact ih1 _ _ _ _)
   | (with_reducible exact ih2 _ _ _ _)
   | (with_reducible exact ih3 _ _ _ _ _ _ _)
   | (with_reducible exact ih4 _ _ _ _ _ _)
   | (with_reducible exact ih5 _ _ _ _ _ _ _ _ _ _ _)
   | (with_reducible exact corporalaw10_awake.mono _)
   | (with_reducible exact corporaref09_Valid.mono _ _)
   | (with_reducible exact treelabel_Assign.mono _ _)
   | (with_reducible exact LeO.refl _)
   | (with_reducible exact LeO.none _)
   | (with_reducible refine LeO.ite ?_ ?_)
   | (with_reducible refine LeO.bind ?_ (fun _ => ?_))
   | exact ih0 _ _ _
   | exact ih1 _ _ _ _
   | exact ih2 _ _ _ _
   | exact ih3 _ _ _ _ _ _ _
   | exact ih4 _ _ _ _ _ _
   | exact ih5 _ _ _ _ _ _ _ _ _ _ _
   | exact corporalaw10_awake.mono _
   | exact corporaref09_Valid.mono _ _
   | exact treelabel_Assign.mono _ _
   | exact LeO.none _
   | refine LeO.ite ?_ ?_
   | refine LeO.bind ?_ (fun _ => ?_)
  ·intro y0 y1 y2 y3 y4 y5 y6 y7 y8 y9 y10
   unfold corporalaw10_TreelabelWalks.l3
   repeat' first
   | (with_reducible exact ih0 _ _ _)
   | (with_reducible exact ih1 _ _ _ _)
   | (with_reducible exact ih2 _ _ _ _)
   | (with_reducible exact ih3 _ _ _ _ _ _ _)
   | (with_reducible exact ih4 _ _ _ _ _ _)
   | (with_reducible exact ih5 _ _ _ _ _ _ _ _ _ _ _)
   | (with_reducible exact corporalaw10_awake.mono _)
   | (with_reducible exact corporaref09_Valid.mono _ _)
   | (with_reducible exact treelabel_Assign.mono _ _)
   | (with_reducible exact LeO.refl _)
   | (with_reducible exact LeO.none _)
   | (with_reducible refine LeO.ite ?_ ?_)
   | (with_reducible refine LeO.bind ?_ (fun _ => ?_))
   | exact ih0 _ _ _
   | exact ih1 _ _ _ _
   | exact ih2 _ _ _ _
   | exact ih3 _ _ _ _ _ _ _
   | exact ih4 _ _ _ _ _ _
   | exact ih5 _ _ _ _ _ _ _ _ _ _ _
   | exact corporalaw10_awake.mono _
   | exact corporaref09_Valid.mono _ _
   | exact treelabel_Assign.mono _ _
   | exact LeO.none _
   | refine LeO.ite ?_ ?_
   | refine LeO.bind ?_ (fun _ => ?_)
theorem corporalaw10_TreelabelWalks.mono : ∀ a0 k, LeO (corporalaw10_TreelabelWalks.f k a0) (corporalaw10_TreelabelWalks.f (k + 1) a0) := by
 intro a0 k
 obtain ⟨ih0, ih1, ih2, ih3, ih4, ih5⟩ := corporalaw10_TreelabelWalks.mono_l k
 unfold corporalaw10_TreelabelWalks.f
 repeat' first
   | (with_reducible exact ih0 _ _ _)
   | (with_reducible exact ih1 _ _ _ _)
   | (with_reducible exact ih2 _ _ _ _)
   | (with_reducible exact ih3 _ _ _ _ _ _ _)
   | (with_reducible exact ih4 _ _ _ _ _ _)
   | (with_reducible exact ih5 _ _ _ _ _ _ _ _ _ _ _)
   | (with_reducible exact corporalaw10_awake.mono _)
   | (with_reducible exact corporaref09_Valid.mono _ _)
   | (with_reducible exact treelabel_Assign.mono _ _)
   | (with_reducible exact LeO.refl _)
   | (with_reducible exact LeO.none _)
   | (with_reducible refine LeO.ite ?_ ?_)
   | (with_reducible refine LeO.bind ?_ (fun _ => ?_))
   | exact ih0 _ _ _
   | exact ih1 _ _ _ _
   | exact ih2 _ _ _ _
   | exact ih3 _ _ _ _ _ _ _
   | exact ih4 _ _ _ _ _ _
   | exact ih5 _ _ _ _ _ _ _ _ _ _ _
   | exact corporalaw10_awake.mono _
   | exact corporaref09_Valid.mono _ _
   | exact treelabel_Assign.mono _ _
   | exact LeO.none _
   | refine LeO.ite ?_ ?_
   | refine LeO.bind ?_ (fun _ => ?_)
def corporalaw10_TreelabelWalks.T22 : Bool × List (List Nat × List Nat) := (true, [([], []), ([], []), ([0, 1], [0, 1]), ([2], [2]), ([], []), ([], []), ([4, 5], [4, 5]), ([6], [6]), ([3, 7], [3, 7]), ([], []), ([], []), ([9, 10], [9, 10]), ([11], [11]), ([], []), ([], []), ([13, 14], [13, 14]), ([15], [15]), ([12, 16, 8], [12, 16]), ([8, 17, 0, 1, 2, 3, 4, 5, 6, 7, 8], [8]), ([17, 18, 0, 1, 2, 3, 4, 5, 6, 7, 8, 9, 10, 11, 12, 13, 14, 15, 16, 17, 18], [17])])
def corporalaw10_TreelabelWalks.B22 : List Nat := [0, 0, 3, 7, 0, 0, 48, 112, 255, 0, 0, 1536, 3584, 0, 0, 24576, 57344, 131071, 262143, 524287]
theorem corporalaw10_TreelabelWalks.tab22 : rtab .any (opsOf Try.f6 22) = corporalaw10_TreelabelWalks.T22 := by kernel_rfl
theorem corporalaw10_TreelabelWalks.bits22 : waitsOk corporalaw10_TreelabelWalks.T22.2 corporalaw10_TreelabelWalks.B22 = true := by kernel_rfl
def corporalaw10_TreelabelWalks.T23 : Bool × List (List Nat × List Nat) := (true, [([], []), ([], []), ([0, 1], [0, 1]), ([2], [2]), ([], []), ([], []), ([4, 5], [4, 5]), ([6], [6]), ([3, 7], [3, 7]), ([], []), ([], []), ([9, 10], [9, 10]), ([11], [11]), ([], []), ([], []), ([13, 14], [13, 14]), ([15], [15]), ([12, 16, 8], [12, 16]), ([8, 17, 0, 1, 2, 3, 4, 5, 6, 7, 8], [8]), ([17, 18, 0, 1, 2, 3, 4, 5, 6, 7, 8, 9, 10, 11, 12, 13, 14, 15, 16, 17, 18], [17])])
def corporalaw10_TreelabelWalks.B23 : List Nat := [0, 0, 3, 7, 0, 0, 48, 112, 255, 0, 0, 1536, 3584, 0, 0, 24576, 57344, 131071, 262143, 524287]
theorem corporalaw10_TreelabelWalks.tab23 : rtab .any (opsOf Try.f6 23) = corporalaw10_TreelabelWalks.T23 := by kernel_rfl
theorem corporalaw10_TreelabelWalks.bits23 : waitsOk corporalaw10_TreelabelWalks.T23.2 corporalaw10_TreelabelWalks.B23 = true := by kernel_rfl
set_option maxHeartbeats 8000000 in
set_option maxRecDepth 100000 in
theorem corporalaw10_TreelabelWalks.calls (k : Nat) (A0 : Option Addr) (c0 : Nat) (l0 : List Int) (r : Bool) (w : World) (hr0 : Kd.C (Kd.int .i64) w A0 l0.length l0) (hc0 : l0.length ≤ c0) (h : corporalaw10_TreelabelWalks.f k l0 = some r) :
  Calls Try.prog 6 #[.slice A0 l0.length c0] w fun e w' => e = .returned (.bool r) ∧ Below w.heap.size w w' := by
 have hu41 := Try.underlying41
 have HR0 := Aside0.mk hr0
 have HC0 := Aside0.mk hc0
 clear hr0 hc0
 have HB := Aside0.mk (Below.refl w.heap.size w)
 have H : (if (l0.length : Int) > 40 then (corporalaw10_TreelabelWalks.j0 k l0 (l0.length : Int) true) else ((corporaref09_Valid.f k l0).bind fun t274 => (corporalaw10_TreelabelWalks.j0 k l0 (l0.length : Int) (!t274)))) = some r := h
 clear h
 have HC2 := Aside0.mk H
 clear H
 go_enter Try.func6, Try.ntmps6
 go_upto_region 2 with (fail)
 go_cut [27] (fun v27 wc => ∃ (kq : Nat) (x27_1 : Bool), v27 = .bool x27_1 ∧ Aside0 (corporalaw10_TreelabelWalks.j0 kq l0 (l0.length : Int) x27_1 = some r) ∧ Aside0 (kq ≤ k) ∧ Aside0 (Below w.heap.size w wc))
 case first =>
  have H := HC2.out
  clear HC2
  by_cases c3 : (l0.length : Int) > 40
  ·rw [if_pos c3] at H
   have c3b0 : decide (40 < (l0.length : Int)) = true := decide_eq_true c3
   have c3b1 : decide (40 < l0.length) = true := decide_eq_true (by omega)
   clear c3
   (first | rw [c3b0] | (simp only [i64_w, i32_w]; rw [c3b0]) | skip)
   have H' := Aside0.mk H
   clear H
   go_wp2
   go_meet
   case rel => exact ⟨_, (true), (by first | rfl | (simp; done) | (simp [*]; done)), H', ⟨by first | omega | exact Nat.le_refl _⟩, ⟨by repeat (first | (with_reducible first | exact HB.out | apply below_alloc | apply pw_below_drewN | apply below_drew1) | exact HB.out)⟩⟩
  ·rw [if_neg c3] at H
   have c3b0 : decide (40 < (l0.length : Int)) = false := decide_eq_false c3
   have c3b1 : decide (40 < l0.length) = false := decide_eq_false (by omega)
   clear c3
   (first | rw [c3b0] | (simp only [i64_w, i32_w]; rw [c3b0]) | skip)
   replace H := Option.bind_eq_some_iff.mp H
   obtain ⟨t274, A40, H⟩ := H
   replace H : (corporalaw10_TreelabelWalks.j0 k l0 (l0.length : Int) (!t274)) = some r := H
   have A4 := Aside0.mk A40
   clear A40
   have H' := Aside0.mk H
   clear H
   go_wp2_with (first | (go_at_call 19; (with_reducible refine (corporaref09_Valid.calls k _ _ l0 t274 _ ?side1 ?side2 A4.out).mono ?_); (case side1 => repeat (first | exact (Kd.C_below HR0.out HB.out) | (with_reducible refine Kd.C_alloc ?_ _) | (with_reducible refine Kd.C_drewN ?_ _) | (with_reducible refine Kd.C_drew ?_))); (case side2 => exact HC0.out); rintro e w' ⟨rfl, ⟨nd, rfl⟩⟩))
   go_meet
   case rel => exact ⟨_, (!t274), (by first | rfl | (simp; done) | (simp [*]; done)), H', ⟨by first | omega | exact Nat.le_refl _⟩, ⟨by repeat (first | (with_reducible first | exact HB.out | apply below_alloc | apply pw_below_drewN | apply below_drew1) | exact HB.out)⟩⟩
 case rest =>
  clear HC2
  try clear p2
  try clear c3
  try clear c3b0
  try clear c3b1
  obtain ⟨kq, x27_1, rfl, HA, HJ1, HB⟩ := hcut
  cases kq with
  | zero => exact absurd HA.out (by simp [corporalaw10_TreelabelWalks.j0])
  | succ kj1 =>
   have H := HA.out
   clear HA
   simp only [corporalaw10_TreelabelWalks.j0] at H
   by_cases c5 : x27_1 = true
   ·subst c5
    have H1 : (some true) = some r := by rw [if_pos rfl] at H; exact H
    clear H
    have H := H1
    clear H1
    obtain rfl := Option.some.inj H
    go_wp2
    go_ret
    exact ⟨by first | rfl | (simp [errW_none, errW_some] <;> rfl) | (simp [*, errW_none, errW_some] <;> rfl), by repeat (first | (with_reducible first | exact HB.out | apply below_alloc | apply pw_below_drewN | apply below_drew1) | exact HB.out)⟩
   ·replace c5 := Bool.eq_false_iff.mpr c5
    subst c5
    have H1 : ((treelabel_Assign.f kj1 l0).bind fun bt275 => (if bt275.2.2 = 0 then (corporalaw10_TreelabelWalks.j1 kj1 l0 (l0.length : Int) bt275.1 ((bt275.1.length : Int) != (l0.length : Int))) else (corporalaw10_TreelabelWalks.j1 kj1 l0 (l0.length : Int) bt275.1 true))) = some r := by rw [if_neg (show ¬ (false = true) by decide)] at H; exact H
    clear H
    have H := H1
    clear H1
    replace H := Option.bind_eq_some_iff.mp H
    obtain ⟨⟨t275, t276, t277⟩, A60, H⟩ := H
    replace H : (if t277 = 0 then (corporalaw10_TreelabelWalks.j1 kj1 l0 (l0.length : Int) t275 ((t275.length : Int) != (l0.length : Int))) else (corporalaw10_TreelabelWalks.j1 kj1 l0 (l0.length : Int) t275 true)) = some r := H
    have A6 := Aside0.mk A60
    clear A60
    have HC7 := Aside0.mk H
    clear H
    go_upto_region 5 with (first | ((with_reducible refine gate_callee (f := 11) rfl ?_); refine goesL_ (some 30) rfl rfl Try.func11 (by kernel_rfl) rfl #[.slice A0 l0.length c0] rfl (by (try simp only [List.map_toArray, List.map_cons, List.map_nil]); first | done | rfl | (simp only [List.length_drop, List.length_take]; rfl)) ?_; (with_reducible refine (treelabel_Assign.calls kj1 _ _ l0 t275 t276 t277 _ ?side1 ?side2 A6.out).mono ?_); (case side1 => repeat (first | exact (Kd.C_below HR0.out HB.out) | (with_reducible refine Kd.C_alloc ?_ _) | (with_reducible refine Kd.C_drewN ?_ _) | (with_reducible refine Kd.C_drew ?_))); (case side2 => exact HC0.out); rintro e w8 ⟨v278, rfl, ho0, hb⟩; refine ⟨_, rfl, ?_⟩; have n0_ := Aside0.mk (Kd.R_lower ho0 (below_size (by repeat (first | (with_reducible first | exact HB.out | apply below_alloc | apply pw_below_drewN | apply below_drew1) | exact HB.out)))); have n1_ := Aside0.mk (below_step (by repeat (first | (with_reducible first | exact HB.out | apply below_alloc | apply pw_below_drewN | apply below_drew1) | exact HB.out)) hb); clear HB; have HO279 := n0_; have HB := n1_; clear n0_ n1_; (try clear hb); (try clear hb2); (try clear hk); (try clear hi); (try clear ho0)))
    (try simp only [Act.put, List.setIfInBounds_toArray, List.set_cons_zero, List.set_cons_succ])
    go_cut [41] (fun v41 wc => ∃ (kq : Nat) (x41_6 : Bool), v41 = .bool x41_6 ∧ Aside0 (corporalaw10_TreelabelWalks.j1 kq l0 (l0.length : Int) t275 x41_6 = some r) ∧ Aside0 (kq ≤ kj1) ∧ Aside0 (Kd.R k41 41 wc w.heap.size (fun _ => True) v278 t275) ∧ Aside0 (Below w.heap.size w wc))
    case first =>
     have H := HC7.out
     clear HC7
     by_cases c9 : t277 = 0
     ·rw [if_pos c9] at H
      have c9b0 : (t277 == 0) = true := beq_iff_eq.mpr c9
      have c9b1 : (t277 != 0) = false := bne_eq_false_iff_eq.mpr c9
      clear c9
      (first | rw [c9b0] | (simp only [i64_w, i32_w]; rw [c9b0]) | skip)
      have H' := Aside0.mk H
      clear H
      obtain ⟨Ao10, co10, eo10⟩ := Kd.R_slice HO279.out
      subst eo10
      go_wp2
      go_meet
      case rel => exact ⟨_, (((t275.length : Int) != (l0.length : Int))), (by first | rfl | (simp; done) | (simp [*]; done)), H', ⟨by have := HJ1.out; first | omega | exact Nat.le_refl _⟩, ⟨by (with_reducible repeat (first | apply Kd.R_alloc | apply Kd.R_drewN | apply Kd.R_drew)); exact HO279.out⟩, ⟨by repeat (first | (with_reducible first | exact HB.out | apply below_alloc | apply pw_below_drewN | apply below_drew1) | exact HB.out)⟩⟩
     ·rw [if_neg c9] at H
      have c9b0 : (t277 == 0) = false := beq_eq_false_iff_ne.mpr c9
      have c9b1 : (t277 != 0) = true := bne_iff_ne.mpr c9
      (first | rw [c9b0] | (simp only [i64_w, i32_w]; rw [c9b0]) | skip)
      have H' := Aside0.mk H
      clear H
      go_wp2
      go_meet
      case rel => exact ⟨_, (true), (by first | rfl | (simp; done) | (simp [*]; done)), H', ⟨by have := HJ1.out; first | omega | exact Nat.le_refl _⟩, ⟨by (with_reducible repeat (first | apply Kd.R_alloc | apply Kd.R_drewN | apply Kd.R_drew)); exact HO279.out⟩, ⟨by repeat (first | (with_reducible first | exact HB.out | apply below_alloc | apply pw_below_drewN | apply below_drew1) | exact HB.out)⟩⟩
    case rest =>
     clear HC7
     try clear c1
     try clear p2
     try clear c3
     try clear c3b0
     try clear c3b1
     try clear c5
     try clear c6
     try clear c9
     try clear c9b0
     try clear c9b1
     try clear p2
     obtain ⟨kq, x41_6, rfl, HA, HJ6, HO_4, HB⟩ := hcut
     cases kq with
     | zero => exact absurd HA.out (by simp [corporalaw10_TreelabelWalks.j1])
     | succ kj6 =>
      have H := HA.out
      clear HA
      simp only [corporalaw10_TreelabelWalks.j1] at H
      by_cases c11 : x41_6 = true
      ·subst c11
       have H1 : (some false) = some r := by rw [if_pos rfl] at H; exact H
       clear H
       have H := H1
       clear H1
       obtain rfl := Option.some.inj H
       go_wp2
       go_ret
       exact ⟨by first | rfl | (simp [errW_none, errW_some] <;> rfl) | (simp [*, errW_none, errW_some] <;> rfl), by repeat (first | (with_reducible first | exact HB.out | apply below_alloc | apply pw_below_drewN | apply below_drew1) | exact HB.out)⟩
      ·replace c11 := Bool.eq_false_iff.mpr c11
       subst c11
       have H1 : (corporalaw10_TreelabelWalks.l0 kj6 l0 (l0.length : Int) t275 0) = some r := by rw [if_neg (show ¬ (false = true) by decide)] at H; exact H
       clear H
       have H := H1
       clear H1
       have H' := Aside0.mk H
       clear H
       go_wp2
       go_loopg [7] kj6 (fun kq v7 w' => ∃ (x7_3 : Int), v7 = .int .i64 x7_3 ∧ Aside0 (corporalaw10_TreelabelWalks.l0 kq l0 (l0.length : Int) t275 x7_3 = some r) ∧ Aside0 (kq ≤ kj6) ∧ Aside0 (Kd.R k41 41 w' w.heap.size (fun _ => True) v278 t275) ∧ Aside0 (Below w.heap.size w w'))
       case atStart => exact ⟨(0), (by first | rfl | (simp; done) | (simp [*]; done)), H', ⟨Nat.le_refl _⟩, ⟨by (with_reducible repeat (first | apply Kd.R_alloc | apply Kd.R_drewN | apply Kd.R_drew)); exact HO_4.out⟩, ⟨by repeat (first | (with_reducible first | exact HB.out | apply below_alloc | apply pw_below_drewN | apply below_drew1) | exact HB.out)⟩⟩
       case round =>
        clear H'
        try clear c1
        try clear p2
        try clear c3
        try clear c3b0
        try clear c3b1
        try clear c5
        try clear c6
        try clear c9
        try clear c9b0
        try clear c9b1
        try clear c11
        try clear p2
        obtain ⟨x7_3, rfl, HA, HK3, HO_4, HB⟩ := hrel
        cases gk with
        | zero => exact absurd HA.out (by simp [corporalaw10_TreelabelWalks.l0])
        | succ k3 =>
         have H := HA.out
         clear HA
         simp only [corporalaw10_TreelabelWalks.l0] at H
         by_cases c12 : x7_3 < (l0.length : Int)
         ·rw [if_pos c12] at H
          have c12b0 : decide (x7_3 < (l0.length : Int)) = true := decide_eq_true c12
          clear c12
          by_cases c13 : 0 ≤ (l0.length : Int)
          ·rw [if_pos c13] at H
           have c13b0 := eq_true c13
           have c13b1 : decide (0 ≤ (l0.length : Int)) = true := decide_eq_true c13
           clear c13
           by_cases c14 : ((l0.length : Int) : Int).toNat ≤ 281474976710656
           ·rw [if_pos c14] at H
            have c14b0 := eq_true c14
            have c14b1 : decide (((l0.length : Int) : Int).toNat ≤ 281474976710656) = true := decide_eq_true c14
            clear c14
            obtain ⟨y281, hy281⟩ : ∃ y_ : List Bool, y_ = (List.replicate ((l0.length : Int) : Int).toNat false) := ⟨_, rfl⟩
            replace H : (if 0 ≤ x7_3 then (if x7_3 < (l0.length : Int) then (corporalaw10_TreelabelWalks.l1 k3 l0 (l0.length : Int) t275 x7_3 y281 0 (rd l0 x7_3)) else (none)) else (none)) = some r := by first | (rw [hy281]; with_reducible exact H) | (have H2_ := (Option.bind_some _ _).symm.trans H; rw [hy281]; with_reducible exact H2_) | (have H2_ := (Option.bind_some _ _).symm.trans H; with_reducible exact H2_) | with_reducible exact H | (rw [hy281]; exact H) | exact H
            have Ny281 := Aside0.mk hy281
            clear hy281
            by_cases c15 : 0 ≤ x7_3
            ·rw [if_pos c15] at H
             have c15b0 : decide (0 ≤ x7_3) = true := decide_eq_true c15
             clear c15
             by_cases c16 : x7_3 < (l0.length : Int)
             ·rw [if_pos c16] at H
              have c16b0 : decide (x7_3 < (l0.length : Int)) = true := decide_eq_true c16
              clear c16
              have H' := Aside0.mk H
              clear H
              go_wp2_with (first | ((with_reducible refine gate_dst (N := 48) rfl ?_); (try (refine gate_guard (by rfl) ?_; dsimp only)); refine Kd.R_make Kd.bool _ 4 rfl (N := 48) rfl 39 _ _ rfl (l0.length : Int) rfl rfl Try.underlying39 (.bool false) 1 info4 rfl (by decide) (by omega) false (ok := fun _ => True) (okp := fun _ => True) rfl (fun _ hk => hk) trivial (of_decide_eq_true (by first | (with_reducible assumption) | assumption)) (Nat.le_trans (Nat.mul_le_mul_right _ (of_decide_eq_true (by first | (with_reducible assumption) | assumption) : (l0.length : Int).toNat ≤ 281474976710656)) (by omega)) (Below.refl _ _) (Nat.le_refl _) ?_; intro v282 w17 ho18 hb hg_ hnew_; clear hg_ hnew_; (first | rw [← Ny281.out] at ho18 | (simp only [Int.reduceToNat] at ho18; rw [← Ny281.out] at ho18)); have n0_ := Aside0.mk (Kd.R_below (by (with_reducible repeat (first | apply Kd.R_alloc | apply Kd.R_drewN | apply Kd.R_drew)); exact HO_4.out) hb); have n1_ := Aside0.mk (Kd.R_lower ho18 (below_size (by repeat (first | (with_reducible first | exact HB.out | apply below_alloc | apply pw_below_drewN | apply below_drew1) | exact HB.out)))); have n2_ := Aside0.mk (below_step (by repeat (first | (with_reducible first | exact HB.out | apply below_alloc | apply pw_below_drewN | apply below_drew1) | exact HB.out)) hb); clear HO_4; clear HB; have HO_4 := n0_; have HO283 := n1_; have HB := n2_; clear n0_ n1_ n2_; clear hb ho18; have p284 : 0 ≤ (x7_3 : Int) := of_decide_eq_true (by first | (with_reducible assumption) | assumption); have q284 : x7_3 < (l0.length : Int) := of_decide_eq_true (by first | (with_reducible assumption) | assumption); obtain ⟨ad284, e284, hx284_0⟩ := Kd.at_int HR0.out x7_3 p284 q284; cases e284; replace hx284_0 := (HB.out.cell (World.block_lt_of_cell? w _ hx284_0)).trans hx284_0; replace p284 := eq_true p284; replace q284 := eq_true q284))
              go_loopg [9, 10] k3 (fun kq v9 v10 w' => ∃ (x8_4 : List Bool) (x9_4 : Int) (x10_4 : Int), v9 = .int .i64 x9_4 ∧ v10 = .int .i64 x10_4 ∧ Aside0 (corporalaw10_TreelabelWalks.l1 kq l0 (l0.length : Int) t275 x7_3 x8_4 x9_4 x10_4 = some r) ∧ Aside0 (kq ≤ k3) ∧ Aside0 (Kd.R k41 41 w' w.heap.size (fun _ => True) v278 t275) ∧ Aside0 (Kd.R Kd.bool 4 w' w.heap.size (fun _ => True) v282 x8_4) ∧ Aside0 (Below w.heap.size w w'))
              case atStart => exact ⟨(y281), (0), (rd l0 x7_3), (by first | rfl | (simp; done) | (simp [*]; done)), (by first | rfl | (simp; done) | (simp [*]; done)), H', ⟨Nat.le_refl _⟩, ⟨by (with_reducible repeat (first | apply Kd.R_alloc | apply Kd.R_drewN | apply Kd.R_drew)); exact HO_4.out⟩, ⟨by (with_reducible repeat (first | apply Kd.R_alloc | apply Kd.R_drewN | apply Kd.R_drew)); exact HO283.out⟩, ⟨by repeat (first | (with_reducible first | exact HB.out | apply below_alloc | apply pw_below_drewN | apply below_drew1) | exact HB.out)⟩⟩
              case round =>
               clear H'
               try clear c1
               try clear p2
               try clear q2
               try clear hx2
               try clear c3
               try clear c3b0
               try clear c3b1
               try clear c5
               try clear c6
               try clear c9
               try clear c9b0
               try clear c9b1
               try clear c11
               try clear c12
               try clear c12b0
               try clear c13
               try clear c13b0
               try clear c13b1
               try clear c14
               try clear c14b0
               try clear c14b1
               try clear c15
               try clear c15b0
               try clear c16
               try clear c16b0
               try clear hx284_0
               try clear p2
               try clear p284
               try clear q284
               obtain ⟨x8_4, x9_4, x10_4, rfl, rfl, HA, HK4, HO_4, HO_8, HB⟩ := hrel
               cases gk with
               | zero => exact absurd HA.out (by simp [corporalaw10_TreelabelWalks.l1])
               | succ k4 =>
                have H := HA.out
                clear HA
                simp only [corporalaw10_TreelabelWalks.l1] at H
                by_cases c19 : x10_4 ≥ 0
                ·rw [if_pos c19] at H
                 have c19b0 : decide (0 ≤ x10_4) = true := decide_eq_true c19
                 clear c19
                 by_cases c20 : 0 ≤ x10_4
                 ·rw [if_pos c20] at H
                  have c20b0 : decide (0 ≤ x10_4) = true := decide_eq_true c20
                  clear c20
                  by_cases c21 : x10_4 < (x8_4.length : Int)
                  ·rw [if_pos c21] at H
                   have c21b0 : decide (x10_4 < (x8_4.length : Int)) = true := decide_eq_true c21
                   clear c21
                   obtain ⟨y285, hy285⟩ : ∃ y_ : List Bool, y_ = (x8_4.set (x10_4 : Int).toNat true) := ⟨_, rfl⟩
                   replace H : (if x10_4 < (l0.length : Int) then (corporalaw10_TreelabelWalks.l1 k4 l0 (l0.length : Int) t275 x7_3 y285 (wrap64 (x9_4 + 1)) (rd l0 x10_4)) else (none)) = some r := by first | (rw [hy285]; with_reducible exact H) | (have H2_ := (Option.bind_some _ _).symm.trans H; rw [hy285]; with_reducible exact H2_) | (have H2_ := (Option.bind_some _ _).symm.trans H; with_reducible exact H2_) | with_reducible exact H | (rw [hy285]; exact H) | exact H
                   have Ny285 := Aside0.mk hy285
                   clear hy285
                   by_cases c23 : x10_4 < (l0.length : Int)
                   ·rw [if_pos c23] at H
                    have c23b0 : decide (x10_4 < (l0.length : Int)) = true := decide_eq_true c23
                    clear c23
                    have H' := Aside0.mk H
                    clear H
                    have p22 : 0 ≤ (x10_4 : Int) := of_decide_eq_true (by first | (with_reducible assumption) | assumption)
                    have q22 : (x10_4 : Int) < ((x8_4.length : Int) : Int) := of_decide_eq_true (by first | (with_reducible assumption) | assumption)
                    obtain ⟨go22, co22, eo22, gb22, gl22, cl22, HG22⟩ := Kd.R_form HO_8.out (by omega)
                    (first | cases eo22 | (injection eo22 with ea_ en_ ec_; (first | subst ea_ | (injection ea_ with ea_; subst ea_)); subst ec_; clear en_))
                    have GB22 := Aside0.mk gb22
                    have GG22 := Aside0.mk HG22
                    clear gb22 gl22 HG22
                    obtain ⟨hx22_0, hf22_0⟩ := Kd.R_celln false HO_8.out (x10_4 : Int) p22 q22
                    replace p22 := eq_true p22
                    replace q22 := eq_true q22
                    have HP24 := Kd.R_putg HO_8.out (x10_4 : Int) true
                    go_wp2_with (first | ((with_reducible refine gate_store (t := 4) (p := 61) rfl ?_); refine store_event (t := 4) (p := 61) (v := ?vo_w25) (w1 := (wr.setCell ⟨go22, (x10_4 : Int).toNat, none⟩ (.bool true))) ?hg ?ho ?hn ?hr ?_; (case ho => rfl); (case hg => rfl); (case hn => rfl); (case hr => first | (go_simp; done) | (go_simp; rfl)); intro w25 hw; have hg : wr.grownBy w25 (some go22) := (by rw [hw]; exact HP24.2); have hp_ : Kd.R Kd.bool 4 w25 w.heap.size (fun _ => True) (.slice (some ⟨go22, 0, none⟩) x8_4.length co22) y285 := (by rw [hw, Ny285.out]; exact HP24.1); clear HP24; have n0_ := Aside0.mk (Kd.R_over' (v := (.slice (some ⟨go22, 0, none⟩) x8_4.length co22)) (by (with_reducible repeat (first | apply Kd.R_alloc | apply Kd.R_drewN | apply Kd.R_drew)); exact HO_4.out) (Kd.R_typed HO_8.out) (by decide) hg); have n1_ := Aside0.mk (hp_); have n2_ := Aside0.mk ((by rw [hw]; exact below_set (HB.out) GB22.out : Below w.heap.size w w25)); clear HO_4; clear HO_8; clear HB; have HO_4 := n0_; have HO_8 := n1_; have HB := n2_; clear n0_ n1_ n2_; clear hg hw hp_; have p286 : 0 ≤ (x10_4 : Int) := of_decide_eq_true (by first | (with_reducible assumption) | assumption); have q286 : x10_4 < (l0.length : Int) := of_decide_eq_true (by first | (with_reducible assumption) | assumption); obtain ⟨ad286, e286, hx286_0⟩ := Kd.at_int HR0.out x10_4 p286 q286; obtain rfl : ad284 = ad286 := (by injection e286); replace hx286_0 := (HB.out.cell (World.block_lt_of_cell? w _ hx286_0)).trans hx286_0; replace p286 := eq_true p286; replace q286 := eq_true q286))
                    go_roundg k4
                    case measure => have := HJ1.out; have := HJ6.out; have := HK3.out; have := HK4.out; omega
                    case rel => exact ⟨(y285), (wrap64 (x9_4 + 1)), (rd l0 x10_4), (by first | rfl | (simp; done) | (simp [*]; done)), (by first | rfl | (simp; done) | (simp [*]; done)), H', ⟨by have := HJ1.out; have := HJ6.out; have := HK3.out; have := HK4.out; omega⟩, ⟨by (with_reducible repeat (first | apply Kd.R_alloc | apply Kd.R_drewN | apply Kd.R_drew)); exact HO_4.out⟩, ⟨by (with_reducible repeat (first | apply Kd.R_alloc | apply Kd.R_drewN | apply Kd.R_drew)); exact HO_8.out⟩, ⟨by repeat (first | (with_reducible first | exact HB.out | apply below_alloc | apply pw_below_drewN | apply below_drew1) | exact HB.out)⟩⟩
                   ·rw [if_neg c23] at H
                    exact absurd H (by simp)
                  ·rw [if_neg c21] at H
                   exact absurd H (by simp)
                 ·rw [if_neg c20] at H
                  exact absurd H (by simp)
                ·rw [if_neg c19] at H
                 have c19b0 : decide (0 ≤ x10_4) = false := decide_eq_false c19
                 clear c19
                 by_cases c26 : 0 ≤ x7_3
                 ·rw [if_pos c26] at H
                  have c26b0 : decide (0 ≤ x7_3) = true := decide_eq_true c26
                  clear c26
                  by_cases c27 : x7_3 < (t275.length : Int)
                  ·rw [if_pos c27] at H
                   have c27b0 : decide (x7_3 < (t275.length : Int)) = true := decide_eq_true c27
                   clear c27
                   by_cases c28 : ((rd_T41 t275 x7_3).f2) = x9_4
                   ·rw [if_pos c28] at H
                    have c28b0 : (((rd_T41 t275 x7_3).f2) == x9_4) = true := beq_iff_eq.mpr c28
                    have c28b1 : (((rd_T41 t275 x7_3).f2) != x9_4) = false := bne_eq_false_iff_eq.mpr c28
                    clear c28
                    have H' := Aside0.mk H
                    clear H
                    obtain ⟨Ao29, co29, eo29⟩ := Kd.R_slice HO_4.out
                    subst eo29
                    have p287 : 0 ≤ (x7_3 : Int) := of_decide_eq_true (by first | (with_reducible assumption) | assumption)
                    have q287 : x7_3 < (t275.length : Int) := of_decide_eq_true (by first | (with_reducible assumption) | assumption)
                    obtain ⟨ad287, e287, hx287_0, hx287_1, hx287_2⟩ := at_T41 (Kd.R_reads' HO_4.out).2.2 x7_3 p287 q287
                    cases e287
                    replace p287 := eq_true p287
                    replace q287 := eq_true q287
                    go_wp2
                    go_loopg [11] k4 (fun kq v11 w' => ∃ (x11_5 : Int), v11 = .int .i64 x11_5 ∧ Aside0 (corporalaw10_TreelabelWalks.l2 kq l0 (l0.length : Int) t275 x7_3 x8_4 x11_5 = some r) ∧ Aside0 (kq ≤ k4) ∧ Aside0 (Kd.R k41 41 w' w.heap.size (fun _ => True) (.slice (some ad287) t275.length co29) t275) ∧ Aside0 (Kd.R Kd.bool 4 w' w.heap.size (fun _ => True) v282 x8_4) ∧ Aside0 (Below w.heap.size w w'))
                    case atStart => exact ⟨(0), (by first | rfl | (simp; done) | (simp [*]; done)), H', ⟨Nat.le_refl _⟩, ⟨by (with_reducible repeat (first | apply Kd.R_alloc | apply Kd.R_drewN | apply Kd.R_drew)); exact HO_4.out⟩, ⟨by (with_reducible repeat (first | apply Kd.R_alloc | apply Kd.R_drewN | apply Kd.R_drew)); exact HO_8.out⟩, ⟨by repeat (first | (with_reducible first | exact HB.out | apply below_alloc | apply pw_below_drewN | apply below_drew1) | exact HB.out)⟩⟩
                    case round =>
                     clear H'
                     try clear c1
                     try clear c2
                     try clear p2
                     try clear q2
                     try clear hx2
                     try clear hf2
                     try clear c3
                     try clear c3b0
                     try clear c3b1
                     try clear c5
                     try clear c6
                     try clear p6
                     try clear c9
                     try clear c9b0
                     try clear c9b1
                     try clear c11
                     try clear c12
                     try clear c12b0
                     try clear c13
                     try clear c13b0
                     try clear c13b1
                     try clear c14
                     try clear c14b0
                     try clear c14b1
                     try clear c15
                     try clear c15b0
                     try clear c16
                     try clear c16b0
                     try clear c19
                     try clear c19b0
                     try clear c20
                     try clear c20b0
                     try clear c21
                     try clear c21b0
                     try clear p22
                     try clear q22
                     try clear hx22
                     try clear hf22
                     try clear c23
                     try clear c23b0
                     try clear c26
                     try clear c26b0
                     try clear c27
                     try clear c27b0
                     try clear c28
                     try clear c28b0
                     try clear c28b1
                     try clear p28
                     try clear q28
                     try clear hx28
                     try clear hx22_0
                     try clear hx284_0
                     try clear hx286_0
                     try clear hx287_0
                     try clear hx287_1
                     try clear hx287_2
                     try clear p2
                     try clear p22
                     try clear p284
                     try clear p286
                     try clear p287
                     try clear q2
                     try clear q22
                     try clear q284
                     try clear q286
                     try clear q287
                     obtain ⟨x11_5, rfl, HA, HK5, HO_4, HO_8, HB⟩ := hrel
                     cases gk with
                     | zero => exact absurd HA.out (by simp [corporalaw10_TreelabelWalks.l2])
                     | succ k5 =>
                      have H := HA.out
                      clear HA
                      simp only [corporalaw10_TreelabelWalks.l2] at H
                      by_cases c30 : x11_5 < (l0.length : Int)
                      ·rw [if_pos c30] at H
                       have c30b0 : decide (x11_5 < (l0.length : Int)) = true := decide_eq_true c30
                       clear c30
                       by_cases c31 : 0 ≤ x11_5
                       ·rw [if_pos c31] at H
                        have c31b0 : decide (0 ≤ x11_5) = true := decide_eq_true c31
                        clear c31
                        by_cases c32 : x11_5 < (t275.length : Int)
                        ·rw [if_pos c32] at H
                         have c32b0 : decide (x11_5 < (t275.length : Int)) = true := decide_eq_true c32
                         clear c32
                         by_cases c33 : 0 ≤ x7_3
                         ·rw [if_pos c33] at H
                          have c33b0 : decide (0 ≤ x7_3) = true := decide_eq_true c33
                          clear c33
                          by_cases c34 : x7_3 < (t275.length : Int)
                          ·rw [if_pos c34] at H
                           have c34b0 : decide (x7_3 < (t275.length : Int)) = true := decide_eq_true c34
                           clear c34
                           replace H := Option.bind_eq_some_iff.mp H
                           obtain ⟨t290, A350, H⟩ := H
                           replace H : ((treelabel_Precedes.f ((rd_T41 t275 x11_5).f0) ((rd_T41 t275 x11_5).f1) ((rd_T41 t275 x11_5).f2) ((rd_T41 t275 x7_3).f0) ((rd_T41 t275 x7_3).f1) ((rd_T41 t275 x7_3).f2)).bind fun t293 => ((treelabel_Dominates.f ((rd_T41 t275 x7_3).f0) ((rd_T41 t275 x7_3).f1) ((rd_T41 t275 x7_3).f2) ((rd_T41 t275 x11_5).f0) ((rd_T41 t275 x11_5).f1) ((rd_T41 t275 x11_5).f2)).bind fun t296 => ((treelabel_Precedes.f ((rd_T41 t275 x7_3).f0) ((rd_T41 t275 x7_3).f1) ((rd_T41 t275 x7_3).f2) ((rd_T41 t275 x11_5).f0) ((rd_T41 t275 x11_5).f1) ((rd_T41 t275 x11_5).f2)).bind fun t299 => ((some (([t290, t293, t296, t299] : List Bool) : List Bool)).bind fun y300 => (corporalaw10_TreelabelWalks.l3 k5 l0 (l0.length : Int) t275 x7_3 x8_4 x11_5 t290 0 y300 (y300.length : Int) 0))))) = some r := H
                           have A35 := Aside0.mk A350
                           clear A350
                           replace H := Option.bind_eq_some_iff.mp H
                           obtain ⟨t293, A360, H⟩ := H
                           replace H : ((treelabel_Dominates.f ((rd_T41 t275 x7_3).f0) ((rd_T41 t275 x7_3).f1) ((rd_T41 t275 x7_3).f2) ((rd_T41 t275 x11_5).f0) ((rd_T41 t275 x11_5).f1) ((rd_T41 t275 x11_5).f2)).bind fun t296 => ((treelabel_Precedes.f ((rd_T41 t275 x7_3).f0) ((rd_T41 t275 x7_3).f1) ((rd_T41 t275 x7_3).f2) ((rd_T41 t275 x11_5).f0) ((rd_T41 t275 x11_5).f1) ((rd_T41 t275 x11_5).f2)).bind fun t299 => ((some (([t290, t293, t296, t299] : List Bool) : List Bool)).bind fun y300 => (corporalaw10_TreelabelWalks.l3 k5 l0 (l0.length : Int) t275 x7_3 x8_4 x11_5 t290 0 y300 (y300.length : Int) 0)))) = some r := H
                           have A36 := Aside0.mk A360
                           clear A360
                           replace H := Option.bind_eq_some_iff.mp H
                           obtain ⟨t296, A370, H⟩ := H
                           replace H : ((treelabel_Precedes.f ((rd_T41 t275 x7_3).f0) ((rd_T41 t275 x7_3).f1) ((rd_T41 t275 x7_3).f2) ((rd_T41 t275 x11_5).f0) ((rd_T41 t275 x11_5).f1) ((rd_T41 t275 x11_5).f2)).bind fun t299 => ((some (([t290, t293, t296, t299] : List Bool) : List Bool)).bind fun y300 => (corporalaw10_TreelabelWalks.l3 k5 l0 (l0.length : Int) t275 x7_3 x8_4 x11_5 t290 0 y300 (y300.length : Int) 0))) = some r := H
                           have A37 := Aside0.mk A370
                           clear A370
                           replace H := Option.bind_eq_some_iff.mp H
                           obtain ⟨t299, A380, H⟩ := H
                           replace H : ((some (([t290, t293, t296, t299] : List Bool) : List Bool)).bind fun y300 => (corporalaw10_TreelabelWalks.l3 k5 l0 (l0.length : Int) t275 x7_3 x8_4 x11_5 t290 0 y300 (y300.length : Int) 0)) = some r := H
                           have A38 := Aside0.mk A380
                           clear A380
                           obtain ⟨y300, hy300⟩ : ∃ y_ : List Bool, y_ = (([t290, t293, t296, t299] : List Bool)) := ⟨_, rfl⟩
                           replace H : (corporalaw10_TreelabelWalks.l3 k5 l0 (l0.length : Int) t275 x7_3 x8_4 x11_5 t290 0 y300 (y300.length : Int) 0) = some r := by first | (rw [hy300]; with_reducible exact H) | (have H2_ := (Option.bind_some _ _).symm.trans H; rw [hy300]; with_reducible exact H2_) | (have H2_ := (Option.bind_some _ _).symm.trans H; with_reducible exact H2_) | with_reducible exact H | (rw [hy300]; exact H) | exact H
                           have Ny300 := Aside0.mk hy300
                           clear hy300
                           have H' := Aside0.mk H
                           clear H
                           try go_wp2
                           have n0_ := Aside0.mk (Kd.R_drew HO_4.out)
                           have n1_ := Aside0.mk (Kd.R_drew HO_8.out)
                           have n2_ := Aside0.mk (below_drew1 HB.out)
                           clear HO_4
                           clear HO_8
                           clear HB
                           have HO_4 := n0_
                           have HO_8 := n1_
                           have HB := n2_
                           clear n0_ n1_ n2_
                           have p288 : 0 ≤ (x11_5 : Int) := of_decide_eq_true (by first | (with_reducible assumption) | assumption)
                           have q288 : x11_5 < (t275.length : Int) := of_decide_eq_true (by first | (with_reducible assumption) | assumption)
                           obtain ⟨ad288, e288, hx288_0, hx288_1, hx288_2⟩ := at_T41 (Kd.R_reads' HO_4.out).2.2 x11_5 p288 q288
                           obtain rfl : ad287 = ad288 := (by injection e288)
                           replace p288 := eq_true p288
                           replace q288 := eq_true q288
                           have p289 : 0 ≤ (x7_3 : Int) := of_decide_eq_true (by first | (with_reducible assumption) | assumption)
                           have q289 : x7_3 < (t275.length : Int) := of_decide_eq_true (by first | (with_reducible assumption) | assumption)
                           obtain ⟨ad289, e289, hx289_0, hx289_1, hx289_2⟩ := at_T41 (Kd.R_reads' HO_4.out).2.2 x7_3 p289 q289
                           obtain rfl : ad287 = ad289 := (by injection e289)
                           replace p289 := eq_true p289
                           replace q289 := eq_true q289
                           have p291 : 0 ≤ (x11_5 : Int) := of_decide_eq_true (by first | (with_reducible assumption) | assumption)
                           have q291 : x11_5 < (t275.length : Int) := of_decide_eq_true (by first | (with_reducible assumption) | assumption)
                           obtain ⟨ad291, e291, hx291_0, hx291_1, hx291_2⟩ := at_T41 (Kd.R_reads' HO_4.out).2.2 x11_5 p291 q291
                           obtain rfl : ad287 = ad291 := (by injection e291)
                           replace p291 := eq_true p291
                           replace q291 := eq_true q291
                           have p292 : 0 ≤ (x7_3 : Int) := of_decide_eq_true (by first | (with_reducible assumption) | assumption)
                           have q292 : x7_3 < (t275.length : Int) := of_decide_eq_true (by first | (with_reducible assumption) | assumption)
                           obtain ⟨ad292, e292, hx292_0, hx292_1, hx292_2⟩ := at_T41 (Kd.R_reads' HO_4.out).2.2 x7_3 p292 q292
                           obtain rfl : ad287 = ad292 := (by injection e292)
                           replace p292 := eq_true p292
                           replace q292 := eq_true q292
                           refine start_ (n := 20) (S := fun w' => w'.cell? (ad287.add ((x11_5).toNat * 3)) = some (.int .i64 ((rd_T41 t275 x11_5).f0)) ∧ w'.cell? ⟨(ad287.add ((x11_5).toNat * 3)).block, (ad287.add ((x11_5).toNat * 3)).off + 1, none⟩ = some (.int .i64 ((rd_T41 t275 x11_5).f1)) ∧ w'.cell? ⟨(ad287.add ((x11_5).toNat * 3)).block, (ad287.add ((x11_5).toNat * 3)).off + 2, none⟩ = some (.int .i64 ((rd_T41 t275 x11_5).f2)) ∧ w'.cell? (ad287.add ((x7_3).toNat * 3)) = some (.int .i64 ((rd_T41 t275 x7_3).f0)) ∧ w'.cell? ⟨(ad287.add ((x7_3).toNat * 3)).block, (ad287.add ((x7_3).toNat * 3)).off + 1, none⟩ = some (.int .i64 ((rd_T41 t275 x7_3).f1)) ∧ w'.cell? ⟨(ad287.add ((x7_3).toNat * 3)).block, (ad287.add ((x7_3).toNat * 3)).off + 2, none⟩ = some (.int .i64 ((rd_T41 t275 x7_3).f2)) ∧ w'.cell? (ad287.add ((x11_5).toNat * 3)) = some (.int .i64 ((rd_T41 t275 x11_5).f0)) ∧ w'.cell? ⟨(ad287.add ((x11_5).toNat * 3)).block, (ad287.add ((x11_5).toNat * 3)).off + 1, none⟩ = some (.int .i64 ((rd_T41 t275 x11_5).f1)) ∧ w'.cell? ⟨(ad287.add ((x11_5).toNat * 3)).block, (ad287.add ((x11_5).toNat * 3)).off + 2, none⟩ = some (.int .i64 ((rd_T41 t275 x11_5).f2)) ∧ w'.cell? (ad287.add ((x7_3).toNat * 3)) = some (.int .i64 ((rd_T41 t275 x7_3).f0)) ∧ w'.cell? ⟨(ad287.add ((x7_3).toNat * 3)).block, (ad287.add ((x7_3).toNat * 3)).off + 1, none⟩ = some (.int .i64 ((rd_T41 t275 x7_3).f1)) ∧ w'.cell? ⟨(ad287.add ((x7_3).toNat * 3)).block, (ad287.add ((x7_3).toNat * 3)).off + 2, none⟩ = some (.int .i64 ((rd_T41 t275 x7_3).f2))) (ds := []) #[false, false, false, false, false, false, false, false, false, false, false, false, false, false, false, false, false, false, false, false] (by kernel_rfl) rfl rfl ⟨hx288_0, hx288_1, hx288_2, hx289_0, hx289_1, hx289_2, hx291_0, hx291_1, hx291_2, hx292_0, hx292_1, hx292_2⟩ (fun hHeld => ?_); refine with_tabW corporalaw10_TreelabelWalks.tab22 corporalaw10_TreelabelWalks.bits22 (fun HT_ HW_ => ?_)
                           generalize wr.drew = w39 at HO_4 HO_8 HB hx288_0 hx288_1 hx288_2 hx289_0 hx289_1 hx289_2 hx291_0 hx291_1 hx291_2 hx292_0 hx292_1 hx292_2 hHeld ⊢
                           refine pure_ (i := 0) (N := some 76) (v := ?_) (a' := ?_) #[true, false, false, false, false, false, false, false, false, false, false, false, false, false, false, false, false, false, false, false] rfl rfl (any_of HT_.out (by kernel_rfl)) (fun _ _ _ h => h) (Or.inl ⟨by rfl, ?_⟩) ?_ ?_
                           rotate_left
                           ·intro w'
                            go_simp
                            with_reducible rfl
                           rotate_left
                           ·simp only [Act.put, List.setIfInBounds_toArray, List.set_cons_zero, List.set_cons_succ, i64_w, i32_w]
                            rfl
                           refine pure_ (i := 1) (N := some 77) (v := ?_) (a' := ?_) #[true, true, false, false, false, false, false, false, false, false, false, false, false, false, false, false, false, false, false, false] rfl rfl (any_of HT_.out (by kernel_rfl)) (fun _ _ _ h => h) (Or.inl ⟨by rfl, ?_⟩) ?_ ?_
                           rotate_left
                           ·intro w'
                            go_simp
                            with_reducible rfl
                           rotate_left
                           ·simp only [Act.put, List.setIfInBounds_toArray, List.set_cons_zero, List.set_cons_succ, i64_w, i32_w]
                            rfl
                           refine pure_ (i := 2) (N := some 78) (v := ?_) (a' := ?_) #[true, true, true, false, false, false, false, false, false, false, false, false, false, false, false, false, false, false, false, false] rfl rfl (any_of HT_.out (by kernel_rfl)) (fun _ _ _ h => h) (Or.inl ⟨by rfl, ?_⟩) ?_ ?_
                           rotate_left
                           ·intro w'
                            go_simp
                            with_reducible rfl
                           rotate_left
                           ·simp only [Act.put, List.setIfInBounds_toArray, List.set_cons_zero, List.set_cons_succ, i64_w, i32_w]
                            rfl
                           refine pure_ (i := 4) (N := some 80) (v := ?_) (a' := ?_) #[true, true, true, false, true, false, false, false, false, false, false, false, false, false, false, false, false, false, false, false] rfl rfl (any_of HT_.out (by kernel_rfl)) (fun _ _ _ h => h) (Or.inl ⟨by rfl, ?_⟩) ?_ ?_
                           rotate_left
                           ·intro w'
                            go_simp
                            with_reducible rfl
                           rotate_left
                           ·simp only [Act.put, List.setIfInBounds_toArray, List.set_cons_zero, List.set_cons_succ, i64_w, i32_w]
                            rfl
                           refine pure_ (i := 5) (N := some 81) (v := ?_) (a' := ?_) #[true, true, true, false, true, true, false, false, false, false, false, false, false, false, false, false, false, false, false, false] rfl rfl (any_of HT_.out (by kernel_rfl)) (fun _ _ _ h => h) (Or.inl ⟨by rfl, ?_⟩) ?_ ?_
                           rotate_left
                           ·intro w'
                            go_simp
                            with_reducible rfl
                           rotate_left
                           ·simp only [Act.put, List.setIfInBounds_toArray, List.set_cons_zero, List.set_cons_succ, i64_w, i32_w]
                            rfl
                           refine pure_ (i := 6) (N := some 82) (v := ?_) (a' := ?_) #[true, true, true, false, true, true, true, false, false, false, false, false, false, false, false, false, false, false, false, false] rfl rfl (any_of HT_.out (by kernel_rfl)) (fun _ _ _ h => h) (Or.inl ⟨by rfl, ?_⟩) ?_ ?_
                           rotate_left
                           ·intro w'
                            go_simp
                            with_reducible rfl
                           rotate_left
                           ·simp only [Act.put, List.setIfInBounds_toArray, List.set_cons_zero, List.set_cons_succ, i64_w, i32_w]
                            rfl
                           refine pure_ (i := 9) (N := some 85) (v := ?_) (a' := ?_) #[true, true, true, false, true, true, true, false, false, true, false, false, false, false, false, false, false, false, false, false] rfl rfl (any_of HT_.out (by kernel_rfl)) (fun _ _ _ h => h) (Or.inl ⟨by rfl, ?_⟩) ?_ ?_
                           rotate_left
                           ·intro w'
                            go_simp
                            with_reducible rfl
                           rotate_left
                           ·simp only [Act.put, List.setIfInBounds_toArray, List.set_cons_zero, List.set_cons_succ, i64_w, i32_w]
                            rfl
                           refine pure_ (i := 10) (N := some 86) (v := ?_) (a' := ?_) #[true, true, true, false, true, true, true, false, false, true, true, false, false, false, false, false, false, false, false, false] rfl rfl (any_of HT_.out (by kernel_rfl)) (fun _ _ _ h => h) (Or.inl ⟨by rfl, ?_⟩) ?_ ?_
                           rotate_left
                           ·intro w'
                            go_simp
                            with_reducible rfl
                           rotate_left
                           ·simp only [Act.put, List.setIfInBounds_toArray, List.set_cons_zero, List.set_cons_succ, i64_w, i32_w]
                            rfl
                           refine pure_ (i := 11) (N := some 87) (v := ?_) (a' := ?_) #[true, true, true, false, true, true, true, false, false, true, true, true, false, false, false, false, false, false, false, false] rfl rfl (any_of HT_.out (by kernel_rfl)) (fun _ _ _ h => h) (Or.inl ⟨by rfl, ?_⟩) ?_ ?_
                           rotate_left
                           ·intro w'
                            go_simp
                            with_reducible rfl
                           rotate_left
                           ·simp only [Act.put, List.setIfInBounds_toArray, List.set_cons_zero, List.set_cons_succ, i64_w, i32_w]
                            rfl
                           refine pure_ (i := 13) (N := some 89) (v := ?_) (a' := ?_) #[true, true, true, false, true, true, true, false, false, true, true, true, false, true, false, false, false, false, false, false] rfl rfl (any_of HT_.out (by kernel_rfl)) (fun _ _ _ h => h) (Or.inl ⟨by rfl, ?_⟩) ?_ ?_
                           rotate_left
                           ·intro w'
                            go_simp
                            with_reducible rfl
                           rotate_left
                           ·simp only [Act.put, List.setIfInBounds_toArray, List.set_cons_zero, List.set_cons_succ, i64_w, i32_w]
                            rfl
                           refine pure_ (i := 14) (N := some 90) (v := ?_) (a' := ?_) #[true, true, true, false, true, true, true, false, false, true, true, true, false, true, true, false, false, false, false, false] rfl rfl (any_of HT_.out (by kernel_rfl)) (fun _ _ _ h => h) (Or.inl ⟨by rfl, ?_⟩) ?_ ?_
                           rotate_left
                           ·intro w'
                            go_simp
                            with_reducible rfl
                           rotate_left
                           ·simp only [Act.put, List.setIfInBounds_toArray, List.set_cons_zero, List.set_cons_succ, i64_w, i32_w]
                            rfl
                           refine pure_ (i := 15) (N := some 91) (v := ?_) (a' := ?_) #[true, true, true, false, true, true, true, false, false, true, true, true, false, true, true, true, false, false, false, false] rfl rfl (any_of HT_.out (by kernel_rfl)) (fun _ _ _ h => h) (Or.inl ⟨by rfl, ?_⟩) ?_ ?_
                           rotate_left
                           ·intro w'
                            go_simp
                            with_reducible rfl
                           rotate_left
                           ·simp only [Act.put, List.setIfInBounds_toArray, List.set_cons_zero, List.set_cons_succ, i64_w, i32_w]
                            rfl
                           refine take_ (i := 3) (N := some 79) (v := ?_) (a' := ?_) #[true, true, true, true, true, true, true, false, false, true, true, true, false, true, true, true, false, false, false, false] rfl rfl (take_ofW HT_.out HW_.out (by kernel_rfl)) (fun _ _ _ h => h) (Or.inl ⟨by rfl, ?_⟩) hHeld ?_ ?_
                           rotate_left
                           ·rintro w' ⟨s0, s1, s2, s3, s4, s5, s6, s7, s8, s9, s10, s11⟩
                            go_simp
                            with_reducible rfl
                           rotate_left
                           ·simp only [Act.put, List.setIfInBounds_toArray, List.set_cons_zero, List.set_cons_succ, i64_w, i32_w]
                            rfl
                           refine take_ (i := 7) (N := some 83) (v := ?_) (a' := ?_) #[true, true, true, true, true, true, true, true, false, true, true, true, false, true, true, true, false, false, false, false] rfl rfl (take_ofW HT_.out HW_.out (by kernel_rfl)) (fun _ _ _ h => h) (Or.inl ⟨by rfl, ?_⟩) hHeld ?_ ?_
                           rotate_left
                           ·rintro w' ⟨s0, s1, s2, s3, s4, s5, s6, s7, s8, s9, s10, s11⟩
                            go_simp
                            with_reducible rfl
                           rotate_left
                           ·simp only [Act.put, List.setIfInBounds_toArray, List.set_cons_zero, List.set_cons_succ, i64_w, i32_w]
                            rfl
                           refine take_ (i := 12) (N := some 88) (v := ?_) (a' := ?_) #[true, true, true, true, true, true, true, true, false, true, true, true, true, true, true, true, false, false, false, false] rfl rfl (take_ofW HT_.out HW_.out (by kernel_rfl)) (fun _ _ _ h => h) (Or.inl ⟨by rfl, ?_⟩) hHeld ?_ ?_
                           rotate_left
                           ·rintro w' ⟨s0, s1, s2, s3, s4, s5, s6, s7, s8, s9, s10, s11⟩
                            go_simp
                            with_reducible rfl
                           rotate_left
                           ·simp only [Act.put, List.setIfInBounds_toArray, List.set_cons_zero, List.set_cons_succ, i64_w, i32_w]
                            rfl
                           refine take_ (i := 16) (N := some 92) (v := ?_) (a' := ?_) #[true, true, true, true, true, true, true, true, false, true, true, true, true, true, true, true, true, false, false, false] rfl rfl (take_ofW HT_.out HW_.out (by kernel_rfl)) (fun _ _ _ h => h) (Or.inl ⟨by rfl, ?_⟩) hHeld ?_ ?_
                           rotate_left
                           ·rintro w' ⟨s0, s1, s2, s3, s4, s5, s6, s7, s8, s9, s10, s11⟩
                            go_simp
                            with_reducible rfl
                           rotate_left
                           ·simp only [Act.put, List.setIfInBounds_toArray, List.set_cons_zero, List.set_cons_succ, i64_w, i32_w]
                            rfl
                           refine one_ (i := 8) (N := some 84) #[true, true, true, true, true, true, true, true, true, true, true, true, true, true, true, true, true, false, false, false] rfl rfl (one_of HT_.out (by kernel_rfl)) (by decide) (fun K hK => ?_)
                           refine goes_ Try.func20 (by kernel_rfl) rfl #[.agg #[.int .i64 ((rd_T41 t275 x11_5).f0), .int .i64 ((rd_T41 t275 x11_5).f1), .int .i64 ((rd_T41 t275 x11_5).f2)], .agg #[.int .i64 ((rd_T41 t275 x7_3).f0), .int .i64 ((rd_T41 t275 x7_3).f1), .int .i64 ((rd_T41 t275 x7_3).f2)]] (by rfl) rfl rfl (by (try simp only [List.map_toArray, List.map_cons, List.map_nil]); first | done | rfl | (simp only [List.length_drop, List.length_take]; rfl)) ?_
                           with_reducible refine (treelabel_Dominates.calls ((rd_T41 t275 x11_5).f0) ((rd_T41 t275 x11_5).f1) ((rd_T41 t275 x11_5).f2) ((rd_T41 t275 x7_3).f0) ((rd_T41 t275 x7_3).f1) ((rd_T41 t275 x7_3).f2) t290 _ A35.out).mono ?_
                           rintro e w40 ⟨rfl, hb⟩
                           have HS0_ := (hb.cell (World.block_lt_of_cell? _ _ (hHeld.1))).trans (hHeld.1)
                           have HS1_ := (hb.cell (World.block_lt_of_cell? _ _ (hHeld.2.1))).trans (hHeld.2.1)
                           have HS2_ := (hb.cell (World.block_lt_of_cell? _ _ (hHeld.2.2.1))).trans (hHeld.2.2.1)
                           have HS3_ := (hb.cell (World.block_lt_of_cell? _ _ (hHeld.2.2.2.1))).trans (hHeld.2.2.2.1)
                           have HS4_ := (hb.cell (World.block_lt_of_cell? _ _ (hHeld.2.2.2.2.1))).trans (hHeld.2.2.2.2.1)
                           have HS5_ := (hb.cell (World.block_lt_of_cell? _ _ (hHeld.2.2.2.2.2.1))).trans (hHeld.2.2.2.2.2.1)
                           have HS6_ := (hb.cell (World.block_lt_of_cell? _ _ (hHeld.2.2.2.2.2.2.1))).trans (hHeld.2.2.2.2.2.2.1)
                           have HS7_ := (hb.cell (World.block_lt_of_cell? _ _ (hHeld.2.2.2.2.2.2.2.1))).trans (hHeld.2.2.2.2.2.2.2.1)
                           have HS8_ := (hb.cell (World.block_lt_of_cell? _ _ (hHeld.2.2.2.2.2.2.2.2.1))).trans (hHeld.2.2.2.2.2.2.2.2.1)
                           have HS9_ := (hb.cell (World.block_lt_of_cell? _ _ (hHeld.2.2.2.2.2.2.2.2.2.1))).trans (hHeld.2.2.2.2.2.2.2.2.2.1)
                           have HS10_ := (hb.cell (World.block_lt_of_cell? _ _ (hHeld.2.2.2.2.2.2.2.2.2.2.1))).trans (hHeld.2.2.2.2.2.2.2.2.2.2.1)
                           have HS11_ := (hb.cell (World.block_lt_of_cell? _ _ (hHeld.2.2.2.2.2.2.2.2.2.2.2))).trans (hHeld.2.2.2.2.2.2.2.2.2.2.2)
                           refine ⟨_, rfl, ?_⟩
                           have n0_ := Aside0.mk (Kd.R_below (by (with_reducible repeat (first | apply Kd.R_alloc | apply Kd.R_drewN | apply Kd.R_drew)); exact HO_4.out) hb)
                           have n1_ := Aside0.mk (Kd.R_below (by (with_reducible repeat (first | apply Kd.R_alloc | apply Kd.R_drewN | apply Kd.R_drew)); exact HO_8.out) hb)
                           have n2_ := Aside0.mk (below_step (by repeat (first | (with_reducible first | exact HB.out | apply below_alloc | apply pw_below_drewN | apply below_drew1) | exact HB.out)) hb)
                           clear HO_4
                           clear HO_8
                           clear HB
                           have HO_4 := n0_
                           have HO_8 := n1_
                           have HB := n2_
                           clear n0_ n1_ n2_
                           (try clear hb)
                           (try clear hb2)
                           (try clear hk)
                           (try clear hi)
                           refine hK.out _ _ ⟨HS0_, HS1_, HS2_, HS3_, HS4_, HS5_, HS6_, HS7_, HS8_, HS9_, HS10_, HS11_⟩ (fun hHeld => ?_)
                           clear hK K
                           refine norm_ (a' := ?_) ?_ ?_
                           rotate_left
                           ·show Act.put _ (some 84) _ = _
                            simp only [Act.put, List.setIfInBounds_toArray, List.set_cons_zero, List.set_cons_succ, i64_w, i32_w]
                            rfl
                           refine one_ (i := 17) (N := some 93) #[true, true, true, true, true, true, true, true, true, true, true, true, true, true, true, true, true, true, false, false] rfl rfl (one_of HT_.out (by kernel_rfl)) (by decide) (fun K hK => ?_)
                           refine goes_ Try.func21 (by kernel_rfl) rfl #[.agg #[.int .i64 ((rd_T41 t275 x11_5).f0), .int .i64 ((rd_T41 t275 x11_5).f1), .int .i64 ((rd_T41 t275 x11_5).f2)], .agg #[.int .i64 ((rd_T41 t275 x7_3).f0), .int .i64 ((rd_T41 t275 x7_3).f1), .int .i64 ((rd_T41 t275 x7_3).f2)]] (by rfl) rfl rfl (by (try simp only [List.map_toArray, List.map_cons, List.map_nil]); first | done | rfl | (simp only [List.length_drop, List.length_take]; rfl)) ?_
                           with_reducible refine (treelabel_Precedes.calls ((rd_T41 t275 x11_5).f0) ((rd_T41 t275 x11_5).f1) ((rd_T41 t275 x11_5).f2) ((rd_T41 t275 x7_3).f0) ((rd_T41 t275 x7_3).f1) ((rd_T41 t275 x7_3).f2) t293 _ A36.out).mono ?_
                           rintro e w41 ⟨rfl, hb⟩
                           have HS0_ := (hb.cell (World.block_lt_of_cell? _ _ (hHeld.1))).trans (hHeld.1)
                           have HS1_ := (hb.cell (World.block_lt_of_cell? _ _ (hHeld.2.1))).trans (hHeld.2.1)
                           have HS2_ := (hb.cell (World.block_lt_of_cell? _ _ (hHeld.2.2.1))).trans (hHeld.2.2.1)
                           have HS3_ := (hb.cell (World.block_lt_of_cell? _ _ (hHeld.2.2.2.1))).trans (hHeld.2.2.2.1)
                           have HS4_ := (hb.cell (World.block_lt_of_cell? _ _ (hHeld.2.2.2.2.1))).trans (hHeld.2.2.2.2.1)
                           have HS5_ := (hb.cell (World.block_lt_of_cell? _ _ (hHeld.2.2.2.2.2.1))).trans (hHeld.2.2.2.2.2.1)
                           have HS6_ := (hb.cell (World.block_lt_of_cell? _ _ (hHeld.2.2.2.2.2.2.1))).trans (hHeld.2.2.2.2.2.2.1)
                           have HS7_ := (hb.cell (World.block_lt_of_cell? _ _ (hHeld.2.2.2.2.2.2.2.1))).trans (hHeld.2.2.2.2.2.2.2.1)
                           have HS8_ := (hb.cell (World.block_lt_of_cell? _ _ (hHeld.2.2.2.2.2.2.2.2.1))).trans (hHeld.2.2.2.2.2.2.2.2.1)
                           have HS9_ := (hb.cell (World.block_lt_of_cell? _ _ (hHeld.2.2.2.2.2.2.2.2.2.1))).trans (hHeld.2.2.2.2.2.2.2.2.2.1)
                           have HS10_ := (hb.cell (World.block_lt_of_cell? _ _ (hHeld.2.2.2.2.2.2.2.2.2.2.1))).trans (hHeld.2.2.2.2.2.2.2.2.2.2.1)
                           have HS11_ := (hb.cell (World.block_lt_of_cell? _ _ (hHeld.2.2.2.2.2.2.2.2.2.2.2))).trans (hHeld.2.2.2.2.2.2.2.2.2.2.2)
                           refine ⟨_, rfl, ?_⟩
                           have n0_ := Aside0.mk (Kd.R_below (by (with_reducible repeat (first | apply Kd.R_alloc | apply Kd.R_drewN | apply Kd.R_drew)); exact HO_4.out) hb)
                           have n1_ := Aside0.mk (Kd.R_below (by (with_reducible repeat (first | apply Kd.R_alloc | apply Kd.R_drewN | apply Kd.R_drew)); exact HO_8.out) hb)
                           have n2_ := Aside0.mk (below_step (by repeat (first | (with_reducible first | exact HB.out | apply below_alloc | apply pw_below_drewN | apply below_drew1) | exact HB.out)) hb)
                           clear HO_4
                           clear HO_8
                           clear HB
                           have HO_4 := n0_
                           have HO_8 := n1_
                           have HB := n2_
                           clear n0_ n1_ n2_
                           (try clear hb)
                           (try clear hb2)
                           (try clear hk)
                           (try clear hi)
                           refine hK.out _ _ ⟨HS0_, HS1_, HS2_, HS3_, HS4_, HS5_, HS6_, HS7_, HS8_, HS9_, HS10_, HS11_⟩ (fun hHeld => ?_)
                           clear hK K
                           refine norm_ (a' := ?_) ?_ ?_
                           rotate_left
                           ·show Act.put _ (some 93) _ = _
                            simp only [Act.put, List.setIfInBounds_toArray, List.set_cons_zero, List.set_cons_succ, i64_w, i32_w]
                            rfl
                           refine pure_ (i := 18) (N := some 12) (v := ?_) (a' := ?_) #[true, true, true, true, true, true, true, true, true, true, true, true, true, true, true, true, true, true, true, false] rfl rfl (any_of HT_.out (by kernel_rfl)) (fun _ _ _ h => h) (Or.inl ⟨by rfl, ?_⟩) ?_ ?_
                           rotate_left
                           ·intro w'
                            go_simp
                            with_reducible rfl
                           rotate_left
                           ·simp only [Act.put, List.setIfInBounds_toArray, List.set_cons_zero, List.set_cons_succ, i64_w, i32_w]
                            rfl
                           refine pure_ (i := 19) (N := some 13) (v := ?_) (a' := ?_) #[true, true, true, true, true, true, true, true, true, true, true, true, true, true, true, true, true, true, true, true] rfl rfl (any_of HT_.out (by kernel_rfl)) (fun _ _ _ h => h) (Or.inl ⟨by rfl, ?_⟩) ?_ ?_
                           rotate_left
                           ·intro w'
                            go_simp
                            with_reducible rfl
                           rotate_left
                           ·simp only [Act.put, List.setIfInBounds_toArray, List.set_cons_zero, List.set_cons_succ, i64_w, i32_w]
                            rfl
                           refine done_ (done_of HT_.out (by kernel_rfl)) ?_
                           try go_wp2
                           have n0_ := Aside0.mk (Kd.R_drew HO_4.out)
                           have n1_ := Aside0.mk (Kd.R_drew HO_8.out)
                           have n2_ := Aside0.mk (below_drew1 HB.out)
                           clear HO_4
                           clear HO_8
                           clear HB
                           have HO_4 := n0_
                           have HO_8 := n1_
                           have HB := n2_
                           clear n0_ n1_ n2_
                           have p294 : 0 ≤ (x7_3 : Int) := of_decide_eq_true (by first | (with_reducible assumption) | assumption)
                           have q294 : x7_3 < (t275.length : Int) := of_decide_eq_true (by first | (with_reducible assumption) | assumption)
                           obtain ⟨ad294, e294, hx294_0, hx294_1, hx294_2⟩ := at_T41 (Kd.R_reads' HO_4.out).2.2 x7_3 p294 q294
                           obtain rfl : ad287 = ad294 := (by injection e294)
                           replace p294 := eq_true p294
                           replace q294 := eq_true q294
                           have p295 : 0 ≤ (x11_5 : Int) := of_decide_eq_true (by first | (with_reducible assumption) | assumption)
                           have q295 : x11_5 < (t275.length : Int) := of_decide_eq_true (by first | (with_reducible assumption) | assumption)
                           obtain ⟨ad295, e295, hx295_0, hx295_1, hx295_2⟩ := at_T41 (Kd.R_reads' HO_4.out).2.2 x11_5 p295 q295
                           obtain rfl : ad287 = ad295 := (by injection e295)
                           replace p295 := eq_true p295
                           replace q295 := eq_true q295
                           have p297 : 0 ≤ (x7_3 : Int) := of_decide_eq_true (by first | (with_reducible assumption) | assumption)
                           have q297 : x7_3 < (t275.length : Int) := of_decide_eq_true (by first | (with_reducible assumption) | assumption)
                           obtain ⟨ad297, e297, hx297_0, hx297_1, hx297_2⟩ := at_T41 (Kd.R_reads' HO_4.out).2.2 x7_3 p297 q297
                           obtain rfl : ad287 = ad297 := (by injection e297)
                           replace p297 := eq_true p297
                           replace q297 := eq_true q297
                           have p298 : 0 ≤ (x11_5 : Int) := of_decide_eq_true (by first | (with_reducible assumption) | assumption)
                           have q298 : x11_5 < (t275.length : Int) := of_decide_eq_true (by first | (with_reducible assumption) | assumption)
                           obtain ⟨ad298, e298, hx298_0, hx298_1, hx298_2⟩ := at_T41 (Kd.R_reads' HO_4.out).2.2 x11_5 p298 q298
                           obtain rfl : ad287 = ad298 := (by injection e298)
                           replace p298 := eq_true p298
                           replace q298 := eq_true q298
                           refine start_ (n := 20) (S := fun w' => w'.cell? (ad287.add ((x7_3).toNat * 3)) = some (.int .i64 ((rd_T41 t275 x7_3).f0)) ∧ w'.cell? ⟨(ad287.add ((x7_3).toNat * 3)).block, (ad287.add ((x7_3).toNat * 3)).off + 1, none⟩ = some (.int .i64 ((rd_T41 t275 x7_3).f1)) ∧ w'.cell? ⟨(ad287.add ((x7_3).toNat * 3)).block, (ad287.add ((x7_3).toNat * 3)).off + 2, none⟩ = some (.int .i64 ((rd_T41 t275 x7_3).f2)) ∧ w'.cell? (ad287.add ((x11_5).toNat * 3)) = some (.int .i64 ((rd_T41 t275 x11_5).f0)) ∧ w'.cell? ⟨(ad287.add ((x11_5).toNat * 3)).block, (ad287.add ((x11_5).toNat * 3)).off + 1, none⟩ = some (.int .i64 ((rd_T41 t275 x11_5).f1)) ∧ w'.cell? ⟨(ad287.add ((x11_5).toNat * 3)).block, (ad287.add ((x11_5).toNat * 3)).off + 2, none⟩ = some (.int .i64 ((rd_T41 t275 x11_5).f2)) ∧ w'.cell? (ad287.add ((x7_3).toNat * 3)) = some (.int .i64 ((rd_T41 t275 x7_3).f0)) ∧ w'.cell? ⟨(ad287.add ((x7_3).toNat * 3)).block, (ad287.add ((x7_3).toNat * 3)).off + 1, none⟩ = some (.int .i64 ((rd_T41 t275 x7_3).f1)) ∧ w'.cell? ⟨(ad287.add ((x7_3).toNat * 3)).block, (ad287.add ((x7_3).toNat * 3)).off + 2, none⟩ = some (.int .i64 ((rd_T41 t275 x7_3).f2)) ∧ w'.cell? (ad287.add ((x11_5).toNat * 3)) = some (.int .i64 ((rd_T41 t275 x11_5).f0)) ∧ w'.cell? ⟨(ad287.add ((x11_5).toNat * 3)).block, (ad287.add ((x11_5).toNat * 3)).off + 1, none⟩ = some (.int .i64 ((rd_T41 t275 x11_5).f1)) ∧ w'.cell? ⟨(ad287.add ((x11_5).toNat * 3)).block, (ad287.add ((x11_5).toNat * 3)).off + 2, none⟩ = some (.int .i64 ((rd_T41 t275 x11_5).f2))) (ds := []) #[false, false, false, false, false, false, false, false, false, false, false, false, false, false, false, false, false, false, false, false] (by kernel_rfl) rfl rfl ⟨hx294_0, hx294_1, hx294_2, hx295_0, hx295_1, hx295_2, hx297_0, hx297_1, hx297_2, hx298_0, hx298_1, hx298_2⟩ (fun hHeld => ?_); refine with_tabW corporalaw10_TreelabelWalks.tab23 corporalaw10_TreelabelWalks.bits23 (fun HT_ HW_ => ?_)
                           generalize w41.drew = w42 at HO_4 HO_8 HB hx294_0 hx294_1 hx294_2 hx295_0 hx295_1 hx295_2 hx297_0 hx297_1 hx297_2 hx298_0 hx298_1 hx298_2 hHeld ⊢
                           refine pure_ (i := 0) (N := some 94) (v := ?_) (a' := ?_) #[true, false, false, false, false, false, false, false, false, false, false, false, false, false, false, false, false, false, false, false] rfl rfl (any_of HT_.out (by kernel_rfl)) (fun _ _ _ h => h) (Or.inl ⟨by rfl, ?_⟩) ?_ ?_
                           rotate_left
                           ·intro w'
                            go_simp
                            with_reducible rfl
                           rotate_left
                           ·simp only [Act.put, List.setIfInBounds_toArray, List.set_cons_zero, List.set_cons_succ, i64_w, i32_w]
                            rfl
                           refine pure_ (i := 1) (N := some 95) (v := ?_) (a' := ?_) #[true, true, false, false, false, false, false, false, false, false, false, false, false, false, false, false, false, false, false, false] rfl rfl (any_of HT_.out (by kernel_rfl)) (fun _ _ _ h => h) (Or.inl ⟨by rfl, ?_⟩) ?_ ?_
                           rotate_left
                           ·intro w'
                            go_simp
                            with_reducible rfl
                           rotate_left
                           ·simp only [Act.put, List.setIfInBounds_toArray, List.set_cons_zero, List.set_cons_succ, i64_w, i32_w]
                            rfl
                           refine pure_ (i := 2) (N := some 96) (v := ?_) (a' := ?_) #[true, true, true, false, false, false, false, false, false, false, false, false, false, false, false, false, false, false, false, false] rfl rfl (any_of HT_.out (by kernel_rfl)) (fun _ _ _ h => h) (Or.inl ⟨by rfl, ?_⟩) ?_ ?_
                           rotate_left
                           ·intro w'
                            go_simp
                            with_reducible rfl
                           rotate_left
                           ·simp only [Act.put, List.setIfInBounds_toArray, List.set_cons_zero, List.set_cons_succ, i64_w, i32_w]
                            rfl
                           refine pure_ (i := 4) (N := some 98) (v := ?_) (a' := ?_) #[true, true, true, false, true, false, false, false, false, false, false, false, false, false, false, false, false, false, false, false] rfl rfl (any_of HT_.out (by kernel_rfl)) (fun _ _ _ h => h) (Or.inl ⟨by rfl, ?_⟩) ?_ ?_
                           rotate_left
                           ·intro w'
                            go_simp
                            with_reducible rfl
                           rotate_left
                           ·simp only [Act.put, List.setIfInBounds_toArray, List.set_cons_zero, List.set_cons_succ, i64_w, i32_w]
                            rfl
                           refine pure_ (i := 5) (N := some 99) (v := ?_) (a' := ?_) #[true, true, true, false, true, true, false, false, false, false, false, false, false, false, false, false, false, false, false, false] rfl rfl (any_of HT_.out (by kernel_rfl)) (fun _ _ _ h => h) (Or.inl ⟨by rfl, ?_⟩) ?_ ?_
                           rotate_left
                           ·intro w'
                            go_simp
                            with_reducible rfl
                           rotate_left
                           ·simp only [Act.put, List.setIfInBounds_toArray, List.set_cons_zero, List.set_cons_succ, i64_w, i32_w]
                            rfl
                           refine pure_ (i := 6) (N := some 100) (v := ?_) (a' := ?_) #[true, true, true, false, true, true, true, false, false, false, false, false, false, false, false, false, false, false, false, false] rfl rfl (any_of HT_.out (by kernel_rfl)) (fun _ _ _ h => h) (Or.inl ⟨by rfl, ?_⟩) ?_ ?_
                           rotate_left
                           ·intro w'
                            go_simp
                            with_reducible rfl
                           rotate_left
                           ·simp only [Act.put, List.setIfInBounds_toArray, List.set_cons_zero, List.set_cons_succ, i64_w, i32_w]
                            rfl
                           refine pure_ (i := 9) (N := some 103) (v := ?_) (a' := ?_) #[true, true, true, false, true, true, true, false, false, true, false, false, false, false, false, false, false, false, false, false] rfl rfl (any_of HT_.out (by kernel_rfl)) (fun _ _ _ h => h) (Or.inl ⟨by rfl, ?_⟩) ?_ ?_
                           rotate_left
                           ·intro w'
                            go_simp
                            with_reducible rfl
                           rotate_left
                           ·simp only [Act.put, List.setIfInBounds_toArray, List.set_cons_zero, List.set_cons_succ, i64_w, i32_w]
                            rfl
                           refine pure_ (i := 10) (N := some 104) (v := ?_) (a' := ?_) #[true, true, true, false, true, true, true, false, false, true, true, false, false, false, false, false, false, false, false, false] rfl rfl (any_of HT_.out (by kernel_rfl)) (fun _ _ _ h => h) (Or.inl ⟨by rfl, ?_⟩) ?_ ?_
                           rotate_left
                           ·intro w'
                            go_simp
                            with_reducible rfl
                           rotate_left
                           ·simp only [Act.put, List.setIfInBounds_toArray, List.set_cons_zero, List.set_cons_succ, i64_w, i32_w]
                            rfl
                           refine pure_ (i := 11) (N := some 105) (v := ?_) (a' := ?_) #[true, true, true, false, true, true, true, false, false, true, true, true, false, false, false, false, false, false, false, false] rfl rfl (any_of HT_.out (by kernel_rfl)) (fun _ _ _ h => h) (Or.inl ⟨by rfl, ?_⟩) ?_ ?_
                           rotate_left
                           ·intro w'
                            go_simp
                            with_reducible rfl
                           rotate_left
                           ·simp only [Act.put, List.setIfInBounds_toArray, List.set_cons_zero, List.set_cons_succ, i64_w, i32_w]
                            rfl
                           refine pure_ (i := 13) (N := some 107) (v := ?_) (a' := ?_) #[true, true, true, false, true, true, true, false, false, true, true, true, false, true, false, false, false, false, false, false] rfl rfl (any_of HT_.out (by kernel_rfl)) (fun _ _ _ h => h) (Or.inl ⟨by rfl, ?_⟩) ?_ ?_
                           rotate_left
                           ·intro w'
                            go_simp
                            with_reducible rfl
                           rotate_left
                           ·simp only [Act.put, List.setIfInBounds_toArray, List.set_cons_zero, List.set_cons_succ, i64_w, i32_w]
                            rfl
                           refine pure_ (i := 14) (N := some 108) (v := ?_) (a' := ?_) #[true, true, true, false, true, true, true, false, false, true, true, true, false, true, true, false, false, false, false, false] rfl rfl (any_of HT_.out (by kernel_rfl)) (fun _ _ _ h => h) (Or.inl ⟨by rfl, ?_⟩) ?_ ?_
                           rotate_left
                           ·intro w'
                            go_simp
                            with_reducible rfl
                           rotate_left
                           ·simp only [Act.put, List.setIfInBounds_toArray, List.set_cons_zero, List.set_cons_succ, i64_w, i32_w]
                            rfl
                           refine pure_ (i := 15) (N := some 109) (v := ?_) (a' := ?_) #[true, true, true, false, true, true, true, false, false, true, true, true, false, true, true, true, false, false, false, false] rfl rfl (any_of HT_.out (by kernel_rfl)) (fun _ _ _ h => h) (Or.inl ⟨by rfl, ?_⟩) ?_ ?_
                           rotate_left
                           ·intro w'
                            go_simp
                            with_reducible rfl
                           rotate_left
                           ·simp only [Act.put, List.setIfInBounds_toArray, List.set_cons_zero, List.set_cons_succ, i64_w, i32_w]
                            rfl
                           refine take_ (i := 3) (N := some 97) (v := ?_) (a' := ?_) #[true, true, true, true, true, true, true, false, false, true, true, true, false, true, true, true, false, false, false, false] rfl rfl (take_ofW HT_.out HW_.out (by kernel_rfl)) (fun _ _ _ h => h) (Or.inl ⟨by rfl, ?_⟩) hHeld ?_ ?_
                           rotate_left
                           ·rintro w' ⟨s0, s1, s2, s3, s4, s5, s6, s7, s8, s9, s10, s11⟩
                            go_simp
                            with_reducible rfl
                           rotate_left
                           ·simp only [Act.put, List.setIfInBounds_toArray, List.set_cons_zero, List.set_cons_succ, i64_w, i32_w]
                            rfl
                           refine take_ (i := 7) (N := some 101) (v := ?_) (a' := ?_) #[true, true, true, true, true, true, true, true, false, true, true, true, false, true, true, true, false, false, false, false] rfl rfl (take_ofW HT_.out HW_.out (by kernel_rfl)) (fun _ _ _ h => h) (Or.inl ⟨by rfl, ?_⟩) hHeld ?_ ?_
                           rotate_left
                           ·rintro w' ⟨s0, s1, s2, s3, s4, s5, s6, s7, s8, s9, s10, s11⟩
                            go_simp
                            with_reducible rfl
                           rotate_left
                           ·simp only [Act.put, List.setIfInBounds_toArray, List.set_cons_zero, List.set_cons_succ, i64_w, i32_w]
                            rfl
                           refine take_ (i := 12) (N := some 106) (v := ?_) (a' := ?_) #[true, true, true, true, true, true, true, true, false, true, true, true, true, true, true, true, false, false, false, false] rfl rfl (take_ofW HT_.out HW_.out (by kernel_rfl)) (fun _ _ _ h => h) (Or.inl ⟨by rfl, ?_⟩) hHeld ?_ ?_
                           rotate_left
                           ·rintro w' ⟨s0, s1, s2, s3, s4, s5, s6, s7, s8, s9, s10, s11⟩
                            go_simp
                            with_reducible rfl
                           rotate_left
                           ·simp only [Act.put, List.setIfInBounds_toArray, List.set_cons_zero, List.set_cons_succ, i64_w, i32_w]
                            rfl
                           refine take_ (i := 16) (N := some 110) (v := ?_) (a' := ?_) #[true, true, true, true, true, true, true, true, false, true, true, true, true, true, true, true, true, false, false, false] rfl rfl (take_ofW HT_.out HW_.out (by kernel_rfl)) (fun _ _ _ h => h) (Or.inl ⟨by rfl, ?_⟩) hHeld ?_ ?_
                           rotate_left
                           ·rintro w' ⟨s0, s1, s2, s3, s4, s5, s6, s7, s8, s9, s10, s11⟩
                            go_simp
                            with_reducible rfl
                           rotate_left
                           ·simp only [Act.put, List.setIfInBounds_toArray, List.set_cons_zero, List.set_cons_succ, i64_w, i32_w]
                            rfl
                           refine one_ (i := 8) (N := some 102) #[true, true, true, true, true, true, true, true, true, true, true, true, true, true, true, true, true, false, false, false] rfl rfl (one_of HT_.out (by kernel_rfl)) (by decide) (fun K hK => ?_)
                           refine goes_ Try.func20 (by kernel_rfl) rfl #[.agg #[.int .i64 ((rd_T41 t275 x7_3).f0), .int .i64 ((rd_T41 t275 x7_3).f1), .int .i64 ((rd_T41 t275 x7_3).f2)], .agg #[.int .i64 ((rd_T41 t275 x11_5).f0), .int .i64 ((rd_T41 t275 x11_5).f1), .int .i64 ((rd_T41 t275 x11_5).f2)]] (by rfl) rfl rfl (by (try simp only [List.map_toArray, List.map_cons, List.map_nil]); first | done | rfl | (simp only [List.length_drop, List.length_take]; rfl)) ?_
                           with_reducible refine (treelabel_Dominates.calls ((rd_T41 t275 x7_3).f0) ((rd_T41 t275 x7_3).f1) ((rd_T41 t275 x7_3).f2) ((rd_T41 t275 x11_5).f0) ((rd_T41 t275 x11_5).f1) ((rd_T41 t275 x11_5).f2) t296 _ A37.out).mono ?_
                           rintro e w43 ⟨rfl, hb⟩
                           have HS0_ := (hb.cell (World.block_lt_of_cell? _ _ (hHeld.1))).trans (hHeld.1)
                           have HS1_ := (hb.cell (World.block_lt_of_cell? _ _ (hHeld.2.1))).trans (hHeld.2.1)
                           have HS2_ := (hb.cell (World.block_lt_of_cell? _ _ (hHeld.2.2.1))).trans (hHeld.2.2.1)
                           have HS3_ := (hb.cell (World.block_lt_of_cell? _ _ (hHeld.2.2.2.1))).trans (hHeld.2.2.2.1)
                           have HS4_ := (hb.cell (World.block_lt_of_cell? _ _ (hHeld.2.2.2.2.1))).trans (hHeld.2.2.2.2.1)
                           have HS5_ := (hb.cell (World.block_lt_of_cell? _ _ (hHeld.2.2.2.2.2.1))).trans (hHeld.2.2.2.2.2.1)
                           have HS6_ := (hb.cell (World.block_lt_of_cell? _ _ (hHeld.2.2.2.2.2.2.1))).trans (hHeld.2.2.2.2.2.2.1)
                           have HS7_ := (hb.cell (World.block_lt_of_cell? _ _ (hHeld.2.2.2.2.2.2.2.1))).trans (hHeld.2.2.2.2.2.2.2.1)
                           have HS8_ := (hb.cell (World.block_lt_of_cell? _ _ (hHeld.2.2.2.2.2.2.2.2.1))).trans (hHeld.2.2.2.2.2.2.2.2.1)
                           have HS9_ := (hb.cell (World.block_lt_of_cell? _ _ (hHeld.2.2.2.2.2.2.2.2.2.1))).trans (hHeld.2.2.2.2.2.2.2.2.2.1)
                           have HS10_ := (hb.cell (World.block_lt_of_cell? _ _ (hHeld.2.2.2.2.2.2.2.2.2.2.1))).trans (hHeld.2.2.2.2.2.2.2.2.2.2.1)
                           have HS11_ := (hb.cell (World.block_lt_of_cell? _ _ (hHeld.2.2.2.2.2.2.2.2.2.2.2))).trans (hHeld.2.2.2.2.2.2.2.2.2.2.2)
                           refine ⟨_, rfl, ?_⟩
                           have n0_ := Aside0.mk (Kd.R_below (by (with_reducible repeat (first | apply Kd.R_alloc | apply Kd.R_drewN | apply Kd.R_drew)); exact HO_4.out) hb)
                           have n1_ := Aside0.mk (Kd.R_below (by (with_reducible repeat (first | apply Kd.R_alloc | apply Kd.R_drewN | apply Kd.R_drew)); exact HO_8.out) hb)
                           have n2_ := Aside0.mk (below_step (by repeat (first | (with_reducible first | exact HB.out | apply below_alloc | apply pw_below_drewN | apply below_drew1) | exact HB.out)) hb)
                           clear HO_4
                           clear HO_8
                           clear HB
                           have HO_4 := n0_
                           have HO_8 := n1_
                           have HB := n2_
                           clear n0_ n1_ n2_
                           (try clear hb)
                           (try clear hb2)
                           (try clear hk)
                           (try clear hi)
                           refine hK.out _ _ ⟨HS0_, HS1_, HS2_, HS3_, HS4_, HS5_, HS6_, HS7_, HS8_, HS9_, HS10_, HS11_⟩ (fun hHeld => ?_)
                           clear hK K
                           refine norm_ (a' := ?_) ?_ ?_
                           rotate_left
                           ·show Act.put _ (some 102) _ = _
                            simp only [Act.put, List.setIfInBounds_toArray, List.set_cons_zero, List.set_cons_succ, i64_w, i32_w]
                            rfl
                           refine one_ (i := 17) (N := some 111) #[true, true, true, true, true, true, true, true, true, true, true, true, true, true, true, true, true, true, false, false] rfl rfl (one_of HT_.out (by kernel_rfl)) (by decide) (fun K hK => ?_)
                           refine goes_ Try.func21 (by kernel_rfl) rfl #[.agg #[.int .i64 ((rd_T41 t275 x7_3).f0), .int .i64 ((rd_T41 t275 x7_3).f1), .int .i64 ((rd_T41 t275 x7_3).f2)], .agg #[.int .i64 ((rd_T41 t275 x11_5).f0), .int .i64 ((rd_T41 t275 x11_5).f1), .int .i64 ((rd_T41 t275 x11_5).f2)]] (by rfl) rfl rfl (by (try simp only [List.map_toArray, List.map_cons, List.map_nil]); first | done | rfl | (simp only [List.length_drop, List.length_take]; rfl)) ?_
                           with_reducible refine (treelabel_Precedes.calls ((rd_T41 t275 x7_3).f0) ((rd_T41 t275 x7_3).f1) ((rd_T41 t275 x7_3).f2) ((rd_T41 t275 x11_5).f0) ((rd_T41 t275 x11_5).f1) ((rd_T41 t275 x11_5).f2) t299 _ A38.out).mono ?_
                           rintro e w44 ⟨rfl, hb⟩
                           have HS0_ := (hb.cell (World.block_lt_of_cell? _ _ (hHeld.1))).trans (hHeld.1)
                           have HS1_ := (hb.cell (World.block_lt_of_cell? _ _ (hHeld.2.1))).trans (hHeld.2.1)
                           have HS2_ := (hb.cell (World.block_lt_of_cell? _ _ (hHeld.2.2.1))).trans (hHeld.2.2.1)
                           have HS3_ := (hb.cell (World.block_lt_of_cell? _ _ (hHeld.2.2.2.1))).trans (hHeld.2.2.2.1)
                           have HS4_ := (hb.cell (World.block_lt_of_cell? _ _ (hHeld.2.2.2.2.1))).trans (hHeld.2.2.2.2.1)
                           have HS5_ := (hb.cell (World.block_lt_of_cell? _ _ (hHeld.2.2.2.2.2.1))).trans (hHeld.2.2.2.2.2.1)
                           have HS6_ := (hb.cell (World.block_lt_of_cell? _ _ (hHeld.2.2.2.2.2.2.1))).trans (hHeld.2.2.2.2.2.2.1)
                           have HS7_ := (hb.cell (World.block_lt_of_cell? _ _ (hHeld.2.2.2.2.2.2.2.1))).trans (hHeld.2.2.2.2.2.2.2.1)
                           have HS8_ := (hb.cell (World.block_lt_of_cell? _ _ (hHeld.2.2.2.2.2.2.2.2.1))).trans (hHeld.2.2.2.2.2.2.2.2.1)
                           have HS9_ := (hb.cell (World.block_lt_of_cell? _ _ (hHeld.2.2.2.2.2.2.2.2.2.1))).trans (hHeld.2.2.2.2.2.2.2.2.2.1)
                           have HS10_ := (hb.cell (World.block_lt_of_cell? _ _ (hHeld.2.2.2.2.2.2.2.2.2.2.1))).trans (hHeld.2.2.2.2.2.2.2.2.2.2.1)
                           have HS11_ := (hb.cell (World.block_lt_of_cell? _ _ (hHeld.2.2.2.2.2.2.2.2.2.2.2))).trans (hHeld.2.2.2.2.2.2.2.2.2.2.2)
                           refine ⟨_, rfl, ?_⟩
                           have n0_ := Aside0.mk (Kd.R_below (by (with_reducible repeat (first | apply Kd.R_alloc | apply Kd.R_drewN | apply Kd.R_drew)); exact HO_4.out) hb)
                           have n1_ := Aside0.mk (Kd.R_below (by (with_reducible repeat (first | apply Kd.R_alloc | apply Kd.R_drewN | apply Kd.R_drew)); exact HO_8.out) hb)
                           have n2_ := Aside0.mk (below_step (by repeat (first | (with_reducible first | exact HB.out | apply below_alloc | apply pw_below_drewN | apply below_drew1) | exact HB.out)) hb)
                           clear HO_4
                           clear HO_8
                           clear HB
                           have HO_4 := n0_
                           have HO_8 := n1_
                           have HB := n2_
                           clear n0_ n1_ n2_
                           (try clear hb)
                           (try clear hb2)
                           (try clear hk)
                           (try clear hi)
                           refine hK.out _ _ ⟨HS0_, HS1_, HS2_, HS3_, HS4_, HS5_, HS6_, HS7_, HS8_, HS9_, HS10_, HS11_⟩ (fun hHeld => ?_)
                           clear hK K
                           refine norm_ (a' := ?_) ?_ ?_
                           rotate_left
                           ·show Act.put _ (some 111) _ = _
                            simp only [Act.put, List.setIfInBounds_toArray, List.set_cons_zero, List.set_cons_succ, i64_w, i32_w]
                            rfl
                           refine pure_ (i := 18) (N := some 14) (v := ?_) (a' := ?_) #[true, true, true, true, true, true, true, true, true, true, true, true, true, true, true, true, true, true, true, false] rfl rfl (any_of HT_.out (by kernel_rfl)) (fun _ _ _ h => h) (Or.inl ⟨by rfl, ?_⟩) ?_ ?_
                           rotate_left
                           ·intro w'
                            go_simp
                            with_reducible rfl
                           rotate_left
                           ·simp only [Act.put, List.setIfInBounds_toArray, List.set_cons_zero, List.set_cons_succ, i64_w, i32_w]
                            rfl
                           refine pure_ (i := 19) (N := some 15) (v := ?_) (a' := ?_) #[true, true, true, true, true, true, true, true, true, true, true, true, true, true, true, true, true, true, true, true] rfl rfl (any_of HT_.out (by kernel_rfl)) (fun _ _ _ h => h) (Or.inl ⟨by rfl, ?_⟩) ?_ ?_
                           rotate_left
                           ·intro w'
                            go_simp
                            with_reducible rfl
                           rotate_left
                           ·simp only [Act.put, List.setIfInBounds_toArray, List.set_cons_zero, List.set_cons_succ, i64_w, i32_w]
                            rfl
                           refine done_ (done_of HT_.out (by kernel_rfl)) ?_
                           try go_wp2_with (first | ((with_reducible refine gate_dst (N := 116) rfl ?_); (try (refine gate_guard (by rfl) ?_; dsimp only)); refine Kd.R_lit Kd.bool _ 4 ?hg (N := 116) ?hd (xs := ([t290, t293, t296, t299] : List Bool)) (inner := [.bool t290, .bool t293, .bool t296, .bool t299]) (ok := fun _ => True) (okp := fun _ => True) ?hr ?hp (fun _ hk => hk) trivial (Below.refl _ _) (Nat.le_refl _) (by simp) ?_; (case hd => rfl); (case hg => rfl); (case hr => first | (go_simp; done) | (go_simp; rfl)); (case hp => exact (Reps.one (show Kd.M Kd.bool _ _ _ t290 [.bool t290] from rfl) (Reps.one (show Kd.M Kd.bool _ _ _ t293 [.bool t293] from rfl) (Reps.one (show Kd.M Kd.bool _ _ _ t296 [.bool t296] from rfl) (Reps.one (show Kd.M Kd.bool _ _ _ t299 [.bool t299] from rfl) (Reps.none _ _)))))); intro v301 w45 ho46 hb hg_ hnew_; clear hg_ hnew_; (first | rw [← Ny300.out] at ho46 | (simp only [Int.reduceToNat] at ho46; rw [← Ny300.out] at ho46)); have n0_ := Aside0.mk (Kd.R_below (by (with_reducible repeat (first | apply Kd.R_alloc | apply Kd.R_drewN | apply Kd.R_drew)); exact HO_4.out) hb); have n1_ := Aside0.mk (Kd.R_elder' (by (with_reducible repeat (first | apply Kd.R_alloc | apply Kd.R_drewN | apply Kd.R_drew)); exact HO_8.out) (Kd.R_base ho46) hb); have n2_ := Aside0.mk (Kd.R_lower (Kd.R_new' ho46 (Kd.R_lt (by (with_reducible repeat (first | apply Kd.R_alloc | apply Kd.R_drewN | apply Kd.R_drew)); exact HO_8.out))) (below_size (by repeat (first | (with_reducible first | exact HB.out | apply below_alloc | apply pw_below_drewN | apply below_drew1) | exact HB.out)))); have n3_ := Aside0.mk (below_step (by repeat (first | (with_reducible first | exact HB.out | apply below_alloc | apply pw_below_drewN | apply below_drew1) | exact HB.out)) hb); clear HO_4; clear HO_8; clear HB; have HO_4 := n0_; have HO_8 := n1_; have HO302 := n2_; have HB := n3_; clear n0_ n1_ n2_ n3_; clear hb ho46; obtain ⟨Ao47, co47, eo47⟩ := Kd.R_slice HO302.out; subst eo47))
                           go_loopg [16, 118] k5 (fun kq v16 v118 w' => ∃ (x16_6 : Int) (x118_6 : Int), v16 = .int .i64 x16_6 ∧ v118 = .int .i64 x118_6 ∧ Aside0 (corporalaw10_TreelabelWalks.l3 kq l0 (l0.length : Int) t275 x7_3 x8_4 x11_5 t290 x16_6 y300 (y300.length : Int) x118_6 = some r) ∧ Aside0 (kq ≤ k5) ∧ Aside0 (Kd.R k41 41 w' w.heap.size (fun _ => True) (.slice (some ad287) t275.length co29) t275) ∧ Aside0 (Kd.R Kd.bool 4 w' w.heap.size (fun k_ => some k_ ≠ ((.slice Ao47 y300.length co47) : Value).ownBlock) v282 x8_4) ∧ Aside0 (Kd.R Kd.bool 4 w' w.heap.size (fun k_ => some k_ ≠ (v282 : Value).ownBlock) (.slice Ao47 y300.length co47) y300) ∧ Aside0 (Below w.heap.size w w'))
                           case atStart => exact ⟨(0), (0), (by first | rfl | (simp; done) | (simp [*]; done)), (by first | rfl | (simp; done) | (simp [*]; done)), H', ⟨Nat.le_refl _⟩, ⟨by (with_reducible repeat (first | apply Kd.R_alloc | apply Kd.R_drewN | apply Kd.R_drew)); exact HO_4.out⟩, ⟨by (with_reducible repeat (first | apply Kd.R_alloc | apply Kd.R_drewN | apply Kd.R_drew)); exact Kd.R_mono HO_8.out (fun _ hk => hk.2)⟩, ⟨by (with_reducible repeat (first | apply Kd.R_alloc | apply Kd.R_drewN | apply Kd.R_drew)); exact Kd.R_mono HO302.out (fun _ hk => hk.2)⟩, ⟨by repeat (first | (with_reducible first | exact HB.out | apply below_alloc | apply pw_below_drewN | apply below_drew1) | exact HB.out)⟩⟩
                           case round =>
                            clear H'
                            try clear c2
                            try clear p2
                            try clear q2
                            try clear hx2
                            try clear c3
                            try clear c20
                            try clear c21
                            try clear p22
                            try clear q22
                            try clear hx22
                            try clear c26
                            try clear c26b0
                            try clear c27
                            try clear c27b0
                            try clear c28
                            try clear c28b0
                            try clear c28b1
                            try clear p28
                            try clear q28
                            try clear hx28
                            try clear p29
                            try clear q29
                            try clear hx29
                            try clear c30
                            try clear c30b0
                            try clear c31
                            try clear c31b0
                            try clear c32
                            try clear c32b0
                            try clear c33
                            try clear c33b0
                            try clear c34
                            try clear c34b0
                            try clear hx22_0
                            try clear hx284_0
                            try clear hx286_0
                            try clear hx287_0
                            try clear hx287_1
                            try clear hx287_2
                            try clear hx288_0
                            try clear hx288_1
                            try clear hx288_2
                            try clear hx289_0
                            try clear hx289_1
                            try clear hx289_2
                            try clear hx291_0
                            try clear hx291_1
                            try clear hx291_2
                            try clear hx292_0
                            try clear hx292_1
                            try clear hx292_2
                            try clear hx294_0
                            try clear hx294_1
                            try clear hx294_2
                            try clear hx295_0
                            try clear hx295_1
                            try clear hx295_2
                            try clear hx297_0
                            try clear hx297_1
                            try clear hx297_2
                            try clear hx298_0
                            try clear hx298_1
                            try clear hx298_2
                            try clear p2
                            try clear p22
                            try clear p28
                            try clear p284
                            try clear p286
                            try clear p287
                            try clear p288
                            try clear p289
                            try clear p291
                            try clear p292
                            try clear p294
                            try clear p295
                            try clear p297
                            try clear p298
                            try clear q2
                            try clear q22
                            try clear q28
                            try clear q284
                            try clear q286
                            try clear q287
                            try clear q288
                            try clear q289
                            try clear q291
                            try clear q292
                            try clear q294
                            try clear q295
                            try clear q297
                            try clear q298
                            obtain ⟨x16_6, x118_6, rfl, rfl, HA, HK6, HO_4, HO_8, HO_116, HB⟩ := hrel
                            cases gk with
                            | zero => exact absurd HA.out (by simp [corporalaw10_TreelabelWalks.l3])
                            | succ k6 =>
                             have H := HA.out
                             clear HA
                             simp only [corporalaw10_TreelabelWalks.l3] at H
                             by_cases c48 : x118_6 < (y300.length : Int)
                             ·rw [if_pos c48] at H
                              have c48b0 : decide (x118_6 < (y300.length : Int)) = true := decide_eq_true c48
                              clear c48
                              by_cases c49 : 0 ≤ x118_6
                              ·rw [if_pos c49] at H
                               have c49b0 : decide (0 ≤ x118_6) = true := decide_eq_true c49
                               clear c49
                               by_cases c50 : x118_6 < (y300.length : Int)
                               ·rw [if_pos c50] at H
                                have c50b0 : decide (x118_6 < (y300.length : Int)) = true := decide_eq_true c50
                                clear c50
                                obtain ⟨bq51, hbq51⟩ : ∃ b_ : Bool, b_ = (rdOf false y300 x118_6) := ⟨_, rfl⟩
                                replace H : (if bq51 = true then (corporalaw10_TreelabelWalks.l3 k6 l0 (l0.length : Int) t275 x7_3 x8_4 x11_5 t290 (wrap64 (x16_6 + 1)) y300 (y300.length : Int) (wrap64 (x118_6 + 1))) else (corporalaw10_TreelabelWalks.l3 k6 l0 (l0.length : Int) t275 x7_3 x8_4 x11_5 t290 x16_6 y300 (y300.length : Int) (wrap64 (x118_6 + 1)))) = some r := by rw [← hbq51] at H; exact H
                                have Nbq51 := Aside0.mk hbq51
                                clear hbq51
                                by_cases c52 : bq51 = true
                                ·subst c52
                                 have H1 : (corporalaw10_TreelabelWalks.l3 k6 l0 (l0.length : Int) t275 x7_3 x8_4 x11_5 t290 (wrap64 (x16_6 + 1)) y300 (y300.length : Int) (wrap64 (x118_6 + 1))) = some r := by rw [if_pos rfl] at H; exact H
                                 clear H
                                 have H := H1
                                 clear H1
                                 have H' := Aside0.mk H
                                 clear H
                                 have p303 : 0 ≤ (x118_6 : Int) := of_decide_eq_true (by first | (with_reducible assumption) | assumption)
                                 have q303 : x118_6 < (y300.length : Int) := of_decide_eq_true (by first | (with_reducible assumption) | assumption)
                                 obtain ⟨ad303, e303, hx303_0⟩ := Kd.at_bool (Kd.R_reads' HO_116.out).2.2 x118_6 p303 q303
                                 (try rw [← Nbq51.out] at hx303_0)
                                 cases e303
                                 replace p303 := eq_true p303
                                 replace q303 := eq_true q303
                                 go_wp2
                                 go_roundg k6
                                 case measure => have := HJ1.out; have := HJ6.out; have := HK3.out; have := HK4.out; have := HK5.out; have := HK6.out; omega
                                 case rel => exact ⟨(wrap64 (x16_6 + 1)), (wrap64 (x118_6 + 1)), (by first | rfl | (simp; done) | (simp [*]; done)), (by first | rfl | (simp; done) | (simp [*]; done)), H', ⟨by have := HJ1.out; have := HJ6.out; have := HK3.out; have := HK4.out; have := HK5.out; have := HK6.out; omega⟩, ⟨by (with_reducible repeat (first | apply Kd.R_alloc | apply Kd.R_drewN | apply Kd.R_drew)); exact HO_4.out⟩, ⟨by (with_reducible repeat (first | apply Kd.R_alloc | apply Kd.R_drewN | apply Kd.R_drew)); exact HO_8.out⟩, ⟨by (with_reducible repeat (first | apply Kd.R_alloc | apply Kd.R_drewN | apply Kd.R_drew)); exact HO_116.out⟩, ⟨by repeat (first | (with_reducible first | exact HB.out | apply below_alloc | apply pw_below_drewN | apply below_drew1) | exact HB.out)⟩⟩
                                ·replace c52 := Bool.eq_false_iff.mpr c52
                                 subst c52
                                 have H1 : (corporalaw10_TreelabelWalks.l3 k6 l0 (l0.length : Int) t275 x7_3 x8_4 x11_5 t290 x16_6 y300 (y300.length : Int) (wrap64 (x118_6 + 1))) = some r := by rw [if_neg (show ¬ (false = true) by decide)] at H; exact H
                                 clear H
                                 have H := H1
                                 clear H1
                                 have H' := Aside0.mk H
                                 clear H
                                 have p303 : 0 ≤ (x118_6 : Int) := of_decide_eq_true (by first | (with_reducible assumption) | assumption)
                                 have q303 : x118_6 < (y300.length : Int) := of_decide_eq_true (by first | (with_reducible assumption) | assumption)
                                 obtain ⟨ad303, e303, hx303_0⟩ := Kd.at_bool (Kd.R_reads' HO_116.out).2.2 x118_6 p303 q303
                                 (try rw [← Nbq51.out] at hx303_0)
                                 cases e303
                                 replace p303 := eq_true p303
                                 replace q303 := eq_true q303
                                 go_wp2
                                 go_roundg k6
                                 case measure => have := HJ1.out; have := HJ6.out; have := HK3.out; have := HK4.out; have := HK5.out; have := HK6.out; omega
                                 case rel => exact ⟨(x16_6), (wrap64 (x118_6 + 1)), (by first | rfl | (simp; done) | (simp [*]; done)), (by first | rfl | (simp; done) | (simp [*]; done)), H', ⟨by have := HJ1.out; have := HJ6.out; have := HK3.out; have := HK4.out; have := HK5.out; have := HK6.out; omega⟩, ⟨by (with_reducible repeat (first | apply Kd.R_alloc | apply Kd.R_drewN | apply Kd.R_drew)); exact HO_4.out⟩, ⟨by (with_reducible repeat (first | apply Kd.R_alloc | apply Kd.R_drewN | apply Kd.R_drew)); exact HO_8.out⟩, ⟨by (with_reducible repeat (first | apply Kd.R_alloc | apply Kd.R_drewN | apply Kd.R_drew)); exact HO_116.out⟩, ⟨by repeat (first | (with_reducible first | exact HB.out | apply below_alloc | apply pw_below_drewN | apply below_drew1) | exact HB.out)⟩⟩
                               ·rw [if_neg c50] at H
                                exact absurd H (by simp)
                              ·rw [if_neg c49] at H
                               exact absurd H (by simp)
                             ·rw [if_neg c48] at H
                              have c48b0 : decide (x118_6 < (y300.length : Int)) = false := decide_eq_false c48
                              clear c48
                              by_cases c53 : 0 ≤ x11_5
                              ·rw [if_pos c53] at H
                               have c53b0 : decide (0 ≤ x11_5) = true := decide_eq_true c53
                               clear c53
                               by_cases c54 : x11_5 < (x8_4.length : Int)
                               ·rw [if_pos c54] at H
                                have c54b0 : decide (x11_5 < (x8_4.length : Int)) = true := decide_eq_true c54
                                clear c54
                                by_cases c55 : (t290 != (rdOf false x8_4 x11_5)) = true
                                ·rw [if_pos c55] at H
                                 have c55b0 : (t290 != (rdOf false x8_4 x11_5)) = true := c55
                                 (try (have c55b1 : decide (t290 = (rdOf false x8_4 x11_5)) = false := by simpa using c55))
                                 (try (have c55b2 : (t290 == (rdOf false x8_4 x11_5)) = false := by simpa using c55))
                                 (try (have c55b3 : ¬ (t290 = (rdOf false x8_4 x11_5)) := by simpa using c55))
                                 clear c55
                                 obtain rfl := Option.some.inj H
                                 obtain ⟨Ao56, co56, eo56⟩ := Kd.R_slice HO_8.out
                                 subst eo56
                                 have p304 : 0 ≤ (x11_5 : Int) := of_decide_eq_true (by first | (with_reducible assumption) | assumption)
                                 have q304 : x11_5 < (x8_4.length : Int) := of_decide_eq_true (by first | (with_reducible assumption) | assumption)
                                 obtain ⟨ad304, e304, hx304_0⟩ := Kd.at_bool (Kd.R_reads' HO_8.out).2.2 x11_5 p304 q304
                                 cases e304
                                 replace p304 := eq_true p304
                                 replace q304 := eq_true q304
                                 go_wp2
                                 go_ret
                                 exact ⟨by first | rfl | (simp [errW_none, errW_some] <;> rfl) | (simp [*, errW_none, errW_some] <;> rfl), by repeat (first | (with_reducible first | exact HB.out | apply below_alloc | apply pw_below_drewN | apply below_drew1) | exact HB.out)⟩
                                ·rw [if_neg c55] at H
                                 have c55b0 : (t290 != (rdOf false x8_4 x11_5)) = false := by simpa using c55
                                 (try (have c55b1 : decide (t290 = (rdOf false x8_4 x11_5)) = true := by simpa using c55))
                                 (try (have c55b2 : (t290 == (rdOf false x8_4 x11_5)) = true := by simpa using c55))
                                 clear c55
                                 by_cases c57 : ((x7_3 == x11_5) != (x16_6 == 0)) = true
                                 ·rw [if_pos c57] at H
                                  have c57b0 : ((x7_3 == x11_5) != (x16_6 == 0)) = true := c57
                                  (try (have c57b1 : decide ((x7_3 == x11_5) = (x16_6 == 0)) = false := by simpa using c57))
                                  (try (have c57b2 : ((x7_3 == x11_5) == (x16_6 == 0)) = false := by simpa using c57))
                                  (try (have c57b3 : ¬ ((x7_3 == x11_5) = (x16_6 == 0)) := by simpa using c57))
                                  clear c57
                                  obtain rfl := Option.some.inj H
                                  obtain ⟨Ao58, co58, eo58⟩ := Kd.R_slice HO_8.out
                                  subst eo58
                                  have p304 : 0 ≤ (x11_5 : Int) := of_decide_eq_true (by first | (with_reducible assumption) | assumption)
                                  have q304 : x11_5 < (x8_4.length : Int) := of_decide_eq_true (by first | (with_reducible assumption) | assumption)
                                  obtain ⟨ad304, e304, hx304_0⟩ := Kd.at_bool (Kd.R_reads' HO_8.out).2.2 x11_5 p304 q304
                                  cases e304
                                  replace p304 := eq_true p304
                                  replace q304 := eq_true q304
                                  go_wp2
                                  go_ret
                                  exact ⟨by first | rfl | (simp [errW_none, errW_some] <;> rfl) | (simp [*, errW_none, errW_some] <;> rfl), by repeat (first | (with_reducible first | exact HB.out | apply below_alloc | apply pw_below_drewN | apply below_drew1) | exact HB.out)⟩
                                 ·rw [if_neg c57] at H
                                  have c57b0 : ((x7_3 == x11_5) != (x16_6 == 0)) = false := by simpa using c57
                                  (try (have c57b1 : decide ((x7_3 == x11_5) = (x16_6 == 0)) = true := by simpa using c57))
                                  (try (have c57b2 : ((x7_3 == x11_5) == (x16_6 == 0)) = true := by simpa using c57))
                                  clear c57
                                  by_cases c59 : x7_3 = x11_5
                                  ·rw [if_pos c59] at H
                                   have c59b0 : (x7_3 == x11_5) = true := beq_iff_eq.mpr c59
                                   have c59b1 : (x7_3 != x11_5) = false := bne_eq_false_iff_eq.mpr c59
                                   have cz0 : (x16_6 == 0) = true := by have h_ := c57b0; rw [c59b0] at h_; simpa using h_
                                   have cz1 : x16_6 = 0 := by simpa using cz0
                                   have cz2 : (x16_6 != 0) = false := by simp [cz1]
                                   have cz3 : decide (x16_6 = 0) = true := by simp [cz1]
                                   clear c59
                                   have H' := Aside0.mk H
                                   clear H
                                   obtain ⟨Ao60, co60, eo60⟩ := Kd.R_slice HO_8.out
                                   subst eo60
                                   have p304 : 0 ≤ (x11_5 : Int) := of_decide_eq_true (by first | (with_reducible assumption) | assumption)
                                   have q304 : x11_5 < (x8_4.length : Int) := of_decide_eq_true (by first | (with_reducible assumption) | assumption)
                                   obtain ⟨ad304, e304, hx304_0⟩ := Kd.at_bool (Kd.R_reads' HO_8.out).2.2 x11_5 p304 q304
                                   cases e304
                                   replace p304 := eq_true p304
                                   replace q304 := eq_true q304
                                   go_wp2
                                   go_roundg k6
                                   case measure => have := HJ1.out; have := HJ6.out; have := HK3.out; have := HK4.out; have := HK5.out; have := HK6.out; omega
                                   case rel => exact ⟨(wrap64 (x11_5 + 1)), (by first | rfl | (simp; done) | (simp [*]; done)), H', ⟨by have := HJ1.out; have := HJ6.out; have := HK3.out; have := HK4.out; have := HK5.out; have := HK6.out; omega⟩, ⟨by (with_reducible repeat (first | apply Kd.R_alloc | apply Kd.R_drewN | apply Kd.R_drew)); exact HO_4.out⟩, ⟨by (with_reducible repeat (first | apply Kd.R_alloc | apply Kd.R_drewN | apply Kd.R_drew)); exact Kd.R_mono HO_8.out (fun _ hk => trivial)⟩, ⟨by repeat (first | (with_reducible first | exact HB.out | apply below_alloc | apply pw_below_drewN | apply below_drew1) | exact HB.out)⟩⟩
                                  ·rw [if_neg c59] at H
                                   have c59b0 : (x7_3 == x11_5) = false := beq_eq_false_iff_ne.mpr c59
                                   have c59b1 : (x7_3 != x11_5) = true := bne_iff_ne.mpr c59
                                   have cz0 : (x16_6 == 0) = false := by have h_ := c57b0; rw [c59b0] at h_; simpa using h_
                                   have cz1 : ¬ x16_6 = 0 := by simpa using cz0
                                   have cz2 : (x16_6 != 0) = true := by simp [cz1]
                                   have cz3 : decide (x16_6 = 0) = false := by simp [cz1]
                                   by_cases c61 : x16_6 = 1
                                   ·rw [if_pos c61] at H
                                    have c61b0 : (x16_6 == 1) = true := beq_iff_eq.mpr c61
                                    have c61b1 : (x16_6 != 1) = false := bne_eq_false_iff_eq.mpr c61
                                    clear c61
                                    have H' := Aside0.mk H
                                    clear H
                                    obtain ⟨Ao62, co62, eo62⟩ := Kd.R_slice HO_8.out
                                    subst eo62
                                    have p304 : 0 ≤ (x11_5 : Int) := of_decide_eq_true (by first | (with_reducible assumption) | assumption)
                                    have q304 : x11_5 < (x8_4.length : Int) := of_decide_eq_true (by first | (with_reducible assumption) | assumption)
                                    obtain ⟨ad304, e304, hx304_0⟩ := Kd.at_bool (Kd.R_reads' HO_8.out).2.2 x11_5 p304 q304
                                    cases e304
                                    replace p304 := eq_true p304
                                    replace q304 := eq_true q304
                                    go_wp2
                                    go_roundg k6
                                    case measure => have := HJ1.out; have := HJ6.out; have := HK3.out; have := HK4.out; have := HK5.out; have := HK6.out; omega
                                    case rel => exact ⟨(wrap64 (x11_5 + 1)), (by first | rfl | (simp; done) | (simp [*]; done)), H', ⟨by have := HJ1.out; have := HJ6.out; have := HK3.out; have := HK4.out; have := HK5.out; have := HK6.out; omega⟩, ⟨by (with_reducible repeat (first | apply Kd.R_alloc | apply Kd.R_drewN | apply Kd.R_drew)); exact HO_4.out⟩, ⟨by (with_reducible repeat (first | apply Kd.R_alloc | apply Kd.R_drewN | apply Kd.R_drew)); exact Kd.R_mono HO_8.out (fun _ hk => trivial)⟩, ⟨by repeat (first | (with_reducible first | exact HB.out | apply below_alloc | apply pw_below_drewN | apply below_drew1) | exact HB.out)⟩⟩
                                   ·rw [if_neg c61] at H
                                    have c61b0 : (x16_6 == 1) = false := beq_eq_false_iff_ne.mpr c61
                                    have c61b1 : (x16_6 != 1) = true := bne_iff_ne.mpr c61
                                    obtain rfl := Option.some.inj H
                                    obtain ⟨Ao63, co63, eo63⟩ := Kd.R_slice HO_8.out
                                    subst eo63
                                    have p304 : 0 ≤ (x11_5 : Int) := of_decide_eq_true (by first | (with_reducible assumption) | assumption)
                                    have q304 : x11_5 < (x8_4.length : Int) := of_decide_eq_true (by first | (with_reducible assumption) | assumption)
                                    obtain ⟨ad304, e304, hx304_0⟩ := Kd.at_bool (Kd.R_reads' HO_8.out).2.2 x11_5 p304 q304
                                    cases e304
                                    replace p304 := eq_true p304
                                    replace q304 := eq_true q304
                                    go_wp2
                                    go_ret
                                    exact ⟨by first | rfl | (simp [errW_none, errW_some] <;> rfl) | (simp [*, errW_none, errW_some] <;> rfl), by repeat (first | (with_reducible first | exact HB.out | apply below_alloc | apply pw_below_drewN | apply below_drew1) | exact HB.out)⟩
                               ·rw [if_neg c54] at H
                                exact absurd H (by simp)
                              ·rw [if_neg c53] at H
                               exact absurd H (by simp)
                          ·rw [if_neg c34] at H
                           exact absurd H (by simp)
                         ·rw [if_neg c33] at H
                          exact absurd H (by simp)
                        ·rw [if_neg c32] at H
                         exact absurd H (by simp)
                       ·rw [if_neg c31] at H
                        exact absurd H (by simp)
                      ·rw [if_neg c30] at H
                       have c30b0 : decide (x11_5 < (l0.length : Int)) = false := decide_eq_false c30
                       clear c30
                       have H' := Aside0.mk H
                       clear H
                       go_wp2
                       go_roundg k5
                       case measure => have := HJ1.out; have := HJ6.out; have := HK3.out; have := HK4.out; have := HK5.out; omega
                       case rel => exact ⟨(wrap64 (x7_3 + 1)), (by first | rfl | (simp; done) | (simp [*]; done)), H', ⟨by have := HJ1.out; have := HJ6.out; have := HK3.out; have := HK4.out; have := HK5.out; omega⟩, ⟨by (with_reducible repeat (first | apply Kd.R_alloc | apply Kd.R_drewN | apply Kd.R_drew)); exact HO_4.out⟩, ⟨by repeat (first | (with_reducible first | exact HB.out | apply below_alloc | apply pw_below_drewN | apply below_drew1) | exact HB.out)⟩⟩
                   ·rw [if_neg c28] at H
                    have c28b0 : (((rd_T41 t275 x7_3).f2) == x9_4) = false := beq_eq_false_iff_ne.mpr c28
                    have c28b1 : (((rd_T41 t275 x7_3).f2) != x9_4) = true := bne_iff_ne.mpr c28
                    obtain rfl := Option.some.inj H
                    obtain ⟨Ao64, co64, eo64⟩ := Kd.R_slice HO_4.out
                    subst eo64
                    have p287 : 0 ≤ (x7_3 : Int) := of_decide_eq_true (by first | (with_reducible assumption) | assumption)
                    have q287 : x7_3 < (t275.length : Int) := of_decide_eq_true (by first | (with_reducible assumption) | assumption)
                    obtain ⟨ad287, e287, hx287_0, hx287_1, hx287_2⟩ := at_T41 (Kd.R_reads' HO_4.out).2.2 x7_3 p287 q287
                    cases e287
                    replace p287 := eq_true p287
                    replace q287 := eq_true q287
                    go_wp2
                    go_ret
                    exact ⟨by first | rfl | (simp [errW_none, errW_some] <;> rfl) | (simp [*, errW_none, errW_some] <;> rfl), by repeat (first | (with_reducible first | exact HB.out | apply below_alloc | apply pw_below_drewN | apply below_drew1) | exact HB.out)⟩
                  ·rw [if_neg c27] at H
                   exact absurd H (by simp)
                 ·rw [if_neg c26] at H
                  exact absurd H (by simp)
             ·rw [if_neg c16] at H
              exact absurd H (by simp)
            ·rw [if_neg c15] at H
             exact absurd H (by simp)
           ·rw [if_neg c14] at H
            exact absurd H (by simp)
          ·rw [if_neg c13] at H
           exact absurd H (by simp)
         ·rw [if_neg c12] at H
          have c12b0 : decide (x7_3 < (l0.length : Int)) = false := decide_eq_false c12
          clear c12
          replace H := Option.bind_eq_some_iff.mp H
          obtain ⟨t280, A650, H⟩ := H
          replace H : (some t280) = some r := H
          have A65 := Aside0.mk A650
          clear A650
          obtain rfl := Option.some.inj H
          go_wp2_with (first | ((with_reducible refine gate_callee (f := 14) rfl ?_); refine goesL_ (some 149) rfl rfl Try.func14 (by kernel_rfl) rfl #[] rfl (by (try simp only [List.map_toArray, List.map_cons, List.map_nil]); first | done | rfl | (simp only [List.length_drop, List.length_take]; rfl)) ?_; (with_reducible refine (corporalaw10_awake.calls k3  t280 _ A65.out).mono ?_); rintro e w66 ⟨rfl, hb⟩; refine ⟨_, rfl, ?_⟩; have n0_ := Aside0.mk (Kd.R_below (by (with_reducible repeat (first | apply Kd.R_alloc | apply Kd.R_drewN | apply Kd.R_drew)); exact HO_4.out) hb); have n1_ := Aside0.mk (below_step (by repeat (first | (with_reducible first | exact HB.out | apply below_alloc | apply pw_below_drewN | apply below_drew1) | exact HB.out)) hb); clear HO_4; clear HB; have HO_4 := n0_; have HB := n1_; clear n0_ n1_; (try clear hb); (try clear hb2); (try clear hk); (try clear hi)))
          go_ret
          exact ⟨by first | rfl | (simp [errW_none, errW_some] <;> rfl) | (simp [*, errW_none, errW_some] <;> rfl), by repeat (first | (with_reducible first | exact HB.out | apply below_alloc | apply pw_below_drewN | apply below_drew1) | exact HB.out)⟩

/-- THE ONE PURE STATEMENT of corporalaw10_TreelabelWalks: yours. -/
def corporalaw10_TreelabelWalks.Pure : Prop := ∀ (l0 : List Int), l0.length ≤ maxLen → l0.length * 8 ≤ 140737488351232 → (∀ x ∈ l0, (Lit.int .i64 x).wf = true) → ∃ k, corporalaw10_TreelabelWalks.f k l0 = some true
theorem corporalaw10_TreelabelWalks.walk (P : corporalaw10_TreelabelWalks.Pure) (a0 : Option Addr) (len0 cap0 : Nat) (z0 : List Int) (w : World) (w0 : (a0 = none ∧ len0 = 0 ∧ cap0 = 0 ∧ z0 = []) ∨ ∃ x, a0 = some x ∧ len0 ≤ cap0 ∧ cap0 ≤ maxLen ∧ z0.length = cap0 ∧ (∀ i, i < z0.length → w.cell? (x.add i) = some (.int .i64 (z0.getD i 0))) ∧ ∀ n ∈ z0, (Lit.int .i64 n).wf = true) (y0 : len0 * 8 ≤ 140737488351232) :
  Calls Try.prog 6 #[.slice a0 len0 cap0] w fun e w' => e = .returned (.bool true) ∧ Below w.heap.size w w' := by
 obtain ⟨l0, rfl, hr0, hm0, hw0, hc0⟩ := ReadsInt.ofRowC w0
 obtain ⟨k, h⟩ := P l0 hm0 y0 hw0
 refine (corporalaw10_TreelabelWalks.calls k _ _ l0 true w (Kd.C_of_reads (d := (0 : Int)) (h1 := fun _ => rfl) hr0) hc0 h).mono ?_
 rintro e w' ⟨rfl, hd⟩
 exact ⟨rfl, hd⟩

end Go.Proofs.Ythjcmodhleoocaa.Q
/- Up -/
namespace Go.Proofs.Ythjcmodhleoocaa.TP

theorem pigeon : ∀ (n : Nat) (f : Nat → Nat), (∀ i, i ≤ n → f i < n) → ∃ i j, i < j ∧ j ≤ n ∧ f i = f j := by
  intro n
  induction n with
  | zero => intro f h; exact absurd (h 0 (Nat.le_refl _)) (Nat.not_lt_zero _)
  | succ n ih =>
    intro f h
    by_cases hx : ∃ i, i ≤ n ∧ f i = f (n + 1)
    · obtain ⟨i, hi, e⟩ := hx
      exact ⟨i, n + 1, by omega, Nat.le_refl _, e⟩
    · have hne : ∀ i, i ≤ n → f i ≠ f (n + 1) := fun i hi e => hx ⟨i, hi, e⟩
      obtain ⟨i, j, hij, hj, e⟩ := ih (fun i => if f i = n then f (n + 1) else f i) (fun i hi => by
        have h1 := h i (by omega)
        have h2 := h (n + 1) (Nat.le_refl _)
        have h3 := hne i hi
        show (if f i = n then f (n + 1) else f i) < n
        split <;> omega)
      refine ⟨i, j, hij, by omega, ?_⟩
      have h3 := hne i (by omega)
      have h4 := hne j hj
      split at e <;> split at e <;> omega

/-- Distinct members of a list that all lie in another: no more of them. -/
theorem inj_le (n m : Nat) (f : Nat → Nat) (hf : ∀ i, i < n → f i < m) (hi : ∀ i j, i < n → j < n → f i = f j → i = j) : n ≤ m := by
  rcases Nat.lt_or_ge m n with h | h
  · obtain ⟨i, j, hij, hj, e⟩ := pigeon m f (fun i hi' => hf i (by omega))
    have := hi i j (by omega) (by omega) e
    omega
  · exact h

/-- The element at an index. -/
def rdi (ps : List Int) (x : Int) : Int := ps.getD x.toNat 0
/-- One step up; what is no node stays. -/
def stp (ps : List Int) (x : Int) : Int := if x < 0 then x else rdi ps x
def up (ps : List Int) : Nat → Int → Int
  | 0, x => x
  | m + 1, x => up ps m (stp ps x)
theorem stp_neg {ps : List Int} {x : Int} (h : x < 0) : stp ps x = x := if_pos h
theorem stp_nn {ps : List Int} {x : Int} (h : 0 ≤ x) : stp ps x = rdi ps x := if_neg (by omega)
theorem up_succ (ps : List Int) (m : Nat) (x : Int) : up ps (m + 1) x = up ps m (stp ps x) := rfl
theorem up_out (ps : List Int) (m : Nat) : ∀ x, up ps (m + 1) x = stp ps (up ps m x) := by
  induction m with
  | zero => intro x; rfl
  | succ m ih => intro x; rw [up_succ, ih]; rfl
theorem up_add (ps : List Int) (a b : Nat) (x : Int) : up ps (a + b) x = up ps a (up ps b x) := by
  induction a generalizing b x with
  | zero => rw [Nat.zero_add]; rfl
  | succ a ih => rw [show a + 1 + b = a + (b + 1) from by omega, ih, up_out, up_succ]
theorem up_neg {ps : List Int} {x : Int} (m : Nat) (h : x < 0) : up ps m x = x := by
  induction m with
  | zero => rfl
  | succ m ih => rw [up_succ, stp_neg h, ih]
theorem up_nn_of {ps : List Int} {x : Int} {a b : Nat} (hab : a ≤ b) (h : 0 ≤ up ps b x) : 0 ≤ up ps a x := by
  rcases Int.lt_or_le (up ps a x) 0 with h1 | h1
  · have : up ps b x = up ps a x := by rw [show b = (b - a) + a from by omega, up_add, up_neg _ h1]
    omega
  · exact h1

/-- All parents are nodes or -1. -/
def InR (ps : List Int) : Prop := ∀ x : Int, 0 ≤ x → x < ps.length → -1 ≤ rdi ps x ∧ rdi ps x < ps.length
theorem up_range {ps : List Int} (h : InR ps) {x : Int} (hx : -1 ≤ x) (hx' : x < ps.length) (m : Nat) : -1 ≤ up ps m x ∧ up ps m x < ps.length := by
  induction m with
  | zero => exact ⟨hx, hx'⟩
  | succ m ih =>
    rw [up_out]
    rcases Int.lt_or_le (up ps m x) 0 with h1 | h1
    · rw [stp_neg h1]; exact ih
    · rw [stp_nn h1]; exact h _ h1 ih.2

/-- A node from which the parents lead back to it. -/
def Cyc (ps : List Int) (x : Int) : Prop := 0 ≤ x ∧ ∃ m, 0 < m ∧ up ps m x = x
theorem cyc_mul {ps : List Int} {x : Int} {m : Nat} (h : up ps m x = x) (c : Nat) : up ps (c * m) x = x := by
  induction c with
  | zero => rw [Nat.zero_mul]; rfl
  | succ c ih => rw [Nat.succ_mul, up_add, h, ih]
theorem cyc_up_nn {ps : List Int} {x : Int} (h : Cyc ps x) (i : Nat) : 0 ≤ up ps i x := by
  obtain ⟨hx, m, hm, e⟩ := h
  have h1 := cyc_mul e i
  refine up_nn_of (b := i * m) (Nat.le_mul_of_pos_right i hm) ?_
  rw [h1]; exact hx
theorem cyc_up {ps : List Int} {x : Int} (h : Cyc ps x) (i : Nat) : Cyc ps (up ps i x) := by
  refine ⟨cyc_up_nn h i, ?_⟩
  obtain ⟨_, m, hm, e⟩ := h
  exact ⟨m, hm, by rw [← up_add, Nat.add_comm, up_add, e]⟩
/-- On a cycle every later point leads back. -/
theorem cyc_back {ps : List Int} {x : Int} (h : Cyc ps x) (i : Nat) : ∃ j, up ps j (up ps i x) = x := by
  obtain ⟨_, m, hm, e⟩ := h
  have h1 := cyc_mul e i
  have h2 : i ≤ i * m := Nat.le_mul_of_pos_right i hm
  exact ⟨i * m - i, by rw [← up_add, Nat.sub_add_cancel h2, h1]⟩
theorem natAbs_lt {x : Int} {n : Nat} (h0 : 0 ≤ x) (h1 : x < n) : x.toNat < n := by omega
/-- A repetition within the first n steps. -/
theorem up_repeat {ps : List Int} (h : InR ps) {x : Int} (hx : x < ps.length) (hn : ∀ i, i ≤ ps.length → 0 ≤ up ps i x) : ∃ i j, i < j ∧ j ≤ ps.length ∧ up ps i x = up ps j x := by
  have h0 : -1 ≤ x := by have := hn 0 (Nat.zero_le _); simp only [up] at this; omega
  obtain ⟨i, j, hij, hj, e⟩ := pigeon ps.length (fun i => (up ps i x).toNat) (fun i hi => natAbs_lt (hn i hi) (up_range h h0 hx i).2)
  have hi' := hn i (by omega)
  have hj' := hn j hj
  exact ⟨i, j, hij, hj, by have e2 : (up ps i x).toNat = (up ps j x).toNat := e; omega⟩
/-- The way back is no longer than the list. -/
theorem cyc_short {ps : List Int} (h : InR ps) {x : Int} (hx : x < ps.length) (hc : Cyc ps x) : ∃ m, 0 < m ∧ m ≤ ps.length ∧ up ps m x = x := by
  obtain ⟨i, j, hij, hj, e⟩ := up_repeat h hx (fun i _ => cyc_up_nn hc i)
  obtain ⟨b, hb⟩ := cyc_back hc i
  refine ⟨j - i, by omega, by omega, ?_⟩
  have h1 : up ps (b + j) x = x := by rw [up_add, ← e, hb]
  have h2 : up ps (b + i) x = x := by rw [up_add, hb]
  have h3 : b + j = (j - i) + (b + i) := by omega
  rw [h3, up_add, h2] at h1
  exact h1
/-- No cycle: every way ends. -/
theorem ends_of {ps : List Int} (h : InR ps) (hc : ∀ x : Int, 0 ≤ x → x < ps.length → ¬ Cyc ps x) {x : Int} (hx0 : 0 ≤ x) (hx : x < ps.length) : ∃ m, m ≤ ps.length ∧ up ps m x < 0 := by
  by_cases hn : ∃ i, i ≤ ps.length ∧ up ps i x < 0
  · exact hn
  · exfalso
    obtain ⟨i, j, hij, hj, e⟩ := up_repeat h hx (fun i hi => by
      rcases Int.lt_or_le (up ps i x) 0 with h1 | h1
      · exact absurd ⟨i, hi, h1⟩ hn
      · exact h1)
    have h0 : 0 ≤ up ps i x := by
      rcases Int.lt_or_le (up ps i x) 0 with h1 | h1
      · exact absurd ⟨i, by omega, h1⟩ hn
      · exact h1
    refine hc _ h0 (up_range h (by omega) hx i).2 ⟨h0, j - i, by omega, ?_⟩
    rw [← up_add, Nat.sub_add_cancel (by omega)]
    exact e.symm
end Go.Proofs.Ythjcmodhleoocaa.TP
/- TSpec -/
namespace Go.Proofs.Ythjcmodhleoocaa.TP

/-- Node x is y or an ancestor of y. -/
def Sub (ps : List Int) (x y : Nat) : Prop := ∃ m, up ps m (y : Int) = (x : Int)
theorem Sub.refl (ps : List Int) (x : Nat) : Sub ps x x := ⟨0, rfl⟩
theorem Sub.trans {ps : List Int} {x y z : Nat} (h : Sub ps x y) (k : Sub ps y z) : Sub ps x z := by
  obtain ⟨a, ha⟩ := h
  obtain ⟨b, hb⟩ := k
  exact ⟨a + b, by rw [up_add, hb, ha]⟩
/-- A forest: parents in range, no cycle. -/
structure Forest (ps : List Int) : Prop where
  rng : InR ps
  nc : ∀ j : Int, 0 ≤ j → j < ps.length → ¬ Cyc ps j
theorem rdi_nat (ps : List Int) (c : Nat) : rdi ps (c : Int) = ps.getD c 0 := by unfold rdi; rw [Int.toNat_natCast]
theorem mem_kd {ps : List Int} {i c : Nat} : c ∈ kd ps i ↔ c < ps.length ∧ rdi ps (c : Int) = (i : Int) := by unfold kd; rw [mem_kidsOf, rdi_nat]
theorem mem_kids {ps : List Int} {p : Int} {c : Nat} : c ∈ kidsOf ps p ↔ c < ps.length ∧ rdi ps (c : Int) = p := by rw [mem_kidsOf, rdi_nat]
theorem kidsFrom_nodup (ps : List Int) (p : Int) (j : Nat) : (kidsFrom ps p j).Nodup := by
  unfold kidsFrom
  exact List.Pairwise.filter _ (List.nodup_range')
theorem kidsOf_nodup (ps : List Int) (p : Int) : (kidsOf ps p).Nodup := kidsFrom_nodup ps p 0

theorem no_loop {ps : List Int} (hf : Forest ps) {x : Nat} (hx : x < ps.length) {m : Nat} (hm : 0 < m) : up ps m (x : Int) ≠ (x : Int) := fun e =>
  hf.nc x (by omega) (by omega) ⟨by omega, m, hm, e⟩
theorem Sub.anti {ps : List Int} (hf : Forest ps) {x y : Nat} (hx : x < ps.length) (h : Sub ps x y) (k : Sub ps y x) : x = y := by
  obtain ⟨a, ha⟩ := h
  obtain ⟨b, hb⟩ := k
  rcases Nat.eq_zero_or_pos (a + b) with h0 | h0
  · obtain rfl : a = 0 := by omega
    have : (y : Int) = (x : Int) := ha
    omega
  · exact absurd (show up ps (a + b) (x : Int) = x by rw [up_add, hb, ha]) (no_loop hf hx h0)
/-- Siblings (or roots) have no common descendant. -/
theorem sib_disj {ps : List Int} (hf : Forest ps) {p : Int} {c c' x : Nat} (hp : p < ps.length) (hc : rdi ps (c : Int) = p) (hc' : rdi ps (c' : Int) = p) (h : Sub ps c x) (h' : Sub ps c' x) : c = c' := by
  have key : ∀ (c c' : Nat) (a b : Nat), rdi ps (c : Int) = p → rdi ps (c' : Int) = p → up ps a (x : Int) = c → up ps b (x : Int) = c' → a < b → False := by
    intro c c' a b hc hc' ha hb hab
    obtain ⟨e, rfl⟩ : ∃ e, b = (e + 1) + a := ⟨b - a - 1, by omega⟩
    rw [up_add, ha, up_succ, stp_nn (by omega), hc] at hb
    rcases Int.lt_or_le p 0 with h1 | h1
    · rw [up_neg _ h1] at hb; omega
    · have h2 : up ps (e + 1) p = p := by rw [up_out, hb, stp_nn (by omega), hc']
      exact hf.nc p h1 hp ⟨h1, e + 1, by omega, h2⟩
  obtain ⟨a, ha⟩ := h
  obtain ⟨b, hb⟩ := h'
  rcases Nat.lt_trichotomy a b with h | h | h
  · exact (key c c' a b hc hc' ha hb h).elim
  · subst h; rw [ha] at hb; omega
  · exact (key c' c b a hc' hc hb ha h).elim
/-- A node's tree: itself, and its children's trees. -/
theorem sub_kids {ps : List Int} (hf : Forest ps) {i x : Nat} (hx : x < ps.length) : Sub ps i x ↔ x = i ∨ ∃ c, c ∈ kd ps i ∧ Sub ps c x := by
  constructor
  · rintro ⟨m, hm⟩
    cases m with
    | zero => left; have : (x : Int) = (i : Int) := hm; omega
    | succ m =>
      right
      rw [up_out] at hm
      have h0 : 0 ≤ up ps m (x : Int) := by
        rcases Int.lt_or_le (up ps m (x : Int)) 0 with h | h
        · rw [stp_neg h] at hm; omega
        · exact h
      have h1 := (up_range hf.rng (by omega) (by omega : (x : Int) < ps.length) m).2
      rw [stp_nn h0] at hm
      exact ⟨(up ps m (x : Int)).toNat, mem_kd.2 ⟨by omega, by rw [Int.toNat_of_nonneg h0]; exact hm⟩, m, (Int.toNat_of_nonneg h0).symm⟩
  · rintro (rfl | ⟨c, hc, m, hm⟩)
    · exact Sub.refl _ _
    · exact ⟨m + 1, by rw [up_out, hm, stp_nn (by omega)]; exact (mem_kd.1 hc).2⟩
theorem kid_not_sub {ps : List Int} (hf : Forest ps) {i c : Nat} (hi : i < ps.length) (hc : c ∈ kd ps i) : ¬ Sub ps c i := by
  rintro ⟨m, hm⟩
  refine no_loop hf hi (m := m + 1) (by omega) ?_
  rw [up_out, hm, stp_nn (by omega)]
  exact (mem_kd.1 hc).2

/-- How two different nodes' labels stand to each other. -/
def Ord (ps : List Int) (L : List Lab) (x y : Nat) : Prop := ∃ lx ly, L[x]? = some lx ∧ L[y]? = some ly ∧
  ((Sub ps x y ∧ lx.pre < ly.pre ∧ ly.post < lx.post) ∨ (Sub ps y x ∧ ly.pre < lx.pre ∧ lx.post < ly.post) ∨
    (¬ Sub ps x y ∧ ¬ Sub ps y x ∧ ((lx.pre < ly.pre ∧ lx.post < ly.post) ∨ (ly.pre < lx.pre ∧ ly.post < lx.post))))
theorem Ord.symm {ps : List Int} {L : List Lab} {x y : Nat} (h : Ord ps L x y) : Ord ps L y x := by
  obtain ⟨lx, ly, h1, h2, h3⟩ := h
  refine ⟨ly, lx, h2, h1, ?_⟩
  rcases h3 with h | h | ⟨a, b, c⟩
  · exact .inr (.inl h)
  · exact .inl h
  · exact .inr (.inr ⟨b, a, c.symm⟩)

/-- What has been numbered: the nodes of T, by numbers from s on. -/
structure Res (ps : List Int) (T : Nat → Prop) (dp : Nat → Nat → Prop) (s t : NS) : Prop where
  len : t.L.length = s.L.length
  up : Up s t
  out : ∀ x, ¬ T x → t.L[x]? = s.L[x]?
  ins : ∀ x, x < ps.length → T x → ∃ l, t.L[x]? = some l ∧ s.pre ≤ l.pre ∧ l.pre < t.pre ∧ s.post ≤ l.post ∧ l.post < t.post ∧ dp x l.dep
  ord : ∀ x y, x < ps.length → y < ps.length → T x → T y → x ≠ y → Ord ps t.L x y
  onto : ∀ v, s.pre ≤ v → v < t.pre → ∃ x, x < ps.length ∧ T x ∧ ∃ l, t.L[x]? = some l ∧ l.pre = v

/-- Depths: d levels above the trees of cs. -/
def DpL (ps : List Int) (cs : List Nat) (d : Nat) (x : Nat) (e : Nat) : Prop := ∃ c, c ∈ cs ∧ ∃ m, up ps m (x : Int) = (c : Int) ∧ e = d + m
def TL (ps : List Int) (cs : List Nat) (x : Nat) : Prop := ∃ c, c ∈ cs ∧ Sub ps c x

theorem res_nil (ps : List Int) (d : Nat) (s : NS) : Res ps (TL ps []) (DpL ps [] d) s s :=
  ⟨rfl, Up.refl s, fun _ _ => rfl, fun x _ ⟨c, hc, _⟩ => (by cases hc), fun x y _ _ ⟨c, hc, _⟩ => (by cases hc), fun v h1 h2 => by omega⟩

theorem res_cons {ps : List Int} (hf : Forest ps) {p : Int} (hp : p < ps.length) {c : Nat} {cs : List Nat} {d : Nat} {s m t : NS} (hc : rdi ps (c : Int) = p) (hcs : ∀ c' ∈ cs, rdi ps (c' : Int) = p) (hnd : c ∉ cs)
    (h1 : Res ps (TL ps [c]) (DpL ps [c] d) s m) (h2 : Res ps (TL ps cs) (DpL ps cs d) m t) : Res ps (TL ps (c :: cs)) (DpL ps (c :: cs) d) s t := by
  have hdis : ∀ x, Sub ps c x → ¬ TL ps cs x := by
    rintro x hx ⟨c', hc', hx'⟩
    have := sib_disj hf hp hc (hcs c' hc') hx hx'
    subst this
    exact hnd hc'
  have hone : ∀ x, TL ps [c] x ↔ Sub ps c x := fun x => ⟨fun ⟨c', h, h'⟩ => by rw [List.mem_singleton.1 h] at h'; exact h', fun h => ⟨c, List.mem_singleton.2 rfl, h⟩⟩
  have hsplit : ∀ x, TL ps (c :: cs) x ↔ Sub ps c x ∨ TL ps cs x := by
    intro x
    constructor
    · rintro ⟨c', h, h'⟩
      rcases List.mem_cons.1 h with rfl | h
      · exact .inl h'
      · exact .inr ⟨c', h, h'⟩
    · rintro (h | ⟨c', h, h'⟩)
      · exact ⟨c, List.mem_cons_self, h⟩
      · exact ⟨c', List.mem_cons_of_mem _ h, h'⟩
  have hkeep : ∀ x, Sub ps c x → t.L[x]? = m.L[x]? := fun x hx => h2.out x (hdis x hx)
  have u1 := h1.up; have u2 := h2.up
  refine ⟨h2.len.trans h1.len, u1.trans u2, fun x hx => ?_, fun x hx ht => ?_, fun x y hx hy hTx hTy hne => ?_, fun v hv hv' => ?_⟩
  · rw [hsplit] at hx
    rw [h2.out x (fun h => hx (.inr h)), h1.out x (fun h => hx (.inl ((hone x).1 h)))]
  · rw [hsplit] at ht
    rcases ht with h | h
    · obtain ⟨l, a, b, c', e, f, c2, hc2, k, hk, hkd⟩ := h1.ins x hx ((hone x).2 h)
      refine ⟨l, (hkeep x h).trans a, b, by have := u2.2.1; omega, e, by have := u2.2.2.1; omega, c2, ?_, k, hk, hkd⟩
      rw [List.mem_singleton.1 hc2]; exact List.mem_cons_self
    · obtain ⟨l, a, b, c', e, f, c2, hc2, k, hk, hkd⟩ := h2.ins x hx h
      exact ⟨l, a, by have := u1.2.1; omega, c', by have := u1.2.2.1; omega, f, c2, List.mem_cons_of_mem _ hc2, k, hk, hkd⟩
  · rw [hsplit] at hTx hTy
    have mixed : ∀ x y, x < ps.length → y < ps.length → Sub ps c x → TL ps cs y → Ord ps t.L x y := by
      intro x y hx hy h h'
      obtain ⟨lx, a, b, c', e, f, _⟩ := h1.ins x hx ((hone x).2 h)
      obtain ⟨ly, a', b', c'', e', f', _⟩ := h2.ins y hy h'
      refine ⟨lx, ly, (hkeep x h).trans a, a', .inr (.inr ⟨fun hs => hdis y (h.trans hs) h', fun hs => ?_, .inl ⟨by omega, by omega⟩⟩)⟩
      obtain ⟨c2, hc2, hy2⟩ := h'
      exact hdis x h ⟨c2, hc2, hy2.trans hs⟩
    rcases hTx with h | h <;> rcases hTy with h' | h'
    · obtain ⟨lx, ly, a, b, e⟩ := h1.ord x y hx hy ((hone x).2 h) ((hone y).2 h') hne
      exact ⟨lx, ly, (hkeep x h).trans a, (hkeep y h').trans b, e⟩
    · exact mixed x y hx hy h h'
    · exact (mixed y x hy hx h' h).symm
    · exact h2.ord x y hx hy h h' hne
  · rcases Nat.lt_or_ge v m.pre with h | h
    · obtain ⟨x, a, b, l, e, f⟩ := h1.onto v hv h
      exact ⟨x, a, (hsplit x).2 (.inl ((hone x).1 b)), l, (hkeep x ((hone x).1 b)).trans e, f⟩
    · obtain ⟨x, a, b, l, e, f⟩ := h2.onto v h hv'
      exact ⟨x, a, (hsplit x).2 (.inr b), l, e, f⟩

theorem res_node {ps : List Int} (hf : Forest ps) {i d : Nat} (hi : i < ps.length) {s m : NS} (hl : s.L.length = ps.length) (h : Res ps (TL ps (kd ps i)) (DpL ps (kd ps i) (d + 1)) (enter i d s) m) :
    Res ps (TL ps [i]) (DpL ps [i] d) s (leave i m) := by
  have hone : ∀ x, TL ps [i] x ↔ Sub ps i x := fun x => ⟨fun ⟨c', h, h'⟩ => by rw [List.mem_singleton.1 h] at h'; exact h', fun h => ⟨i, List.mem_singleton.2 rfl, h⟩⟩
  have hni : ¬ TL ps (kd ps i) i := by
    rintro ⟨c, hc, hs⟩
    exact kid_not_sub hf hi hc hs
  have hu := h.up
  have e1 : (enter i d s).pre = s.pre + 1 := rfl
  have e2 : (enter i d s).post = s.post := rfl
  have e3 : (leave i m).pre = m.pre := rfl
  have e4 : (leave i m).post = m.post + 1 := rfl
  obtain ⟨x0, hx0⟩ : ∃ x0, s.L[i]? = some x0 := ⟨_, List.getElem?_eq_getElem (by omega)⟩
  have hLi : (leave i m).L[i]? = some { pre := s.pre, post := m.post, dep := d } := by
    have h1 := h.out i hni
    have h2 : (enter i d s).L[i]? = some { x0 with pre := s.pre, dep := d } := by simp [enter, hx0]
    rw [h2] at h1
    simp [leave, h1]
  have hLo : ∀ x, x ≠ i → (leave i m).L[x]? = m.L[x]? := fun x hx => by simp [leave, Ne.symm hx]
  have hEo : ∀ x, x ≠ i → (enter i d s).L[x]? = s.L[x]? := fun x hx => by simp [enter, Ne.symm hx]
  have hcase : ∀ x, x < ps.length → Sub ps i x → x = i ∨ (x ≠ i ∧ TL ps (kd ps i) x) := by
    intro x hx hs
    by_cases e : x = i
    · exact .inl e
    · rcases (sub_kids hf hx).1 hs with e' | h'
      · exact absurd e' e
      · exact .inr ⟨e, h'⟩
  have hup : Up s (leave i m) := by
    obtain ⟨a, b, c, e⟩ := hu
    refine ⟨by rw [leave_len, a, enter_len], by rw [e3]; omega, by rw [e4]; omega, by rw [e3, e4]; omega⟩
  refine ⟨hup.1, hup, fun x hx => ?_, fun x hx ht => ?_, fun x y hx hy hTx hTy hne => ?_, fun v hv hv' => ?_⟩
  · rw [hone] at hx
    have hxi : x ≠ i := fun e => hx (e ▸ Sub.refl ps x)
    have hxk : ¬ TL ps (kd ps i) x := by
      rintro ⟨c, hc, k, hk⟩
      exact hx ⟨k + 1, by rw [up_out, hk, stp_nn (by omega)]; exact (mem_kd.1 hc).2⟩
    rw [hLo x hxi, h.out x hxk, hEo x hxi]
  · rcases hcase x hx ((hone x).1 ht) with rfl | ⟨hxi, hk⟩
    · have := hu.2.1; have := hu.2.2.1
      exact ⟨_, hLi, Nat.le_refl _, by rw [e3]; show s.pre < m.pre; omega, by show s.post ≤ m.post; omega, by rw [e4]; show m.post < m.post + 1; omega, x, List.mem_singleton.2 rfl, 0, rfl, rfl⟩
    · obtain ⟨l, a, b, c', e, f, c2, hc2, k, hk, hkd⟩ := h.ins x hx hk
      refine ⟨l, (hLo x hxi).trans a, by omega, by rw [e3]; exact c', by omega, by rw [e4]; omega, i, List.mem_singleton.2 rfl, k + 1, ?_, by omega⟩
      rw [up_out, hk, stp_nn (by omega)]; exact (mem_kd.1 hc2).2
  · have one : ∀ y, y < ps.length → y ≠ i → TL ps (kd ps i) y → Ord ps (leave i m).L i y := by
      intro y hy hyi hk
      obtain ⟨l, a, b, c', e, f, _⟩ := h.ins y hy hk
      obtain ⟨c, hc, k, hk2⟩ := hk
      exact ⟨_, l, hLi, (hLo y hyi).trans a, .inl ⟨⟨k + 1, by rw [up_out, hk2, stp_nn (by omega)]; exact (mem_kd.1 hc).2⟩, by show s.pre < l.pre; omega, f⟩⟩
    rcases hcase x hx ((hone x).1 hTx) with rfl | ⟨hxi, hk⟩ <;> rcases hcase y hy ((hone y).1 hTy) with rfl | ⟨hyi, hk'⟩
    · exact absurd rfl hne
    · exact one y hy hyi hk'
    · exact (one x hx hxi hk).symm
    · obtain ⟨lx, ly, a, b, e⟩ := h.ord x y hx hy hk hk' hne
      exact ⟨lx, ly, (hLo x hxi).trans a, (hLo y hyi).trans b, e⟩
  · rcases Nat.lt_or_ge s.pre v with h1 | h1
    · obtain ⟨x, a, b, l, e, f⟩ := h.onto v (by omega) (by rw [e3] at hv'; exact hv')
      have hxi : x ≠ i := fun e' => hni (e' ▸ b)
      obtain ⟨c, hc, k, hk2⟩ := b
      exact ⟨x, a, (hone x).2 ⟨k + 1, by rw [up_out, hk2, stp_nn (by omega)]; exact (mem_kd.1 hc).2⟩, l, (hLo x hxi).trans e, f⟩
    · exact ⟨i, hi, (hone i).2 (Sub.refl _ _), _, hLi, by show s.pre = v; omega⟩

/-- How deep a node lies. -/
def HasD (ps : List Int) (x : Int) (d : Nat) : Prop := 0 ≤ up ps d x ∧ up ps (d + 1) x < 0
theorem HasD.uniq {ps : List Int} {x : Int} {a b : Nat} (h : HasD ps x a) (k : HasD ps x b) : a = b := by
  rcases Nat.lt_trichotomy a b with h1 | h1 | h1
  · have := up_nn_of (show a + 1 ≤ b by omega) k.1; have := h.2; omega
  · exact h1
  · have := up_nn_of (show b + 1 ≤ a by omega) h.1; have := k.2; omega
theorem hasD_ex {ps : List Int} (hf : Forest ps) {x : Int} (hx0 : 0 ≤ x) (hx : x < ps.length) : ∃ d, d < ps.length ∧ HasD ps x d := by
  obtain ⟨m, hm, hneg⟩ := ends_of hf.rng hf.nc hx0 hx
  have key : ∀ m, up ps m x < 0 → ∃ d, d < m ∧ HasD ps x d := by
    intro m
    induction m with
    | zero => intro h; have : x < 0 := h; omega
    | succ m ih =>
      intro h
      rcases Int.lt_or_le (up ps m x) 0 with h1 | h1
      · obtain ⟨d, hd, h2⟩ := ih h1; exact ⟨d, by omega, h2⟩
      · exact ⟨m, by omega, h1, h⟩
  obtain ⟨d, hd, h2⟩ := key m hneg
  exact ⟨d, by omega, h2⟩
theorem HasD.kid {ps : List Int} {c : Nat} {i : Int} {d : Nat} (hc : rdi ps (c : Int) = i) (h : HasD ps i d) : HasD ps (c : Int) (d + 1) := by
  have e : stp ps (c : Int) = i := by rw [stp_nn (by omega)]; exact hc
  exact ⟨by rw [up_succ, e]; exact h.1, by rw [up_succ, e]; exact h.2⟩

/-- The numbering of a node's tree ends, and does what it should: enough levels are n less the node's depth. -/
theorem vis_res {ps : List Int} (hf : Forest ps) (k : Nat) : ∀ (i d D : Nat) (s : NS), i < ps.length → HasD ps (i : Int) D → ps.length ≤ D + k → s.L.length = ps.length →
    ∃ t, vis (kd ps) k i d s = some t ∧ Res ps (TL ps [i]) (DpL ps [i] d) s t := by
  induction k with
  | zero =>
    intro i d D s hi hD hk
    obtain ⟨d', hd', h'⟩ := hasD_ex hf (x := (i : Int)) (by omega) (by omega)
    have := hD.uniq h'
    omega
  | succ k ih =>
    intro i d D s hi hD hk hl
    have fold : ∀ (cs : List Nat), cs.Nodup → (∀ c ∈ cs, c ∈ kd ps i) → ∀ (s : NS), s.L.length = ps.length → ∃ t, cs.foldlM (fun s c => vis (kd ps) k c (d + 1) s) s = some t ∧ Res ps (TL ps cs) (DpL ps cs (d + 1)) s t := by
      intro cs
      induction cs with
      | nil => intro _ _ s _; exact ⟨s, rfl, res_nil ps (d + 1) s⟩
      | cons c cs ihc =>
        intro hnd hall s hl
        obtain ⟨hn1, hn2⟩ := List.nodup_cons.1 hnd
        have hck := mem_kd.1 (hall c List.mem_cons_self)
        obtain ⟨m, hm, hr⟩ := ih c (d + 1) (D + 1) s hck.1 (hD.kid hck.2) (by omega) hl
        obtain ⟨t, ht, hr2⟩ := ihc hn2 (fun c' h' => hall c' (List.mem_cons_of_mem _ h')) m (hr.len.trans hl)
        refine ⟨t, ?_, res_cons hf (p := (i : Int)) (by omega) hck.2 (fun c' h' => (mem_kd.1 (hall c' (List.mem_cons_of_mem _ h'))).2) hn1 hr hr2⟩
        rw [List.foldlM_cons, hm]
        exact ht
    obtain ⟨m, hm, hr⟩ := fold (kd ps i) (kidsOf_nodup _ _) (fun c h => h) (enter i d s) (by rw [enter_len]; exact hl)
    refine ⟨leave i m, ?_, res_node hf hi hl hr⟩
    rw [vis, if_pos (by omega), hm]
    rfl
theorem visL_res {ps : List Int} (hf : Forest ps) (k : Nat) (hk : ps.length ≤ k) : ∀ (cs : List Nat), cs.Nodup → (∀ c ∈ cs, c ∈ kidsOf ps (-1)) → ∀ (s : NS), s.L.length = ps.length →
    ∃ t, visL ps k cs 0 s = some t ∧ Res ps (TL ps cs) (DpL ps cs 0) s t := by
  intro cs
  induction cs with
  | nil => intro _ _ s _; exact ⟨s, rfl, res_nil ps 0 s⟩
  | cons c cs ihc =>
    intro hnd hall s hl
    obtain ⟨hn1, hn2⟩ := List.nodup_cons.1 hnd
    have hck := mem_kids.1 (hall c List.mem_cons_self)
    have hD : HasD ps (c : Int) 0 := ⟨by show (0 : Int) ≤ (c : Int); omega, by
      show stp ps (c : Int) < 0
      rw [stp_nn (by omega), hck.2]; omega⟩
    obtain ⟨m, hm, hr⟩ := vis_res hf k c 0 0 s hck.1 hD (by omega) hl
    obtain ⟨t, ht, hr2⟩ := ihc hn2 (fun c' h' => hall c' (List.mem_cons_of_mem _ h')) m (hr.len.trans hl)
    refine ⟨t, ?_, res_cons hf (p := -1) (by omega) hck.2 (fun c' h' => (mem_kids.1 (hall c' (List.mem_cons_of_mem _ h'))).2) hn1 hr hr2⟩
    rw [visL_cons, hm]
    exact ht

/-- The labels of a forest. -/
structure LabOf (ps : List Int) (L : List Lab) : Prop where
  len : L.length = ps.length
  dep : ∀ (x : Nat) (l : Lab), L[x]? = some l → HasD ps (x : Int) l.dep
  rng : ∀ (x : Nat) (l : Lab), L[x]? = some l → l.pre < ps.length ∧ l.post < ps.length
  ord : ∀ x y, x < ps.length → y < ps.length → x ≠ y → Ord ps L x y
  onto : ∀ v, v < ps.length → ∃ (x : Nat) (l : Lab), L[x]? = some l ∧ l.pre = v
theorem root_of {ps : List Int} (hf : Forest ps) {x : Nat} (hx : x < ps.length) : TL ps (kidsOf ps (-1)) x := by
  obtain ⟨d, hd, h1, h2⟩ := hasD_ex hf (x := (x : Int)) (by omega) (by omega)
  have hr := up_range hf.rng (by omega) (by omega : (x : Int) < ps.length) d
  have hr2 := up_range hf.rng (by omega) (by omega : (x : Int) < ps.length) (d + 1)
  rw [up_out, stp_nn h1] at h2 hr2
  exact ⟨(up ps d (x : Int)).toNat, mem_kids.2 ⟨by omega, by rw [Int.toNat_of_nonneg h1]; omega⟩, d, (Int.toNat_of_nonneg h1).symm⟩
/-- The numbering of a forest ends with its labels. -/
theorem num_res {ps : List Int} (hf : Forest ps) (k : Nat) (hk : ps.length ≤ k) : ∃ t, visL ps k (kidsOf ps (-1)) 0 ⟨List.replicate ps.length ⟨0, 0, 0⟩, 0, 0⟩ = some t ∧ t.pre = ps.length ∧ t.post = ps.length ∧ LabOf ps t.L := by
  obtain ⟨t, ht, hr⟩ := visL_res hf k hk (kidsOf ps (-1)) (kidsOf_nodup _ _) (fun c h => h) ⟨List.replicate ps.length ⟨0, 0, 0⟩, 0, 0⟩ (by rw [List.length_replicate])
  have hlen : t.L.length = ps.length := by rw [hr.len, List.length_replicate]
  have hin : ∀ x, x < ps.length → ∃ l, t.L[x]? = some l ∧ l.pre < t.pre ∧ l.post < t.post ∧ DpL ps (kidsOf ps (-1)) 0 x l.dep := fun x hx => by
    obtain ⟨l, a, _, b, _, c, e⟩ := hr.ins x hx (root_of hf hx)
    exact ⟨l, a, b, c, e⟩
  have hup := hr.up
  have hpp : t.pre = t.post := by have := hup.2.2.2; simp only at this; omega
  have h1 : ps.length ≤ t.pre := by
    refine inj_le ps.length t.pre (fun x => ((t.L[x]?).getD ⟨0, 0, 0⟩).pre) (fun x hx => ?_) (fun x y hx hy e => ?_)
    · obtain ⟨l, a, b, _⟩ := hin x hx
      show ((t.L[x]?).getD ⟨0, 0, 0⟩).pre < t.pre
      rw [a]; exact b
    · by_cases hxy : x = y
      · exact hxy
      · exfalso
        obtain ⟨lx, ly, a, b, c⟩ := hr.ord x y hx hy (root_of hf hx) (root_of hf hy) hxy
        have e' : ((t.L[x]?).getD ⟨0, 0, 0⟩).pre = ((t.L[y]?).getD ⟨0, 0, 0⟩).pre := e
        rw [a, b] at e'
        have e2 : lx.pre = ly.pre := e'
        omega
  have h2 : t.pre ≤ ps.length := by
    have hex : ∀ v, ∃ x, v < t.pre → x < ps.length ∧ ∃ l, t.L[x]? = some l ∧ l.pre = v := fun v => by
      by_cases hv : v < t.pre
      · obtain ⟨x, a, _, l, b, c⟩ := hr.onto v (Nat.zero_le _) hv
        exact ⟨x, fun _ => ⟨a, l, b, c⟩⟩
      · exact ⟨0, fun h => absurd h hv⟩
    refine inj_le t.pre ps.length (fun v => Classical.choose (hex v)) (fun v hv => (Classical.choose_spec (hex v) hv).1) (fun v w hv hw e => ?_)
    obtain ⟨_, l, a, b⟩ := Classical.choose_spec (hex v) hv
    obtain ⟨_, l', a', b'⟩ := Classical.choose_spec (hex w) hw
    have e' : Classical.choose (hex v) = Classical.choose (hex w) := e
    rw [e'] at a
    rw [a] at a'
    have : l = l' := Option.some.inj a'
    rw [← b, ← b', this]
  have h3 : t.pre = ps.length := by omega
  refine ⟨t, ht, h3, by omega, hlen, fun x l hl => ?_, fun x l hl => ?_, fun x y hx hy hne => hr.ord x y hx hy (root_of hf hx) (root_of hf hy) hne, fun v hv => ?_⟩
  · have hx : x < ps.length := by have := (List.getElem?_eq_some_iff.1 hl).1; omega
    obtain ⟨l', a, _, _, c, hc, m, hm, e⟩ := hin x hx
    rw [hl] at a
    obtain rfl := Option.some.inj a
    have hck := mem_kids.1 hc
    rw [Nat.zero_add] at e
    rw [e]
    exact ⟨by rw [hm]; omega, by rw [up_out, hm, stp_nn (by omega), hck.2]; omega⟩
  · have hx : x < ps.length := by have := (List.getElem?_eq_some_iff.1 hl).1; omega
    obtain ⟨l', a, b, c, _⟩ := hin x hx
    rw [hl] at a
    obtain rfl := Option.some.inj a
    omega
  · obtain ⟨x, _, _, l, b, c⟩ := hr.onto v (Nat.zero_le _) (by omega)
    exact ⟨x, l, b, c⟩
end Go.Proofs.Ythjcmodhleoocaa.TP
/- Walk -/
namespace Go.Proofs.Ythjcmodhleoocaa.Q
open Go.RowKit Go.Proofs.YthjcmodhleoocaaW.PrintWords Go.Proofs.YthjcmodhleoocaaW.PrintLast Go.Proofs.YthjcmodhleoocaaW.PrintMore
open Go.Proofs.Ythjcmodhleoocaa.TP
theorem add_block (ad : Addr) (j : Nat) : (ad.add j).block = ad.block := by unfold Addr.add; split <;> rfl
set_option maxRecDepth 100000 in
set_option maxHeartbeats 4000000 in
theorem walk_calls {W0 : World} {g gl n cap cp : Nat} {Ap : Option Addr} {ps : List Int} (hn : ps.length = n) (hn' : n ≤ 1000000)
    (hps : 0 < n → ∃ ad, Ap = some ad ∧ ad.block ≠ g ∧ ad.block ≠ gl ∧ ∀ j, j < n → W0.cell? (ad.add j) = some (.int .i64 (ps.getD j 0))) (k : Nat) :
    ∀ (d : Nat) (p y : Int) (s t : NS) (W : World), y = d → visL ps k (kidsOf ps p) d s = some t → s.L.length = n → t.pre ≤ 1000000 → t.post ≤ 1000000 → d + k ≤ 1000000 →
    VS 61 43 (.slice Ap n cp) g gl n cap W0 W s →
    Calls Try.prog 34 #[.pointer (some ⟨g, 0, none⟩), .int .i64 p, .int .i64 y] W fun e w' => e = .returned (.tuple #[]) ∧ VS 61 43 (.slice Ap n cp) g gl n cap W0 w' t := by
  induction k using Nat.strongRecOn with
  | _ k ih =>
    intro d p y s t W hy h hL hp hq hd hV
    subst hy
    have HF := Aside0.mk h
    have HN := Aside0.mk hn
    have HPS := Aside0.mk hps
    have HIH := Aside0.mk ih
    have HLs := Aside0.mk hL
    have HV := Aside0.mk hV
    have c0 := hV.cell 0
    have hu61 := Try.underlying61
    have hu43 := Try.underlying43
    simp at c0
    clear h hn hps ih hL hV
    go_enter Try.func34, Try.ntmps34
    go_wp2
    go_loopg [13] n (fun kq v13 wr => ∃ (j : Nat) (sj : NS), v13 = .int .i64 (j : Int) ∧ j ≤ n ∧ Aside0 (kq + j = n) ∧ Aside0 (visL ps k (kidsFrom ps p j) d sj = some t) ∧ Aside0 (sj.L.length = n) ∧ Aside0 (VS 61 43 (.slice Ap n cp) g gl n cap W0 wr sj))
    case atStart => exact ⟨0, s, rfl, Nat.zero_le _, ⟨rfl⟩, HF, HLs, HV⟩
    case round =>
      clear HV c0
      obtain ⟨j, sj, rfl, hj, HK, HFj, HLj, HVj⟩ := hrel
      by_cases hlt : j < n
      · obtain ⟨ad, rfl, hag, hal, hac⟩ := HPS.out (by omega)
        have hcell : wr.cell? (ad.add j) = some (.int .i64 (ps.getD j 0)) := (HVj.out.far hag hal (add_block ad j)).trans (hac j hlt)
        clear hac
        by_cases hhit : ps.getD j 0 = p
        · have hfj := HFj.out
          rw [kidsFrom_hit ps p j (by rw [HN.out]; exact hlt) hhit, visL_cons] at hfj
          cases hv : vis (kd ps) k j d sj with
          | none => rw [hv] at hfj; cases hfj
          | some m =>
          rw [hv] at hfj
          obtain ⟨k', rfl⟩ : ∃ k', k = k' + 1 := by
            cases k with
            | zero => cases hv
            | succ k' => exact ⟨k', rfl⟩
          have hup := vis_up _ _ _ _ _ hv
          have hup' := visL_up _ _ _ hfj
          rw [vis_succ, if_pos (by rw [HLj.out]; exact hlt)] at hv
          cases hw : visL ps k' (kd ps j) (d + 1) (enter j d sj) with
          | none => rw [hw] at hv; cases hv
          | some m1 =>
          rw [hw] at hv
          obtain rfl := Option.some.inj hv
          have hup1 := visL_up _ _ _ hw
          have Hw := Aside0.mk hw
          have Hf := Aside0.mk hfj
          obtain ⟨p0, p1, p2, l0, l1, l2⟩ := HVj.out.lab j (by rw [HLj.out]; exact hlt)
          have m0 := HVj.out.labfree (j * 3)
          have m2 := HVj.out.labfree (j * 3 + 2)
          have c1 := HVj.out.cell 1
          have c2 := HVj.out.cell 2
          have f2 := HVj.out.free 2
          have hne := HVj.out.ne
          have HE := Aside0.mk (HVj.out.drew.enter j d)
          have HLe := Aside0.mk ((enter_len j d sj).trans HLj.out)
          have HLm := Aside0.mk (hup.1.trans HLj.out)
          have HLm1 := Aside0.mk ((hup1.1.trans (enter_len j d sj)).trans HLj.out)
          have b1 : sj.pre ≤ 1000000 := by have := hup.2.1; have := hup'.2.1; omega
          have b2 : m1.pre ≤ 1000000 := by have := hup'.2.1; simp only [leave] at this; omega
          have b3 : m1.post + 1 ≤ 1000000 := by have := hup'.2.2.1; simp only [leave] at this; omega
          have HHit := Aside0.mk hhit
          rw [hhit] at hcell
          simp at c1 c2
          clear hv hw hfj hup hup' hup1 hhit HFj
          go_wp2
          go_region
          go_wp2_with (go_at_call 34; refine (HIH.out k' (by omega) (d + 1) _ _ _ m1 _ (by omega) Hw.out HLe.out b2 (by omega) (by omega) HE.out).mono ?_; rintro e w1 ⟨rfl, hV1⟩; have HV1 := Aside0.mk hV1; clear hV1)
          clear c1 c2 f2 m0 m2 l0 l1 l2 hcell
          obtain ⟨q0, q1, q2, l0, l1, l2⟩ := HV1.out.lab j (by rw [HLm1.out]; exact hlt)
          have m1' := HV1.out.labfree (j * 3 + 1)
          have c1 := HV1.out.cell 1
          have c3 := HV1.out.cell 3
          have f3 := HV1.out.free 3
          have HE2 := Aside0.mk (HV1.out.drew.leave j)
          simp at c1 c3
          clear HE HV1
          go_region
          go_wp2
          go_roundg (n - (j + 1))
          case measure => have := HK.out; omega
          case rel => exact ⟨j + 1, leave j m1, by go_num, by omega, ⟨by omega⟩, Hf, HLm, HE2⟩
        · have hfj := HFj.out
          rw [kidsFrom_miss ps p j (by rw [HN.out]; exact hlt) hhit] at hfj
          have Hf := Aside0.mk hfj
          obtain ⟨q, hq'⟩ : ∃ q, ps.getD j 0 = q := ⟨_, rfl⟩
          rw [hq'] at hcell hhit
          have htest : (q != p) = true := by rw [bne_iff_ne]; exact hhit
          clear hq' hhit hfj HFj
          go_wp2
          go_roundg (n - (j + 1))
          case measure => have := HK.out; omega
          case rel => exact ⟨j + 1, sj, by go_num, by omega, ⟨by omega⟩, Hf, HLj, HVj⟩
      · have hfe := HFj.out
        rw [kidsFrom_end ps p j (by rw [HN.out]; omega), visL_nil] at hfe
        obtain rfl := Option.some.inj hfe
        clear HFj hfe
        go_wp2
        go_end0
        exact ⟨rfl, HVj.out⟩
end Go.Proofs.Ythjcmodhleoocaa.Q
/- WalkNew -/
namespace Go.Proofs.Ythjcmodhleoocaa.Q
open Go.RowKit Go.Proofs.YthjcmodhleoocaaW.PrintWords Go.Proofs.YthjcmodhleoocaaW.PrintLast Go.Proofs.YthjcmodhleoocaaW.PrintMore
open Go.Proofs.Ythjcmodhleoocaa.TP

/-- The labels of a list of parents: the numbering from the roots, where it stays small. -/
def numL (k : Nat) (ps : List Int) : Option (List Lab) :=
  if ps.length ≤ 1000000 then
    match visL ps (lim k) (kidsOf ps (-1)) 0 (blank ps.length) with
    | some t => if t.pre ≤ 1000000 ∧ t.post ≤ 1000000 then some t.L else none
    | none => none
  else none
theorem numL_some {k : Nat} {ps : List Int} {L : List Lab} (h : numL k ps = some L) : ps.length ≤ 1000000 ∧ ∃ t, visL ps (lim k) (kidsOf ps (-1)) 0 (blank ps.length) = some t ∧ t.pre ≤ 1000000 ∧ t.post ≤ 1000000 ∧ t.L = L := by
  unfold numL at h
  split at h
  case isFalse => cases h
  case isTrue hc =>
  cases hv : visL ps (lim k) (kidsOf ps (-1)) 0 (blank ps.length) with
  | none => rw [hv] at h; cases h
  | some t =>
    rw [hv] at h
    simp only at h
    split at h
    case isFalse => cases h
    case isTrue hp =>
    exact ⟨hc, t, rfl, hp.1, hp.2, Option.some.inj h⟩

theorem numL_of {k : Nat} {ps : List Int} {t : NS} (h1 : ps.length ≤ 1000000) (h : visL ps (lim k) (kidsOf ps (-1)) 0 (blank ps.length) = some t) (hp : t.pre ≤ 1000000) (hq : t.post ≤ 1000000) : numL k ps = some t.L := by
  unfold numL
  rw [if_pos h1, h]
  simp only
  rw [if_pos ⟨hp, hq⟩]
theorem numL_mono (k : Nat) (ps : List Int) : LeO (numL k ps) (numL (k + 1) ps) := by
  intro L h
  obtain ⟨h1, t, hv, hp, hq, rfl⟩ := numL_some h
  exact numL_of h1 (visL_lim hv) hp hq
/-- What the reference hands back. -/
def num43 (k : Nat) (ps : List Int) : Option (List S43 × Int × Int) := (numL k ps).bind fun L => some (L.map lab43, 0, 0)
theorem num43_mono (k : Nat) (ps : List Int) : LeO (num43 k ps) (num43 (k + 1) ps) := LeO.bind (numL_mono k ps) (fun _ => LeO.refl _)
set_option maxRecDepth 100000 in
set_option maxHeartbeats 1000000 in
theorem walk_none {g c : Nat} {A : Option Addr} (W : World) (h : W.cell? ⟨g, 0, none⟩ = some (.slice A 0 c)) :
    Calls Try.prog 34 #[.pointer (some ⟨g, 0, none⟩), .int .i64 (-1), .int .i64 0] W fun e w' => e = .returned (.tuple #[]) ∧ W = w' := by
  have hu61 := Try.underlying61
  go_enter Try.func34, Try.ntmps34
  go_wp2
  go_loop [13] (fun v => v = .int .i64 0) (fun _ => 0)
  case atStart => exact rfl
  case round =>
    subst hrel
    go_wp2
    go_end0
    exact ⟨rfl, rfl⟩

theorem walk_new {w W : World} {A0 A : Option Addr} {c0 c g k : Nat} {l0 : List Int} {y : List S43} {L : List Lab} (hr0 : Kd.C (Kd.int .i64) w A0 l0.length l0) (hbase : w.heap.size ≤ g)
    (hst : W.heap[g]? = some (.cells #[.slice A0 l0.length c0, .slice A y.length c, .int .i64 0, .int .i64 0] 61 (0, 0)))
    (hR : Kd.R k43 43 W w.heap.size (fun _ => True) (.slice A y.length c) y) (hy : y = List.replicate ((l0.length : Int) : Int).toNat z43) (hB : Below w.heap.size w W) (hnum : numL k l0 = some L) :
    Calls Try.prog 34 #[.pointer (some ⟨g, 0, none⟩), .int .i64 (-1), .int .i64 0] W fun e w' => e = .returned (.tuple #[]) ∧ Kd.R k43 43 w' w.heap.size (fun _ => True) (.slice A y.length c) (L.map lab43) ∧ w'.cell? ⟨g, 1, none⟩ = some (.slice A y.length c) ∧ Below w.heap.size w w' := by
  obtain ⟨hn, t, hv, hp, hq, rfl⟩ := numL_some hnum
  have hy' : y = List.replicate l0.length z43 := hy
  have hyl : y.length = l0.length := by rw [hy', List.length_replicate]
  rw [hyl] at hst hR ⊢
  rcases Nat.eq_zero_or_pos l0.length with h0 | hpos
  · rw [h0] at hst
    have hl0 : l0 = [] := List.eq_nil_of_length_eq_zero h0
    have hy0 : y = [] := by rw [hy', h0]; rfl
    refine (walk_none W ((blk_cell hst 0).trans rfl)).mono ?_
    rintro e w' ⟨rfl, rfl⟩
    have ht : t.L.map lab43 = y := by
      rw [hl0] at hv
      have : t = blank 0 := (Option.some.inj hv).symm
      rw [this, hy0]; rfl
    rw [ht]
    exact ⟨rfl, hR, by rw [h0]; exact (blk_cell hst 1).trans rfl, hB⟩
  · rw [hy'] at hR
    obtain ⟨gl, capl, hgl, _, _, _, _⟩ := Kd.R_form hR (by rw [List.length_replicate]; exact hpos)
    injection hgl with hg1 _ hg3
    subst hg1; subst hg3
    obtain ⟨curl, hcurl, hlc, hsz, hnc, hcm, hbl⟩ := cells43 hpos hR
    have hgne : g ≠ gl := blk_ne hst hcurl (by decide)
    have hV : VS 61 43 (.slice A0 l0.length c0) g gl l0.length c W W (blank l0.length) := ⟨rfl, rfl, rfl, rfl, fun _ _ _ => rfl, hst, ⟨curl, hcurl, hlc, hsz⟩, hgne⟩
    have hup := visL_up _ _ _ hv
    refine (walk_calls rfl hn (fun _ => ?_) (lim k) 0 (-1) 0 (blank l0.length) t W rfl hv (by simp [blank]) hp hq (by have := lim_le k; omega) hV).mono ?_
    · obtain ⟨_, _, hc⟩ := hr0
      obtain ⟨ad, hA, hcells⟩ := hc hpos
      have hcell : ∀ j, j < l0.length → w.cell? (ad.add j) = some (.int .i64 (l0.getD j 0)) := by
        intro j hj
        obtain ⟨cs, _, hK, hcs⟩ := hcells j l0[j] (List.getElem?_eq_getElem hj)
        have hK' : cs = [Value.int .i64 l0[j]] := hK
        have := hcs 0 (.int .i64 l0[j]) (by rw [hK']; rfl)
        have e1 : (Kd.int .i64).sz = 1 := rfl
        rw [e1, Nat.mul_one, Nat.add_zero] at this
        rw [this, List.getD_eq_getElem?_getD, List.getElem?_eq_getElem hj]; rfl
      have hlt : ad.block < w.heap.size := by have := World.block_lt_of_cell? w _ (hcell 0 hpos); rwa [add_block] at this
      exact ⟨ad, hA, by omega, by omega, fun j hj => (hB.cell (World.block_lt_of_cell? w _ (hcell j hj))).trans (hcell j hj)⟩
    · rintro e w' ⟨rfl, hV'⟩
      refine ⟨rfl, hV'.result43 w.heap.size hbl (by rw [hup.1]; simp [blank]) hnc hcm, (hV'.cell 1).trans rfl, ⟨hV'.os.trans hB.os, hV'.tape.trans hB.tape, hV'.output.trans hB.output, by rw [hV'.size]; exact hB.size, fun j hj => (hV'.keep j (by omega) (by omega)).trans (hB.block j hj)⟩⟩
end Go.Proofs.Ythjcmodhleoocaa.Q
/- EvAid -/
namespace Go.Proofs.Ythjcmodhleoocaa.Q
open Go.RowKit Go.Proofs.YthjcmodhleoocaaW.PrintWords Go.Proofs.YthjcmodhleoocaaW.PrintLast

theorem ev_pos {α : Type} {c : Prop} [Decidable c] {f g : Nat → Option α} {r : α} (h : c) (e : Ev f r) : Ev (fun k => if c then f k else g k) r := Ev.congr (fun _ => if_pos h) e
theorem ev_neg {α : Type} {c : Prop} [Decidable c] {f g : Nat → Option α} {r : α} (h : ¬ c) (e : Ev g r) : Ev (fun k => if c then f k else g k) r := Ev.congr (fun _ => if_neg h) e
theorem ev_some {α β : Type} {a : α} {f : Nat → α → Option β} {r : β} (e : Ev (fun k => f k a) r) : Ev (fun k => (some a).bind (f k)) r := e
theorem ev_now {α : Type} {r r' : α} (h : r = r') : Ev (fun _ => some r) r' := by subst h; exact Ev.now r
theorem ev_eq {α : Type} {f : Nat → Option α} {r r' : α} (e : Ev f r) (h : r = r') : Ev f r' := h ▸ e
theorem wrap_up (i : Nat) (h : i ≤ 4611686018427387904) : wrap64 ((i : Int) + 1) = ((i + 1 : Nat) : Int) := by
  unfold wrap64; omega
theorem wrap_in (x : Int) (h0 : -4611686018427387904 ≤ x) (h : x ≤ 4611686018427387904) : wrap64 x = x := by
  unfold wrap64; omega
theorem rd_rdi (ps : List Int) (x : Int) : rd ps x = TP.rdi ps x := rfl
theorem rd_set_same {xs : List Int} {i v : Int} (h0 : 0 ≤ i) (h : i < xs.length) : rd (xs.set i.toNat v) i = v := by
  unfold rd
  rw [List.getD_eq_getElem?_getD, List.getElem?_set_self (by omega)]; rfl
theorem rd_set_ne {xs : List Int} {i j v : Int} (h0 : 0 ≤ i) (hj : 0 ≤ j) (h : i ≠ j) : rd (xs.set i.toNat v) j = rd xs j := by
  unfold rd
  rw [List.getD_eq_getElem?_getD, List.getElem?_set_ne (by omega), ← List.getD_eq_getElem?_getD]
theorem rd_replicate {n : Nat} {i v : Int} (h0 : 0 ≤ i) (h : i < n) : rd (List.replicate n v) i = v := by
  unfold rd
  rw [List.getD_eq_getElem?_getD, List.getElem?_replicate, if_pos (by omega)]; rfl
end Go.Proofs.Ythjcmodhleoocaa.Q
/- CheckLaw -/
namespace Go.Proofs.Ythjcmodhleoocaa.Q
open Go.RowKit Go.Proofs.YthjcmodhleoocaaW.PrintWords Go.Proofs.YthjcmodhleoocaaW.PrintLast
open Go.Proofs.Ythjcmodhleoocaa.TP

/-- The answer of a check of parents: (index, error). -/
def ChkR (ps : List Int) (r : Int × Int) : Prop :=
  (4096 < ps.length ∧ r = (0, 2)) ∨
  (ps.length ≤ 4096 ∧ ∃ i : Nat, i < ps.length ∧ (rdi ps i < -1 ∨ (ps.length : Int) ≤ rdi ps i) ∧ (∀ j : Nat, j < i → -1 ≤ rdi ps j ∧ rdi ps j < ps.length) ∧ r = ((i : Int), 8)) ∨
  (ps.length ≤ 4096 ∧ InR ps ∧ ∃ i : Int, i < ps.length ∧ Cyc ps i ∧ (∀ j : Int, j < ps.length → Cyc ps j → i ≤ j) ∧ r = (i, 12)) ∨
  (ps.length ≤ 4096 ∧ InR ps ∧ (∀ j : Int, 0 ≤ j → j < ps.length → ¬ Cyc ps j) ∧ r = (0, 0))
theorem ChkR.uniq {ps : List Int} {r r' : Int × Int} (h : ChkR ps r) (h' : ChkR ps r') : r = r' := by
  rcases h with ⟨a, rfl⟩ | ⟨a, i, hi, hb, hl, rfl⟩ | ⟨a, hr, i, hi, hc, hl, rfl⟩ | ⟨a, hr, hn, rfl⟩ <;> rcases h' with ⟨a', rfl⟩ | ⟨a', i', hi', hb', hl', rfl⟩ | ⟨a', hr', i', hi', hc', hl', rfl⟩ | ⟨a', hr', hn', rfl⟩
  · rfl
  · omega
  · omega
  · omega
  · omega
  · have h1 : ¬ i < i' := fun h => by have := hl' i h; omega
    have h2 : ¬ i' < i := fun h => by have := hl i' h; omega
    have : i = i' := by omega
    rw [this]
  · have := hr' i (by omega) (by omega); omega
  · have := hr' i (by omega) (by omega); omega
  · omega
  · have := hr i' (by omega) (by omega); omega
  · have h1 := hl i' hi' hc'
    have h2 := hl' i hi hc
    have : i = i' := by omega
    rw [this]
  · exact absurd hc (hn' i hc.1 hi)
  · omega
  · have := hr i' (by omega) (by omega); omega
  · exact absurd hc' (hn i' hc'.1 hi')
  · rfl
theorem inR_of {ps : List Int} (h : ∀ j : Nat, j < ps.length → -1 ≤ rdi ps j ∧ rdi ps j < ps.length) : InR ps := by
  intro x hx hx'
  have := h x.toNat (by omega)
  rwa [Int.toNat_of_nonneg hx] at this

/-- What is known between two walks: every visited node's way up is visited, and the least node on a cycle so far. -/
structure Seen (ps : List Int) (i : Nat) (seen : List Int) (least : Int) : Prop where
  len : seen.length = ps.length
  num : ∀ v : Int, 0 ≤ v → v < ps.length → 0 ≤ rd seen v ∧ rd seen v ≤ i
  closed : ∀ v : Int, 0 ≤ v → v < ps.length → rd seen v ≠ 0 → stp ps v < 0 ∨ rd seen (stp ps v) ≠ 0
  all : ∀ v : Int, 0 ≤ v → v < i → rd seen v ≠ 0
  least : (least = -1 ∧ ∀ v : Int, 0 ≤ v → v < ps.length → rd seen v ≠ 0 → ¬ Cyc ps v) ∨
    (0 ≤ least ∧ least < ps.length ∧ Cyc ps least ∧ ∀ v : Int, 0 ≤ v → v < ps.length → rd seen v ≠ 0 → Cyc ps v → least ≤ v)
theorem Seen.up {ps : List Int} {i : Nat} {seen : List Int} {least : Int} (h : Seen ps i seen least) (hr : InR ps) {v : Int} (hv : 0 ≤ v) (hv' : v < ps.length) (hs : rd seen v ≠ 0) (m : Nat) (hm : 0 ≤ TP.up ps m v) : rd seen (TP.up ps m v) ≠ 0 := by
  induction m with
  | zero => exact hs
  | succ m ih =>
    have h0 : 0 ≤ TP.up ps m v := up_nn_of (Nat.le_succ m) hm
    have h1 := ih h0
    rcases h.closed _ h0 (up_range hr (by omega) hv' m).2 h1 with h2 | h2
    · rw [up_out] at hm; omega
    · rw [up_out]; exact h2

/-- A walk from i has come t steps; seen0: what was seen before it. -/
structure Walk (ps : List Int) (i : Nat) (seen0 seen : List Int) (t : Nat) : Prop where
  len : seen.length = ps.length
  new : ∀ s, s < t → 0 ≤ TP.up ps s i ∧ rd seen0 (TP.up ps s i) = 0 ∧ rd seen (TP.up ps s i) = (i : Int) + 1
  old : ∀ v : Int, 0 ≤ v → v < ps.length → (∀ s, s < t → TP.up ps s i ≠ v) → rd seen v = rd seen0 v
  inj : ∀ s s', s < t → s' < s → TP.up ps s' i ≠ TP.up ps s i

theorem Walk.cases {ps : List Int} {i : Nat} {seen0 seen : List Int} {t : Nat} (h : Walk ps i seen0 seen t) {v : Int} (hv : 0 ≤ v) (hv' : v < ps.length) : (∃ s, s < t ∧ TP.up ps s i = v) ∨ rd seen v = rd seen0 v := by
  by_cases e : ∃ s, s < t ∧ TP.up ps s i = v
  · exact .inl e
  · exact .inr (h.old v hv hv' (fun s hs he => e ⟨s, hs, he⟩))
theorem Walk.start {ps : List Int} {i : Nat} {seen0 : List Int} (h : seen0.length = ps.length) : Walk ps i seen0 seen0 0 :=
  ⟨h, fun _ hs => absurd hs (Nat.not_lt_zero _), fun _ _ _ _ => rfl, fun _ _ hs => absurd hs (Nat.not_lt_zero _)⟩
theorem Walk.next {ps : List Int} {i : Nat} {seen0 seen : List Int} {t : Nat} (hr : InR ps) (hi : i < ps.length) (h : Walk ps i seen0 seen t) (h0 : 0 ≤ TP.up ps t i) (hz : rd seen (TP.up ps t i) = 0) :
    Walk ps i seen0 (seen.set (TP.up ps t i).toNat ((i : Int) + 1)) (t + 1) := by
  have hlt : TP.up ps t i < ps.length := (up_range hr (by omega) (by omega) t).2
  have hnew : ∀ s, s < t → TP.up ps s i ≠ TP.up ps t i := fun s hs e => by
    have := (h.new s hs).2.2
    rw [e, hz] at this
    omega
  refine ⟨by rw [List.length_set]; exact h.len, fun s hs => ?_, fun v hv hv' hne => ?_, fun s s' hs hs' => ?_⟩
  · rcases Nat.lt_or_ge s t with h1 | h1
    · have h2 := h.new s h1
      exact ⟨h2.1, h2.2.1, by rw [rd_set_ne h0 h2.1 (hnew s h1).symm]; exact h2.2.2⟩
    · obtain rfl : s = t := by omega
      refine ⟨h0, ?_, rd_set_same h0 (by rw [h.len]; exact hlt)⟩
      rw [← h.old _ h0 hlt hnew]; exact hz
  · rw [rd_set_ne h0 hv (hne t (by omega))]
    exact h.old v hv hv' (fun s hs => hne s (by omega))
  · rcases Nat.lt_or_ge s t with h1 | h1
    · exact h.inj s s' h1 hs'
    · obtain rfl : s = t := by omega
      exact hnew s' hs'
/-- A walk comes no further than there are nodes. -/
theorem Walk.short {ps : List Int} {i : Nat} {seen0 seen : List Int} {t : Nat} (hr : InR ps) (hi : i < ps.length) (h : Walk ps i seen0 seen t) : t ≤ ps.length := by
  refine inj_le t ps.length (fun s => (TP.up ps s i).toNat) (fun s hs => ?_) (fun a b ha hb e => ?_)
  · exact natAbs_lt (h.new s hs).1 (up_range hr (by omega) (by omega) s).2
  · have h1 := (h.new a ha).1
    have h2 := (h.new b hb).1
    have e' : TP.up ps a i = TP.up ps b i := by
      have e2 : (TP.up ps a i).toNat = (TP.up ps b i).toNat := e
      omega
    rcases Nat.lt_trichotomy a b with h3 | h3 | h3
    · exact absurd e' (h.inj b a hb h3)
    · exact h3
    · exact absurd e'.symm (h.inj a b ha h3)
/-- The walk has ended: what is seen now is closed, and node i is seen. -/
theorem Walk.closes {ps : List Int} {i : Nat} {seen0 seen : List Int} {t : Nat} {least : Int} (hr : InR ps) (hi : i < ps.length) (hs : Seen ps i seen0 least) (h : Walk ps i seen0 seen t) (hend : TP.up ps t i < 0 ∨ rd seen (TP.up ps t i) ≠ 0) :
    (∀ v : Int, 0 ≤ v → v < ps.length → 0 ≤ rd seen v ∧ rd seen v ≤ (i + 1 : Nat)) ∧ (∀ v : Int, 0 ≤ v → v < ps.length → rd seen v ≠ 0 → stp ps v < 0 ∨ rd seen (stp ps v) ≠ 0) ∧ (∀ v : Int, 0 ≤ v → v < (i + 1 : Nat) → rd seen v ≠ 0) := by
  have hold : ∀ v : Int, 0 ≤ v → v < ps.length → rd seen0 v ≠ 0 → rd seen v ≠ 0 := fun v hv hv' hn => by
    rcases h.cases hv hv' with ⟨s, hs1, e⟩ | e
    · have h2 := h.new s hs1
      rw [e] at h2; omega
    · rw [e]; exact hn
  refine ⟨fun v hv hv' => ?_, fun v hv hv' hn => ?_, fun v hv hv' => ?_⟩
  · rcases h.cases hv hv' with ⟨s, hs1, e⟩ | e
    · have h2 := h.new s hs1
      rw [e] at h2; omega
    · have := hs.num v hv hv'
      rw [e]; omega
  · rcases h.cases hv hv' with ⟨s, hs1, e⟩ | e
    · subst e
      rw [← up_out]
      rcases Nat.lt_or_ge (s + 1) t with h1 | h1
      · right; have := (h.new _ h1).2.2; omega
      · obtain rfl : s + 1 = t := by omega
        exact hend
    · rw [e] at hn
      rcases hs.closed v hv hv' hn with h1 | h1
      · exact .inl h1
      · have h2 : 0 ≤ stp ps v ∨ stp ps v < 0 := by omega
        rcases h2 with h2 | h2
        · right
          refine hold _ h2 ?_ h1
          rw [stp_nn hv]; exact (hr v hv hv').2
        · exact .inl h2
  · rcases Int.lt_or_le v i with h1 | h1
    · exact hold v hv (by omega) (hs.all v hv h1)
    · obtain rfl : v = i := by omega
      rcases Nat.eq_zero_or_pos t with h2 | h2
      · subst h2
        rcases hend with h3 | h3
        · simp only [TP.up] at h3; omega
        · exact h3
      · have := (h.new 0 h2).2.2
        simp only [TP.up] at this
        omega

/-- The walk ended outside, or at what was seen before: it met no cycle. -/
theorem Walk.plain {ps : List Int} {i : Nat} {seen0 seen : List Int} {t : Nat} {least : Int} (hr : InR ps) (hi : i < ps.length) (hs : Seen ps i seen0 least) (h : Walk ps i seen0 seen t)
    (hend : TP.up ps t i < 0 ∨ rd seen0 (TP.up ps t i) ≠ 0) : ∀ s, s < t → ¬ Cyc ps (TP.up ps s i) := by
  intro s hst hc
  have hcr : ∀ m, 0 ≤ TP.up ps (m + s) i := fun m => by rw [up_add]; exact cyc_up_nn hc m
  have ht0 : 0 ≤ TP.up ps t i := by have := hcr (t - s); rwa [Nat.sub_add_cancel (by omega)] at this
  rcases hend with h1 | h1
  · omega
  · obtain ⟨j, hj⟩ := cyc_back hc (t - s)
    rw [← up_add ps (t - s) s, Nat.sub_add_cancel (by omega)] at hj
    have h2 := hs.up hr ht0 (up_range hr (by omega) (by omega) t).2 h1 j (by rw [hj]; exact hc.1)
    rw [hj] at h2
    exact h2 (h.new s hst).2.1
theorem Walk.seen_plain {ps : List Int} {i : Nat} {seen0 seen : List Int} {t : Nat} {least : Int} (hr : InR ps) (hi : i < ps.length) (hs : Seen ps i seen0 least) (h : Walk ps i seen0 seen t)
    (hend : TP.up ps t i < 0 ∨ rd seen0 (TP.up ps t i) ≠ 0) : Seen ps (i + 1) seen least := by
  have hend' : TP.up ps t i < 0 ∨ rd seen (TP.up ps t i) ≠ 0 := by
    rcases hend with h1 | h1
    · exact .inl h1
    · rcases Int.lt_or_le (TP.up ps t i) 0 with h2 | h2
      · exact .inl h2
      · right
        rcases h.cases h2 (up_range hr (by omega) (by omega) t).2 with ⟨s, hs1, e⟩ | e
        · have := (h.new s hs1).2.2; rw [e] at this; omega
        · rw [e]; exact h1
  obtain ⟨h1, h2, h3⟩ := h.closes hr hi hs hend'
  refine ⟨h.len, h1, h2, h3, ?_⟩
  have hnc := h.plain hr hi hs hend
  rcases hs.least with ⟨e, hl⟩ | ⟨h4, h5, h6, hl⟩
  · refine .inl ⟨e, fun v hv hv' hn => ?_⟩
    rcases h.cases hv hv' with ⟨s, hs1, e⟩ | e
    · rw [← e]; exact hnc s hs1
    · rw [e] at hn; exact hl v hv hv' hn
  · refine .inr ⟨h4, h5, h6, fun v hv hv' hn hc => ?_⟩
    rcases h.cases hv hv' with ⟨s, hs1, e⟩ | e
    · rw [← e] at hc; exact absurd hc (hnc s hs1)
    · rw [e] at hn; exact hl v hv hv' hn hc
/-- The walk came back to a point of its own: the nodes on a cycle among the new ones are those that follow that point. -/
theorem Walk.ring {ps : List Int} {i : Nat} {seen0 seen : List Int} {t a : Nat} (h : Walk ps i seen0 seen t) (ha : a < t) (hback : TP.up ps t i = TP.up ps a i) :
    Cyc ps (TP.up ps a i) ∧ ∀ s, s < t → Cyc ps (TP.up ps s i) → ∃ m, m < t - a ∧ TP.up ps m (TP.up ps a i) = TP.up ps s i := by
  have hper : TP.up ps (t - a) (TP.up ps a i) = TP.up ps a i := by rw [← up_add, Nat.sub_add_cancel (by omega)]; exact hback
  refine ⟨⟨(h.new a ha).1, t - a, by omega, hper⟩, fun s hs hc => ?_⟩
  rcases Nat.lt_or_ge s a with h1 | h1
  · exfalso
    -- the cycle of up s i passes through up a i, whose ring stays within the later points
    obtain ⟨j, hj⟩ := cyc_back hc (a - s)
    rw [← up_add ps (a - s) s, Nat.sub_add_cancel (by omega)] at hj
    have hmod : TP.up ps j (TP.up ps a i) = TP.up ps (j % (t - a)) (TP.up ps a i) := by
      have e : j = j % (t - a) + (j / (t - a)) * (t - a) := by have := Nat.mod_add_div j (t - a); rw [Nat.mul_comm] at this; omega
      rw [e, up_add, cyc_mul hper]
      congr 1
      rw [Nat.add_mul_mod_self_right, Nat.mod_mod]
    have hlt : j % (t - a) < t - a := Nat.mod_lt _ (by omega)
    rw [hmod, ← up_add] at hj
    exact h.inj (j % (t - a) + a) s (by omega) (by omega) hj.symm
  · exact ⟨s - a, by omega, by rw [← up_add, Nat.sub_add_cancel h1]⟩
theorem Walk.seen_ring {ps : List Int} {i : Nat} {seen0 seen : List Int} {t a : Nat} {least least' : Int} (hr : InR ps) (hi : i < ps.length) (hs : Seen ps i seen0 least) (h : Walk ps i seen0 seen t) (ha : a < t) (hback : TP.up ps t i = TP.up ps a i)
    (hle : ∃ p, 0 < p ∧ TP.up ps p (TP.up ps a i) = TP.up ps a i ∧ (∀ m, m < p → least' ≤ TP.up ps m (TP.up ps a i)) ∧ (least = -1 ∨ least' ≤ least) ∧ ((least' = least ∧ least ≠ -1) ∨ ∃ m, least' = TP.up ps m (TP.up ps a i))) : Seen ps (i + 1) seen least' := by
  obtain ⟨hc, hring⟩ := h.ring ha hback
  obtain ⟨p, hp, hper, hall, hmin, hfrom⟩ := hle
  have ha0 := h.new a ha
  have hend' : TP.up ps t i < 0 ∨ rd seen (TP.up ps t i) ≠ 0 := .inr (by rw [hback, ha0.2.2]; omega)
  obtain ⟨h1, h2, h3⟩ := h.closes hr hi hs hend'
  have hax : TP.up ps a i < ps.length := (up_range hr (by omega) (by omega) a).2
  have hall' : ∀ m, least' ≤ TP.up ps m (TP.up ps a i) := fun m => by
    have e : m = m % p + (m / p) * p := by have := Nat.mod_add_div m p; rw [Nat.mul_comm] at this; omega
    rw [e, up_add, cyc_mul hper]
    have : m % p + m / p * p = m := e.symm
    refine hall (m % p) (Nat.mod_lt _ hp)
  have hnew : ∀ v : Int, 0 ≤ v → v < ps.length → rd seen v ≠ 0 → Cyc ps v → least' ≤ v := fun v hv hv' hn hcv => by
    rcases h.cases hv hv' with ⟨s, hs1, e⟩ | e
    · rw [← e] at hcv ⊢
      obtain ⟨m, _, hm⟩ := hring s hs1 hcv
      rw [← hm]; exact hall' m
    · rw [e] at hn
      rcases hs.least with ⟨e1, hl⟩ | ⟨h4, h5, h6, hl⟩
      · exact absurd hcv (hl v hv hv' hn)
      · have := hl v hv hv' hn hcv
        rcases hmin with h7 | h7 <;> omega
  refine ⟨h.len, h1, h2, h3, .inr ?_⟩
  rcases hfrom with ⟨e, hne⟩ | ⟨m, e⟩
  · subst e
    rcases hs.least with ⟨e1, _⟩ | ⟨h4, h5, h6, _⟩
    · exact absurd e1 hne
    · exact ⟨h4, h5, h6, hnew⟩
  · subst e
    exact ⟨cyc_up_nn hc m, (up_range hr (by omega) hax m).2, cyc_up hc m, hnew⟩

/-- The shortest way round. -/
theorem least_period {ps : List Int} {x : Int} (h : Cyc ps x) : ∃ p, 0 < p ∧ TP.up ps p x = x ∧ ∀ m, 0 < m → m < p → TP.up ps m x ≠ x := by
  obtain ⟨_, m, hm, e⟩ := h
  have key : ∀ m, 0 < m → TP.up ps m x = x → ∃ p, 0 < p ∧ TP.up ps p x = x ∧ ∀ j, 0 < j → j < p → TP.up ps j x ≠ x := by
    intro m
    induction m using Nat.strongRecOn with
    | _ m ih =>
      intro hm e
      by_cases hx : ∃ j, 0 < j ∧ j < m ∧ TP.up ps j x = x
      · obtain ⟨j, h1, h2, h3⟩ := hx
        exact ih j h2 h1 h3
      · exact ⟨m, hm, e, fun j h1 h2 h3 => hx ⟨j, h1, h2, h3⟩⟩
  exact key m hm e
end Go.Proofs.Ythjcmodhleoocaa.Q
/- NumEv -/
namespace Go.Proofs.Ythjcmodhleoocaa.Q
open Go.RowKit Go.Proofs.YthjcmodhleoocaaW.PrintWords Go.Proofs.YthjcmodhleoocaaW.PrintLast
open Go.Proofs.Ythjcmodhleoocaa.TP
theorem ev_uniq {α : Type} {g : Nat → Option α} {r r' : α} (h : Ev g r) (h' : Ev g r') : r = r' := by
  obtain ⟨K, hK⟩ := h
  obtain ⟨K', hK'⟩ := h'
  have h1 := hK (max K K') (Nat.le_max_left _ _)
  have h2 := hK' (max K K') (Nat.le_max_right _ _)
  rw [h1] at h2
  exact Option.some.inj h2
/-- The labels: with enough levels. -/
def HasNum (ps : List Int) (L : List Lab) : Prop := Ev (fun k => numL k ps) L
theorem HasNum.uniq {ps : List Int} {L L' : List Lab} (h : HasNum ps L) (h' : HasNum ps L') : L = L' := ev_uniq h h'
theorem num_ev {ps : List Int} (hn : ps.length ≤ 4096) (hf : Forest ps) : ∃ t, visL ps (lim ps.length) (kidsOf ps (-1)) 0 (blank ps.length) = some t ∧ t.pre ≤ 1000000 ∧ t.post ≤ 1000000 ∧ LabOf ps t.L ∧ HasNum ps t.L := by
  obtain ⟨t, ht, hp, hq, hL⟩ := num_res hf ps.length (Nat.le_refl _)
  have hl : lim ps.length = ps.length := lim_of (by omega)
  have ht' : visL ps (lim ps.length) (kidsOf ps (-1)) 0 (blank ps.length) = some t := by rw [hl]; exact ht
  exact ⟨t, ht', by omega, by omega, hL, Ev.of (fun k => numL_mono k ps) (numL_of (by omega) ht' (by omega) (by omega))⟩
theorem HasNum.lab {ps : List Int} {L : List Lab} (hn : ps.length ≤ 4096) (hf : Forest ps) (h : HasNum ps L) : LabOf ps L := by
  obtain ⟨t, _, _, _, h1, h2⟩ := num_ev hn hf
  rw [h.uniq h2]; exact h1
/-- A check that says OK: a forest. -/
theorem ChkR.forest {ps : List Int} {r : Int × Int} (h : ChkR ps r) (h0 : r.2 = 0) : ps.length ≤ 4096 ∧ Forest ps ∧ r.1 = 0 := by
  rcases h with ⟨a, rfl⟩ | ⟨a, i, hi, hb, hl, rfl⟩ | ⟨a, hr, i, hi, hc, hl, rfl⟩ | ⟨a, hr, hn, rfl⟩
  · cases h0
  · cases h0
  · cases h0
  · exact ⟨a, ⟨hr, hn⟩, rfl⟩
theorem ChkR.of_forest {ps : List Int} {r : Int × Int} (h : ChkR ps r) (hn : ps.length ≤ 4096) (hf : Forest ps) : r = (0, 0) := h.uniq (.inr (.inr (.inr ⟨hn, hf.rng, hf.nc, rfl⟩)))
theorem ChkR.cases {ps : List Int} {r : Int × Int} (h : ChkR ps r) : (r.2 = 0 ∧ r.1 = 0 ∧ ps.length ≤ 4096 ∧ Forest ps) ∨ (r.2 ≠ 0 ∧ ¬ (ps.length ≤ 4096 ∧ Forest ps)) := by
  by_cases h0 : r.2 = 0
  · obtain ⟨a, b, c⟩ := h.forest h0
    exact .inl ⟨h0, c, a, b⟩
  · refine .inr ⟨h0, fun hx => h0 ?_⟩
    rw [h.of_forest hx.1 hx.2]
end Go.Proofs.Ythjcmodhleoocaa.Q
/- CheckEv -/
namespace Go.Proofs.Ythjcmodhleoocaa.Q
open Go.RowKit Go.Proofs.YthjcmodhleoocaaW.PrintWords Go.Proofs.YthjcmodhleoocaaW.PrintLast
open Go.Proofs.Ythjcmodhleoocaa.TP

section
variable {ps : List Int}
/-- The loop around a cycle. -/
theorem chk_ring (hn : ps.length ≤ 4096) (hr : InR ps) {i : Nat} (hi : i < ps.length) {at_ : Int} {seen : List Int} {least : Int} {p : Nat} (hl0 : -1 ≤ least) (hat : 0 ≤ at_) (hat' : at_ < ps.length) (hp : 0 < p) (hper : TP.up ps p at_ = at_) (hmin : ∀ m, 0 < m → m < p → TP.up ps m at_ ≠ at_) (hcy : ∀ m, 0 ≤ TP.up ps m at_)
    (next : ∀ least', -1 ≤ least' → (∀ m, m < p → least' ≤ TP.up ps m at_) → (least = -1 ∨ least' ≤ least) → ((least' = least ∧ least ≠ -1) ∨ ∃ m, least' = TP.up ps m at_) → ∃ r, ChkR ps r ∧ Ev (fun k => treelabel_check.l1 k ps seen least' (ps.length : Int) (wrap64 ((i : Int) + 1))) r) (d : Nat) :
    ∀ (m : Nat) (lm : Int), m + d = p → -1 ≤ lm → (∀ j, j < m → lm ≤ TP.up ps j at_) → (least = -1 ∨ lm ≤ least) → (lm = least ∨ ∃ j, lm = TP.up ps j at_) → (0 < m → 0 ≤ lm) →
      ∃ r, ChkR ps r ∧ Ev (fun k => treelabel_check.l3 k ps seen lm at_ (TP.up ps m at_) (decide (m = 0)) (ps.length : Int) (i : Int)) r := by
  induction d with
  | zero =>
    intro m lm hm h0 hall hle hfrom hpos
    obtain rfl : m = p := by omega
    obtain ⟨r, hc, he⟩ := next lm h0 hall hle (by
      rcases hfrom with e | e
      · by_cases hl : least = -1
        · have := hpos hp; omega
        · exact .inl ⟨e, hl⟩
      · exact .inr e)
    refine ⟨r, hc, ?_⟩
    rw [hper, decide_eq_false (by omega)]
    refine Ev.step (fun k => by rw [treelabel_check.l3]) ?_
    refine ev_neg (by decide) ?_
    rw [show (at_ != at_) = false from by simp]
    refine Ev.step (fun k => by rw [treelabel_check.j6]) ?_
    exact ev_neg (by decide) he
  | succ d ih =>
    intro m lm hm h0 hall hle hfrom hpos
    have hx := hcy m
    have hx' : TP.up ps m at_ < ps.length := (up_range hr (by omega) hat' m).2
    have hnext : rd ps (TP.up ps m at_) = TP.up ps (m + 1) at_ := by rw [up_out, stp_nn hx]; rfl
    have go : ∀ lm', -1 ≤ lm' → (∀ j, j < m + 1 → lm' ≤ TP.up ps j at_) → (least = -1 ∨ lm' ≤ least) → (lm' = least ∨ ∃ j, lm' = TP.up ps j at_) → 0 ≤ lm' →
        ∃ r, ChkR ps r ∧ Ev (fun k => treelabel_check.l3 k ps seen lm' at_ (rd ps (TP.up ps m at_)) false (ps.length : Int) (i : Int)) r := fun lm' a b c e f => by
      obtain ⟨r, hc, he⟩ := ih (m + 1) lm' (by omega) a b c e (fun _ => f)
      rw [decide_eq_false (by omega)] at he
      exact ⟨r, hc, by rw [hnext]; exact he⟩
    have body : ∃ r, ChkR ps r ∧ Ev (fun k => treelabel_check.j6 k ps seen lm at_ (TP.up ps m at_) (ps.length : Int) (i : Int) true) r := by
      by_cases hneg : lm < 0
      · have hlm : lm = -1 := by omega
        have hm0 : m = 0 := by
          rcases Nat.eq_zero_or_pos m with h | h
          · exact h
          · have := hpos h; omega
        have hl1 : least = -1 := by
          rcases hle with h | h
          · exact h
          · rcases hfrom with h2 | ⟨j, h2⟩
            · omega
            · have := hcy j; omega
        obtain ⟨r, hc, he⟩ := go (TP.up ps m at_) (by omega) (fun j hj => by
          obtain rfl : j = m := by omega
          exact Int.le_refl _) (.inl hl1) (.inr ⟨m, rfl⟩) hx
        refine ⟨r, hc, Ev.step (fun k => by rw [treelabel_check.j6]) ?_⟩
        exact ev_pos rfl (ev_pos hneg (ev_pos hx (ev_pos hx' he)))
      · by_cases hlt : TP.up ps m at_ < lm
        · obtain ⟨r, hc, he⟩ := go (TP.up ps m at_) (by omega) (fun j hj => by
            rcases Nat.lt_or_ge j m with h | h
            · have := hall j h; omega
            · obtain rfl : j = m := by omega
              omega) (by rcases hle with h | h; exact .inl h; exact .inr (by omega)) (.inr ⟨m, rfl⟩) hx
          refine ⟨r, hc, Ev.step (fun k => by rw [treelabel_check.j6]) ?_⟩
          exact ev_pos rfl (ev_neg hneg (ev_pos hlt (ev_pos hx (ev_pos hx' he))))
        · obtain ⟨r, hc, he⟩ := go lm h0 (fun j hj => by
            rcases Nat.lt_or_ge j m with h | h
            · exact hall j h
            · obtain rfl : j = m := by omega
              omega) hle hfrom (by omega)
          refine ⟨r, hc, Ev.step (fun k => by rw [treelabel_check.j6]) ?_⟩
          exact ev_pos rfl (ev_neg hneg (ev_neg hlt (ev_pos hx (ev_pos hx' he))))
    obtain ⟨r, hc, he⟩ := body
    refine ⟨r, hc, Ev.step (fun k => by rw [treelabel_check.l3]) ?_⟩
    by_cases hm0 : m = 0
    · exact ev_pos (by simp [hm0]) he
    · refine ev_neg (by simp [hm0]) ?_
      rw [show (TP.up ps m at_ != at_) = true from by rw [bne_iff_ne]; exact hmin m (by omega) (by omega)]
      exact he

/-- The walk from a node, and what follows. -/
theorem chk_walk (hn : ps.length ≤ 4096) (hr : InR ps) {i : Nat} (hi : i < ps.length) {seen0 : List Int} {least : Int} (hs : Seen ps i seen0 least)
    (next : ∀ seen least', Seen ps (i + 1) seen least' → ∃ r, ChkR ps r ∧ Ev (fun k => treelabel_check.l1 k ps seen least' (ps.length : Int) (wrap64 ((i : Int) + 1))) r) (d : Nat) :
    ∀ (t : Nat) (seen : List Int), t + d = ps.length → Walk ps i seen0 seen t →
      ∃ r, ChkR ps r ∧ Ev (fun k => treelabel_check.l2 k ps seen least (i : Int) (TP.up ps t i) (ps.length : Int) (i : Int)) r := by
  have hw : wrap64 ((i : Int) + 1) = (i : Int) + 1 := wrap_in _ (by omega) (by omega)
  -- behind the walk
  have tail : ∀ (t : Nat) (seen : List Int), Walk ps i seen0 seen t → (TP.up ps t i < 0 ∨ rd seen (TP.up ps t i) ≠ 0) →
      ∃ r, ChkR ps r ∧ Ev (fun k => treelabel_check.j3 k ps seen least (i : Int) (TP.up ps t i) (ps.length : Int) (i : Int)) r := by
    intro t seen hwk hend
    have hlt : TP.up ps t i < ps.length := (up_range hr (by omega) (by omega) t).2
    by_cases hneg : TP.up ps t i < 0
    · obtain ⟨r, hc, he⟩ := next seen least (hwk.seen_plain hr hi hs (.inl hneg))
      refine ⟨r, hc, Ev.step (fun k => by rw [treelabel_check.j3]) ?_⟩
      refine ev_pos hneg ?_
      refine Ev.step (fun k => by rw [treelabel_check.j4]) ?_
      exact ev_pos rfl he
    · have h0 : 0 ≤ TP.up ps t i := by omega
      have hne : rd seen (TP.up ps t i) ≠ 0 := by rcases hend with h | h; omega; exact h
      by_cases hmine : rd seen (TP.up ps t i) = (i : Int) + 1
      · -- a cycle
        have hex : ∃ a, a < t ∧ TP.up ps a i = TP.up ps t i := by
          rcases hwk.cases h0 hlt with h | h
          · exact h
          · have := hs.num _ h0 hlt
            rw [← h, hmine] at this; omega
        obtain ⟨a, ha, hae⟩ := hex
        obtain ⟨hcy, _⟩ := hwk.ring ha hae.symm
        rw [hae] at hcy
        obtain ⟨p, hp, hper, hmin⟩ := least_period hcy
        have hl0 : -1 ≤ least := by rcases hs.least with ⟨e, _⟩ | ⟨e, _⟩ <;> omega
        obtain ⟨r, hc, he⟩ := chk_ring hn hr hi (seen := seen) (least := least) hl0 h0 hlt hp hper hmin (fun m => cyc_up_nn hcy m) (fun least' _ hall hle hfrom => by
          refine next seen least' (hwk.seen_ring hr hi hs ha hae.symm ⟨p, hp, by rw [hae]; exact hper, fun m hm => by rw [hae]; exact hall m hm, hle, ?_⟩)
          rw [hae]; exact hfrom) p 0 least (by omega) hl0 (fun j hj => absurd hj (Nat.not_lt_zero _)) (.inr (Int.le_refl _)) (.inl rfl) (fun h => absurd h (Nat.lt_irrefl 0))
        refine ⟨r, hc, Ev.step (fun k => by rw [treelabel_check.j3]) ?_⟩
        refine ev_neg hneg (ev_pos h0 (ev_pos (by rw [hwk.len]; exact hlt) ?_))
        rw [hw, show (rd seen (TP.up ps t i) != (i : Int) + 1) = false from by rw [bne_eq_false_iff_eq]; exact hmine]
        have he' : Ev (fun k => treelabel_check.l3 k ps seen least (TP.up ps t i) (TP.up ps t i) true (ps.length : Int) (i : Int)) r := he
        refine Ev.step (fun k => by rw [treelabel_check.j4]) ?_
        exact ev_neg (by decide) he'
      · have hold : rd seen0 (TP.up ps t i) ≠ 0 := by
          rcases hwk.cases h0 hlt with ⟨s, hs1, e⟩ | h
          · have := (hwk.new s hs1).2.2; rw [e] at this; exact absurd this hmine
          · rw [← h]; exact hne
        obtain ⟨r, hc, he⟩ := next seen least (hwk.seen_plain hr hi hs (.inr hold))
        refine ⟨r, hc, Ev.step (fun k => by rw [treelabel_check.j3]) ?_⟩
        refine ev_neg hneg (ev_pos h0 (ev_pos (by rw [hwk.len]; exact hlt) ?_))
        rw [hw, show (rd seen (TP.up ps t i) != (i : Int) + 1) = true from by rw [bne_iff_ne]; exact hmine]
        refine Ev.step (fun k => by rw [treelabel_check.j4]) ?_
        exact ev_pos rfl he
  induction d with
  | zero =>
    intro t seen ht hwk
    have hend : TP.up ps t i < 0 ∨ rd seen (TP.up ps t i) ≠ 0 := by
      rcases Int.lt_or_le (TP.up ps t i) 0 with h | h
      · exact .inl h
      · right
        intro hz
        have := (hwk.next hr hi h hz).short hr hi
        omega
    obtain ⟨r, hc, he⟩ := tail t seen hwk hend
    refine ⟨r, hc, Ev.step (fun k => by rw [treelabel_check.l2]) ?_⟩
    rcases Int.lt_or_le (TP.up ps t i) 0 with h | h
    · exact ev_neg (by omega) he
    · have hlt : TP.up ps t i < ps.length := (up_range hr (by omega) (by omega) t).2
      exact ev_pos h (ev_pos h (ev_pos (by rw [hwk.len]; exact hlt) (ev_neg (by rcases hend with h2 | h2; omega; exact h2) he)))
  | succ d ih =>
    intro t seen ht hwk
    have hlt : TP.up ps t i < ps.length := (up_range hr (by omega) (by omega) t).2
    rcases Int.lt_or_le (TP.up ps t i) 0 with h | h
    · obtain ⟨r, hc, he⟩ := tail t seen hwk (.inl h)
      refine ⟨r, hc, Ev.step (fun k => by rw [treelabel_check.l2]) ?_⟩
      exact ev_neg (by omega) he
    · by_cases hz : rd seen (TP.up ps t i) = 0
      · obtain ⟨r, hc, he⟩ := ih (t + 1) _ (by omega) (hwk.next hr hi h hz)
        refine ⟨r, hc, Ev.step (fun k => by rw [treelabel_check.l2]) ?_⟩
        refine ev_pos h (ev_pos h (ev_pos (by rw [hwk.len]; exact hlt) (ev_pos hz (ev_pos hlt ?_))))
        rw [hw, show rd ps (TP.up ps t i) = TP.up ps (t + 1) i from by rw [up_out, stp_nn h]; rfl]
        exact he
      · obtain ⟨r, hc, he⟩ := tail t seen hwk (.inr hz)
        refine ⟨r, hc, Ev.step (fun k => by rw [treelabel_check.l2]) ?_⟩
        exact ev_pos h (ev_pos h (ev_pos (by rw [hwk.len]; exact hlt) (ev_neg hz he)))

/-- The loop over all nodes. -/
theorem chk_all (hn : ps.length ≤ 4096) (hr : InR ps) (d : Nat) : ∀ (i : Nat) (seen : List Int) (least : Int), i + d = ps.length → Seen ps i seen least →
    ∃ r, ChkR ps r ∧ Ev (fun k => treelabel_check.l1 k ps seen least (ps.length : Int) (i : Int)) r := by
  induction d with
  | zero =>
    intro i seen least hi hs
    obtain rfl : i = ps.length := by omega
    rcases hs.least with ⟨e, hl⟩ | ⟨h4, h5, h6, hl⟩
    · refine ⟨(0, 0), .inr (.inr (.inr ⟨hn, hr, fun j h0 h1 => hl j h0 h1 (hs.all j h0 h1), rfl⟩)), ?_⟩
      refine Ev.step (fun k => by rw [treelabel_check.l1]) ?_
      exact ev_neg (by omega) (ev_neg (by omega) (Ev.now _))
    · refine ⟨(least, 12), .inr (.inr (.inl ⟨hn, hr, least, h5, h6, fun j hj hc => hl j hc.1 hj (hs.all j hc.1 hj) hc, rfl⟩)), ?_⟩
      refine Ev.step (fun k => by rw [treelabel_check.l1]) ?_
      exact ev_neg (by omega) (ev_pos h4 (Ev.now _))
  | succ d ih =>
    intro i seen least hi hs
    have hlt : i < ps.length := by omega
    obtain ⟨r, hc, he⟩ := chk_walk hn hr hlt hs (fun seen' least' hs' => by
      obtain ⟨r, hc, he⟩ := ih (i + 1) seen' least' (by omega) hs'
      exact ⟨r, hc, by rw [wrap_up i (by omega)]; exact he⟩) ps.length 0 seen (by omega) (Walk.start hs.len)
    refine ⟨r, hc, Ev.step (fun k => by rw [treelabel_check.l1]) ?_⟩
    exact ev_pos (by omega) he

/-- The loop that looks for a parent out of range. -/
theorem chk_range (hn : ps.length ≤ 4096) (d : Nat) : ∀ (i : Nat), i + d = ps.length → (∀ j : Nat, j < i → -1 ≤ rdi ps j ∧ rdi ps j < ps.length) →
    ∃ r, ChkR ps r ∧ Ev (fun k => treelabel_check.l0 k ps ps (ps.length : Int) (i : Int)) r := by
  induction d with
  | zero =>
    intro i hi hj
    obtain rfl : i = ps.length := by omega
    have hr := inR_of hj
    obtain ⟨r, hc, he⟩ := chk_all hn hr ps.length 0 (List.replicate ps.length 0) (-1) (by omega) ⟨by rw [List.length_replicate], fun v h0 h1 => by rw [rd_replicate h0 h1]; omega, fun v h0 h1 hne => absurd (rd_replicate h0 h1) hne, fun v h0 h1 => by omega, .inl ⟨rfl, fun v h0 h1 hne => absurd (rd_replicate h0 h1) hne⟩⟩
    refine ⟨r, hc, Ev.step (fun k => by rw [treelabel_check.l0]) ?_⟩
    refine ev_neg (by omega) (ev_pos (by omega) (ev_pos (by omega) ?_))
    rw [Int.toNat_natCast]
    exact he
  | succ d ih =>
    intro i hi hj
    have hlt : (i : Int) < ps.length := by omega
    by_cases h1 : rdi ps i < -1
    · refine ⟨(i, 8), .inr (.inl ⟨hn, i, by omega, .inl h1, hj, rfl⟩), ?_⟩
      refine Ev.step (fun k => by rw [treelabel_check.l0]) ?_
      exact ev_pos hlt (ev_pos (by omega) (ev_pos hlt (ev_pos h1 (Ev.now _))))
    · by_cases h2 : (ps.length : Int) ≤ rdi ps i
      · refine ⟨(i, 8), .inr (.inl ⟨hn, i, by omega, .inr h2, hj, rfl⟩), ?_⟩
        refine Ev.step (fun k => by rw [treelabel_check.l0]) ?_
        exact ev_pos hlt (ev_pos (by omega) (ev_pos hlt (ev_neg h1 (ev_pos h2 (Ev.now _)))))
      · obtain ⟨r, hc, he⟩ := ih (i + 1) (by omega) (fun j hji => by
          rcases Nat.lt_or_ge j i with h | h
          · exact hj j h
          · obtain rfl : j = i := by omega
            omega)
        refine ⟨r, hc, Ev.step (fun k => by rw [treelabel_check.l0]) ?_⟩
        refine ev_pos hlt (ev_pos (by omega) (ev_pos hlt (ev_neg h1 (ev_neg h2 ?_))))
        rw [wrap_up i (by omega)]
        exact he
/-- treelabel.check. -/
theorem check_ev (ps : List Int) : ∃ r, ChkR ps r ∧ Ev (fun k => treelabel_check.f k ps) r := by
  by_cases hn : 4096 < ps.length
  · exact ⟨(0, 2), .inl ⟨hn, rfl⟩, ev_pos (by omega) (Ev.now _)⟩
  · obtain ⟨r, hc, he⟩ := chk_range (ps := ps) (by omega) ps.length 0 (by omega) (fun j hj => absurd hj (Nat.not_lt_zero _))
    exact ⟨r, hc, ev_neg (by omega) he⟩
end
end Go.Proofs.Ythjcmodhleoocaa.Q
/- AssignEv -/
namespace Go.Proofs.Ythjcmodhleoocaa.Q
open Go.RowKit Go.Proofs.YthjcmodhleoocaaW.PrintWords Go.Proofs.YthjcmodhleoocaaW.PrintLast
open Go.Proofs.Ythjcmodhleoocaa.TP
/-- The children of p before index i. -/
def kidsTo (ps : List Int) (p : Int) (i : Nat) : List Nat := (List.range' 0 i).filter (fun j => ps.getD j 0 == p)
theorem kidsTo_zero (ps : List Int) (p : Int) : kidsTo ps p 0 = [] := rfl
theorem kidsTo_hit {ps : List Int} {p : Int} {i : Nat} (h : ps.getD i 0 = p) : kidsTo ps p (i + 1) = kidsTo ps p i ++ [i] := by
  unfold kidsTo
  rw [List.range'_1_concat, List.filter_append]
  rw [List.getD_eq_getElem?_getD] at h
  simp [h]
theorem kidsTo_miss {ps : List Int} {p : Int} {i : Nat} (h : ps.getD i 0 ≠ p) : kidsTo ps p (i + 1) = kidsTo ps p i := by
  unfold kidsTo
  rw [List.range'_1_concat, List.filter_append]
  rw [List.getD_eq_getElem?_getD] at h
  simp [h]
theorem kidsTo_all (ps : List Int) (p : Int) : kidsTo ps p ps.length = kidsOf ps p := rfl
theorem kidsTo_len (ps : List Int) (p : Int) (i : Nat) : (kidsTo ps p i).length ≤ i := by
  have := List.length_filter_le (fun j => ps.getD j 0 == p) (List.range' 0 i)
  unfold kidsTo
  simp at this ⊢; omega
/-- Natural numbers as whole numbers. -/
def ints (l : List Nat) : List Int := l.map Int.ofNat
theorem ints_nat (l : List Nat) : (ints l).map Int.toNat = l := by
  unfold ints
  rw [List.map_map]
  exact List.map_id'' (fun _ => rfl) l
theorem ints_nn (l : List Nat) : ∀ x ∈ ints l, (0 : Int) ≤ x := by
  intro x hx
  obtain ⟨y, _, rfl⟩ := List.mem_map.1 hx
  exact Int.natCast_nonneg y
theorem rd_L1_set_same {xs : List (List Int)} {i : Int} {v : List Int} (h0 : 0 ≤ i) (h : i < xs.length) : (xs.set i.toNat v).getD i.toNat [] = v := by
  rw [List.getD_eq_getElem?_getD, List.getElem?_set_self (by omega)]; rfl

theorem asg_loop {ps : List Int} (hn : ps.length ≤ 4096) (hf : Forest ps) {t : NS} (ht : visL ps (lim ps.length) (kidsOf ps (-1)) 0 (blank ps.length) = some t) (hp : t.pre ≤ 1000000) (hq : t.post ≤ 1000000) (d : Nat) :
    ∀ (i : Nat) (ch : List (List Int)), i + d = ps.length → ch.length = ps.length → (∀ v, v < ps.length → ch.getD v [] = ints (kidsTo ps (v : Int) i)) →
      Ev (fun k => treelabel_Assign.l0 k (ints (kidsTo ps (-1) i)) ps (ps.length : Int) (i : Int) ch (List.replicate ps.length z41) 0 0) (t.L.map lab41, 0, 0) := by
  induction d with
  | zero =>
    intro i ch hi hl hch
    obtain rfl : i = ps.length := by omega
    refine Ev.step (fun k => by rw [treelabel_Assign.l0]) ?_
    refine ev_neg (by omega) ?_
    have hkd : kdc ch = kd ps := by
      funext v
      unfold kdc
      by_cases hv : v < ps.length
      · rw [hch v hv, ints_nat, kidsTo_all]; rfl
      · rw [List.getD_eq_getElem?_getD, List.getElem?_eq_none (by omega)]
        show [] = kd ps v
        symm
        rw [List.eq_nil_iff_forall_not_mem]
        intro c hc
        have h1 := mem_kd.1 hc
        have h2 := hf.rng (c : Int) (by omega) (by omega)
        omega
    refine Ev.of (fun k => treelabel_Assign.l1_mono k _ _ _ _ _ _ _) (k := ps.length) ?_
    unfold treelabel_Assign.l1
    have hmem : ∀ c ∈ ch, ∃ v, v < ps.length ∧ c = ints (kidsTo ps (v : Int) ps.length) := by
      intro c hc
      obtain ⟨v, hv, rfl⟩ := List.getElem_of_mem hc
      refine ⟨v, by omega, ?_⟩
      rw [← hch v (by omega), List.getD_eq_getElem?_getD, List.getElem?_eq_getElem hv]; rfl
    rw [if_pos ⟨fun c hc x hx => by
        obtain ⟨v, _, rfl⟩ := hmem c hc
        exact ints_nn _ x hx, ints_nn _, by rw [hl, List.length_replicate], by rw [List.length_replicate]; omega, fun c hc => by
        obtain ⟨v, _, rfl⟩ := hmem c hc
        have := kidsTo_len ps (v : Int) ps.length
        simp only [ints, List.length_map]; omega, by
        have := kidsTo_len ps (-1) ps.length
        simp only [ints, List.length_map]; omega⟩]
    rw [ints_nat, kidsTo_all, hkd, List.length_replicate]
    have ht' : (kidsOf ps (-1)).foldlM (fun s c => vis (kd ps) (lim ps.length) c 0 s) (blank ps.length) = some t := ht
    rw [ht']
    simp only
    rw [if_pos ⟨hp, hq⟩]
  | succ d ih =>
    intro i ch hi hl hch
    have hlt : (i : Int) < ps.length := by omega
    have hr := hf.rng (i : Int) (by omega) hlt
    have hg : ps.getD i 0 = rdi ps (i : Int) := (rdi_nat ps i).symm
    refine Ev.step (fun k => by rw [treelabel_Assign.l0]) ?_
    refine ev_pos hlt (ev_pos (by omega) (ev_pos hlt ?_))
    by_cases hneg : rdi ps (i : Int) < 0
    · have hm1 : rdi ps (i : Int) = -1 := by omega
      refine ev_pos hneg (ev_pos ?_ ?_)
      · have := kidsTo_len ps (-1) i
        simp only [ints, List.length_map]; omega
      · have h1 := ih (i + 1) ch (by omega) hl (fun v hv => by rw [kidsTo_miss (by rw [hg]; omega)]; exact hch v hv)
        rw [kidsTo_hit (by rw [hg]; exact hm1)] at h1
        rw [wrap_up i (by omega)]
        have e : ints (kidsTo ps (-1) i) ++ [(i : Int)] = ints (kidsTo ps (-1) i ++ [i]) := by simp [ints]
        rw [e]; exact h1
    · have h0 : 0 ≤ rdi ps (i : Int) := by omega
      obtain ⟨q, hq'⟩ : ∃ q : Nat, rdi ps (i : Int) = (q : Int) := ⟨(rdi ps (i : Int)).toNat, by omega⟩
      have hqn : q < ps.length := by omega
      have hrow : rd_L1 ch (rdi ps (i : Int)) = ints (kidsTo ps (q : Int) i) := by
        unfold rd_L1
        rw [hq', Int.toNat_natCast]; exact hch q hqn
      refine ev_neg hneg (ev_pos h0 (ev_pos (by show rdi ps (i : Int) < (ch.length : Int); omega) (ev_pos ?_ ?_)))
      · show (rd_L1 ch (rdi ps (i : Int))).length < 17592186044416
        rw [hrow]
        have := kidsTo_len ps (q : Int) i
        simp only [ints, List.length_map]; omega
      · have h1 := ih (i + 1) (ch.set q (ints (kidsTo ps (q : Int) i) ++ [(i : Int)])) (by omega) (by rw [List.length_set]; exact hl) (fun v hv => by
          by_cases e : v = q
          · subst e
            rw [List.getD_eq_getElem?_getD, List.getElem?_set_self (by omega), kidsTo_hit (by rw [hg]; exact hq')]
            simp [ints]
          · rw [List.getD_eq_getElem?_getD, List.getElem?_set_ne (by omega), ← List.getD_eq_getElem?_getD, kidsTo_miss (by rw [hg]; omega)]
            exact hch v hv)
        rw [kidsTo_miss (by rw [hg]; omega)] at h1
        rw [wrap_up i (by omega)]
        show Ev (fun k => treelabel_Assign.l0 k (ints (kidsTo ps (-1) i)) ps (ps.length : Int) ((i + 1 : Nat) : Int) (ch.set (rdi ps (i : Int)).toNat (rd_L1 ch (rdi ps (i : Int)) ++ [(i : Int)])) (List.replicate ps.length z41) 0 0) (t.L.map lab41, 0, 0)
        rw [hrow, hq', Int.toNat_natCast]
        exact h1
/-- treelabel.Assign. -/
theorem asg_ev (ps : List Int) : ∃ r L, ChkR ps r ∧ (r.2 = 0 → HasNum ps L) ∧ (r.2 ≠ 0 → L = []) ∧ Ev (fun k => treelabel_Assign.f k ps) (L.map lab41, r.1, r.2) := by
  obtain ⟨r, hc, he⟩ := check_ev ps
  rcases hc.cases with ⟨h0, h1, hn, hf⟩ | ⟨h0, _⟩
  · obtain ⟨t, ht, hp, hq, _, hL⟩ := num_ev hn hf
    refine ⟨r, t.L, hc, fun _ => hL, fun h => absurd h0 h, ?_⟩
    refine Ev.bind he (ev_pos h0 (ev_pos (by omega) (ev_pos (by omega) ?_)))
    have h2 := asg_loop hn hf ht hp hq ps.length 0 (List.replicate ps.length []) (by omega) (by rw [List.length_replicate]) (fun v hv => by
      rw [List.getD_eq_getElem?_getD, List.getElem?_replicate, if_pos hv]; rfl)
    rw [h0, h1, Int.toNat_natCast]
    exact h2
  · refine ⟨r, [], hc, fun h => absurd h h0, fun _ => rfl, ?_⟩
    exact Ev.bind he (ev_neg h0 (Ev.now _))
end Go.Proofs.Ythjcmodhleoocaa.Q
/- RefValidEv -/
namespace Go.Proofs.Ythjcmodhleoocaa.Q
open Go.RowKit Go.Proofs.YthjcmodhleoocaaW.PrintWords Go.Proofs.YthjcmodhleoocaaW.PrintLast
open Go.Proofs.Ythjcmodhleoocaa.TP
section
variable {ps : List Int}
theorem r9cyc_loop (hn : ps.length ≤ 4096) (hr : InR ps) {i : Int} (hi0 : 0 ≤ i) (hi : i < ps.length) (d : Nat) : ∀ (m : Nat), m + d = ps.length → (∀ j, 0 < j → j ≤ m → TP.up ps j i ≠ i) → 0 ≤ TP.up ps m i →
    ∃ b, (b = true ↔ Cyc ps i) ∧ Ev (fun k => corporaref09_cyclic.l0 k ps i (TP.up ps m i) (ps.length : Int) (m : Int)) b := by
  induction d with
  | zero =>
    intro m hm hne h0
    refine ⟨false, ⟨fun h => (by cases h), fun hc => ?_⟩, ?_⟩
    · obtain ⟨p, h1, h2, h3⟩ := cyc_short hr hi hc
      exact absurd h3 (hne p h1 (by omega))
    · refine Ev.step (fun k => by rw [corporaref09_cyclic.l0]) ?_
      exact ev_neg (by omega) (Ev.now _)
  | succ d ih =>
    intro m hm hne h0
    have hlt : TP.up ps m i < ps.length := (up_range hr (by omega) hi m).2
    have hnx : rd ps (TP.up ps m i) = TP.up ps (m + 1) i := by rw [up_out, stp_nn h0]; rfl
    by_cases h1 : TP.up ps (m + 1) i < 0
    · refine ⟨false, ⟨fun h => (by cases h), fun hc => ?_⟩, ?_⟩
      · have := cyc_up_nn hc (m + 1); omega
      · refine Ev.step (fun k => by rw [corporaref09_cyclic.l0]) ?_
        exact ev_pos (by omega) (ev_pos h0 (ev_pos hlt (ev_pos (by rw [hnx]; exact h1) (Ev.now _))))
    · by_cases h2 : TP.up ps (m + 1) i = i
      · refine ⟨true, ⟨fun _ => ⟨hi0, m + 1, by omega, h2⟩, fun _ => rfl⟩, ?_⟩
        refine Ev.step (fun k => by rw [corporaref09_cyclic.l0]) ?_
        exact ev_pos (by omega) (ev_pos h0 (ev_pos hlt (ev_neg (by rw [hnx]; exact h1) (ev_pos (by rw [hnx]; exact h2) (Ev.now _)))))
      · obtain ⟨b, hb, he⟩ := ih (m + 1) (by omega) (fun j hj hj' => by
          rcases Nat.lt_or_ge j (m + 1) with h | h
          · exact hne j hj (by omega)
          · obtain rfl : j = m + 1 := by omega
            exact h2) (by omega)
        refine ⟨b, hb, ?_⟩
        refine Ev.step (fun k => by rw [corporaref09_cyclic.l0]) ?_
        refine ev_pos (by omega) (ev_pos h0 (ev_pos hlt (ev_neg (by rw [hnx]; exact h1) (ev_neg (by rw [hnx]; exact h2) ?_))))
        rw [hnx, wrap_up m (by omega)]
        exact he
theorem r9cyc_ev (hn : ps.length ≤ 4096) (hr : InR ps) {i : Int} (hi0 : 0 ≤ i) (hi : i < ps.length) : ∃ b, (b = true ↔ Cyc ps i) ∧ Ev (fun k => corporaref09_cyclic.f k ps i) b :=
  r9cyc_loop hn hr hi0 hi ps.length 0 (by omega) (fun j h1 h2 => by omega) hi0
theorem r9chk_cyc (hn : ps.length ≤ 4096) (hr : InR ps) (d : Nat) : ∀ (i : Nat), i + d = ps.length → (∀ j : Int, 0 ≤ j → j < i → ¬ Cyc ps j) →
    ∃ r, ChkR ps r ∧ Ev (fun k => corporaref09_Check.l1 k ps (ps.length : Int) (i : Int)) r := by
  induction d with
  | zero =>
    intro i hi hj
    obtain rfl : i = ps.length := by omega
    refine ⟨(0, 0), .inr (.inr (.inr ⟨hn, hr, hj, rfl⟩)), ?_⟩
    refine Ev.step (fun k => by rw [corporaref09_Check.l1]) ?_
    exact ev_neg (by omega) (Ev.now _)
  | succ d ih =>
    intro i hi hj
    obtain ⟨b, hb, he⟩ := r9cyc_ev hn hr (i := (i : Int)) (by omega) (by omega)
    cases b with
    | true =>
      refine ⟨((i : Int), 12), .inr (.inr (.inl ⟨hn, hr, (i : Int), by omega, hb.1 rfl, fun j hj' hc => ?_, rfl⟩)), ?_⟩
      · rcases Int.lt_or_le j i with h | h
        · exact absurd hc (hj j hc.1 h)
        · exact h
      · refine Ev.step (fun k => by rw [corporaref09_Check.l1]) ?_
        exact ev_pos (by omega) (Ev.bind he (ev_pos rfl (Ev.now _)))
    | false =>
      obtain ⟨r, hc, he2⟩ := ih (i + 1) (by omega) (fun j h0 h1 => by
        rcases Int.lt_or_le j i with h | h
        · exact hj j h0 h
        · obtain rfl : j = i := by omega
          intro hc; have := hb.2 hc; cases this)
      refine ⟨r, hc, ?_⟩
      refine Ev.step (fun k => by rw [corporaref09_Check.l1]) ?_
      refine ev_pos (by omega) (Ev.bind he (ev_neg (by decide) ?_))
      rw [wrap_up i (by omega)]
      exact he2
theorem r9chk_range (hn : ps.length ≤ 4096) (d : Nat) : ∀ (i : Nat), i + d = ps.length → (∀ j : Nat, j < i → -1 ≤ rdi ps j ∧ rdi ps j < ps.length) →
    ∃ r, ChkR ps r ∧ Ev (fun k => corporaref09_Check.l0 k ps ps (ps.length : Int) (i : Int)) r := by
  induction d with
  | zero =>
    intro i hi hj
    obtain rfl : i = ps.length := by omega
    have hr := inR_of hj
    obtain ⟨r, hc, he⟩ := r9chk_cyc hn hr ps.length 0 (by omega) (fun j h0 h1 => by omega)
    refine ⟨r, hc, ?_⟩
    refine Ev.step (fun k => by rw [corporaref09_Check.l0]) ?_
    exact ev_neg (by omega) he
  | succ d ih =>
    intro i hi hj
    have hlt : (i : Int) < ps.length := by omega
    by_cases h1 : rdi ps i < -1
    · refine ⟨((i : Int), 8), .inr (.inl ⟨hn, i, by omega, .inl h1, hj, rfl⟩), ?_⟩
      refine Ev.step (fun k => by rw [corporaref09_Check.l0]) ?_
      exact ev_pos hlt (ev_pos (by omega) (ev_pos hlt (ev_pos h1 (Ev.now _))))
    · by_cases h2 : (ps.length : Int) ≤ rdi ps i
      · refine ⟨((i : Int), 8), .inr (.inl ⟨hn, i, by omega, .inr h2, hj, rfl⟩), ?_⟩
        refine Ev.step (fun k => by rw [corporaref09_Check.l0]) ?_
        exact ev_pos hlt (ev_pos (by omega) (ev_pos hlt (ev_neg h1 (ev_pos h2 (Ev.now _)))))
      · obtain ⟨r, hc, he⟩ := ih (i + 1) (by omega) (fun j hji => by
          rcases Nat.lt_or_ge j i with h | h
          · exact hj j h
          · obtain rfl : j = i := by omega
            omega)
        refine ⟨r, hc, ?_⟩
        refine Ev.step (fun k => by rw [corporaref09_Check.l0]) ?_
        refine ev_pos hlt (ev_pos (by omega) (ev_pos hlt (ev_neg h1 (ev_neg h2 ?_))))
        rw [wrap_up i (by omega)]
        exact he
/-- The reference's Check. -/
theorem r9chk_ev (ps : List Int) :
    ∃ r, ChkR ps r ∧ Ev (fun k => corporaref09_Check.f k ps) r := by
  by_cases hn : 4096 < ps.length
  · exact ⟨(0, 2), .inl ⟨hn, rfl⟩, ev_pos (by omega) (Ev.now _)⟩
  · obtain ⟨r, hc, he⟩ := r9chk_range (ps := ps) (by omega) ps.length 0 (by omega) (fun j hj => absurd hj (Nat.not_lt_zero _))
    exact ⟨r, hc, ev_neg (by omega) he⟩
theorem valid_ev (ps : List Int) : ∃ r, ChkR ps r ∧ Ev (fun k => corporaref09_Valid.f k ps) (r.2 == 0) := by
  obtain ⟨r, hc, he⟩ := r9chk_ev ps
  exact ⟨r, hc, Ev.bind he (Ev.now _)⟩
end
end Go.Proofs.Ythjcmodhleoocaa.Q
/- PureTreelabelWalks -/
namespace Go.Proofs.Ythjcmodhleoocaa.Pure
open Go.RowKit Go.Proofs.Ythjcmodhleoocaa.Q Go.Proofs.YthjcmodhleoocaaW.PrintWords Go.Proofs.YthjcmodhleoocaaW.PrintLast
open Go.Proofs.Ythjcmodhleoocaa.TP
theorem wdom_eq (a b : S41) : treelabel_Dominates.f a.f0 a.f1 a.f2 b.f0 b.f1 b.f2 = some (decide (a.f0 < b.f0 ∧ b.f1 < a.f1)) := by
  unfold treelabel_Dominates.f
  by_cases h : a.f0 < b.f0
  · rw [if_pos h]; simp [h]
  · rw [if_neg h]; simp [h]
theorem wprec_eq (a b : S41) : treelabel_Precedes.f a.f0 a.f1 a.f2 b.f0 b.f1 b.f2 = some (decide (a.f0 < b.f0 ∧ a.f1 < b.f1)) := by
  unfold treelabel_Precedes.f
  by_cases h : a.f0 < b.f0
  · rw [if_pos h]; simp [h]
  · rw [if_neg h]; simp [h]
theorem wrd41 {L : List Lab} {j : Nat} {l : Lab} (h : L[j]? = some l) : rd_T41 (L.map lab41) (j : Int) = lab41 l := by
  unfold rd_T41
  rw [Int.toNat_natCast, List.getD_eq_getElem?_getD, List.getElem?_map, h]; rfl
theorem rdb_set {xs : List Bool} {i : Nat} {j : Nat} (hi : i < xs.length) : rdOf false (xs.set ((i : Int)).toNat true) (j : Int) = (if i = j then true else rdOf false xs (j : Int)) := by
  unfold rdOf
  rw [Int.toNat_natCast, Int.toNat_natCast, List.getD_eq_getElem?_getD, List.getD_eq_getElem?_getD, List.getElem?_set]
  by_cases e : i = j
  · subst e; simp [hi]
  · simp [e]
theorem wl3_loop {x0 : List Int} {above : List Bool} {L4 : List S41} {x3 x7 x11 : Int} {x12 : Bool} {ys : List Bool} (hy : ys.length ≤ 100) {tot : Nat}
    (h0 : 0 ≤ x11) (h1 : x11 < above.length) (h2 : x12 = rdOf false above x11) (h3 : x7 = x11 ↔ tot = 0) (h4 : x7 ≠ x11 → tot = 1)
    (hn : Ev (fun k => corporalaw10_TreelabelWalks.l2 k x0 x3 L4 x7 above (wrap64 (x11 + 1))) true) (d : Nat) : ∀ j c : Nat, j + d = ys.length → c ≤ j → c + (ys.drop j).count true = tot →
      Ev (fun k => corporalaw10_TreelabelWalks.l3 k x0 x3 L4 x7 above x11 x12 (c : Int) ys (ys.length : Int) (j : Int)) true := by
  induction d with
  | zero =>
    intro j c hj hc ht
    have hd : ys.drop j = [] := List.drop_eq_nil_of_le (by omega)
    rw [hd] at ht
    have ht : c = tot := by simpa using ht
    refine Ev.step (fun k => by rw [corporalaw10_TreelabelWalks.l3]) ?_
    refine ev_neg (by omega) (ev_pos h0 (ev_pos h1 (ev_neg (by rw [h2]; simp) (ev_neg ?_ ?_))))
    · rw [ht]
      by_cases e : x7 = x11
      · simp [e, h3.1 e]
      · have := fun h => e (h3.2 h)
        have e2 : (x7 == x11) = false := by simpa using e
        have e3 : ((tot : Int) == 0) = false := by
          have : ¬ (tot : Int) = 0 := by omega
          simpa using this
        rw [e2, e3]; decide
    · by_cases e : x7 = x11
      · exact ev_pos e hn
      · exact ev_neg e (ev_pos (by have := h4 e; omega) hn)
  | succ d ih =>
    intro j c hj hc ht
    have hlt : j < ys.length := by omega
    have hdr : ys.drop j = ys[j] :: ys.drop (j + 1) := List.drop_eq_getElem_cons hlt
    have hrd : rdOf false ys (j : Int) = ys[j] := by unfold rdOf; rw [Int.toNat_natCast, List.getD_eq_getElem?_getD, List.getElem?_eq_getElem hlt]; rfl
    refine Ev.step (fun k => by rw [corporalaw10_TreelabelWalks.l3]) ?_
    refine ev_pos (by omega) (ev_pos (by omega) (ev_pos (by omega) ?_))
    rw [hrd, wrap_up j (by omega)]
    rw [hdr] at ht
    by_cases e : ys[j] = true
    · refine ev_pos e ?_
      rw [wrap_up c (by omega)]
      exact ih (j + 1) (c + 1) (by omega) (by omega) (by rw [e, List.count_cons_self] at ht; omega)
    · refine ev_neg e ?_
      have e' : ys[j] = false := by simpa using e
      exact ih (j + 1) c (by omega) (by omega) (by rw [e', List.count_cons_of_ne (by decide)] at ht; omega)
/-- What the marks of the walk up from i say. -/
def Above (ps : List Int) (i : Nat) (above : List Bool) : Prop := above.length = ps.length ∧ ∀ v : Nat, v < ps.length → (rdOf false above (v : Int) = true ↔ (Sub ps v i ∧ v ≠ i))
theorem wl2_loop {ps : List Int} {L : List Lab} {above : List Bool} (hn : ps.length ≤ 100) (hf : Forest ps) (hL : LabOf ps L) {i : Nat} (hi : i < ps.length) (ha : Above ps i above)
    (hnx : Ev (fun k => corporalaw10_TreelabelWalks.l0 k ps (ps.length : Int) (L.map lab41) (wrap64 ((i : Int) + 1))) true) (d : Nat) : ∀ x : Nat, x + d = ps.length →
      Ev (fun k => corporalaw10_TreelabelWalks.l2 k ps (ps.length : Int) (L.map lab41) (i : Int) above (x : Int)) true := by
  have hlen := hL.len
  induction d with
  | zero =>
    intro x hx
    refine Ev.step (fun k => by rw [corporalaw10_TreelabelWalks.l2]) ?_
    exact ev_neg (by omega) hnx
  | succ d ih =>
    intro x hx
    have hxl : x < L.length := by omega
    have hil : i < L.length := by omega
    have gx : L[x]? = some L[x] := List.getElem?_eq_getElem hxl
    have gi : L[i]? = some L[i] := List.getElem?_eq_getElem hil
    have hnext := ih (x + 1) (by omega)
    refine Ev.step (fun k => by rw [corporalaw10_TreelabelWalks.l2]) ?_
    refine ev_pos (by omega) (ev_pos (by omega) (ev_pos (by rw [List.length_map]; omega) (ev_pos (by omega) (ev_pos (by rw [List.length_map]; omega) ?_))))
    rw [wrd41 gx, wrd41 gi, wdom_eq, wprec_eq, wdom_eq, wprec_eq]
    generalize hlx : L[x] = lx at gx
    generalize hli : L[i] = li at gi
    have hs := ha.2 x (by omega)
    by_cases e : i = x
    · subst e
      rw [gi] at gx
      obtain rfl := Option.some.inj gx
      refine wl3_loop (tot := 0) (by simp) (by omega) (by have := ha.1; omega) (by rw [Bool.eq_iff_iff, hs]; simp [lab41]) ⟨fun _ => rfl, fun _ => rfl⟩ (fun h => absurd rfl h) (by rw [wrap_up i (by omega)]; exact hnext) 4 0 0 rfl (Nat.le_refl _) ?_
      simp [lab41]
    · obtain ⟨a, b, h1, h2, hord⟩ := hL.ord x i (by omega) hi (fun h => e h.symm)
      rw [gx] at h1; rw [gi] at h2
      obtain rfl := Option.some.inj h1
      obtain rfl := Option.some.inj h2
      have anti : Sub ps x i → ¬ Sub ps i x := fun h k => e (Sub.anti hf (by omega) h k).symm
      refine wl3_loop (tot := 1) (by simp) (by omega) (by have := ha.1; omega) ?_ ⟨fun h => absurd (by omega : i = x) e, fun h => by cases h⟩ (fun _ => rfl) (by rw [wrap_up x (by omega)]; exact hnext) 4 0 0 rfl (Nat.le_refl _) ?_
      · rw [Bool.eq_iff_iff, hs, decide_eq_true_iff]
        show ((lx.pre : Int) < (li.pre : Int) ∧ (li.post : Int) < (lx.post : Int)) ↔ (Sub ps x i ∧ x ≠ i)
        rcases hord with ⟨q1, q2⟩ | ⟨q1, q2⟩ | ⟨q1, q2, q3⟩
        · exact ⟨fun _ => ⟨q1, fun h => e h.symm⟩, fun _ => by omega⟩
        · exact ⟨fun h => by omega, fun h => absurd q1 (anti h.1)⟩
        · exact ⟨fun h => by rcases q3 with q3 | q3 <;> omega, fun h => absurd h.1 q1⟩
      · show 0 + ([decide ((lx.pre : Int) < (li.pre : Int) ∧ (li.post : Int) < (lx.post : Int)), decide ((lx.pre : Int) < (li.pre : Int) ∧ (lx.post : Int) < (li.post : Int)), decide ((li.pre : Int) < (lx.pre : Int) ∧ (lx.post : Int) < (li.post : Int)), decide ((li.pre : Int) < (lx.pre : Int) ∧ (li.post : Int) < (lx.post : Int))] : List Bool).count true = 1
        rcases hord with ⟨q1, q2⟩ | ⟨q1, q2⟩ | ⟨q1, q2, q3⟩
        · rw [decide_eq_true (by omega), decide_eq_false (by omega), decide_eq_false (by omega), decide_eq_false (by omega)]; rfl
        · rw [decide_eq_false (by omega), decide_eq_false (by omega), decide_eq_true (by omega), decide_eq_false (by omega)]; rfl
        · rcases q3 with q3 | q3
          · rw [decide_eq_false (by omega), decide_eq_true (by omega), decide_eq_false (by omega), decide_eq_false (by omega)]; rfl
          · rw [decide_eq_false (by omega), decide_eq_false (by omega), decide_eq_false (by omega), decide_eq_true (by omega)]; rfl
theorem wl1_loop {ps : List Int} {L : List Lab} (hn : ps.length ≤ 100) (hf : Forest ps) (hL : LabOf ps L) {i : Nat} (hi : i < ps.length)
    (hnx : Ev (fun k => corporalaw10_TreelabelWalks.l0 k ps (ps.length : Int) (L.map lab41) (wrap64 ((i : Int) + 1))) true) {D : Nat} (hD : HasD ps (i : Int) D) (hDn : D < ps.length) (d : Nat) : ∀ (s : Nat) (above : List Bool), s + d = D → above.length = ps.length →
      (∀ v : Nat, v < ps.length → (rdOf false above (v : Int) = true ↔ ∃ t, 1 ≤ t ∧ t ≤ s ∧ up ps t (i : Int) = (v : Int))) →
      Ev (fun k => corporalaw10_TreelabelWalks.l1 k ps (ps.length : Int) (L.map lab41) (i : Int) above (s : Int) (up ps (s + 1) (i : Int))) true := by
  have hlen := hL.len
  have hil : i < L.length := by omega
  have gi : L[i]? = some L[i] := List.getElem?_eq_getElem hil
  induction d with
  | zero =>
    intro s above hs hal hab
    obtain rfl : s = D := by omega
    have hdep : L[i].dep = s := (hL.dep i _ gi).uniq hD
    have hneg := hD.2
    refine Ev.step (fun k => by rw [corporalaw10_TreelabelWalks.l1]) ?_
    refine ev_neg (by omega) (ev_pos (by omega) (ev_pos (by rw [List.length_map]; omega) (ev_pos ?_ ?_)))
    · rw [wrd41 gi]; show (L[i].dep : Int) = s; omega
    · refine wl2_loop hn hf hL hi ⟨hal, fun v hv => ?_⟩ hnx ps.length 0 (by omega)
      rw [hab v hv]
      constructor
      · rintro ⟨t, h1, h2, h3⟩
        exact ⟨⟨t, h3⟩, fun e => by subst e; exact no_loop hf hi (by omega) h3⟩
      · rintro ⟨⟨m, hm⟩, hne⟩
        refine ⟨m, ?_, ?_, hm⟩
        · rcases Nat.eq_zero_or_pos m with h | h
          · subst h; exact absurd (by have : (i : Int) = (v : Int) := hm; omega) hne
          · exact h
        · rcases Nat.lt_or_ge s m with h | h
          · have := up_nn_of (show s + 1 ≤ m by omega) (by rw [hm]; omega : 0 ≤ up ps m (i : Int)); omega
          · exact h
  | succ d ih =>
    intro s above hs hal hab
    have h0 : 0 ≤ up ps (s + 1) (i : Int) := up_nn_of (show s + 1 ≤ D by omega) hD.1
    have hlt := (up_range hf.rng (by omega) (by omega : (i : Int) < ps.length) (s + 1)).2
    obtain ⟨q, hq⟩ : ∃ q : Nat, up ps (s + 1) (i : Int) = (q : Int) := ⟨(up ps (s + 1) (i : Int)).toNat, by omega⟩
    have hnext : rd ps (up ps (s + 1) (i : Int)) = up ps (s + 1 + 1) (i : Int) := by rw [up_out ps (s + 1), stp_nn h0]; rfl
    have hh := ih (s + 1) (above.set ((q : Int)).toNat true) (by omega) (by rw [List.length_set]; exact hal) (fun v hv => by
      rw [rdb_set (by omega)]
      by_cases e : q = v
      · subst e
        rw [if_pos rfl]
        exact ⟨fun _ => ⟨s + 1, by omega, by omega, hq⟩, fun _ => rfl⟩
      · rw [if_neg e, hab v hv]
        constructor
        · rintro ⟨t, h1, h2, h3⟩; exact ⟨t, h1, by omega, h3⟩
        · rintro ⟨t, h1, h2, h3⟩
          refine ⟨t, h1, ?_, h3⟩
          rcases Nat.lt_or_ge s t with h | h
          · obtain rfl : t = s + 1 := by omega
            rw [hq] at h3; omega
          · exact h)
    refine Ev.step (fun k => by rw [corporalaw10_TreelabelWalks.l1]) ?_
    refine ev_pos h0 (ev_pos h0 (ev_pos (by omega) (ev_pos hlt ?_)))
    rw [hnext, wrap_up s (by omega), hq]
    exact hh
theorem wl0_loop {ps : List Int} {L : List Lab} (hn : ps.length ≤ 100) (hf : Forest ps) (hL : LabOf ps L) (d : Nat) : ∀ i : Nat, i + d = ps.length →
    Ev (fun k => corporalaw10_TreelabelWalks.l0 k ps (ps.length : Int) (L.map lab41) (i : Int)) true := by
  induction d with
  | zero =>
    intro i hi
    refine Ev.step (fun k => by rw [corporalaw10_TreelabelWalks.l0]) ?_
    exact ev_neg (by omega) (Ev.bind awake_ev (Ev.now _))
  | succ d ih =>
    intro i hi
    obtain ⟨D, hDn, hD⟩ := hasD_ex hf (x := (i : Int)) (by omega) (by omega)
    have hrd : rd ps (i : Int) = up ps (0 + 1) (i : Int) := by rw [up_out ps 0]; show rd ps (i : Int) = stp ps (i : Int); rw [stp_nn (by omega)]; rfl
    refine Ev.step (fun k => by rw [corporalaw10_TreelabelWalks.l0]) ?_
    refine ev_pos (by omega) (ev_pos (by omega) (ev_pos (by omega) (ev_pos (by omega) (ev_pos (by omega) ?_))))
    rw [hrd]
    refine wl1_loop hn hf hL (by omega) ?_ hD hDn D 0 _ (by omega) (by simp) (fun v hv => ?_)
    · rw [wrap_up i (by omega)]; exact ih (i + 1) (by omega)
    · constructor
      · intro h
        exfalso
        unfold rdOf at h
        rw [Int.toNat_natCast, List.getD_eq_getElem?_getD, List.getElem?_replicate] at h
        split at h <;> simp at h
      · rintro ⟨t, h1, h2, _⟩; omega
theorem TreelabelWalks : corporalaw10_TreelabelWalks.Pure := by
  intro ps _ _ _
  refine Ev.rounds (g := fun k => corporalaw10_TreelabelWalks.f k ps) ?_
  by_cases hn : (ps.length : Int) > 40
  · refine ev_pos hn ?_
    refine Ev.step (fun k => by rw [corporalaw10_TreelabelWalks.j0]) ?_
    exact ev_pos rfl (Ev.now _)
  · refine ev_neg hn ?_
    obtain ⟨r, hc, hv⟩ := valid_ev ps
    refine Ev.bind hv ?_
    refine Ev.step (fun k => by rw [corporalaw10_TreelabelWalks.j0]) ?_
    by_cases h0 : r.2 = 0
    · obtain ⟨hn', hf, _⟩ := hc.forest h0
      obtain ⟨r', L, hc', h1, h2, he⟩ := asg_ev ps
      obtain rfl := hc.uniq hc'
      have hL := (h1 h0).lab hn' hf
      have hlen := hL.len
      refine ev_neg (by rw [h0]; decide) (Ev.bind he (ev_pos h0 ?_))
      refine Ev.step (fun k => by rw [corporalaw10_TreelabelWalks.j1]) ?_
      refine ev_neg ?_ (wl0_loop (by omega) hf hL ps.length 0 (by omega))
      show ¬ (((L.map lab41).length : Int) != (ps.length : Int)) = true
      rw [List.length_map, hlen]; simp
    · exact ev_pos (by simpa using h0) (Ev.now _)
end Go.Proofs.Ythjcmodhleoocaa.Pure
/- LawTreelabelWalks -/
namespace Go.Proofs.Ythjcmodhleoocaa.treelabelWalks
open Go.ChangeShapes Go.WideShapes Go.ChangeAt Go.RowKit
open Go.ChangeMaps (open_string shut_string)
set_option linter.unusedVariables false
theorem own : ownKnob Try.prog.godebug = none := by kernel_rfl
theorem laidOut : laidOutB Try.prog = true := by kernel_rfl
def IsRow (k : IntKind) (w : World) (a : Option Addr) (len cap : Nat) (zs : List Int) : Prop :=
  (a = none ∧ len = 0 ∧ cap = 0 ∧ zs = []) ∨
  ∃ x, a = some x ∧ len ≤ cap ∧ cap ≤ maxLen ∧ zs.length = cap ∧ (∀ i, i < zs.length → w.cell? (x.add i) = some (.int k (zs.getD i 0))) ∧ ∀ n ∈ zs, (Lit.int k n).wf = true
set_option maxRecDepth 100000 in
theorem lifted (os : Os) (started : os.Started) (H : Type) (enc : TypeId × Value → H) :
    ReturnsInHanded {} Try.checked os 6 .any (Rows.treelabelWalksSpec.pre6 enc Try.prog Try.f6 Rows.treelabelWalksRow.domain false) (Rows.treelabelWalksSpec.post enc Try.prog Try.f6 false true false false) := by
  refine returnsInHanded_of_change_sized (C := Try.checked) own started (by kernel_rfl) Try.func6
    (ChangeSpec.witness6 (enc := enc) (C := Try.checked) false ⟨#[], #[.slice none 0 0], []⟩ 8 (by kernel_rfl) (by kernel_rfl) (by kernel_rfl) (by kernel_rfl)) ?_
  intro W base args ds gs before hval0 hW hcnd hsz0 _
  have hsz : (DataW.weightsEach Try.prog (Try.f6.params.toList ++ Rows.treelabelWalksSpec.plain.varTypes Try.prog) (ds ++ gs)).all (· ≤ reachBytes) = true := hsz0
  have hval : ∀ (j : Nat) t v, Try.f6.params[j]? = some t → args[j]? = some v → Value.okWide Try.prog W .any base t v := hval0
  have hW' := hW
  obtain ⟨p, q, hA0, hV, rfl, hfz, hnd⟩ := hW
  have hA : DataW.TrodAll enc Try.prog W 0 (fun _ => true) true Try.f6.params.toList args.toList ds p := hA0
  rw [Try.params6] at hA hval hsz
  obtain ⟨v0, vs0, d0, ds0, p0, q0, hargs, rfl, rfl, h0, r0⟩ := trodAll_cons hA
  obtain ⟨rfl, rfl, rfl⟩ := trodAll_nil r0
  obtain rfl : args = #[v0] := by cases args; simp_all
  obtain ⟨rfl, rfl⟩ := trodVars_none hV
  obtain ⟨a0, len0, cap0, rfl⟩ := okWide_slice Try.underlying22 (hval 0 22 v0 rfl rfl)
  have k0 := h0
  have lt0 : ∀ x ∈ p0, x.block < W.heap.size := by obtain ⟨m, hm⟩ := k0; exact DataW.trod_lt m _ _ _ hm
  obtain ⟨z0, w0⟩ : ∃ zs, IsRow .i64 W a0 len0 cap0 zs := by
    obtain ⟨fuel, hf⟩ := h0
    rcases open_ints Try.underlying22 Try.underlying3 (by kernel_rfl) hf with ⟨hcs, _⟩ | ⟨x, l, c, zs, hcs, _, hl, hm, hz, _, hcell, hwz⟩
    · simp [Value.cells] at hcs
      obtain ⟨rfl, rfl, rfl⟩ := hcs
      exact ⟨[], .inl ⟨rfl, rfl, rfl, rfl⟩⟩
    · simp [Value.cells] at hcs
      obtain ⟨rfl, rfl, rfl⟩ := hcs
      exact ⟨zs, .inr ⟨_, rfl, hl, hm, by simpa using hz, hcell, hwz⟩⟩
  have y0 : len0 * 8 ≤ 140737488351232 := Go.Proofs.YthjcmodhleoocaaW.PrintWords.sized_ints hsz (j := 0) (t := 22) rfl rfl Try.underlying22 Try.underlying3 (by kernel_rfl) (by kernel_rfl) h0
  clear hA0 hval0 hsz0 hsz
  refine (Q.corporalaw10_TreelabelWalks.walk Pure.TreelabelWalks a0 len0 cap0 z0 W w0 y0).mono fun e W' ⟨he, bel⟩ => ?_
  subst he
  exact ⟨_, rfl, _, _, _, [], _, [], hW', trodAll_mk1 (shut_bool Try.underlying4 _), (trodAll_cons_mk (Below.trod laidOut (by kernel_rfl) (of_decide_eq_true (by kernel_rfl)) k0 bel lt0) trodAll_mk0), rfl, bel.frame _, fun h => by cases h⟩
theorem over : Rows.treelabelWalksRow.holds Try.pinned (OpenSpec.ofChange Rows.treelabelWalksSpec) :=
  OpenClaim.holds_of_wide 6 Try.f6 rfl rfl rfl rfl rfl rfl rfl ⟨rfl, rfl, rfl, rfl, rfl⟩ rfl rfl rfl rfl rfl (by kernel_rfl) Try.func6 (by kernel_rfl)
    (of_decide_eq_true (by kernel_rfl)) (by unfold Func.isWrapper; first | (rw [if_pos (by decide +kernel)]; kernel_rfl) | (rw [if_neg (by decide +kernel)]; exact ⟨rfl, rfl⟩))
    (fun os started H enc _ => lifted os started H enc)
theorem proved : Rows.TreelabelWalksSaid := over
end Go.Proofs.Ythjcmodhleoocaa.treelabelWalks
namespace Go.Proofs.Ythjcmodhleoocaa
/-- The row, under a short name, for the claim. -/
theorem treelabelWalks_holds : Rows.TreelabelWalksSaid := treelabelWalks.proved
end Go.Proofs.Ythjcmodhleoocaa
